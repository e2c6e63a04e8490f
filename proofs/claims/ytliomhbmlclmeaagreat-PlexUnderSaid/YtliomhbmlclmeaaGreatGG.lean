/-
  Joined from: AbsT AbsH.
-/
import Derived.Test.YtliomhbmlclmeaaGreatGF
import Derived.Test.YtliomhbmlclmeaaGreatGA
import Derived.KernelRfl
import Derived.Tactics
import Derived.Tactics2
import Derived.Laws.Pointers
/-
  TABLES: of types, and of callees, and how a printed function comes to be sound.
-/
section
set_option linter.unusedSimpArgs false
set_option linter.unusedVariables false
namespace Go.Abs
open Go

/-! ### types -/
mutual
/-- Does a value of the table stand for this one, wherever? -/
def repB : PV → Value → Bool
  | .int k n, .int k' n' => decide (k = k') && decide (n = n')
  | .bool b, .bool b' => b == b'
  | .str s, .string s' => s.data.toList == s'.data.toList
  | .nilS, .slice none 0 0 => true
  | .nilP, .pointer none => true
  | .nilF, .nilFunc => true
  | .nilI, .nilIface => true
  | .junk, _ => true
  | .agg cs, .agg vs => repLB cs vs.toList
  | _, _ => false
def repLB : List PV → List Value → Bool
  | [], [] => true
  | p :: ps, v :: vs => repB p v && repLB ps vs
  | _, _ => false
end

mutual
theorem repB_ok {c : Cfg} : ∀ (p : PV) (v : Value), repB p v = true → Rep c p v
  | .int k n, v, h => by
    cases v <;> simp only [repB, Bool.false_eq_true] at h
    simp at h; obtain ⟨rfl, rfl⟩ := h; exact .int _ _
  | .bool b, v, h => by
    cases v <;> simp only [repB, Bool.false_eq_true] at h
    simp at h; subst h; exact .bool _
  | .str s, v, h => by
    cases v <;> simp only [repB, Bool.false_eq_true] at h
    rename_i s'
    have : s = s' := by
      have h' : s.data.toList = s'.data.toList := by simpa using h
      exact ByteArray.ext (Array.ext' h')
    subst this; exact .str _
  | .nilS, v, h => by
    unfold repB at h
    split at h <;> simp_all <;> exact .nilS
  | .nilP, v, h => by
    unfold repB at h
    split at h <;> simp_all <;> exact .nilP
  | .nilF, v, h => by
    unfold repB at h
    split at h <;> simp_all <;> exact .nilF
  | .nilI, v, h => by
    unfold repB at h
    split at h <;> simp_all <;> exact .nilI
  | .junk, v, h => .junk v
  | .agg cs, v, h => by
    cases v <;> simp only [repB, Bool.false_eq_true] at h
    rename_i vs
    obtain ⟨h1, h2⟩ := repLB_ok (c := c) cs vs.toList h
    have := Rep.agg cs vs.toList h1 h2
    simpa using this
  | .tup _, v, h => by simp [repB] at h
  | .lst _, v, h => by simp [repB] at h
  | .z0, v, h => by simp [repB] at h
  | .fr _ _, v, h => by simp [repB] at h
  | .sl _ _ _ _, v, h => by simp [repB] at h
  | .ptr _ _ _ _, v, h => by simp [repB] at h
  | .cref _ _, v, h => by simp [repB] at h
  | .func _ _ _, v, h => by simp [repB] at h
  | .iface _ _, v, h => by simp [repB] at h
theorem repLB_ok {c : Cfg} : ∀ (ps : List PV) (vs : List Value), repLB ps vs = true → RepL c ps vs
  | [], [], _ => ⟨rfl, fun j h => by simp at h⟩
  | [], _ :: _, h => by simp [repLB] at h
  | _ :: _, [], h => by simp [repLB] at h
  | p :: ps, v :: vs, h => by
    simp only [repLB, Bool.and_eq_true] at h
    have h1 := repB_ok (c := c) p v h.1
    obtain ⟨h2, h3⟩ := repLB_ok (c := c) ps vs h.2
    refine ⟨by simp [h2], fun j h4 h5 => ?_⟩
    cases j with
    | zero => exact h1
    | succ j => exact h3 j (by simpa using h4) (by simpa using h5)
end

def fitsB (P : Program) : TD → TypeDesc → Bool
  | .int k, .int k' => decide (k = k')
  | .bool, .bool => true
  | .str, .string => true
  | .slice e, .slice e' => e == e'
  | .ptr e, .pointer e' => e == e'
  | .struct fs, .struct l => (fs == l.toList.map fun f => (f.type, f.offset)) && l.toList.all fun f => (P.info? f.type).isSome
  | .arr n e, .array n' e' => n == n' && e == e'
  | .func, .func _ _ _ => true
  | .iface, .interface _ => true
  | _, _ => false

theorem fitsB_ok {P : Program} {d : TD} {t : TypeDesc} (h : fitsB P d t = true) : d.fits P t := by
  cases d <;> cases t <;> simp only [fitsB, Bool.false_eq_true] at h <;> simp only [TD.fits]
  case int.int => simp at h; rw [h]
  case slice.slice => simp at h; rw [h]
  case ptr.pointer => simp at h; rw [h]
  case struct.struct fs l =>
    simp only [Bool.and_eq_true, beq_iff_eq, List.all_eq_true] at h
    exact ⟨l, rfl, h.1, fun f hf => Option.isSome_iff_exists.1 (h.2 f hf)⟩
  case arr.array => simp at h; rw [h.1, h.2]
  case func.func => exact ⟨_, _, _, rfl⟩
  case iface.interface => exact ⟨_, rfl⟩

def typeB (P : Program) (t : TypeId) (x : TI) : Bool :=
  match P.info? t, P.underlying t with
  | some i, some d => (match i.zero with | some z => repB x.zero z | none => false) && i.size == x.size && i.bytes == x.bytes && fitsE x.size x.zero && (isAggV x.zero == x.isAgg) && fitsB P x.d d
  | _, _ => false

theorem typeB_ok {P : Program} {t : TypeId} {x : TI} (h : typeB P t x = true) : TypeOk P t x := by
  unfold typeB at h
  split at h
  · rename_i i d hi hd
    simp only [Bool.and_eq_true, beq_iff_eq] at h
    obtain ⟨⟨⟨⟨⟨h1, h2⟩, h3⟩, h4⟩, h5⟩, h6⟩ := h
    split at h1
    · rename_i z hz
      exact ⟨⟨i, z, hi, h2, h3, hz, fun c => repB_ok _ _ h1, h4, h5⟩, ⟨d, hd, fitsB_ok h6⟩⟩
    · cases h1
  · cases h

/-- A table of types, as far as a number. -/
theorem tOk_of {P : Program} {T : TypeId → TI} {n : Nat} (h : (List.range n).all (fun t => !(T t).usable || typeB P t (T t)) = true) (hn : ∀ t, n ≤ t → T t = TI.bad) : TOk T P := by
  intro t hu
  by_cases ht : t < n
  · have := List.all_eq_true.1 h t (List.mem_range.2 ht)
    simp only [hu, Bool.not_true, Bool.false_or] at this
    exact typeB_ok this
  · rw [hn t (Nat.le_of_not_lt ht)] at hu; simp [TI.bad, TI.usable] at hu

/-! ### callees -/
def CallSound (P : Program) (f : FuncId) : CallE → Prop
  | .none => True
  | .P F => SoundP P f F
  | .R F => SoundS P f F
  | .S F => SoundS P f F
  | .N F => SoundS P f F

inductive CallsSound (P : Program) : List (FuncId × CallE) → Prop where
  | nil : CallsSound P []
  | consP {f : FuncId} {F : List PV → PRes} {l : List (FuncId × CallE)} (h : SoundP P f F) (t : CallsSound P l) : CallsSound P ((f, .P F) :: l)
  | consR {f : FuncId} {F : List PV → M} {l : List (FuncId × CallE)} (h : SoundS P f F) (t : CallsSound P l) : CallsSound P ((f, .R F) :: l)
  | consS {f : FuncId} {F : List PV → M} {l : List (FuncId × CallE)} (h : SoundS P f F) (t : CallsSound P l) : CallsSound P ((f, .S F) :: l)
  | consN {f : FuncId} {F : List PV → M} {l : List (FuncId × CallE)} (h : SoundS P f F) (t : CallsSound P l) : CallsSound P ((f, .N F) :: l)
inductive DynSound (P : Program) : List (FuncId × (List PV → M)) → Prop where
  | nil : DynSound P []
  | cons {f : FuncId} {e : List PV → M} {l : List (FuncId × (List PV → M))} (h : SoundS P f e) (t : DynSound P l) : DynSound P ((f, e) :: l)

theorem lookC_ok {P : Program} {l : List (FuncId × CallE)} (h : CallsSound P l) (f : FuncId) : CallSound P f (lookC l f) := by
  induction h with
  | nil => trivial
  | consP h t ih =>
    rename_i i F l
    unfold lookC
    cases hb : Nat.beq i f with
    | true => have := Nat.eq_of_beq_eq_true hb; subst this; exact h
    | false => exact ih
  | consR h t ih =>
    rename_i i F l
    unfold lookC
    cases hb : Nat.beq i f with
    | true => have := Nat.eq_of_beq_eq_true hb; subst this; exact h
    | false => exact ih
  | consS h t ih =>
    rename_i i F l
    unfold lookC
    cases hb : Nat.beq i f with
    | true => have := Nat.eq_of_beq_eq_true hb; subst this; exact h
    | false => exact ih
  | consN h t ih =>
    rename_i i F l
    unfold lookC
    cases hb : Nat.beq i f with
    | true => have := Nat.eq_of_beq_eq_true hb; subst this; exact h
    | false => exact ih

theorem sound_fail (P : Program) (f : FuncId) : SoundS P f fun _ => failM := fun c args vs g hl => .inl rfl

theorem lookD_ok {P : Program} : ∀ {l : List (FuncId × (List PV → M))}, DynSound P l → ∀ f, SoundS P f (lookD l f)
  | [], _, f => sound_fail P f
  | (i, e) :: l, .cons h t, f => by
    unfold lookD
    cases hb : Nat.beq i f with
    | true => have := Nat.eq_of_beq_eq_true hb; subst this; exact h
    | false => exact lookD_ok t f

theorem ctxOk_of {P : Program} {T : TypeId → TI} (hT : TOk T P) {l : List (FuncId × CallE)} (hl : CallsSound P l) {d : List (FuncId × (List PV → M))} (hd : DynSound P d) (r : Bool) (h : Hints) : CtxOk P ⟨T, lookC l, lookD d, r, h⟩ :=
  ⟨hT, fun f => by
    have := lookC_ok hl f
    show match lookC l f with | .none => True | .P F => SoundP P f F | .R F => SoundS P f F | .S F => SoundS P f F | .N F => SoundS P f F
    unfold CallSound at this
    split at this <;> simp_all, lookD_ok hd⟩

/-- A printed function is sound. -/
theorem soundS_print {P : Program} {X : Ctx} (hX : CtxOk P X) (hm : P.follows .mixedOrders = true) {f : FuncId} {fn : Func} (hf : P.funcs[f]? = some fn) (hb : fn.body.isNone = false) (hn : (fn.name == "runtime.NumGoroutine") = false)
    {B : List PV → Prog} (hB : ∀ args, B args = evBody X fn args ∨ B args = .leaf failM) : SoundS P f fun args => (B args).run := by
  obtain ⟨code, hc⟩ : ∃ c, fn.body = some c := by
    cases h : fn.body with
    | none => rw [h] at hb; cases hb
    | some c => exact ⟨c, rfl⟩
  have := soundS_of_body hX hm hf hc hn
  intro c args vs g hl
  rcases hB args with h | h
  · show (B args).run c.st = .fail ∨ _
    rw [h]
    have := this c args vs g hl
    simp only [] at this
    rcases this with h1 | h1
    · exact .inl h1
    · refine .inr ?_
      simp only [h]
      exact h1
  · exact .inl (by simp only [h]; rfl)

end Go.Abs
end
/-
  FUNCTIONS BY HAND: slices.Clone, of a list that may be nil or not.
-/
section
set_option linter.unusedSimpArgs false
set_option linter.unusedVariables false
set_option maxRecDepth 100000
namespace Go.Abs
open Go

theorem eql_nil {P : Program} {t e : TypeId} (hd : P.underlying t = some (.slice e)) (a : Addr) (n k : Nat) (w : World) :
    (binOp .eql t (.slice (some a) n k) (.slice none 0 0)).run P w = .ok (.bool false) w := by
  rw [binOp_eql rfl]
  have : (Op.equal t (.slice (some a) n k) (.slice none 0 0)).run P w = .ok false w := run_equal_of hd _ _ _ _ (by simp)
  simp [this]
theorem eql_nil' {P : Program} {t e : TypeId} (hd : P.underlying t = some (.slice e)) (n k : Nat) (w : World) :
    (binOp .eql t (.slice none n k) (.slice none 0 0)).run P w = .ok (.bool true) w := by
  rw [binOp_eql rfl]
  have : (Op.equal t (.slice none n k) (.slice none 0 0)).run P w = .ok true w := run_equal_of hd _ _ _ _ (by simp)
  simp [this]

theorem keeps_refl (w : World) : Keeps w w := ⟨fun _ _ => rfl, Nat.le_refl _, rfl, rfl, rfl⟩
theorem keeps_alloc (w : World) (o : Obj) : Keeps w (w.alloc o) :=
  ⟨fun b hb => by
    show (w.heap.push o)[b]? = _
    rw [Array.getElem?_push_lt hb, Array.getElem?_eq_getElem hb], by show w.heap.size ≤ (w.heap.push o).size; simp, rfl, rfl, rfl⟩

theorem cloneW_sound {P : Program} {f : FuncId} {F0 : List PV → PRes} {sz : Nat} {et : TypeId} (h0 : SoundP P f F0) (hf : IsFn P f)
    (hn : ∀ (cap : Nat) (w : World), Calls P f #[.slice none 0 cap] w fun e w' => e = .returned (.slice none 0 0) ∧ w' = w)
    (hs : ∀ (a : Addr) (cap : Nat) (w : World), Calls P f #[.slice (some a) 0 cap] w fun e w' => e = .returned (.slice (some ⟨w.heap.size, 0, none⟩) 0 0) ∧ w' = w.alloc (.cells #[] et)) : SoundP P f (cloneW sz F0) := by
  intro w hid as_ vs hh hl
  by_cases hc : as_ = [.lst []]
  case neg =>
    have e : cloneW sz F0 as_ = F0 as_ := by
      unfold cloneW; split
      · exact (hc rfl).elim
      · rfl
    rw [e]; exact h0 w hid as_ vs hh hl
  subst hc
  show IsFn P f ∧ Calls P f vs.toArray w _
  obtain ⟨v, rfl⟩ : ∃ v, vs = [v] := by
    have := hl.1; simp at this; exact List.length_eq_one_iff.1 this.symm
  have hr := hl.2 0 (by simp) (by simp)
  simp only [List.getElem_cons_zero] at hr
  refine ⟨hf, ?_⟩
  have key : ∃ a cap, v = .slice a 0 cap := by
    cases hr with
    | lst0 a cap => exact ⟨a, cap, rfl⟩
    | lst xs sz' b o cap us h1 h2 h3 h4 h5 h6 => exact ⟨_, _, rfl⟩
  obtain ⟨a, cap, rfl⟩ := key
  cases a with
  | none =>
    refine Calls.mono (hn cap w) fun e w' h => ?_
    obtain ⟨rfl, rfl⟩ := h
    exact ⟨_, rfl, keeps_refl _, rfl, fun x hx => (by cases hx), .inl ⟨rfl, rfl⟩⟩
  | some a =>
    refine Calls.mono (hs a cap w) fun e w' h => ?_
    obtain ⟨rfl, rfl⟩ := h
    refine ⟨_, rfl, keeps_alloc _ _, rfl, fun x hx => (by cases hx), .inr ⟨w.heap.size, 0, #[], et, rfl, Nat.le_refl _, ?_, by simp, by simp, fun j p hp => by simp [flat] at hp⟩⟩
    show (w.heap.push _)[w.heap.size]? = _
    simp

end Go.Abs
end
