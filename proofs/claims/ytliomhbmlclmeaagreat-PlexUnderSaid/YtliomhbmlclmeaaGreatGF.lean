/-
  Joined from: AbsS20 AbsS21 AbsS22 AbsS23 AbsS24 AbsS25.
-/
import Derived.Test.YtliomhbmlclmeaaGreatGE
import Derived.Deep.LoopGhost
/-
  WHAT THE ABSTRACT OPERATIONS DO TO MEMORY: two of them change places.
-/
section
set_option linter.unusedSimpArgs false
set_option linter.unusedVariables false
namespace Go.Abs
open Go

theorem Fp.weak {at_ : Option Nat} {st st' : St} (h : Fp none st st') : Fp at_ st st' := fun id hid _ h1 h2 => h id hid (by simp) h1 h2
theorem FpR.weak {at_ : Option Nat} {st : St} {r : Res} (h : FpR none st r) : FpR at_ st r := by
  unfold FpR at h ⊢
  split at h <;> first | exact h.weak | trivial

section
variable {P : Program} {X : Ctx}

theorem RepL.app {c : Cfg} {p q : List PV} {u v : List Value} (h : RepL c p u) (k : RepL c q v) : RepL c (p ++ q) (u ++ v) := by
  refine ⟨by simp [h.1, k.1], fun j h1 h2 => ?_⟩
  by_cases hj : j < p.length
  · rw [List.getElem_append_left hj, List.getElem_append_left (by have := h.1; omega)]; exact h.2 j _ _
  · rw [List.getElem_append_right (by omega), List.getElem_append_right (by have := h.1; omega)]
    have := k.2 (j - p.length) (by simp at h1; omega) (by have := h.1; have := k.1; simp at h1; omega)
    have e := h.1
    simpa [e] using this

theorem fp_of_call {c : Cfg} {m : M} {f : FuncId} {vs : Array Value} (at_ : Option Nat) (h : m c.st = .fail ∨ (IsFn P f ∧ CallOk P c (m c.st) f vs ∧ FpR none c.st (m c.st))) : FpM at_ c.st m := by
  unfold FpM
  rcases h with h | ⟨_, _, h⟩
  · rw [h]; trivial
  · exact h.weak

theorem fp_bif {at_ : Option Nat} {st : St} {b : Bool} {m n : M} (h : FpM at_ st n) (k : FpM at_ st m) : FpM at_ st (bif b then m else n) := by cases b; exact h; exact k

theorem evOp_fp (hX : CtxOk P X) {c : Cfg} (g : Good c) {s : List PV} {a : Act} (hs : Slots c s a.tmps) (mp : Bool) (at_ : Option Nat) (o : Oper) : FpM at_ c.st (evOp X mp at_ o s) := by
  have st : ∀ {m : M}, Still m → FpM at_ c.st m := fun h => h.fp at_ c.st
  cases hc : clsOp X o with
  | P => exact st (cls_P hc mp at_ s).still
  | R => exact st (cls_still (.inl hc) mp at_ s)
  | Q => exact st (cls_still (.inr hc) mp at_ s)
  | A =>
    cases ho : o.op with
    | alloc e => unfold evOp; simp only [ho]; exact ifU_fp (withId_fp _ _ _ _ _)
    | box e x => unfold evOp; simp only [ho]; exact ifU_fp (withId_fp _ _ _ _ _)
    | buildSlice t len ps =>
      unfold evOp; simp only [ho]
      split <;> first | exact ifU_fp (buildSlice_fp _ _ _ _ _ _ _) | exact fpM_fail _ _
    | makeSlice t l cc =>
      unfold evOp; simp only [ho]
      split <;> first | exact ifU_fp (makeSlice_fp _ _ _ _ _ _ _) | exact fpM_fail _ _
    | call cl =>
      unfold clsOp at hc; rw [ho] at hc
      cases hcl : cl.callee with
      | builtin b => simp only [hcl] at hc; cases b <;> simp at hc
      | invoke _ _ => simp only [hcl] at hc; simp at hc
      | value f =>
        cases f with
        | const _ => simp only [hcl] at hc; simp at hc
        | global _ => simp only [hcl] at hc; simp at hc
        | tmp t => simp only [hcl] at hc; cases hd : X.dynR <;> simp [hd] at hc
        | func f =>
          cases hc' : X.call f <;> simp only [hcl, hc'] at hc <;> (try (simp at hc; done))
          split at hc <;> cases hc
    | convert _ _ _ => rcases cls_convert (X := X) ho with e | e <;> rw [e] at hc <;> cases hc
    | _ => unfold clsOp at hc; rw [ho] at hc; simp at hc
  | _ =>
    cases ho : o.op with
    | store t x y => unfold evOp; simp only [ho]; exact ifU_fp (store_fp _ _ _ _ _)
    | panic x =>
      unfold evOp; simp only [ho]
      split
      · split
        · exact Fp.refl _ _
        · exact fpM_fail _ _
      · exact fpM_fail _ _
    | call cl =>
      have hargs := opds_rep hs cl.args.toList
      unfold evOp; simp only [ho]
      split
      · unfold builtinM
        split
        · split <;> first | exact st (pure_len _).still | exact st (pure_lenStr _).still | exact st (pure_ret _).still | exact fpM_fail _ _
        · split
          · refine ifU_fp ?_
            exact fp_bif (fpM_fail _ _) (append_fp _ _ _ _ _ _)
          · exact fpM_fail _ _
        · exact st (pure_opt _).still
        · exact st (pure_opt _).still
        · exact fpM_fail _ _
      · exact fp_of_call at_ (callM_ok hX g mp _ _ _ hargs)
      · rename_i t hb
        unfold dynM
        have h := opd_rep hs (.tmp t)
        split
        · rename_i gf first cap hv
          rw [hv] at h
          generalize hu : a.eval (.tmp t) = u at h
          obtain ⟨us, vs, rfl, hfirst, hcap⟩ := h.func_inv
          have hall := (hfirst.app hargs).app hcap
          split
          · exact fp_of_call at_ (calm_ok mp (callR_ok g (hX.dyn gf) hall))
          · exact fp_of_call at_ (calm_ok mp (hX.dyn gf c _ _ g hall))
        · exact fpM_fail _ _
      · exact fpM_fail _ _
    | move _ => unfold clsOp at hc; rw [ho] at hc; simp at hc
    | assign _ => unfold clsOp at hc; rw [ho] at hc; simp at hc
    | pick _ _ _ => unfold clsOp at hc; rw [ho] at hc; simp at hc
    | build _ _ => unfold clsOp at hc; rw [ho] at hc; simp at hc
    | nilCheck _ => unfold clsOp at hc; rw [ho] at hc; simp at hc
    | binOp _ _ _ _ _ => unfold clsOp at hc; rw [ho] at hc; simp at hc
    | unOp _ _ _ => unfold clsOp at hc; rw [ho] at hc; simp at hc
    | convert _ _ _ => rcases cls_convert (X := X) ho with e | e <;> rw [e] at hc <;> cases hc
    | makeFunc _ _ _ => unfold clsOp at hc; rw [ho] at hc; simp at hc
    | fieldAddr _ _ _ => unfold clsOp at hc; rw [ho] at hc; simp at hc
    | field _ _ _ => unfold clsOp at hc; rw [ho] at hc; simp at hc
    | index _ _ _ => unfold clsOp at hc; rw [ho] at hc; simp at hc
    | extract _ _ => unfold clsOp at hc; rw [ho] at hc; simp at hc
    | makeInterface _ _ => unfold clsOp at hc; rw [ho] at hc; simp at hc
    | load _ _ => unfold clsOp at hc; rw [ho] at hc; simp at hc
    | slice _ _ _ _ _ => unfold clsOp at hc; rw [ho] at hc; simp at hc
    | indexAddr _ _ _ => unfold clsOp at hc; rw [ho] at hc; simp at hc
    | alloc _ => unfold clsOp at hc; rw [ho] at hc; simp at hc
    | box _ _ => unfold clsOp at hc; rw [ho] at hc; simp at hc
    | buildSlice _ _ _ => unfold clsOp at hc; rw [ho] at hc; simp at hc
    | makeSlice _ _ _ => unfold clsOp at hc; rw [ho] at hc; simp at hc
    | _ => unfold evOp; simp only [ho]; exact fpM_fail _ _

theorem evOp_at {o : Oper} (h : clsOp X o ≠ .A) (mp : Bool) (at_ at' : Option Nat) (s : List PV) : evOp X mp at_ o s = evOp X mp at' o s := by
  cases ho : o.op with
  | alloc _ => unfold clsOp at h; rw [ho] at h; simp at h
  | box _ _ => unfold clsOp at h; rw [ho] at h; simp at h
  | buildSlice _ _ _ => unfold clsOp at h; rw [ho] at h; simp at h
  | makeSlice _ _ _ => unfold clsOp at h; rw [ho] at h; simp at h
  | makeFunc f a b => unfold evOp; simp only [ho]; cases f <;> rfl
  | call cl =>
    unfold evOp; simp only [ho]
  | _ => unfold evOp; simp only [ho]

/-! ### what may not panic does not -/
def NoPan (m : M) : Prop := ∀ st p st', m st ≠ .panic p st'
theorem Pure.noPan {m : M} (h : Pure m) : NoPan m := by
  intro st p st' e
  rcases h with ⟨v, rfl⟩ | rfl <;> cases e
theorem noPan_ifU {t : TI} {m : M} (h : NoPan m) : NoPan (ifU t m) := by unfold ifU; cases t.usable; exact pure_fail.noPan; exact h
theorem noPan_bif {b : Bool} {m n : M} (h : NoPan n) (k : NoPan m) : NoPan (bif b then m else n) := by cases b; exact h; exact k
theorem noPan_calm (m : M) : NoPan (calm false m) := by
  intro st p st' e
  unfold calm at e
  split at e
  · simp at e
  · rename_i h; exact h _ _ e
theorem noPan_load (t : Option Nat) (p : PV) : NoPan (loadM t p) := by
  intro st q st' e
  rcases still_load t p st with ⟨v, h⟩ | ⟨v, h⟩ | h
  · rw [h] at e; cases e
  · unfold loadM at h
    repeat' split at h
    all_goals first | (cases h; done) | (rw [opt_at] at h; split at h <;> cases h)
  · rw [h] at e; cases e
theorem noPan_idx (esz : Nat) (x i : PV) : NoPan (idxM esz x i) := by
  intro st q st' h
  unfold idxM at h
  repeat' split at h
  all_goals cases h
theorem noPan_slice (esz : Nat) (x : PV) (lo hi mx : Option PV) : NoPan (sliceM esz x lo hi mx) := by
  intro st q st' h
  unfold sliceM at h
  repeat' split at h
  all_goals cases h
theorem noPan_store (n : Nat) (p v : PV) : NoPan (storeM n p v) := by
  intro st q st' h
  unfold storeM at h
  repeat' split at h
  all_goals cases h
theorem noPan_append (n b : Nat) (s x : PV) : NoPan (appendM n b s x) := by
  intro st q st' h
  unfold appendM at h
  repeat' split at h
  all_goals cases h
theorem noPan_withId (at_ : Option Nat) (sz : Nat) (xs : List PV) (v : Nat → PV) : NoPan (withId at_ fun id => newAt id sz xs (v id)) := fun st p st' => withId_no_panic
theorem noPan_buildSlice (at_ : Option Nat) (esz : Nat) (ea : Bool) (z : PV) (len : Nat) (ps : List (Nat × PV)) : NoPan (buildSliceM at_ esz ea z len ps) := by
  unfold buildSliceM
  split
  · split
    · exact noPan_withId _ _ _ _
    · exact pure_fail.noPan
  · exact pure_fail.noPan
theorem noPan_makeSlice (at_ : Option Nat) (esz b : Nat) (z l c : PV) : NoPan (makeSliceM at_ esz b z l c) := by
  unfold makeSliceM
  split
  · split
    · exact noPan_withId _ _ _ _
    · exact pure_fail.noPan
  · exact pure_fail.noPan
theorem noPan_take (own : Option Nat) (p : PV) : NoPan (takeM own p) := by
  intro st q st' h
  unfold takeM at h
  split at h
  · split at h
    · simp [withId] at h
    · cases h
  · cases h
  · cases h
theorem noPan_callP (frz : Bool) (own : Option Nat) (F : List PV → PRes) (args : List PV) : NoPan (callP frz own false F args) := by
  intro st q st' h
  unfold callP at h
  repeat' split at h
  all_goals first | (cases h; done) | exact noPan_take _ _ _ _ _ h | simp at *

theorem noPan_strOf (x : PV) : NoPan (strOfM x) := by
  intro st q st' h
  unfold strOfM at h
  repeat' split at h
  all_goals cases h

theorem evOp_noPan (at_ : Option Nat) (o : Oper) (s : List PV) : NoPan (evOp X false at_ o s) := by
  cases hc : clsOp X o with
  | P => exact (cls_P hc false at_ s).noPan
  | _ =>
    cases ho : o.op with
    | alloc e => unfold evOp; simp only [ho]; exact noPan_ifU (noPan_withId _ _ _ _)
    | box e x => unfold evOp; simp only [ho]; exact noPan_ifU (noPan_withId _ _ _ _)
    | buildSlice t len ps =>
      unfold evOp; simp only [ho]
      split <;> first | exact noPan_ifU (noPan_buildSlice _ _ _ _ _ _) | exact pure_fail.noPan
    | makeSlice t l cc =>
      unfold evOp; simp only [ho]
      split <;> first | exact noPan_ifU (noPan_makeSlice _ _ _ _ _ _) | exact pure_fail.noPan
    | load t x => unfold evOp; simp only [ho]; split <;> first | exact noPan_load _ _ | exact pure_fail.noPan
    | indexAddr t x i =>
      unfold evOp; simp only [ho]
      split <;> first | exact noPan_ifU (noPan_idx _ _ _) | exact noPan_ifU (pure_idxA _ _ _ _).noPan | exact pure_fail.noPan
    | slice t x lo hi mx =>
      unfold evOp; simp only [ho]
      split <;> first | exact (pure_sliceStr _ _ _).noPan | exact noPan_ifU (noPan_slice _ _ _ _ _) | exact pure_fail.noPan
    | store t x y => unfold evOp; simp only [ho]; exact noPan_ifU (noPan_store _ _ _)
    | panic x =>
      unfold evOp; simp only [ho]
      split
      · simp only [Bool.false_eq_true, if_false]; exact pure_fail.noPan
      · exact pure_fail.noPan
    | call cl =>
      unfold evOp; simp only [ho]
      split
      · unfold builtinM
        split
        · split <;> first | exact (pure_len _).noPan | exact (pure_lenStr _).noPan | exact (pure_ret _).noPan | exact pure_fail.noPan
        · split
          · refine noPan_ifU ?_
            exact noPan_bif pure_fail.noPan (noPan_append _ _ _ _)
          · exact pure_fail.noPan
        · exact (pure_opt _).noPan
        · exact (pure_opt _).noPan
        · exact pure_fail.noPan
      · unfold callM
        split
        · exact pure_fail.noPan
        · exact noPan_callP _ _ _ _
        · exact noPan_calm _
        · exact noPan_calm _
        · exact noPan_calm _
      · unfold dynM
        split
        · split <;> exact noPan_calm _
        · exact pure_fail.noPan
      · exact pure_fail.noPan
    | move _ => unfold clsOp at hc; rw [ho] at hc; simp at hc
    | assign _ => unfold clsOp at hc; rw [ho] at hc; simp at hc
    | pick _ _ _ => unfold clsOp at hc; rw [ho] at hc; simp at hc
    | build _ _ => unfold clsOp at hc; rw [ho] at hc; simp at hc
    | nilCheck _ => unfold clsOp at hc; rw [ho] at hc; simp at hc
    | binOp _ _ _ _ _ => unfold clsOp at hc; rw [ho] at hc; simp at hc
    | unOp _ _ _ => unfold clsOp at hc; rw [ho] at hc; simp at hc
    | convert _ _ _ =>
      unfold evOp; simp only [ho]
      split <;> first | exact noPan_ifU (pure_conv _ _).noPan | exact noPan_bif pure_fail.noPan (noPan_strOf _) | exact pure_fail.noPan
    | makeFunc _ _ _ => unfold clsOp at hc; rw [ho] at hc; simp at hc
    | fieldAddr _ _ _ => unfold clsOp at hc; rw [ho] at hc; simp at hc
    | field _ _ _ => unfold clsOp at hc; rw [ho] at hc; simp at hc
    | index _ _ _ => unfold clsOp at hc; rw [ho] at hc; simp at hc
    | extract _ _ => unfold clsOp at hc; rw [ho] at hc; simp at hc
    | makeInterface _ _ => unfold clsOp at hc; rw [ho] at hc; simp at hc
    | _ => unfold evOp; simp only [ho]; exact pure_fail.noPan

/-! ### slots that an operation does not look at -/
theorem opd_put {s : List PV} {d : Option Tmp} {v : PV} {x : Operand} (h : ∀ t, d = some t → x ≠ .tmp t) : opd (putS s d v) x = opd s x := by
  cases d with
  | none => rfl
  | some d =>
    cases x with
    | tmp t =>
      have hne : d ≠ t := fun e => h d rfl (e ▸ rfl)
      simp only [opd, putS, List.getD, List.getElem?_set_ne hne]
    | _ => rfl

theorem placesOf_congr {s s' : List PV} (t : TI) : ∀ (ps : List (Nat × Operand)), (∀ p ∈ ps, opd s p.2 = opd s' p.2) → placesOf X t s ps = placesOf X t s' ps
  | [], _ => rfl
  | (f, x) :: ps, h => by
    have h1 : opd s x = opd s' x := h (f, x) (by simp)
    simp only [placesOf]
    rw [placesOf_congr t ps fun p hp => h p (by simp [hp]), h1]

theorem evOp_congr (o : Oper) (mp : Bool) (at_ : Option Nat) {s s' : List PV} (h : ∀ x ∈ o.op.operands, opd s x = opd s' x) : evOp X mp at_ o s = evOp X mp at_ o s' := by
  obtain ⟨dst, op, type, pos, after, guard⟩ := o
  have maps : ∀ xs : Array Operand, (∀ x ∈ xs, opd s x = opd s' x) → xs.toList.map (opd s) = xs.toList.map (opd s') := fun xs hx => List.map_congr_left fun x hm => hx x (by simpa using hm)
  cases op <;> simp only [Op.operands] at h <;> simp only [evOp]
  case build t ps =>
    rw [placesOf_congr (X := X) (s := s) (s' := s') (X.T t) ps.toList fun p hp => h p.2 (by simp; exact ⟨p.1, by simpa using hp⟩)]
  case buildSlice t n ps =>
    have : (ps.toList.map fun p => (p.1, opd s p.2)) = (ps.toList.map fun p => (p.1, opd s' p.2)) := List.map_congr_left fun p hm => by
      rw [h p.2 (by simp; exact ⟨p.1, by simpa using hm⟩)]
    rw [this]
  case makeFunc f first cap =>
    cases f with
    | func f => simp only []; rw [maps first fun x hx => h x (by simp [hx]), maps cap fun x hx => h x (by simp [hx])]
    | _ => rfl
  case call c =>
    have hargs := maps c.args fun x hx => h x (by simp [Call.operands, hx])
    rw [hargs]
    cases hc : c.callee with
    | value f =>
      have hf : opd s f = opd s' f := h f (by simp [Call.operands, hc])
      cases f <;> simp only [] <;> rw [hf]
    | _ => rfl
  case slice t x lo hi mx => cases lo <;> cases hi <;> cases mx <;> simp_all
  all_goals (first | rfl | (simp_all; done))

end
end Go.Abs
end
/-
  TWO OPERATIONS CHANGE PLACES.
-/
section
set_option linter.unusedSimpArgs false
set_option linter.unusedVariables false
namespace Go.Abs
open Go

/-- What a class says of an operation's outcome. -/
structure ClsOk (k : Cls) (id : Nat) (st : St) (m : M) : Prop where
  p : k = .P → Pure m
  s : k = .R ∨ k = .Q → Still m
  r : k = .R → Indep st m
  a : k = .A → Makes id m ∨ Pure m
  n : k = .N → ∀ v st', m st = .ok v st' → Ext st st'
  e : ∀ b, st.H id = none → st.dead id = false → Ext st (st.add id b)

theorem Pure.ext {m : M} (h : Pure m) {c : Cfg} (g : Good c) {v : PV} {st' : St} (he : m c.st = .ok v st') : Ext c.st st' := by
  rcases h with ⟨w, rfl⟩ | rfl
  · cases he; exact Ext.refl g
  · cases he

theorem Pure.cls {m : M} (h : Pure m) (k : Cls) (id : Nat) {c : Cfg} (g : Good c) : ClsOk k id c.st m :=
  ⟨fun _ => h, fun _ => h.still, fun _ => h.indep c.st, fun _ => .inr h, fun _ v st' he => h.ext g he, fun b h1 h2 => Ext.add g b h1 h2⟩

theorem guard_cases (g : PV) (want : Bool) (m : M) : guardM g want m = m ∨ Pure (guardM g want m) := by
  unfold guardM
  split
  · rename_i b
    cases b == want
    · exact .inr (pure_ret _)
    · exact .inl rfl
  · exact .inr (pure_ret _)
  · exact .inr pure_fail

theorem evG_cases (X : Ctx) (all : List Oper) (mp : Bool) (at_ : Option Nat) (o : Oper) (s : List PV) : evG X all mp at_ o s = evOp X mp at_ o s ∨ Pure (evG X all mp at_ o s) := by
  unfold evG
  split
  · exact .inl rfl
  · exact .inr (pure_ret _)
  · exact guard_cases _ _ _

section
variable {P : Program} {X : Ctx} (hX : CtxOk P X)

theorem evG_cls (all : List Oper) (mp : Bool) (id : Nat) (o : Oper) {c : Cfg} (g : Good c) {s : List PV} {a : Act} (hs : Slots c s a.tmps) : ClsOk (clsOp X o) id c.st (evG X all mp (some id) o s) := by
  rcases evG_cases X all mp (some id) o s with h | h
  · rw [h]
    exact ⟨fun h => cls_P h mp _ s, fun h => cls_still h mp _ s, fun h => cls_R h mp _ g hs, fun h => .inl (cls_A h mp id s), fun h v st' he => cls_N h mp _ g s he, fun b h1 h2 => Ext.add g b h1 h2⟩
  · exact h.cls _ _ g

theorem evG_noPan (all : List Oper) (at_ : Option Nat) (o : Oper) (s : List PV) : NoPan (evG X all false at_ o s) := by
  rcases evG_cases X all false at_ o s with h | h
  · rw [h]; exact evOp_noPan _ _ _
  · exact h.noPan

theorem evG_fp (hX : CtxOk P X) (all : List Oper) (mp : Bool) (at_ : Option Nat) (o : Oper) {c : Cfg} (g : Good c) {s : List PV} {a : Act} (hs : Slots c s a.tmps) : FpM at_ c.st (evG X all mp at_ o s) := by
  rcases evG_cases X all mp at_ o s with h | h
  · rw [h]; exact evOp_fp hX g hs _ _ _
  · exact h.still.fp _ _

theorem evG_at {o : Oper} (h : clsOp X o ≠ .A) (all : List Oper) (mp : Bool) (at_ at' : Option Nat) (s : List PV) : evG X all mp at_ o s = evG X all mp at' o s := by
  unfold evG
  rw [evOp_at h mp at_ at' s]

theorem evG_put (all : List Oper) (mp : Bool) (at_ : Option Nat) (o : Oper) (s : List PV) (d : Option Tmp) (v : PV) (h : ∀ t, d = some t → t ∉ o.looksAt all.toArray) : evG X all mp at_ o (putS s d v) = evG X all mp at_ o s := by
  have hop : evOp X mp at_ o (putS s d v) = evOp X mp at_ o s := evOp_congr o mp at_ fun x hx => opd_put fun t ht hxt => h t ht (by
    subst hxt
    exact List.mem_append_left _ (List.mem_filterMap.2 ⟨.tmp t, by simpa using hx, rfl⟩))
  unfold evG
  rw [hop]
  cases hg : guardOf all o with
  | none => rfl
  | some jw =>
    obtain ⟨j, want⟩ := jw
    cases j with
    | none => rfl
    | some e =>
      have : (putS s d v).getD e .junk = s.getD e .junk := by
        cases d with
        | none => rfl
        | some t =>
          have hne : t ≠ e := fun he => h t rfl (by
            subst he
            unfold guardOf at hg
            split at hg
            · cases hg
            · rename_i i want' hgd
              simp only [Option.some.injEq, Prod.mk.injEq] at hg
              refine List.mem_append_right _ ?_
              rw [hgd]
              have : (all.toArray[i]?).bind (·.dst) = some t := by simpa using hg.1
              simp only [this, Option.toList_some, List.mem_singleton])
          simp only [putS, List.getD, List.getElem?_set_ne hne]
      simp only [this]

end

theorem putS_comm (s : List PV) {x y : Option Tmp} (u v : PV) (h : ∀ d, x = some d → y ≠ some d) : putS (putS s x u) y v = putS (putS s y v) x u := by
  cases x with
  | none => rfl
  | some d =>
    cases y with
    | none => rfl
    | some e =>
      have hne : d ≠ e := fun he => h d rfl (he ▸ rfl)
      simp only [putS]
      exact List.set_comm _ _ hne

theorem upd_comm (H : Nat → Option Blk) {i j : Nat} (h : i ≠ j) (a b : Option Blk) : upd (upd H i a) j b = upd (upd H j b) i a := by
  funext k
  simp only [upd]
  by_cases h1 : k = j
  · subst h1
    have : ¬ k = i := fun e => h e.symm
    simp [this]
  · by_cases h2 : k = i
    · subst h2; simp [h1]
    · simp [h1, h2]

/-- Two that are no harm to each other change places. -/
theorem swap {st st1 st2 : St} {mj mm : M} {cj cm : Cls} {ij im : Nat} (kj : ClsOk cj ij st mj) (km : ClsOk cm im st mm) (hc : compat cj cm = true) (hne : ij ≠ im)
    (fj : cj = .A → st.H ij = none ∧ st.dead ij = false) (fm : cm = .A → st.H im = none ∧ st.dead im = false) {vj vm : PV} (h1 : mj st = .ok vj st1) (h2 : mm st1 = .ok vm st2) :
    ∃ st1', mm st = .ok vm st1' ∧ mj st1' = .ok vj st2 := by
  have pureJ : Pure mj → ∃ st1', mm st = .ok vm st1' ∧ mj st1' = .ok vj st2 := fun h => by
    rcases h with ⟨v, rfl⟩ | rfl
    · cases h1; exact ⟨st2, h2, rfl⟩
    · cases h1
  have pureM : Pure mm → ∃ st1', mm st = .ok vm st1' ∧ mj st1' = .ok vj st2 := fun h => by
    rcases h with ⟨v, rfl⟩ | rfl
    · cases h2; exact ⟨st, rfl, h1⟩
    · cases h2
  have still : Still mj → Still mm → ∃ st1', mm st = .ok vm st1' ∧ mj st1' = .ok vj st2 := fun hj hm => by
    have e1 : st1 = st := by
      rcases hj st with ⟨v, e⟩ | ⟨p, e⟩ | e <;> rw [e] at h1 <;> cases h1; rfl
    subst e1
    have e2 : st2 = st1 := by
      rcases hm st1 with ⟨v, e⟩ | ⟨p, e⟩ | e <;> rw [e] at h2 <;> cases h2; rfl
    subst e2
    exact ⟨st2, h2, h1⟩
  have ra : Still mj → Indep st mj → cm = .A → (Makes im mm ∨ Pure mm) → ∃ st1', mm st = .ok vm st1' ∧ mj st1' = .ok vj st2 := fun hs hi hA hm => by
    have e1 : st1 = st := by
      rcases hs st with ⟨v, e⟩ | ⟨p, e⟩ | e <;> rw [e] at h1 <;> cases h1; rfl
    subst e1
    rcases hm with (⟨v, b, hm⟩ | rfl) | hm
    · rw [hm st1] at h2
      cases h2
      refine ⟨_, hm st1, ?_⟩
      obtain ⟨f1, f2⟩ := fm hA
      have := hi _ (km.e b f1 f2)
      rw [h1] at this
      exact this
    · cases h2
    · exact pureM hm
  have ar : cj = .A → (Makes ij mj ∨ Pure mj) → Still mm → Indep st mm → ∃ st1', mm st = .ok vm st1' ∧ mj st1' = .ok vj st2 := fun hA hj hs hi => by
    rcases hj with (⟨v, b, hj⟩ | rfl) | hj
    · rw [hj st] at h1
      cases h1
      obtain ⟨f1, f2⟩ := fj hA
      have := hi _ (kj.e b f1 f2)
      rcases hs st with ⟨w, e⟩ | ⟨p, e⟩ | e <;> rw [e] at this
      · have h3 : mm (st.add ij b) = .ok w (st.add ij b) := this
        have h2' : mm (st.add ij b) = .ok vm st2 := h2
        rw [h3] at h2'
        cases h2'
        exact ⟨st, e, hj st⟩
      · have h3 : mm (st.add ij b) = .panic p (st.add ij b) := this
        have h2' : mm (st.add ij b) = .ok vm st2 := h2
        rw [h3] at h2'; cases h2'
      · have h3 : mm (st.add ij b) = .fail := this
        have h2' : mm (st.add ij b) = .ok vm st2 := h2
        rw [h3] at h2'; cases h2'
    · cases h1
    · exact pureJ hj
  have rn : Still mj → Indep st mj → cm = .N → ∃ st1', mm st = .ok vm st1' ∧ mj st1' = .ok vj st2 := fun hs hi hN => by
    have e1 : st1 = st := by
      rcases hs st with ⟨v, e⟩ | ⟨p, e⟩ | e <;> rw [e] at h1 <;> cases h1; rfl
    subst e1
    have := hi _ (km.n hN _ _ h2)
    rw [h1] at this
    exact ⟨st2, h2, this⟩
  have nr : cj = .N → Still mm → Indep st mm → ∃ st1', mm st = .ok vm st1' ∧ mj st1' = .ok vj st2 := fun hN hs hi => by
    have := hi _ (kj.n hN _ _ h1)
    rcases hs st with ⟨w, e⟩ | ⟨p, e⟩ | e <;> rw [e] at this
    · have h3 : mm st1 = .ok w st1 := this
      rw [h3] at h2
      cases h2
      exact ⟨st, e, h1⟩
    · have h3 : mm st1 = .panic p st1 := this
      rw [h3] at h2; cases h2
    · have h3 : mm st1 = .fail := this
      rw [h3] at h2; cases h2
  cases cj <;> cases cm <;> simp only [compat, Bool.false_eq_true] at hc
  all_goals first
    | exact pureJ (kj.p rfl)
    | exact pureM (km.p rfl)
    | exact still (kj.s (by first | exact .inl rfl | exact .inr rfl)) (km.s (by first | exact .inl rfl | exact .inr rfl))
    | exact ra (kj.s (by first | exact .inl rfl | exact .inr rfl)) (kj.r rfl) rfl (km.a rfl)
    | exact rn (kj.s (by first | exact .inl rfl | exact .inr rfl)) (kj.r rfl) rfl
    | exact nr rfl (km.s (by first | exact .inl rfl | exact .inr rfl)) (km.r rfl)
    | exact ar rfl (kj.a rfl) (km.s (by first | exact .inl rfl | exact .inr rfl)) (km.r rfl)
    | skip
  · -- two that are made
    rcases kj.a rfl with (⟨v, b, hj⟩ | rfl) | hj
    · rcases km.a rfl with (⟨w, b', hm⟩ | rfl) | hm
      · rw [hj st] at h1; cases h1
        rw [hm _] at h2; cases h2
        refine ⟨_, hm st, ?_⟩
        rw [hj _]
        simp only []
        rw [upd_comm _ hne]
      · cases h2
      · exact pureM hm
    · cases h1
    · exact pureJ hj

end Go.Abs
end
/-
  THE ABSTRACT MACHINE IS THE MODEL's: regions.
-/
section
set_option linter.unusedSimpArgs false
set_option linter.unusedVariables false
namespace Go.Abs
open Go

section
variable {P : Program} {X : Ctx} (hX : CtxOk P X)
include hX

omit hX in
theorem buf_fp (sz : Nat) (v : PV) (st : St) : FpR none st (bufM sz v st) := by
  have key : FpR none st (frzM v st) := by
    unfold frzM
    split
    · exact kill_fp _ _
    · trivial
  unfold bufM
  split
  · exact Fp.fresh _ _
  · exact key

omit hX in
/-- What a walked operation shows of memory. -/
theorem wpO_ex {ops : Array Oper} {o : Oper} {a : Act} {w : World} {E : Prop} (h : wpO P ops (fun _ _ _ => False) o (fun _ _ => E) a w) : E := by
  have lets : ¬ LetsOut (fun _ _ _ => False) := fun ⟨_, _, h⟩ => h
  unfold wpO at h
  split at h
  · rcases h with h | ⟨_, h⟩
    · unfold Oper.wp at h
      generalize (execOp a.eval o).run P w = r at h
      cases r with
      | ok n w' =>
        cases n <;> simp only [Oper.upon] at h <;> first
          | exact h
          | exact h.elim
          | (obtain ⟨e, w', fr, hR, _⟩ := h []
             cases e with
             | returned v => exact hR
             | panicked _ => exact hR.elim
             | outgrown => exact (lets hR).elim)
          | (obtain ⟨v, w', hR, _⟩ := h default []; exact hR)
      | halt x w' => cases x <;> simp only [Oper.upon] at h
    · exact (lets h).elim
  · exact h

omit hX in
theorem step_ex {c : Cfg} {p : PV} {st' : St} {o : Oper} {a : Act} {ops : Array Oper} (h : StepOk P c (.ok p st') o a ops) : ∃ μ' w' v, Good ⟨st', μ', w', c.hid⟩ ∧ Evo c ⟨st', μ', w', c.hid⟩ ∧ Rep ⟨st', μ', w', c.hid⟩ p v :=
  wpO_ex (h (fun _ _ => ∃ μ' w' v, Good ⟨st', μ', w', c.hid⟩ ∧ Evo c ⟨st', μ', w', c.hid⟩ ∧ Rep ⟨st', μ', w', c.hid⟩ p v) (fun _ _ _ => False) fun μ' w' v h1 h2 h3 => ⟨μ', w', v, h1, h2, h3⟩)

omit hX in
theorem frz_fp {c : Cfg} {m : M} {o : Oper} {a : Act} {ops : Array Oper} (h : StepOk P c (m c.st) o a ops) (hf : FpR none c.st (m c.st)) : FpR none c.st (m.b frzM c.st) := by
  unfold M.b
  cases hm : m c.st with
  | fail => trivial
  | panic p st' => rw [hm] at hf; exact hf
  | ok p st' =>
    rw [hm] at hf h
    obtain ⟨μ', w', v, g', e', hr⟩ := step_ex h
    show FpR none c.st (frzM p st')
    unfold frzM
    split
    · exact Fp.trans hf e'.nx (kill_fp _ _)
    · trivial

theorem evOps_ok {c0 : Cfg} {N : Nat} {r : Res} (hr : r ≠ .fail) {Q : Exit → Act → World → Prop} {k : List PV → Prog} (hQ : Takes c0 N r k Q) (all : List Oper) : ∀ (os : List Oper) (c : Cfg) (s : List PV) (a : Act),
    c.hid = c0.hid → Evo c0 c → Fp none c0.st c.st → Sim c s a → s.length = N → (evOps X all os s k).run c.st = r → wpList P all.toArray Q os a c.w
  | [], c, s, a, hh, e0, f0, h, hN, he => hQ.nrm c s a hh e0 f0 h hN (by simpa only [evOps] using he)
  | o :: os, c, s, a, hh, e0, f0, h, hN, he => by
    have ih := evOps_ok hr hQ all os
    show wpO P all.toArray Q o (wpList P all.toArray Q os) a c.w
    rw [evOps] at he
    split at he
    · rename_i x hc
      split at he
      · rename_i sz _
        simp only [putK_eq] at he
        refine bind_step hh e0 f0 h hN hr hQ (m := bufM sz (opd s x)) (buf_ok h.good h.slots hc sz) (at_ := none) ?_ (by simp) he fun c' p v h1 h2 _ h3 _ _ h4 h5 h6 => ih c' _ _ h1 h2 h3 h4 h5 h6
        exact buf_fp _ _ _
      · simp only [putK_eq, getK_eq] at he
        exact bind_step hh e0 f0 h hN hr hQ (m := Abs.ret (opd s x)) (copy_ok h.good h.slots hc) (at_ := none) (Fp.refl _ _) (by simp) (k := fun v => (evOps X all os (putS s o.dst v) k).run) he fun c' p v h1 h2 _ h3 _ _ h4 h5 h6 => ih c' _ _ h1 h2 h3 h4 h5 h6
    · split at he
      · simp only [putK_eq] at he
        exact bind_step hh e0 f0 h hN hr hQ (m := (evG X all true none o s).b frzM) (frz_step (step_ok hX h.good h.slots (FreeId.none c) true all o)) (at_ := none) (frz_fp (step_ok hX h.good h.slots (FreeId.none c) true all o) (evG_fp hX all true none o h.good h.slots)) (by simp) he fun c' p v h1 h2 _ h3 _ _ h4 h5 h6 => ih c' _ _ h1 h2 h3 h4 h5 h6
      simp only [putK_eq] at he
      exact bind_step hh e0 f0 h hN hr hQ (step_ok hX h.good h.slots (FreeId.none c) true all o) (at_ := none) (evG_fp hX all true none o h.good h.slots) (by simp) he fun c' p v h1 h2 _ h3 _ _ h4 h5 h6 => ih c' _ _ h1 h2 h3 h4 h5 h6

/-! ### operations by their numbers -/
omit hX in
variable (X) in
def stepAt (ops : List Oper) (base i : Nat) (s : List PV) : M :=
  match ops[i]? with
  | some o => evG X ops (panicOk X ops i) (some (base + i)) o s
  | none => failM
def dstAt (ops : List Oper) (i : Nat) : Option Tmp := (ops[i]?).bind (·.dst)
variable (X) in
def runIs (ops : List Oper) (base : Nat) (k : List PV → Prog) : List Nat → List PV → M
  | [], s => (k s).run
  | i :: is, s => (stepAt X ops base i s).b fun v => runIs ops base k is (putS s (dstAt ops i) v)

omit hX in
theorem evG_copy {o : Oper} {x : Operand} (h : copyOf o = some x) (all : List Oper) (mp : Bool) (at_ : Option Nat) (s : List PV) : evG X all mp at_ o s = ret (opd s x) := by
  unfold copyOf at h
  split at h <;> cases h
  · rename_i h1 h2; unfold evG guardOf; simp only [h1]; unfold evOp; simp only [h2]
  · rename_i h1 h2; unfold evG guardOf; simp only [h1]; unfold evOp; simp only [h2]

omit hX in
theorem evOpsD_run (ops : List Oper) (base : Nat) (k : List PV → Prog) : ∀ (os : List Oper) (i : Nat) (s : List PV), ops.drop i = os → (evOpsD X ops base os i s k).run = runIs X ops base k (List.range' i os.length) s
  | [], i, s, h => by simp only [evOpsD, List.length_nil, List.range'_zero, runIs]
  | o :: os, i, s, h => by
    have hi : ops[i]? = some o := by
      have := congrArg (fun l => l[0]?) h
      simpa [List.getElem?_drop] using this
    have hd : ops.drop (i + 1) = os := by
      have := congrArg (fun l => l.drop 1) h
      simpa [List.drop_drop] using this
    have ih := evOpsD_run ops base k os (i + 1)
    rw [evOpsD]
    simp only [List.length_cons, List.range'_succ, runIs, stepAt, dstAt, hi, Option.bind_some]
    split
    · rename_i x hc
      simp only [putK_eq, getK_eq]
      rw [evG_copy hc, ih _ hd]
      rfl
    · simp only [putK_eq, Prog.run]
      congr 1
      funext v
      exact ih _ hd

/-! ### who waits for whom -/
omit hX in
theorem masksFrom_take : ∀ (os : List Oper) (acc : List Nat), (masksFrom os acc).take acc.length = acc
  | [], acc => by simp [masksFrom]
  | o :: os, acc => by
    have := masksFrom_take os (acc ++ [maskOf o acc])
    rw [masksFrom]
    have h2 := congrArg (fun l => l.take acc.length) this
    simp only [List.take_take] at h2
    rw [Nat.min_eq_left (by simp)] at h2
    rw [h2]; simp

omit hX in
theorem masksFrom_get : ∀ (os : List Oper) (acc : List Nat) (i x : Nat), (masksFrom os acc)[i]? = some x → i < acc.length ∨ (acc.length ≤ i ∧ ∃ o, os[i - acc.length]? = some o ∧ x = maskOf o ((masksFrom os acc).take i))
  | [], acc, i, x, h => by
    simp only [masksFrom] at h
    exact .inl (List.getElem?_eq_some_iff.1 h).1
  | o :: os, acc, i, x, h => by
    rw [masksFrom] at h ⊢
    rcases masksFrom_get os (acc ++ [maskOf o acc]) i x h with h1 | ⟨h1, o', h2, h3⟩
    · by_cases hi : i < acc.length
      · exact .inl hi
      · have hia : i = acc.length := by simp at h1; omega
        subst hia
        have ht := masksFrom_take os (acc ++ [maskOf o acc])
        have hx : (acc ++ [maskOf o acc])[acc.length]? = some x := by
          rw [← ht, List.getElem?_take, if_pos (by simp)]; exact h
        have h2 := congrArg (fun l => l.take acc.length) ht
        simp only [List.take_take] at h2
        rw [Nat.min_eq_left (by simp)] at h2
        refine .inr ⟨Nat.le_refl _, o, by simp, ?_⟩
        rw [h2]
        simp at hx ⊢; exact hx.symm
    · refine .inr ⟨by simp at h1; omega, o', ?_, h3⟩
      have hi : acc.length + 1 ≤ i := by simpa using h1
      have : i - acc.length = (i - (acc.length + 1)) + 1 := by omega
      rw [this]
      simpa using h2

omit hX in
theorem fold_bit (f : Edge → Nat) (p : Edge → Bool) (j : Nat) : ∀ (l : List Edge) (m : Nat), (l.foldl (fun m e => if p e then m ||| 2 ^ e.on ||| f e else m) m).testBit j = true → m.testBit j = true ∨ ∃ e ∈ l, p e = true ∧ (e.on = j ∨ (f e).testBit j = true)
  | [], m, h => .inl h
  | e :: l, m, h => by
    simp only [List.foldl_cons] at h
    rcases fold_bit f p j l _ h with h1 | ⟨e', he, h2⟩
    · split at h1
      · rename_i hp
        simp only [Nat.testBit_or, Bool.or_eq_true, Nat.testBit_two_pow, decide_eq_true_eq] at h1
        rcases h1 with (h1 | h1) | h1
        · exact .inl h1
        · exact .inr ⟨e, by simp, hp, .inl h1⟩
        · exact .inr ⟨e, by simp, hp, .inr h1⟩
      · exact .inl h1
    · exact .inr ⟨e', by simp [he], h2⟩

/-- What has been carried out, with all that it waits for. -/
def Closed (ops : List Oper) (listed : Array Bool) : Prop := ∀ (i : Nat) o, ops[i]? = some o → listed.getD i false = true → ∀ e ∈ o.after, Region.binds .any e = true → listed.getD e.on false = true

omit hX in
theorem waits_listed {ops : List Oper} {listed : Array Bool} (hc : Closed ops listed) : ∀ (i : Nat) o, ops[i]? = some o → (∀ e ∈ o.after, Region.binds .any e = true → listed.getD e.on false = true) → ∀ j, ((masks ops).getD i 0).testBit j = true → listed.getD j false = true := by
  intro i
  induction i using Nat.strongRecOn with
  | _ i ih =>
    intro o ho hl j hj
    cases hm : (masks ops)[i]? with
    | none => simp [List.getD, hm] at hj
    | some x =>
      rcases masksFrom_get ops [] i x hm with h | ⟨_, o', ho', hx⟩
      · simp at h
      · simp only [List.length_nil, Nat.sub_zero] at ho'
        rw [ho] at ho'; cases ho'
        have : (masks ops).getD i 0 = x := by simp [List.getD, hm]
        rw [this, hx] at hj
        unfold maskOf at hj
        rcases fold_bit _ _ _ _ _ hj with h | ⟨e, he, hp, h⟩
        · simp at h
        · have he' : e ∈ o.after := by simpa using he
          have hle := hl e he' hp
          rcases h with h | h
          · rw [← h]; exact hle
          · by_cases hlt : e.on < i
            · have hget : (List.take i (masksFrom ops [])).getD e.on 0 = (masks ops).getD e.on 0 := by
                simp only [List.getD, List.getElem?_take, if_pos hlt]; rfl
              rw [hget] at h
              cases hoe : ops[e.on]? with
              | none =>
                cases hm2 : (masks ops)[e.on]? with
                | none => simp [List.getD, hm2] at h
                | some y =>
                  rcases masksFrom_get ops [] e.on y hm2 with h' | ⟨_, o2, ho2, _⟩
                  · simp at h'
                  · simp only [List.length_nil, Nat.sub_zero] at ho2; rw [hoe] at ho2; cases ho2
              | some oe => exact ih e.on hlt oe hoe (hc e.on oe hoe hle) j h
            · rw [List.getD, List.getElem?_eq_none (by rw [List.length_take]; omega)] at h
              simp at h

omit hX in
/-- One waits for what stands ahead of it alone. -/
theorem mask_lt {ops : List Oper} (he : ∀ (i : Nat) o, ops[i]? = some o → ∀ e ∈ o.after, Region.binds .any e = true → e.on < i) : ∀ i p, ((masks ops).getD i 0).testBit p = true → p < i := by
  intro i
  induction i using Nat.strongRecOn with
  | _ i ih =>
    intro p hp
    cases hm : (masks ops)[i]? with
    | none => simp [List.getD, hm] at hp
    | some x =>
      rcases masksFrom_get ops [] i x hm with h | ⟨_, o, ho, hx⟩
      · simp at h
      · simp only [List.length_nil, Nat.sub_zero] at ho
        have : (masks ops).getD i 0 = x := by simp [List.getD, hm]
        rw [this, hx] at hp
        unfold maskOf at hp
        rcases fold_bit _ _ _ _ _ hp with h | ⟨e, hee, hb, h⟩
        · simp at h
        · have hlt := he i o ho e (by simpa using hee) hb
          rcases h with h | h
          · omega
          · have hget : (List.take i (masksFrom ops [])).getD e.on 0 = (masks ops).getD e.on 0 := by
              simp only [List.getD, List.getElem?_take, if_pos hlt]; rfl
            rw [hget] at h
            have := ih e.on hlt p h
            omega

/-- Addresses in different blocks. -/
def Disj (p q : PV) : Prop := (∃ i n a b j m c d, p = .ptr i n a b ∧ q = .ptr j m c d ∧ i ≠ j) ∨ (∃ x o i n a b, p = .cref x o ∧ q = .ptr i n a b) ∨ (∃ x o i n a b, p = .ptr i n a b ∧ q = .cref x o)

omit hX in
theorem apartM_ok {p q v : PV} {st st' : St} (h : apartM p q st = .ok v st') : Disj p q ∧ st' = st := by
  unfold apartM at h
  split at h
  · split at h
    · cases h
    · rename_i hne; cases h; exact ⟨.inl ⟨_, _, _, _, _, _, _, _, rfl, rfl, hne⟩, rfl⟩
  · cases h; exact ⟨.inr (.inl ⟨_, _, _, _, _, _, rfl, rfl⟩), rfl⟩
  · cases h; exact ⟨.inr (.inr ⟨_, _, _, _, _, _, rfl, rfl⟩), rfl⟩
  · cases h

omit hX in
theorem apartM_np {p q v : PV} {st st' : St} : apartM p q st ≠ .panic v st' := by
  intro h
  unfold apartM at h
  split at h
  · split at h <;> cases h
  · cases h
  · cases h
  · cases h

omit hX in
theorem chk_run : ∀ (ps : List (Tmp × Tmp)) (s : List PV) (k : List PV → Prog) (st : St) (r : Res), r ≠ .fail → (chk ps s k).run st = r → (k s).run st = r ∧ ∀ x ∈ ps, Disj (s.getD x.1 .junk) (s.getD x.2 .junk)
  | [], s, k, st, r, hr, h => ⟨h, fun x hx => by simp at hx⟩
  | (a, b) :: ps, s, k, st, r, hr, h => by
    simp only [chk, Prog.run, M.b] at h
    cases hm : apartM (s.getD a .junk) (s.getD b .junk) st with
    | fail => rw [hm] at h; exact (hr h.symm).elim
    | panic p st' =>
      exact (apartM_np hm).elim
    | ok v st' =>
      rw [hm] at h
      obtain ⟨h1, rfl⟩ := apartM_ok hm
      obtain ⟨h2, h3⟩ := chk_run ps s k st' r hr h
      refine ⟨h2, fun x hx => ?_⟩
      rcases List.mem_cons.1 hx with rfl | hx
      · exact h1
      · exact h3 x hx

omit hX in
theorem load_store {q : Option Nat} {n : Nat} {p p' x v u : PV} {st st' : St} (h1 : storeM n p' x st = .ok u st') (hd : Disj p p') : (loadM q p st = .ok v st → loadM q p st' = .ok v st') ∧ (loadM q p st' = .ok v st' → loadM q p st = .ok v st) := by
  have hst : ∃ i m a b bl, p' = .ptr i m a b ∧ st' = { st with H := upd st.H i bl } := by
    unfold storeM at h1
    repeat' split at h1
    all_goals first | (cases h1; done) | (cases h1; exact ⟨_, _, _, _, _, rfl, rfl⟩)
  obtain ⟨i, m, a, b, bl, rfl, rfl⟩ := hst
  have key : ∀ j n c d, p = .ptr j n c d → j ≠ i → upd st.H i bl j = st.H j := fun j n c d _ hne => upd_other _ _ hne
  rcases hd with ⟨i', n', a', b', j, m', c, d, rfl, hq, hne⟩ | ⟨y, o, i', n', a', b', rfl, hq⟩ | ⟨y, o, i', n', a', b', rfl, hq⟩
  · cases hq
    have e := upd_other st.H bl hne
    unfold loadM
    simp only [e]
    cases st.H i' with
    | none => simp
    | some bl' =>
      simp only []
      split
      · split
        · constructor <;> intro h <;> (rename_i y hy; revert h; cases part q y b' <;> simp [opt, ret, failM])
        · simp
      · simp
  · unfold loadM
    simp only []
    constructor <;> intro h <;> (revert h; cases part q y o <;> simp [opt, ret, failM])
  · cases hq

omit hX in
theorem store_store {n n' : Nat} {p p' x y u w : PV} {st st1 st2 : St} (h1 : storeM n p x st = .ok u st1) (h2 : storeM n' p' y st1 = .ok w st2) (hd : Disj p p') : ∃ st1', storeM n' p' y st = .ok w st1' ∧ storeM n p x st1' = .ok u st2 := by
  have sp : ∀ {n : Nat} {p x u : PV} {st st' : St}, storeM n p x st = .ok u st' → ∃ i m a b bl bl', p = .ptr i m a b ∧ st.H i = some bl ∧ u = .tup [] ∧ st' = { st with H := upd st.H i (some bl') } ∧ ∀ st2 : St, st2.H i = some bl → storeM n p x st2 = .ok (.tup []) { st2 with H := upd st2.H i (some bl') } := by
    intro n p x u st st' h
    unfold storeM at h
    split at h
    · rename_i i m a b
      split at h
      · rename_i bl hb
        split at h
        · rename_i hc
          split at h
          · rename_i z hz
            split at h
            · rename_i y hy
              cases h
              refine ⟨i, m, a, b, bl, _, rfl, hb, rfl, rfl, fun st2 h2 => ?_⟩
              unfold storeM
              simp only [h2, hc, and_self, if_true, hz, hy]
            · cases h
          · cases h
        · cases h
      · cases h
    · cases h
  obtain ⟨i, m, a, b, bl, bl', rfl, e1, rfl, rfl, f1⟩ := sp h1
  obtain ⟨j, m', a', b', bj, bj', rfl, e2, rfl, rfl, f2⟩ := sp h2
  have hne : i ≠ j := by
    rcases hd with ⟨_, _, _, _, _, _, _, _, h3, h4, hne⟩ | ⟨_, _, _, _, _, _, h3, _⟩ | ⟨_, _, _, _, _, _, _, h3⟩
    · cases h3; cases h4; exact hne
    · cases h3
    · cases h3
  have e2' : st.H j = some bj := by
    have := upd_other st.H (some bl') (Ne.symm hne)
    have e3 : upd st.H i (some bl') j = some bj := e2
    rw [this] at e3; exact e3
  refine ⟨_, f2 st e2', ?_⟩
  rw [f1 _ (by show upd st.H j (some bj') i = some bl; rw [upd_other _ _ hne]; exact e1)]
  simp only []
  rw [upd_comm _ hne]

end
end Go.Abs
end
/-
  THE ABSTRACT MACHINE IS THE MODEL's: regions that draw their order.
-/
section
set_option linter.unusedSimpArgs false
set_option linter.unusedVariables false
namespace Go.Abs
open Go

def FreeRes (X : Ctx) (ops : List Oper) (base : Nat) (st : St) (is : List Nat) : Prop :=
  ∀ i ∈ is, ∀ o, ops[i]? = some o → clsOp X o = .A → base + i < st.nx ∧ st.H (base + i) = none ∧ st.dead (base + i) = false

section
variable {P : Program} {X : Ctx} (hX : CtxOk P X)
include hX

theorem stepAt_ok {c : Cfg} (g : Good c) {s : List PV} {a : Act} (hs : Slots c s a.tmps) {ops : List Oper} {base i : Nat} {o : Oper} (ho : ops[i]? = some o) (hf : FreeRes X ops base c.st [i]) :
    StepOk P c (stepAt X ops base i s c.st) o a ops.toArray ∧ ∃ at_, FpR at_ c.st (stepAt X ops base i s c.st) ∧ ∀ id, at_ = some id → id = base + i ∧ clsOp X o = .A := by
  unfold stepAt
  simp only [ho]
  by_cases h : clsOp X o = .A
  · exact ⟨step_ok hX g hs (fun id e => by cases e; exact hf i (by simp) o ho h) _ _ _, _, evG_fp hX ops _ (some (base + i)) o g hs, fun id e => by cases e; exact ⟨rfl, h⟩⟩
  · rw [evG_at h ops _ (some (base + i)) none s]
    exact ⟨step_ok hX g hs (FreeId.none c) _ _ _, _, evG_fp hX ops _ none o g hs, fun id e => by cases e⟩

omit hX in
theorem FreeRes.step {ops : List Oper} {base i : Nat} {st st' : St} {is : List Nat} (h : FreeRes X ops base st is) {at_ : Option Nat} (hf : Fp at_ st st') (hn : st.nx ≤ st'.nx) (hat : ∀ id, at_ = some id → id = base + i) (hni : i ∉ is) : FreeRes X ops base st' is := by
  intro j hj o ho hA
  obtain ⟨h1, h2, h3⟩ := h j hj o ho hA
  have hne : j ≠ i := fun e => hni (e ▸ hj)
  obtain ⟨k1, k2⟩ := hf (base + j) h1 (fun e => by have := hat _ e; omega) h2 h3
  exact ⟨by omega, k1, k2⟩

omit hX in
theorem drawOk_pair {ops : List Oper} (h : drawOk X ops = true) {i j : Nat} {oi oj : Oper} (hi : ops[i]? = some oi) (hj : ops[j]? = some oj) (hlt : j < i) (hw : ((masks ops).getD i 0).testBit j = false) :
    Oper.apart ops.toArray oj oi = true ∧ (compat (clsOp X oj) (clsOp X oi) = true ∨ cellOk ops (masks ops) j i oj oi = true) := by
  have hil : i < ops.length := (List.getElem?_eq_some_iff.1 hi).1
  simp only [drawOk, List.all_eq_true, List.mem_range, Bool.and_eq_true] at h
  have := (h i hil).2 j hlt
  simp only [pairOk, hi, hj, hw, Bool.false_or, Bool.and_eq_true, Bool.or_eq_true] at this
  exact this

omit hX in
theorem drawOk_edge {ops : List Oper} (h : drawOk X ops = true) {i : Nat} {o : Oper} (hi : ops[i]? = some o) {e : Edge} (he : e ∈ o.after) (hb : Region.binds .any e = true) : e.on < i := by
  have hil : i < ops.length := (List.getElem?_eq_some_iff.1 hi).1
  simp only [drawOk, List.all_eq_true, List.mem_range, Bool.and_eq_true] at h
  have := (h i hil).1
  simp only [hi, List.all_eq_true] at this
  have h2 := this e (by simpa using he)
  simp only [hb, Bool.not_true, Bool.false_or] at h2
  simpa using h2

omit hX in
theorem panicOk_behind {ops : List Oper} {i j : Nat} (h : panicOk X ops i = true) (hj : j < ops.length) (hlt : i < j) : ((masks ops).getD j 0).testBit i = true := by
  simp only [panicOk, List.all_eq_true, List.mem_range, Bool.and_eq_true, Bool.or_eq_true] at h
  rcases h.1.2 j hj with h | h
  · have : j ≤ i := by simpa using h
    omega
  · exact h

omit hX in
theorem panicOk_ahead {ops : List Oper} {i j : Nat} (h : panicOk X ops i = true) (hlt : j < i) (hw : ((masks ops).getD i 0).testBit j = false) {o : Oper} (ho : ops[j]? = some o) : clsOp X o = .P ∨ clsOp X o = .R ∨ clsOp X o = .Q := by
  simp only [panicOk, List.all_eq_true, List.mem_range, Bool.and_eq_true, Bool.or_eq_true] at h
  rcases h.2 j hlt with h | h
  · rw [hw] at h; cases h
  · rw [ho] at h
    simp only [] at h
    cases hc : clsOp X o <;> simp [hc] at h ⊢

omit hX in
theorem panicOk_pairs {ops : List Oper} {i : Nat} (h : panicOk X ops i = true) : cellPairs X ops = [] := by
  simp only [panicOk, Bool.and_eq_true] at h
  simpa using h.1.1

omit hX in
theorem b_eq {m : M} {k : PV → M} {st : St} {r : Res} (hr : r ≠ .fail) (h : M.b m k st = r) : (∃ v st1, m st = .ok v st1 ∧ k v st1 = r) ∨ (∃ p st1, m st = .panic p st1 ∧ r = .panic p st1) := by
  simp only [M.b] at h
  cases hm : m st with
  | ok v st1 => rw [hm] at h; exact .inl ⟨v, st1, rfl, h⟩
  | panic p st1 => rw [hm] at h; exact .inr ⟨p, st1, rfl, h.symm⟩
  | fail => rw [hm] at h; exact (hr h.symm).elim

omit hX in
theorem runIs_final {ops : List Oper} {base : Nat} {k : List PV → Prog} (hnp : ∀ i s, NoPan (stepAt X ops base i s)) : ∀ (is : List Nat) (s : List PV) (st : St) (r : Res), r ≠ .fail → runIs X ops base k is s st = r →
    ∃ sf stf, (k sf).run stf = r ∧ ∀ t, (∀ i ∈ is, dstAt ops i ≠ some t) → sf.getD t .junk = s.getD t .junk
  | [], s, st, r, hr, h => ⟨s, st, h, fun t _ => rfl⟩
  | i :: is, s, st, r, hr, h => by
    rw [runIs] at h
    rcases b_eq hr h with ⟨v, st1, h1, h2⟩ | ⟨p, st1, h1, _⟩
    · obtain ⟨sf, stf, k1, k2⟩ := runIs_final hnp is _ st1 r hr h2
      refine ⟨sf, stf, k1, fun t ht => ?_⟩
      rw [k2 t fun j hj => ht j (by simp [hj])]
      have hne := ht i (by simp)
      cases hd : dstAt ops i with
      | none => rfl
      | some d =>
        have : d ≠ t := fun e => hne (by rw [hd, e])
        simp only [putS, List.getD, List.getElem?_set_ne this]
    · exact (hnp i s _ _ _ h1).elim

omit hX in
theorem addrOf_load {o : Oper} {a : Tmp} (h : addrOf o = some (a, false)) (all : List Oper) (mp : Bool) (at_ : Option Nat) (s : List PV) : (∃ q, evG X all mp at_ o s = loadM q (s.getD a .junk)) ∨ evG X all mp at_ o s = failM := by
  unfold addrOf at h
  split at h
  · rename_i t b hg ho
    cases h
    have e : evG X all mp at_ o s = evOp X mp at_ o s := by unfold evG guardOf; simp only [hg]
    rw [e]; unfold evOp; simp only [ho, opd]
    cases (X.T t).pt with
    | none => exact .inr rfl
    | some q => exact .inl ⟨q, rfl⟩
  · cases h
  · cases h

omit hX in
theorem addrOf_store {o : Oper} {a : Tmp} (h : addrOf o = some (a, true)) (all : List Oper) (mp : Bool) (at_ : Option Nat) (s : List PV) : (∃ n x, evG X all mp at_ o s = storeM n (s.getD a .junk) x) ∨ evG X all mp at_ o s = failM := by
  unfold addrOf at h
  split at h
  · cases h
  · rename_i t b v hg ho
    cases h
    have e : evG X all mp at_ o s = evOp X mp at_ o s := by unfold evG guardOf; simp only [hg]
    rw [e]; unfold evOp; simp only [ho, opd, ifU]
    cases (X.T t).usable with
    | false => exact .inr rfl
    | true => exact .inl ⟨_, _, rfl⟩
  · cases h

omit hX in
/-- Two, of which one writes, in different blocks. -/
theorem swap_cells {oj om : Oper} {a b : Tmp} (h : cellPair oj om = some (a, b)) (all : List Oper) (pj pm : Bool) (aj am : Option Nat) {s : List PV} (hd : Disj (s.getD a .junk) (s.getD b .junk)) {st st1 st2 : St} {vj vm : PV}
    (h1 : evG X all pj aj oj s st = .ok vj st1) (h2 : evG X all pm am om s st1 = .ok vm st2) : ∃ st1', evG X all pm am om s st = .ok vm st1' ∧ evG X all pj aj oj s st1' = .ok vj st2 := by
  have hds : Disj (s.getD b .junk) (s.getD a .junk) := by
    rcases hd with ⟨i, n, x, y, j, m, c, d, h1, h2, hne⟩ | ⟨x, o, i, n, y, z, h1, h2⟩ | ⟨x, o, i, n, y, z, h1, h2⟩
    · exact .inl ⟨j, m, c, d, i, n, x, y, h2, h1, Ne.symm hne⟩
    · exact .inr (.inr ⟨x, o, i, n, y, z, h2, h1⟩)
    · exact .inr (.inl ⟨x, o, i, n, y, z, h2, h1⟩)
  unfold cellPair at h
  split at h
  · rename_i a' p b' q ha hb
    cases p <;> cases q <;> simp only [Bool.or_self, Bool.or_true, Bool.true_or, Bool.or_false, Bool.false_or, cond_true, cond_false] at h <;> (try (cases h; done)) <;> cases h
    · -- it reads, then one writes
      rcases addrOf_load (X := X) ha all pj aj s with ⟨q, ej⟩ | ej <;> rw [ej] at h1 ⊢
      · rcases addrOf_store (X := X) hb all pm am s with ⟨n, x, em⟩ | em <;> rw [em] at h2 ⊢
        · have e1 : st1 = st := by
            rcases still_load q (s.getD a .junk) st with ⟨v, e⟩ | ⟨v, e⟩ | e <;> rw [e] at h1 <;> cases h1; rfl
          subst e1
          exact ⟨st2, h2, (load_store h2 hd).1 h1⟩
        · cases h2
      · cases h1
    · -- one writes, then it reads
      rcases addrOf_store (X := X) ha all pj aj s with ⟨n, x, ej⟩ | ej <;> rw [ej] at h1 ⊢
      · rcases addrOf_load (X := X) hb all pm am s with ⟨q, em⟩ | em <;> rw [em] at h2 ⊢
        · have e1 : st2 = st1 := by
            rcases still_load q (s.getD b .junk) st1 with ⟨v, e⟩ | ⟨v, e⟩ | e <;> rw [e] at h2 <;> cases h2; rfl
          subst e1
          exact ⟨st, (load_store h1 hds).2 h2, h1⟩
        · cases h2
      · cases h1
    · rcases addrOf_store (X := X) ha all pj aj s with ⟨n, x, ej⟩ | ej <;> rw [ej] at h1 ⊢
      · rcases addrOf_store (X := X) hb all pm am s with ⟨n', y, em⟩ | em <;> rw [em] at h2 ⊢
        · exact store_store h1 h2 hd
        · cases h2
      · cases h1
  · cases h

omit hX in
theorem mem_cellPairs {ops : List Oper} {i j : Nat} {oi oj : Oper} {x : Tmp × Tmp} (hi : ops[i]? = some oi) (hj : ops[j]? = some oj) (hlt : j < i) (hw : ((masks ops).getD i 0).testBit j = false) (hc : compat (clsOp X oj) (clsOp X oi) = false) (hx : cellPair oj oi = some x) : x ∈ cellPairs X ops := by
  unfold cellPairs
  simp only [List.mem_flatMap, List.mem_range]
  refine ⟨i, (List.getElem?_eq_some_iff.1 hi).1, j, hlt, ?_⟩
  simp only [hi, hj, hw, hc, Bool.or_self, cond_false, hx, Option.toList_some, List.mem_singleton]

/-- An operation that waits for none of those ahead of it may be carried out first. -/
theorem front {ops : List Oper} {base : Nat} {k0 k : List PV → Prog} (hk : k = fun s => chk (cellPairs X ops) s k0) (hd : drawOk X ops = true) {m : Nat} {om : Oper} (hm : ops[m]? = some om) {r : Res} (hr : r ≠ .fail) (ks : List Nat) : ∀ (js : List Nat) (c : Cfg) (s : List PV) (a : Act),
    Sim c s a → FreeRes X ops base c.st (m :: js) → (m :: js).Nodup → (js ++ m :: ks).Pairwise (· < ·) → (∀ j ∈ js, j < m ∧ ((masks ops).getD m 0).testBit j = false) → runIs X ops base k (js ++ m :: ks) s c.st = r → runIs X ops base k (m :: (js ++ ks)) s c.st = r
  | [], c, s, a, h, hf, hnd, hso, hw, he => he
  | j :: js, c, s, a, h, hf, hnd, hso, hw, he => by
    obtain ⟨hjm, hwj⟩ := hw j (by simp)
    have hml : m < ops.length := (List.getElem?_eq_some_iff.1 hm).1
    obtain ⟨oj, hoj⟩ : ∃ oj, ops[j]? = some oj := ⟨_, List.getElem?_eq_getElem (by omega)⟩
    obtain ⟨hap, hco⟩ := drawOk_pair hd hm hoj hjm hwj
    obtain ⟨ap1, ap2, ap3⟩ := Oper.apart_spec hap
    have hfj : FreeRes X ops base c.st [j] := fun i hi => hf i (by simp at hi; simp [hi])
    have hfm : FreeRes X ops base c.st [m] := fun i hi => hf i (by simp at hi; simp [hi])
    obtain ⟨hok, at_, hfp, hat⟩ := stepAt_ok hX h.good h.slots hoj hfj
    rw [List.cons_append, runIs] at he
    -- the two operations' outcomes, read at this place
    have stepJ : ∀ s, stepAt X ops base j s = evG X ops (panicOk X ops j) (some (base + j)) oj s := fun s => by unfold stepAt; simp only [hoj]
    have stepM : ∀ s, stepAt X ops base m s = evG X ops (panicOk X ops m) (some (base + m)) om s := fun s => by unfold stepAt; simp only [hm]
    have dJ : dstAt ops j = oj.dst := by simp [dstAt, hoj]
    have dM : dstAt ops m = om.dst := by simp [dstAt, hm]
    rcases b_eq hr he with ⟨vj, st1, h1, he1⟩ | ⟨p, st1, h1, hp⟩
    · -- it goes on
      rw [h1] at hok hfp
      obtain ⟨μ', w', v, g1, e1, hrep⟩ := step_ex hok
      have hs1 : Sim ⟨st1, μ', w', c.hid⟩ (putS s oj.dst vj) (a.put oj.dst v) := h.put g1 e1 oj.dst hrep
      have hnd' : (m :: js).Nodup := by
        simp only [List.nodup_cons, List.mem_cons, not_or] at hnd ⊢
        exact ⟨hnd.1.2, hnd.2.2⟩
      have hjn : j ∉ m :: js := by
        simp only [List.nodup_cons, List.mem_cons, not_or] at hnd ⊢
        exact ⟨fun e => hnd.1.1 e.symm, hnd.2.1⟩
      have hf1 : FreeRes X ops base st1 (m :: js) := by
        refine FreeRes.step (i := j) (fun i hi => hf i ?_) hfp e1.nx (fun id e => (hat id e).1) hjn
        simp only [List.mem_cons] at hi ⊢
        rcases hi with hi | hi
        · exact .inl hi
        · exact .inr (.inr hi)
      rw [dJ] at he1
      have ih := front hk hd hm hr ks js ⟨st1, μ', w', c.hid⟩ (putS s oj.dst vj) (a.put oj.dst v) hs1 hf1 hnd' (List.pairwise_cons.1 hso).2 (fun i hi => hw i (by simp [hi])) he1
      rw [runIs] at ih
      have putM : stepAt X ops base m (putS s oj.dst vj) = stepAt X ops base m s := by rw [stepM, stepM]; exact evG_put _ _ _ _ _ _ _ ap1
      rw [putM, dM] at ih
      rcases b_eq hr ih with ⟨vm, st2, h2, he2⟩ | ⟨p, st2, h2, hp⟩
      · have kj := evG_cls (X := X) ops (panicOk X ops j) (base + j) oj h.good h.slots
        have km := evG_cls (X := X) ops (panicOk X ops m) (base + m) om h.good h.slots
        rw [← stepJ] at kj
        rw [← stepM] at km
        have hsw : ∃ st1', stepAt X ops base m s c.st = .ok vm st1' ∧ stepAt X ops base j s st1' = .ok vj st2 := by
          cases hcb : compat (clsOp X oj) (clsOp X om) with
          | true => exact swap kj km hcb (by omega) (fun hA => (hfj j (by simp) oj hoj hA).2) (fun hA => (hfm m (by simp) om hm hA).2) h1 h2
          | false =>
            have hcell := hco.resolve_left (by simp [hcb])
            unfold cellOk at hcell
            cases hcp : cellPair oj om with
            | none => rw [hcp] at hcell; cases hcell
            | some ab =>
              obtain ⟨a1, b1⟩ := ab
              rw [hcp] at hcell
              simp only [Bool.and_eq_true] at hcell
              have hmem := mem_cellPairs hm hoj hjm hwj hcb hcp
              have hne : cellPairs X ops ≠ [] := fun e => by rw [e] at hmem; simp at hmem
              have hnp : ∀ i s, NoPan (stepAt X ops base i s) := fun i s => by
                unfold stepAt
                cases ops[i]? with
                | none => exact pure_fail.noPan
                | some o =>
                  simp only []
                  have hpf : panicOk X ops i = false := by
                    cases hpp : panicOk X ops i with
                    | false => rfl
                    | true => exact (hne (panicOk_pairs hpp)).elim
                  rw [hpf]
                  exact evG_noPan _ _ _ _
              obtain ⟨sf, stf, f1, f2⟩ := runIs_final hnp _ _ _ _ hr he2
              rw [hk] at f1
              obtain ⟨_, f3⟩ := chk_run _ _ _ _ _ hr f1
              have hdisj := f3 _ hmem
              have hedge : ∀ (i : Nat) o, ops[i]? = some o → ∀ e ∈ o.after, Region.binds .any e = true → e.on < i := fun i o ho e he hb => drawOk_edge hd ho he hb
              have settle : ∀ {i : Nat} {t : Tmp}, settled ops (masks ops) i t = true → ∀ p, dstAt ops p = some t → ((masks ops).getD i 0).testBit p = true := fun {i t} hs p hp => by
                simp only [settled, List.all_eq_true, List.mem_range, Bool.or_eq_true] at hs
                unfold dstAt at hp
                cases hop : ops[p]? with
                | none => rw [hop] at hp; cases hp
                | some o =>
                  have hpl := (List.getElem?_eq_some_iff.1 hop).1
                  rcases hs p hpl with h | h
                  · rw [hop] at hp h
                    simp only [Option.bind_some] at hp
                    simp [hp] at h
                  · exact h
              have hsj : ∀ p ∈ js ++ m :: ks, j < p := (List.pairwise_cons.1 hso).1
              have hsm : ∀ p ∈ ks, m < p := (List.pairwise_cons.1 (List.pairwise_append.1 (List.pairwise_cons.1 hso).2).2.1).1
              have na : ∀ p, j ≤ p → dstAt ops p ≠ some a1 := fun p hp e => by
                have := mask_lt hedge j p (settle hcell.1 p e); omega
              have nb : ∀ p, p = j ∨ p = m ∨ p ∈ js ++ ks → dstAt ops p ≠ some b1 := fun p hp e => by
                have hbit := settle hcell.2 p e
                have hlt := mask_lt hedge m p hbit
                rcases hp with rfl | rfl | hp
                · rw [hwj] at hbit; cases hbit
                · omega
                · rcases List.mem_append.1 hp with hp | hp
                  · rw [(hw p (by simp [hp])).2] at hbit; cases hbit
                  · have := hsm p hp; omega
              have gp : ∀ (s : List PV) (d : Option Tmp) (v : PV) (t : Tmp), d ≠ some t → (putS s d v).getD t .junk = s.getD t .junk := fun s d v t hne => by
                cases d with
                | none => rfl
                | some d =>
                  have : d ≠ t := fun e => hne (by rw [e])
                  simp only [putS, List.getD, List.getElem?_set_ne this]
              have ea : sf.getD a1 .junk = s.getD a1 .junk := by
                rw [f2 a1 (fun p hp => na p (by
                  have : p ∈ js ++ m :: ks := by
                    rcases List.mem_append.1 hp with hp | hp
                    · simp [hp]
                    · simp [hp]
                  have := hsj p this; omega)), gp _ _ _ _ (by rw [← dM]; exact na m (by omega)), gp _ _ _ _ (by rw [← dJ]; exact na j (Nat.le_refl _))]
              have eb : sf.getD b1 .junk = s.getD b1 .junk := by
                rw [f2 b1 (fun p hp => nb p (.inr (.inr hp))), gp _ _ _ _ (by rw [← dM]; exact nb m (.inr (.inl rfl))), gp _ _ _ _ (by rw [← dJ]; exact nb j (.inl rfl))]
              rw [ea, eb] at hdisj
              have h1' := h1
              have h2' := h2
              rw [stepJ] at h1'
              rw [stepM] at h2'
              rw [stepM, stepJ]
              exact swap_cells hcp _ _ _ _ _ hdisj h1' h2'
        obtain ⟨st1', s1, s2⟩ := hsw
        rw [runIs]
        simp only [M.b, s1, Res.thn]
        rw [List.cons_append, runIs]
        have putJ : stepAt X ops base j (putS s (dstAt ops m) vm) = stepAt X ops base j s := by rw [stepJ, stepJ, dM]; exact evG_put _ _ _ _ _ _ _ ap3
        rw [putJ]
        simp only [M.b, s2, Res.thn]
        rw [dM, dJ, ← putS_comm s vj vm ap2]
        exact he2
      · -- the other one panics
        have hmp : panicOk X ops m = true := by
          cases hpm : panicOk X ops m with
          | true => rfl
          | false => rw [stepM, hpm] at h2; exact (evG_noPan _ _ _ _ _ _ _ h2).elim
        have hcl := panicOk_ahead hmp hjm hwj hoj
        have hst : Still (stepAt X ops base j s) := by
          have kj := evG_cls (X := X) ops (panicOk X ops j) (base + j) oj h.good h.slots
          rw [← stepJ] at kj
          rcases hcl with hc | hc | hc
          · exact (kj.p hc).still
          · exact kj.s (.inl hc)
          · exact kj.s (.inr hc)
        have e1 : st1 = c.st := by
          rcases hst c.st with ⟨v, e⟩ | ⟨p, e⟩ | e <;> rw [e] at h1 <;> cases h1; rfl
        rw [runIs]
        have h2' : stepAt X ops base m s c.st = .panic p st2 := by rw [← e1]; exact h2
        simp only [M.b, h2', Res.thn]
        exact hp.symm
    · -- it panics: then the other one waits for it
      have hmp : panicOk X ops j = true := by
        cases hpm : panicOk X ops j with
        | true => rfl
        | false => rw [stepJ, hpm] at h1; exact (evG_noPan _ _ _ _ _ _ _ h1).elim
      have := panicOk_behind hmp hml hjm
      rw [hwj] at this; cases this

/-! ### every order -/
def rest (n : Nat) (listed : Array Bool) : List Nat := (List.range n).filter fun i => !listed.getD i false

omit hX in
theorem mem_rest {n i : Nat} {listed : Array Bool} : i ∈ rest n listed ↔ i < n ∧ listed.getD i false = false := by
  simp [rest]

omit hX in
theorem rest_sorted (n : Nat) (listed : Array Bool) : (rest n listed).Pairwise (· < ·) := (List.pairwise_lt_range).filter _

omit hX in
theorem rest_split {n m : Nat} {listed : Array Bool} (hs : listed.size = n) (hm : m ∈ rest n listed) : ∃ js ks, rest n listed = js ++ m :: ks ∧ rest n (listed.setIfInBounds m true) = js ++ ks ∧ (m :: js).Nodup ∧ (∀ j ∈ js, j < m) ∧ m ∉ js ++ ks ∧ ∀ j ∈ js ++ ks, j ∈ rest n listed := by
  obtain ⟨js, ks, he⟩ := List.append_of_mem hm
  have hso := rest_sorted n listed
  rw [he, List.pairwise_append] at hso
  obtain ⟨s1, s2, s3⟩ := hso
  have hlt : ∀ j ∈ js, j < m := fun j hj => s3 j hj m (by simp)
  have hgt : ∀ j ∈ ks, m < j := fun j hj => (List.pairwise_cons.1 s2).1 j hj
  have hmn := (mem_rest.1 hm)
  refine ⟨js, ks, he, ?_, ?_, hlt, ?_, ?_⟩
  · have : rest n (listed.setIfInBounds m true) = (rest n listed).filter (fun i => i != m) := by
      unfold rest
      rw [List.filter_filter]
      apply List.filter_congr
      intro i hi
      by_cases him : i = m
      · subst him
        have : (listed.setIfInBounds i true).getD i false = true := by simp [hs, hmn.1]
        rw [this]; simp
      · have : (listed.setIfInBounds m true).getD i false = listed.getD i false := getD_set_ne false (Ne.symm him)
        rw [this]; simp [him]
    rw [this, he, List.filter_append, List.filter_cons]
    have f1 : js.filter (fun i => i != m) = js := List.filter_eq_self.2 fun j hj => by have := hlt j hj; simp; omega
    have f2 : ks.filter (fun i => i != m) = ks := List.filter_eq_self.2 fun j hj => by have := hgt j hj; simp; omega
    rw [f1, f2]; simp
  · rw [List.nodup_cons]
    exact ⟨fun h => by have := hlt m h; omega, s1.imp fun h => by omega⟩
  · intro h
    rcases List.mem_append.1 h with h | h
    · have := hlt m h; omega
    · have := hgt m h; omega
  · intro j hj
    rw [he]
    rcases List.mem_append.1 hj with h | h
    · simp [h]
    · simp [h]

theorem draw_any {c0 : Cfg} {N : Nat} {r : Res} (hr : r ≠ .fail) {Q : Exit → Act → World → Prop} {k0 k : List PV → Prog} {ops : List Oper} (hk : k = fun s => chk (cellPairs X ops) s k0) (hQ : Takes c0 N r k Q) {base : Nat} (hd : drawOk X ops = true)
    (hbase : ∀ (i : Nat) o, ops[i]? = some o → clsOp X o = .A → c0.st.nx ≤ base) : ∀ (fuel : Nat) (listed : Array Bool) (c : Cfg) (s : List PV) (a : Act),
    listed.size = ops.length → (rest ops.length listed).length ≤ fuel → Closed ops listed → c.hid = c0.hid → Evo c0 c → Fp none c0.st c.st → Sim c s a → s.length = N → FreeRes X ops base c.st (rest ops.length listed) →
    runIs X ops base k (rest ops.length listed) s c.st = r → wpAny P .any ops.toArray Q fuel listed a c.w := by
  have ready : ∀ {listed : Array Bool} {i : Nat}, listed.size = ops.length → i ∈ Region.ready .any ops.toArray listed → i ∈ rest ops.length listed ∧ ∃ o, ops[i]? = some o ∧ ∀ e ∈ o.after, Region.binds .any e = true → listed.getD e.on false = true := by
    intro listed i hs hi
    obtain ⟨h1, o, h2, h3⟩ := mem_ready.1 hi
    have h2' : ops[i]? = some o := by simpa using h2
    have hlt : i < ops.length := (List.getElem?_eq_some_iff.1 h2').1
    refine ⟨mem_rest.2 ⟨hlt, ?_⟩, o, h2', h3⟩
    have hlt' : i < listed.size := by omega
    simpa [Array.getD, hlt'] using h1
  -- where nothing is ready, all is done
  have done : ∀ {listed : Array Bool}, listed.size = ops.length → Region.ready .any ops.toArray listed = [] → rest ops.length listed = [] := by
    intro listed hs hn
    cases hre : rest ops.length listed with
    | nil => rfl
    | cons m ks =>
      exfalso
      have hm : m ∈ rest ops.length listed := by rw [hre]; simp
      obtain ⟨hml, hmf⟩ := mem_rest.1 hm
      have hso := rest_sorted ops.length listed
      rw [hre, List.pairwise_cons] at hso
      have : m ∈ Region.ready .any ops.toArray listed := by
        refine mem_ready.2 ⟨?_, ops[m], by simp [hml], fun e he hb => ?_⟩
        · have hlt' : m < listed.size := by omega
          simpa [Array.getD, hlt'] using hmf
        · have hlt := drawOk_edge hd (List.getElem?_eq_getElem hml) he hb
          cases hle : listed.getD e.on false with
          | true => rfl
          | false =>
            have : e.on ∈ rest ops.length listed := mem_rest.2 ⟨by omega, hle⟩
            rw [hre] at this
            rcases List.mem_cons.1 this with h | h
            · omega
            · have := hso.1 _ h; omega
      rw [hn] at this; simp at this
  intro fuel
  induction fuel with
  | zero =>
    intro listed c s a hs hlen hcl hh e0 f0 h hN hf he
    have hre : rest ops.length listed = [] := List.eq_nil_of_length_eq_zero (by omega)
    rw [hre] at he
    refine ⟨?_, hQ.nrm c s a hh e0 f0 h hN (by simpa only [runIs] using he)⟩
    cases hrd : Region.ready .any ops.toArray listed with
    | nil => rfl
    | cons i is =>
      have := (ready (i := i) hs (by rw [hrd]; simp)).1
      rw [hre] at this; simp at this
  | succ fuel ih =>
    intro listed c s a hs hlen hcl hh e0 f0 h hN hf he
    refine ⟨fun hn => ?_, fun m hm => ?_⟩
    · have hre := done hs hn
      rw [hre] at he
      exact hQ.nrm c s a hh e0 f0 h hN (by simpa only [runIs] using he)
    · obtain ⟨hmr, o, ho, hafter⟩ := ready hs hm
      obtain ⟨js, ks, h1, h2, hnd, hlt, hnm, hsub⟩ := rest_split hs hmr
      have hmn : m < ops.length := (mem_rest.1 hmr).1
      -- it waits for none of those ahead
      have hw : ∀ j ∈ js, j < m ∧ ((masks ops).getD m 0).testBit j = false := fun j hj => by
        refine ⟨hlt j hj, ?_⟩
        cases hb : ((masks ops).getD m 0).testBit j with
        | false => rfl
        | true =>
          have := waits_listed hcl m o ho hafter j hb
          have hj2 := (mem_rest.1 (hsub j (by simp [hj]))).2
          rw [this] at hj2; cases hj2
      rw [h1] at he
      have hfr : FreeRes X ops base c.st (m :: js) := fun i hi => hf i (by
        rcases List.mem_cons.1 hi with rfl | hi
        · exact hmr
        · exact hsub i (by simp [hi]))
      have he' := front hX hk hd ho hr ks js c s a h hfr hnd (by rw [← h1]; exact rest_sorted _ _) hw he
      rw [runIs] at he'
      obtain ⟨hok, at_, hfp, hat⟩ := stepAt_ok hX h.good h.slots (base := base) ho (fun i hi => hfr i (by simp at hi; simp [hi]))
      have hdm : dstAt ops m = o.dst := by simp [dstAt, ho]
      rw [hdm] at he'
      have hgoal : wpO P ops.toArray Q o (wpAny P .any ops.toArray Q fuel (listed.setIfInBounds m true)) a c.w := by
        refine bind_step hh e0 f0 h hN hr hQ hok hfp (fun id e => ?_) he' fun c' p v i1 i2 i2' i3 i3' _ i4 i5 i6 => ?_
        · obtain ⟨hid, hA⟩ := hat id e
          have := hbase m o ho hA; omega
        · refine ih _ c' _ _ (by simp [hs]) ?_ ?_ i1 i2 i3 i4 i5 ?_ (by rw [h2]; exact i6)
          · rw [h2]
            rw [h1] at hlen
            simp at hlen ⊢; omega
          · intro i oi hoi hli e hee hb
            by_cases him : i = m
            · subst him
              rw [ho] at hoi; cases hoi
              exact getD_set_true (hafter e hee hb)
            · rw [getD_set_ne false (Ne.symm him)] at hli
              exact getD_set_true (hcl i oi hoi hli e hee hb)
          · rw [h2]
            exact FreeRes.step (i := m) (fun i hi => hf i (hsub i hi)) i3' i2'.nx (fun id e => (hat id e).1) hnm
      unfold wpOp
      have ho' : ops.toArray[m]? = some o := by simpa using ho
      rw [ho']
      exact hgoal

end
end Go.Abs
end
/-
  THE ABSTRACT MACHINE IS THE MODEL's: code, and whole functions.
-/
section
set_option linter.unusedSimpArgs false
set_option linter.unusedVariables false
namespace Go.Abs
open Go

/-! ### slots that are still read -/
theorem unprojFrom_get {s' v : List PV} : ∀ (l : List Nat) (j : Nat) (s : List PV), (∀ (i k : Nat), l[i]? = some k → v.getD (j + i) PV.junk = s'.getD k PV.junk) →
    (∀ (i : Nat) x, s[i]? = some x → x = PV.junk ∨ s'[i]? = some x) → s.length = s'.length → (unprojFrom l j v s).length = s'.length ∧ ∀ (i : Nat) x, (unprojFrom l j v s)[i]? = some x → x = PV.junk ∨ s'[i]? = some x
  | [], j, s, hv, hs, hl => ⟨hl, hs⟩
  | k :: l, j, s, hv, hs, hl => by
    rw [unprojFrom]
    refine unprojFrom_get l (j + 1) _ (fun i k' hk => ?_) (fun i x hx => ?_) (by simp [hl])
    · have := hv (i + 1) k' (by simpa using hk)
      rw [← this]; congr 1; omega
    · rw [List.getElem?_set] at hx
      split at hx
      · rename_i hik
        subst hik
        split at hx
        · rename_i hlt
          simp only [Option.some.injEq] at hx
          have h0 := hv 0 k (by simp)
          rw [Nat.add_zero] at h0
          rw [h0] at hx
          refine .inr ?_
          have hlt' : k < s'.length := by omega
          rw [← hx]
          simp [List.getD, hlt']
        · cases hx
      · exact hs i x hx

theorem unproj_ok {c : Cfg} {s' : List PV} {a : Act} (h : Sim c s' a) {n : Nat} (hn : s'.length = n) (live : List Nat) : Sim c (unproj n live (proj live s')) a ∧ (unproj n live (proj live s')).length = n := by
  have key := unprojFrom_get (s' := s') (v := proj live s') live 0 (List.replicate n .junk) (fun i k hk => by
    have : (proj live s')[i]? = some (s'.getD k .junk) := by simp [proj, hk]
    simp [List.getD, this]) (fun i x hx => by
      have := (List.getElem?_eq_some_iff.1 hx)
      obtain ⟨hi, he⟩ := this
      simp at he
      exact .inl he.symm) (by simp [hn])
  refine ⟨⟨h.good, ⟨?_, fun j h1 h2 => ?_⟩, h.defers⟩, by unfold unproj; rw [key.1, hn]⟩
  · unfold unproj; rw [key.1]; exact h.slots.1
  · rcases key.2 j _ (List.getElem?_eq_getElem h1) with e | e
    · have e' : (unproj n live (proj live s'))[j] = .junk := e
      rw [e']; exact .junk _
    · obtain ⟨hlt, he⟩ := List.getElem?_eq_some_iff.1 e
      have he' : (unproj n live (proj live s'))[j] = s'[j] := he.symm
      rw [he']; exact h.slots.2 j hlt h2

section
variable {P : Program} {X : Ctx} (hX : CtxOk P X) (hm : P.follows .mixedOrders = true)
include hX hm

theorem region_ok {c0 : Cfg} {N : Nat} {r : Res} (hr : r ≠ .fail) {Q : Exit → Act → World → Prop} {k : List PV → Prog} (hQ : Takes c0 N r k Q) {id : Nat} {ops : Array Oper} {draw : Bool} {c : Cfg} {s : List PV} {a : Act}
    (hh : c.hid = c0.hid) (e0 : Evo c0 c) (f0 : Fp none c0.st c.st) (h : Sim c s a) (hN : s.length = N) (he : (bif draw then evDraw X ops.toList s k else evOps X ops.toList ops.toList s k).run c.st = r) : (Code.region id ops draw).wp P Q a c.w := by
  cases draw with
  | false =>
    have := evOps_ok hX hr hQ ops.toList ops.toList c s a hh e0 f0 h hN he
    exact wp_region_list (by simpa using this)
  | true =>
    refine wp_region_any hm ?_
    have he : (evDraw X ops.toList s k).run c.st = r := he
    unfold evDraw at he
    cases hd : drawOk X ops.toList with
    | false => rw [hd] at he; exact (hr he.symm).elim
    | true =>
      simp only [hd, cond_true] at he
      have hQ' : Takes c0 N r (fun s => chk (cellPairs X ops.toList) s k) Q := ⟨fun c' s' a' h1 h2 h3 h4 h5 h6 => hQ.nrm c' s' a' h1 h2 h3 h4 h5 (chk_run _ _ _ _ _ hr h6).1, hQ.pan⟩
      have sm : SameMem c.w { c.w with drawn := c.w.drawn + 1 } := ⟨rfl, rfl, rfl, rfl⟩
      have hrest : rest ops.toList.length (Array.replicate ops.size false) = List.range' 0 ops.toList.length := by
        unfold rest
        rw [List.range_eq_range']
        refine List.filter_eq_self.2 fun i hi => ?_
        by_cases hlt : i < ops.size <;> simp [Array.getD, hlt]
      have hcl : Closed ops.toList (Array.replicate ops.size false) := fun i o hi hl => by
        by_cases hlt : i < ops.size <;> simp [Array.getD, hlt] at hl
      have hsz : (Array.replicate ops.size false).size = ops.toList.length := by simp
      have htoa : ops.toList.toArray = ops := by simp
      cases hA : ops.toList.any (fun o => clsOp X o == .A) with
      | false =>
        rw [hA] at he
        simp only [cond_false] at he
        rw [evOpsD_run ops.toList 0 _ ops.toList 0 s rfl] at he
        have noA : ∀ (i : Nat) o, ops.toList[i]? = some o → clsOp X o = .A → False := fun i o ho hc => by
          have := List.any_eq_false.1 hA o (List.mem_of_getElem? ho)
          simp [hc] at this
        have := draw_any hX hr rfl hQ' hd (base := 0) (fun i o ho hc => (noA i o ho hc).elim) ops.size (Array.replicate ops.size false) ⟨c.st, c.μ, { c.w with drawn := c.w.drawn + 1 }, c.hid⟩ s a hsz (by rw [hrest]; simp) hcl hh
          (e0.trans (Evo.same sm)) f0 ⟨h.good.same sm, h.slots.evo (Evo.same sm), h.defers⟩ hN (fun i _ o ho hc => (noA i o ho hc).elim) (by rw [hrest]; exact he)
        rw [htoa] at this
        exact this
      | true =>
        rw [hA] at he
        simp only [cond_true] at he
        have he' : (evOpsD X ops.toList c.st.nx ops.toList 0 s (fun s => chk (cellPairs X ops.toList) s k)).run { c.st with nx := c.st.nx + ops.toList.length } = r := he
        rw [evOpsD_run ops.toList c.st.nx _ ops.toList 0 s rfl] at he'
        have g1 := h.good.same sm
        have g2 : Good ⟨{ c.st with nx := c.st.nx + ops.toList.length }, c.μ, { c.w with drawn := c.w.drawn + 1 }, c.hid⟩ :=
          ⟨fun id bl hb => Nat.lt_of_lt_of_le (g1.nx id bl hb) (Nat.le_add_right _ _), g1.dead, fun id hd => Nat.lt_of_lt_of_le (g1.deadnx id hd) (Nat.le_add_right _ _), g1.fits, fun id bl b hb hm => by
            refine (g1.blk id bl b hb hm).evo ?_ rfl
            exact ⟨fun _ _ _ => rfl, Nat.le_refl _, rfl, rfl, rfl, rfl, fun b hb => .inl hb, Nat.le_add_right _ _, fun _ h => h, fun id bl hb => .inr ⟨bl, hb, rfl, Nat.le_refl _, fun _ => rfl⟩, fun _ _ h => h⟩, g1.bare, g1.inj, g1.hidlt⟩
        have e2 : Evo c ⟨{ c.st with nx := c.st.nx + ops.toList.length }, c.μ, { c.w with drawn := c.w.drawn + 1 }, c.hid⟩ :=
          ⟨fun _ _ _ => rfl, Nat.le_refl _, rfl, rfl, rfl, rfl, fun b hb => .inl hb, Nat.le_add_right _ _, fun _ h => h, fun id bl hb => .inr ⟨bl, hb, rfl, Nat.le_refl _, fun _ => rfl⟩, fun b s hs => hs⟩
        have := draw_any hX hr rfl hQ' hd (base := c.st.nx) (fun i o ho hc => e0.nx) ops.size (Array.replicate ops.size false) ⟨{ c.st with nx := c.st.nx + ops.toList.length }, c.μ, { c.w with drawn := c.w.drawn + 1 }, c.hid⟩ s a hsz (by rw [hrest]; simp) hcl hh
          (e0.trans e2) (f0.trans e0.nx fun id hid _ h1 h2 => ⟨h1, h2⟩) ⟨g2, h.slots.evo e2, h.defers⟩ hN (fun i hi o ho hc => by
            have hlt : i < ops.toList.length := (List.getElem?_eq_some_iff.1 ho).1
            refine ⟨Nat.add_lt_add_left hlt _, ?_, ?_⟩
            · cases hH : c.st.H (c.st.nx + i) with
              | none => rfl
              | some bl => have := h.good.nx _ _ hH; omega
            · cases hD : c.st.dead (c.st.nx + i) with
              | false => rfl
              | true => have := h.good.deadnx _ hD; omega) (by rw [hrest]; exact he')
        rw [htoa] at this
        exact this

/-- What a postcondition must take, however the code ends. -/
structure TakesK (c0 : Cfg) (N : Nat) (r : Res) (κ : Ks) (Q : Exit → Act → World → Prop) : Prop where
  nrm : ∀ c' s' a', c'.hid = c0.hid → Evo c0 c' → Fp none c0.st c'.st → Sim c' s' a' → s'.length = N → (κ.nrm s').run c'.st = r → Q .normal a' c'.w
  ret : ∀ c' s' a', c'.hid = c0.hid → Evo c0 c' → Fp none c0.st c'.st → Sim c' s' a' → s'.length = N → (κ.ret s').run c'.st = r → Q .ret a' c'.w
  ext : ∀ i c' s' a', c'.hid = c0.hid → Evo c0 c' → Fp none c0.st c'.st → Sim c' s' a' → s'.length = N → (κ.ext i s').run c'.st = r → Q (.exit i) a' c'.w
  pan : ∀ c' p v a', c'.hid = c0.hid → Evo c0 c' → Fp none c0.st c'.st → Good c' → Rep c' p v → a'.defers = [] → r = .panic p c'.st → Q (.panic [{ v := v, recovered := false }]) a' c'.w

theorem ev_ok {c0 : Cfg} {N : Nat} {r : Res} (hr : r ≠ .fail) : ∀ (code : Code) (κ : Ks) (Q : Exit → Act → World → Prop) (c : Cfg) (s : List PV) (a : Act),
    TakesK c0 N r κ Q → c.hid = c0.hid → Evo c0 c → Fp none c0.st c.st → Sim c s a → s.length = N → (ev X code κ s).run c.st = r → code.wp P Q a c.w := by
  intro code
  induction code with
  | skip => intro κ Q c s a hQ hh e0 f0 h hN he; exact wp_skip (hQ.nrm c s a hh e0 f0 h hN he)
  | region id ops draw => intro κ Q c s a hQ hh e0 f0 h hN he; exact region_ok hX hm hr ⟨hQ.nrm, hQ.pan⟩ hh e0 f0 h hN he
  | seq x y ihx ihy =>
    intro κ Q c s a hQ hh e0 f0 h hN he
    refine wp_seq (ihx { κ with nrm := fun s' => ev X y κ s' } _ c s a ⟨fun c' s' a' h1 h2 h3 h4 h5 h6 => ?_, hQ.ret, hQ.ext, hQ.pan⟩ hh e0 f0 h hN he)
    exact ihy κ Q c' s' a' hQ h1 h2 h3 h4 h5 h6
  | cond cc x y ihx ihy =>
    intro κ Q c s a hQ hh e0 f0 h hN he
    -- either side, whatever follows
    have both : ∀ κ', TakesK c0 N r κ' Q → (ifM (opd s cc) (ev X x κ' s).run (ev X y κ' s).run) c.st = r → (Code.cond cc x y).wp P Q a c.w := fun κ' hQ' he' => by
      have hc := opd_rep h.slots cc
      cases ht : opd s cc <;> rw [ht] at he' <;> try exact (hr he'.symm).elim
      · rename_i t
        rw [ht] at hc
        generalize hv : a.eval cc = v at hc
        cases hc
        refine wp_cond hv ?_
        cases t
        · exact ihy κ' Q c s a hQ' hh e0 f0 h hN he'
        · exact ihx κ' Q c s a hQ' hh e0 f0 h hN he'
    rw [ev] at he
    split at he
    · rename_i live _
      simp only [Prog.run, forceL_eq] at he
      refine both { κ with nrm := fun s' => .leaf ((fun v => (κ.nrm (unproj s.length live v)).run) (proj live s')) } ⟨fun c' s' a' h1 h2 h3 h4 h5 h6 => ?_, hQ.ret, hQ.ext, hQ.pan⟩ he
      rw [hN] at h6
      obtain ⟨k1, k2⟩ := unproj_ok h4 h5 live
      exact hQ.nrm c' _ a' h1 h2 h3 k1 k2 h6
    · exact both κ hQ he
  | block i b ih =>
    intro κ Q c s a hQ hh e0 f0 h hN he
    refine wp_block ?_
    rw [ev] at he
    split at he
    · rename_i live _
      simp only [Prog.run, forceL_eq] at he
      refine ih _ _ c s a ?_ hh e0 f0 h hN he
      refine ⟨fun c' s' a' h1 h2 h3 h4 h5 h6 => ?_, hQ.ret, fun n c' s' a' h1 h2 h3 h4 h5 h6 => ?_, hQ.pan⟩
      · rw [hN] at h6
        obtain ⟨k1, k2⟩ := unproj_ok h4 h5 live
        exact hQ.nrm c' _ a' h1 h2 h3 k1 k2 h6
      · simp only [Exit.inBlock]
        simp only [] at h6
        split
        · rename_i hn
          rw [if_pos hn, hN] at h6
          obtain ⟨k1, k2⟩ := unproj_ok h4 h5 live
          exact hQ.nrm c' _ a' h1 h2 h3 k1 k2 h6
        · rename_i hn
          rw [if_neg hn] at h6
          exact hQ.ext n c' s' a' h1 h2 h3 h4 h5 h6
    · refine ih _ _ c s a ?_ hh e0 f0 h hN he
      refine ⟨hQ.nrm, hQ.ret, fun n c' s' a' h1 h2 h3 h4 h5 h6 => ?_, hQ.pan⟩
      simp only [Exit.inBlock]
      simp only [] at h6
      split
      · rename_i hn
        rw [if_pos hn] at h6
        exact hQ.nrm c' s' a' h1 h2 h3 h4 h5 h6
      · rename_i hn
        rw [if_neg hn] at h6
        exact hQ.ext n c' s' a' h1 h2 h3 h4 h5 h6
  | loop b ih =>
    intro κ Q c s a hQ hh e0 f0 h hN he
    rw [ev] at he
    split at he
    · rename_i live _
      simp only [Prog.run, forceL_eq] at he
      refine wp_loop_ghost (fun n a' w' => ∃ c' s', c'.w = w' ∧ c'.hid = c0.hid ∧ Evo c0 c' ∧ Fp none c0.st c'.st ∧ Sim c' s' a' ∧ s'.length = N ∧
        iter n (fun self v => (ev X b { κ with nrm := fun s' => .leaf (self (proj live s')) } (unproj s.length live v)).run) (proj live s') c'.st = r) fuel ⟨c, s, rfl, hh, e0, f0, h, hN, he⟩ ?_
      rintro n a' w' ⟨c', s', rfl, h1, h2, h3, h4, h5, h6⟩
      cases n with
      | zero => exact (hr h6.symm).elim
      | succ n =>
        rw [iter] at h6
        rw [hN] at h6
        obtain ⟨k1, k2⟩ := unproj_ok h4 h5 live
        refine ih _ _ c' _ a' ?_ h1 h2 h3 k1 k2 h6
        refine ⟨fun c2 s2 a2 i1 i2 i3 i4 i5 i6 => ?_, hQ.ret, hQ.ext, hQ.pan⟩
        exact ⟨n, Nat.lt_succ_self _, c2, s2, rfl, i1, i2, i3, i4, i5, by rw [hN]; exact i6⟩
    · exact (hr he.symm).elim
  | exit i => intro κ Q c s a hQ hh e0 f0 h hN he; exact wp_exit (hQ.ext i c s a hh e0 f0 h hN he)
  | ret => intro κ Q c s a hQ hh e0 f0 h hN he; exact wp_ret (hQ.ret c s a hh e0 f0 h hN he)
  | _ => intro κ Q c s a hQ hh e0 f0 h hN he; exact (hr he.symm).elim

end
end Go.Abs
end
/-
  THE ABSTRACT MACHINE IS THE MODEL's: whole functions.
-/
section
set_option linter.unusedSimpArgs false
set_option linter.unusedVariables false
namespace Go.Abs
open Go

/-- What a function gives back, of its values. -/
def backOf (vs : List Value) : Value := if h : vs.toArray.size = 1 then vs.toArray[0] else .tuple vs.toArray

theorem backOf_one (v : Value) : backOf [v] = v := by simp [backOf]
theorem backOf_many {vs : List Value} (h : vs.length ≠ 1) : backOf vs = .tuple vs.toArray := by simp [backOf, h]

def readRes (tmps : Array Value) (r : ResultVar) : Sem Value :=
  match r with
  | .tmp t => pure (tmps.getD t undef)
  | .cell a t => do loadVar t (← asAddr (tmps.getD a undef))

theorem run_loadAt_addr {P : Program} {t : TypeId} {u v : Value} {w : World} (hp : ∃ a, u = .pointer (some a)) (h : (Instr.loadAt t u).run P w = .ok v w) : (do loadVar t (← asAddr u) : Sem Value).run P w = .ok v w := by
  obtain ⟨a, rfl⟩ := hp
  rw [run_loadAt] at h
  simpa [asAddr] using h

section
variable {P : Program} {X : Ctx} (hX : CtxOk P X)
include hX

theorem res_ok {c : Cfg} (g : Good c) {s : List PV} {a : Act} (hs : Slots c s a.tmps) : ∀ (rs : List ResultVar) (ps : List PV) (us : List Value) (r : Res), RepL c ps us → r ≠ .fail → (resP X rs s ps).run c.st = r →
    ∃ ws, (rs.mapM (readRes a.tmps)).run P c.w = .ok ws c.w ∧ ∃ p, r = .ok p c.st ∧ Rep c p (backOf (us ++ ws))
  | [], ps, us, r, hl, hr, he => by
    refine ⟨[], by simp, ?_⟩
    rw [List.append_nil]
    match ps, us, hl with
    | [p], [u], hl =>
      refine ⟨p, by simpa [resP, Prog.run, ret] using he.symm, ?_⟩
      rw [backOf_one]; exact hl.2 0 (by simp) (by simp)
    | [], [], hl =>
      refine ⟨.tup [], by simpa [resP, Prog.run, ret] using he.symm, ?_⟩
      rw [backOf_many (by simp)]; exact .tup _ _ hl.1 hl.2
    | p :: q :: ps, us, hl =>
      refine ⟨.tup (p :: q :: ps), by simpa [resP, Prog.run, ret] using he.symm, ?_⟩
      rw [backOf_many (by have := hl.1; simp at this; omega)]; exact .tup _ _ hl.1 hl.2
    | [], u :: us, hl => have := hl.1; simp at this
    | [p], [], hl => have := hl.1; simp at this
    | [p], u :: v :: us, hl => have := hl.1; simp at this
  | .tmp t :: rs, ps, us, r, hl, hr, he => by
    have hv : Rep c (s.getD t .junk) (a.tmps.getD t undef) := by
      have := opd_rep hs (.tmp t)
      simpa only [opd, Act.eval] using this
    have hl' : RepL c (ps ++ [s.getD t .junk]) (us ++ [a.tmps.getD t undef]) := hl.app ⟨rfl, fun j h1 h2 => by
      have : j = 0 := by simp at h1; omega
      subst this; exact hv⟩
    obtain ⟨ws, h1, p, h2, h3⟩ := res_ok g hs rs _ _ r hl' hr (by simpa only [resP] using he)
    refine ⟨a.tmps.getD t undef :: ws, ?_, p, h2, by simpa using h3⟩
    simp only [List.mapM_cons, readRes, Sem.run_bind, Sem.run_pure, Result.andThen, h1]
  | .cell b t :: rs, ps, us, r, hl, hr, he => by
    have hv : Rep c (s.getD b .junk) (a.tmps.getD b undef) := by
      have := opd_rep hs (.tmp b)
      simpa only [opd, Act.eval] using this
    rw [resP] at he
    cases hq : (X.T t).pt with
    | none => rw [hq] at he; exact (hr he.symm).elim
    | some q =>
      simp only [hq, Prog.run] at he
      have hu : (X.T t).usable = true := by
        unfold TI.pt at hq; unfold TI.usable; split at hq
        · rename_i h; unfold TI.isAgg at h; revert h; cases (X.T t).d <;> simp
        · split at hq
          · rename_i h; unfold TI.usable at h; exact h
          · cases hq
      have hload := load_okL g (hX.u hu) hq hv
      rcases b_eq hr he with ⟨v, st1, h1, he1⟩ | ⟨p, st1, h1, hp⟩
      · rw [h1] at hload
        obtain ⟨rfl, w, hw, hrep⟩ := hload
        have hptr : ∃ ad, a.tmps.getD b undef = .pointer (some ad) := by
          revert h1 hv
          generalize s.getD b PV.junk = pv
          generalize a.tmps.getD b undef = rv
          intro hv h1
          cases hv <;> first | exact ⟨_, rfl⟩ | (unfold loadM at h1; cases h1)
        have hrun := run_loadAt_addr hptr hw
        have hl' : RepL c (ps ++ [v]) (us ++ [w]) := hl.app ⟨rfl, fun j h1 h2 => by
          have : j = 0 := by simp at h1; omega
          subst this; exact hrep⟩
        obtain ⟨ws, i1, p, i2, i3⟩ := res_ok g hs rs _ _ r hl' hr he1
        refine ⟨w :: ws, ?_, p, i2, by simpa using i3⟩
        have hrr : (readRes a.tmps (.cell b t)).run P c.w = .ok w c.w := hrun
        simp only [List.mapM_cons, Sem.run_bind, hrr, Result.andThen, i1, Sem.run_pure]
      · rw [h1] at hload; exact hload.elim

omit hX in
theorem run_results {fn : Func} {tmps : Array Value} {w : World} {ws : List Value} (h : (fn.results.toList.mapM (readRes tmps)).run P w = .ok ws w) : (results fn tmps).run P w = .ok (backOf ws) w := by
  have e : results fn tmps = (do let vs ← fn.results.mapM (readRes tmps); pure (if h : vs.size = 1 then vs[0] else .tuple vs)) := by
    unfold results
    congr 1
  rw [e, Array.mapM_eq_mapM_toList]
  simp only [Sem.run_bind, Sem.run_map, h, Result.andThen, Sem.run_pure]
  rfl

theorem soundS_of_body (hm : P.follows .mixedOrders = true) {f : FuncId} {fn : Func} {code : Code} (hf : P.funcs[f]? = some fn) (hb : fn.body = some code) (hn : (fn.name == "runtime.NumGoroutine") = false) : SoundS P f fun args => (evBody X fn args).run := by
  intro c args vs g hl
  show (evBody X fn args).run c.st = .fail ∨ (IsFn P f ∧ CallOk P c ((evBody X fn args).run c.st) f vs.toArray ∧ FpR none c.st ((evBody X fn args).run c.st))
  by_cases hfail : (evBody X fn args).run c.st = .fail
  · exact .inl hfail
  refine .inr ⟨⟨fn, hf, by rw [hb]; rfl, hn⟩, ?_⟩
  generalize hrr : (evBody X fn args).run c.st = r at hfail ⊢
  have he := hrr
  unfold evBody at he
  rw [hb] at he
  simp only [forceL_eq] at he
  -- the frame at the start
  have hsim : Sim c (args ++ List.replicate (fn.ntmps - args.length) (.tup [])) { tmps := vs.toArray ++ Array.replicate (fn.ntmps - vs.toArray.size) undef, defers := [] } := by
    refine ⟨g, ?_, rfl⟩
    have e : (vs.toArray ++ Array.replicate (fn.ntmps - vs.toArray.size) undef).toList = vs ++ List.replicate (fn.ntmps - args.length) undef := by
      simp [hl.1]
    show RepL c _ _
    rw [e]
    refine hl.app ⟨by simp, fun j h1 h2 => ?_⟩
    simp only [List.getElem_replicate]
    exact Rep.tup [] [] rfl (fun j h => by simp at h)
  -- what the whole comes to
  have post : ∀ (R : Ending → World → Prop), (∀ c' p v, c'.hid = c.hid → Evo c c' → Fp none c.st c'.st → Good c' → Rep c' p v → r = .ok p c'.st → R (.returned v) c'.w) →
      (∀ c' p v, c'.hid = c.hid → Evo c c' → Fp none c.st c'.st → Good c' → Rep c' p v → r = .panic p c'.st → R (.panicked [{ v := v, recovered := false }]) c'.w) → Calls P f vs.toArray c.w R := by
    intro R hret hpan
    refine calls_of_wp hf hb ?_
    have fin : ∀ c' s' a', c'.hid = c.hid → Evo c c' → Fp none c.st c'.st → Sim c' s' a' → (resP X fn.results.toList s' []).run c'.st = r → a'.defers = [] ∧ ∃ v, (results fn a'.tmps).run P c'.w = .ok v c'.w ∧ R (.returned v) c'.w := by
      intro c' s' a' h1 h2 h3 h4 h5
      obtain ⟨ws, i1, p, i2, i3⟩ := res_ok hX h4.good h4.slots fn.results.toList [] [] r ⟨rfl, fun j h => by simp at h⟩ hfail h5
      exact ⟨h4.defers, _, run_results i1, hret c' p _ h1 h2 h3 h4.good (by simpa using i3) i2⟩
    refine ev_ok hX hm hfail code _ _ c _ _ ?_ rfl (.refl c) (Fp.refl _ _) hsim rfl he
    refine ⟨fun c' s' a' h1 h2 h3 h4 _ h6 => fin c' s' a' h1 h2 h3 h4 h6, fun c' s' a' h1 h2 h3 h4 _ h6 => fin c' s' a' h1 h2 h3 h4 h6, fun i c' s' a' h1 h2 h3 h4 _ h6 => (hfail h6.symm).elim, fun c' p v a' h1 h2 h3 h4 h5 h6 h7 => ?_⟩
    exact ⟨h6, hpan c' p v h1 h2 h3 h4 h5 h7⟩
  cases r with
  | fail => exact (hfail rfl).elim
  | ok p st' =>
    have h1 : CallOk P c (.ok p st') f vs.toArray := post _ (fun c' q v h1 h2 h3 h4 h5 h6 => by
      cases h6
      obtain ⟨st, μ, w, hid⟩ := c'
      simp only at h1; subst h1
      exact ⟨μ, v, rfl, h4, h2, h5⟩) (fun c' q v h1 h2 h3 h4 h5 h6 => by cases h6)
    refine ⟨h1, ?_⟩
    -- what is kept stays free: read off at one ending
    have h2 : Calls P f vs.toArray c.w fun e w' => Fp none c.st st' ∧ e ≠ .outgrown := post _ (fun c' q v h1 h2 h3 h4 h5 h6 => by cases h6; exact ⟨h3, by simp⟩) (fun c' q v h1 h2 h3 h4 h5 h6 => by cases h6)
    obtain ⟨e, w', fr, hR, _⟩ := h2 []
    exact hR.1
  | panic p st' =>
    have h1 : CallOk P c (.panic p st') f vs.toArray := post _ (fun c' q v h1 h2 h3 h4 h5 h6 => by cases h6) (fun c' q v h1 h2 h3 h4 h5 h6 => by
      cases h6
      obtain ⟨st, μ, w, hid⟩ := c'
      simp only at h1; subst h1
      exact ⟨μ, v, rfl, h4, h2, h5⟩)
    refine ⟨h1, ?_⟩
    have h2 : Calls P f vs.toArray c.w fun e w' => Fp none c.st st' ∧ e ≠ .outgrown := post _ (fun c' q v h1 h2 h3 h4 h5 h6 => by cases h6) (fun c' q v h1 h2 h3 h4 h5 h6 => by cases h6; exact ⟨h3, by simp⟩)
    obtain ⟨e, w', fr, hR, _⟩ := h2 []
    exact hR.1

end
end Go.Abs
end
