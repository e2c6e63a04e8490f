/-
  Joined from: AbsS1 AbsS2 AbsS3 AbsS4 AbsS5.
-/
import Derived.Test.YtliomhbmlclmeaaGreatGA
import Derived.ProofKit
import Derived.WalkLawsBesides
import Derived.WalkSpells
/-
  THE ABSTRACT MACHINE AND THE MODEL's WORLDS: when an abstract value stands for a real one ('Rep'), when an abstract memory for a real one ('Good'), and how the two may move on ('Evo').
-/
section
namespace Go.Abs
open Go

/-- An abstract memory over a world: 'μ' says which real block an abstract one is (none: an empty buffer that has no memory yet); 'hid': blocks of others that are not to be touched. -/
structure Cfg where
  st : St
  μ : Nat → Option Nat
  w : World
  hid : Nat → Prop

/-- Blocks that belong to the abstract memory. -/
def Cfg.mine (c : Cfg) (b : Nat) : Prop := ∃ id bl, c.st.H id = some bl ∧ c.μ id = some b
def Cfg.own (c : Cfg) (b : Nat) : Prop := c.hid b ∨ c.mine b

def flat (xs : List PV) : List PV := xs.flatMap PV.cells

def stale (st : St) (id n : Nat) : Prop := st.dead id = true ∨ ∃ bl, st.H id = some bl ∧ n < bl.xs.length

inductive Rep (c : Cfg) : PV → Value → Prop where
  | junk (v : Value) : Rep c .junk v
  | int (k : IntKind) (n : Int) : Rep c (.int k n) (.int k n)
  | bool (b : Bool) : Rep c (.bool b) (.bool b)
  | str (s : ByteArray) : Rep c (.str s) (.string s)
  | agg (cs : List PV) (vs : List Value) (hl : cs.length = vs.length) (h : ∀ j (h1 : j < cs.length) (h2 : j < vs.length), Rep c cs[j] vs[j]) : Rep c (.agg cs) (.agg vs.toArray)
  | tup (cs : List PV) (vs : List Value) (hl : cs.length = vs.length) (h : ∀ j (h1 : j < cs.length) (h2 : j < vs.length), Rep c cs[j] vs[j]) : Rep c (.tup cs) (.tuple vs.toArray)
  | lst0 (a : Option Addr) (cap : Nat) : Rep c (.lst []) (.slice a 0 cap)
  | lst (xs : List PV) (sz : Nat) (b o cap : Nat) (us : Nat → Value) (hs : ∀ x ∈ xs, fitsE sz x = true) (hn : noreL xs = true)
      (hc : ∀ j (_ : j < (flat xs).length), c.w.cell? ⟨b, o + j, none⟩ = some (us j)) (hr : ∀ j (h : j < (flat xs).length), Rep c (flat xs)[j] (us j))
      (ho : flat xs ≠ [] → ¬ c.own b) (hcap : xs.length ≤ cap) : Rep c (.lst xs) (.slice (some ⟨b, o, none⟩) xs.length cap)
  | nilS : Rep c .nilS (.slice none 0 0)
  | z0 (a : Option Addr) : Rep c .z0 (.slice a 0 0)
  | sl (id n off len : Nat) (bl : Blk) (b cap m : Nat) (e : TypeId) (hi : id < c.st.nx) (hb : c.st.H id = some bl) (hn : bl.xs.length = n) (hm : c.μ id = some b)
      (hsh : c.w.shape? b = some (e, m)) (h1 : (off + cap) * bl.sz ≤ m) (h2 : n ≤ off + cap) (h3 : len ≤ cap) (h4 : off + len ≤ n) : Rep c (.sl id n off len) (.slice (some ⟨b, off * bl.sz, none⟩) len cap)
  | sl0 (id : Nat) (bl : Blk) (hi : id < c.st.nx) (hb : c.st.H id = some bl) (hn : bl.xs = []) (hm : c.μ id = none) : Rep c (.sl id 0 0 0) (.slice none 0 0)
  | slx (id n off len : Nat) (a : Option Addr) (k : Nat) (h : stale c.st id n) : Rep c (.sl id n off len) (.slice a len k)
  | ptr (id n idx off : Nat) (bl : Blk) (b : Nat) (hi : id < c.st.nx) (hb : c.st.H id = some bl) (hn : bl.xs.length = n) (hm : c.μ id = some b) :
      Rep c (.ptr id n idx off) (.pointer (some ⟨b, idx * bl.sz + off, none⟩))
  | ptrx (id n idx off : Nat) (a : Addr) (h : stale c.st id n) : Rep c (.ptr id n idx off) (.pointer (some a))
  | cref (x : PV) (off b o : Nat) (us : Nat → Value) (hk : x.known = true) (hn : x.noref = true) (hc : ∀ j (_ : j < x.cells.length), c.w.cell? ⟨b, o + j, none⟩ = some (us j))
      (hr : ∀ j (h : j < x.cells.length), Rep c x.cells[j] (us j)) (ho : x.cells ≠ [] → ¬ c.own b) : Rep c (.cref x off) (.pointer (some ⟨b, o + off, none⟩))
  | nilP : Rep c .nilP (.pointer none)
  | func (f : FuncId) (first cap : List PV) (us vs : List Value) (hl : first.length = us.length) (h : ∀ j (h1 : j < first.length) (h2 : j < us.length), Rep c first[j] us[j])
      (hl' : cap.length = vs.length) (h' : ∀ j (h1 : j < cap.length) (h2 : j < vs.length), Rep c cap[j] vs[j]) : Rep c (.func f first cap) (.func (.func f) us.toArray vs.toArray)
  | nilF : Rep c .nilF .nilFunc
  | iface (t : TypeId) (x : PV) (v : Value) (h : Rep c x v) : Rep c (.iface t x) (.iface t v)
  | nilI : Rep c .nilI .nilIface

/-- Lists of values. -/
def RepL (c : Cfg) (ps : List PV) (vs : List Value) : Prop := ps.length = vs.length ∧ ∀ j (h1 : j < ps.length) (h2 : j < vs.length), Rep c ps[j] vs[j]

/-- The slots of a frame. -/
def Slots (c : Cfg) (s : List PV) (tmps : Array Value) : Prop := RepL c s tmps.toList

structure BlkOk (c : Cfg) (bl : Blk) (b : Nat) : Prop where
  hid : ¬ c.hid b
  cells : ∃ cs e, c.w.heap[b]? = some (.cells cs e (0, 0)) ∧ bl.sz * bl.xs.length ≤ cs.size ∧ ∀ j (h : j < (flat bl.xs).length), ∃ u, cs[j]? = some u ∧ Rep c (flat bl.xs)[j] u

structure Good (c : Cfg) : Prop where
  nx : ∀ id bl, c.st.H id = some bl → id < c.st.nx
  dead : ∀ id, c.st.dead id = true → c.st.H id = none
  deadnx : ∀ id, c.st.dead id = true → id < c.st.nx
  fits : ∀ id bl, c.st.H id = some bl → ∀ x ∈ bl.xs, fitsE bl.sz x = true
  blk : ∀ id bl b, c.st.H id = some bl → c.μ id = some b → BlkOk c bl b
  bare : ∀ id bl, c.st.H id = some bl → c.μ id = none → bl.xs = []
  inj : ∀ id id' bl bl' b, c.st.H id = some bl → c.st.H id' = some bl' → c.μ id = some b → c.μ id' = some b → id = id'
  hidlt : ∀ b, c.hid b → b < c.w.heap.size

structure Evo (c c' : Cfg) : Prop where
  heap : ∀ b, b < c.w.heap.size → ¬ c.mine b → c'.w.heap[b]? = c.w.heap[b]?
  size : c.w.heap.size ≤ c'.w.heap.size
  os : c'.w.os = c.w.os
  tape : c'.w.tape = c.w.tape
  output : c'.w.output = c.w.output
  hid : c'.hid = c.hid
  mine : ∀ b, c'.mine b → c.mine b ∨ c.w.heap.size ≤ b
  nx : c.st.nx ≤ c'.st.nx
  gone : ∀ id, c.st.dead id = true → c'.st.dead id = true
  kept : ∀ id bl, c.st.H id = some bl → c'.st.dead id = true ∨ ∃ bl', c'.st.H id = some bl' ∧ bl'.sz = bl.sz ∧ bl.xs.length ≤ bl'.xs.length ∧ (bl'.xs.length = bl.xs.length → c'.μ id = c.μ id)
  shape : ∀ b s, c.w.shape? b = some s → c'.w.shape? b = some s

theorem Evo.refl (c : Cfg) : Evo c c :=
  ⟨fun _ _ _ => rfl, Nat.le_refl _, rfl, rfl, rfl, rfl, fun _ h => .inl h, Nat.le_refl _, fun _ h => h, fun _ bl h => .inr ⟨bl, h, rfl, Nat.le_refl _, fun _ => rfl⟩, fun _ _ h => h⟩

theorem Evo.trans {a b c : Cfg} (h : Evo a b) (k : Evo b c) : Evo a c where
  heap := fun i hi hm => by
    have hm' : ¬ b.mine i := fun hh => (h.mine i hh).elim hm (by omega)
    rw [k.heap i (Nat.lt_of_lt_of_le hi h.size) hm', h.heap i hi hm]
  size := Nat.le_trans h.size k.size
  os := k.os.trans h.os
  tape := k.tape.trans h.tape
  output := k.output.trans h.output
  hid := k.hid.trans h.hid
  mine := fun i hi => (k.mine i hi).elim (fun hh => h.mine i hh) (fun hh => .inr (Nat.le_trans h.size hh))
  nx := Nat.le_trans h.nx k.nx
  gone := fun id hi => k.gone id (h.gone id hi)
  kept := fun id bl hb => by
    rcases h.kept id bl hb with hn | ⟨bl1, h1, h2, h3, h4⟩
    · exact .inl (k.gone id hn)
    · rcases k.kept id bl1 h1 with hn | ⟨bl2, k1, k2, k3, k4⟩
      · exact .inl hn
      · exact .inr ⟨bl2, k1, k2.trans h2, Nat.le_trans h3 k3, fun e => (k4 (by omega)).trans (h4 (by omega))⟩
  shape := fun i s hs => k.shape i s (h.shape i s hs)

theorem stale_evo {c c' : Cfg} (h : Evo c c') {id n : Nat} (hs : stale c.st id n) : stale c'.st id n := by
  rcases hs with hd | ⟨bl, hb, hlt⟩
  · exact .inl (h.gone id hd)
  · rcases h.kept id bl hb with hn | ⟨bl1, h1, _, h3, _⟩
    · exact .inl hn
    · exact .inr ⟨bl1, h1, by omega⟩

theorem own_evo {c c' : Cfg} (h : Evo c c') {b : Nat} (hlt : b < c.w.heap.size) (ho : ¬ c.own b) : ¬ c'.own b := by
  rintro (hh | hh)
  · exact ho (.inl (by rw [h.hid] at hh; exact hh))
  · exact (h.mine b hh).elim (fun x => ho (.inr x)) (by omega)

theorem cell_evo {c c' : Cfg} (h : Evo c c') {a : Addr} {v : Value} (hc : c.w.cell? a = some v) (ho : ¬ c.own a.block) : c'.w.cell? a = some v := by
  have hlt := block_lt_of_cell hc
  rw [World.cell?_of_block (h.heap a.block hlt (fun x => ho (.inr x)))]; exact hc

/-- What stands for a value goes on standing for it. -/
theorem Rep.evo {c c' : Cfg} (h : Evo c c') {p : PV} {v : Value} (hr : Rep c p v) : Rep c' p v := by
  induction hr with
  | junk v => exact .junk v
  | int k n => exact .int k n
  | bool b => exact .bool b
  | str s => exact .str s
  | agg cs vs hl _ ih => exact .agg cs vs hl ih
  | tup cs vs hl _ ih => exact .tup cs vs hl ih
  | lst0 a cap => exact .lst0 a cap
  | lst xs sz b o cap us hs hn hc _ ho hcap ih =>
    have key : flat xs ≠ [] → ¬ c'.own b := fun hne => by
      have hpos : 0 < (flat xs).length := List.length_pos_iff.2 hne
      exact own_evo h (block_lt_of_cell (hc 0 hpos)) (ho hne)
    refine .lst xs sz b o cap us hs hn (fun j hj => ?_) ih key hcap
    exact cell_evo h (hc j hj) (ho (fun e => by simp [e] at hj))
  | nilS => exact .nilS
  | z0 a => exact .z0 a
  | sl id n off len bl b cap m e hi hb hn hm hsh h1 h2 h3 h4 =>
    rcases h.kept id bl hb with hnone | ⟨bl', hb', hsz, hle, hμ⟩
    · exact .slx _ _ _ _ _ _ (.inl hnone)
    · by_cases heq : bl'.xs.length = bl.xs.length
      · have := Rep.sl (c := c') id n off len bl' b cap m e (Nat.lt_of_lt_of_le hi h.nx) hb' (heq.trans hn) ((hμ heq).trans hm) (h.shape b _ hsh) (by rw [hsz]; exact h1) h2 h3 h4
        rw [hsz] at this; exact this
      · exact .slx _ _ _ _ _ _ (.inr ⟨bl', hb', by omega⟩)
  | sl0 id bl hi hb hn hm =>
    rcases h.kept id bl hb with hnone | ⟨bl', hb', hsz, hle, hμ⟩
    · exact .slx _ _ _ _ _ _ (.inl hnone)
    · by_cases heq : bl'.xs.length = bl.xs.length
      · refine .sl0 id bl' (Nat.lt_of_lt_of_le hi h.nx) hb' ?_ ((hμ heq).trans hm)
        rw [hn] at heq; exact List.eq_nil_of_length_eq_zero heq
      · exact .slx _ _ _ _ _ _ (.inr ⟨bl', hb', by rw [hn] at heq; simp at heq; exact List.length_pos_iff.2 heq⟩)
  | slx id n off len a k hs => exact .slx _ _ _ _ _ _ (stale_evo h hs)
  | ptr id n idx off bl b hi hb hn hm =>
    rcases h.kept id bl hb with hnone | ⟨bl', hb', hsz, hle, hμ⟩
    · exact .ptrx _ _ _ _ _ (.inl hnone)
    · by_cases heq : bl'.xs.length = bl.xs.length
      · have := Rep.ptr (c := c') id n idx off bl' b (Nat.lt_of_lt_of_le hi h.nx) hb' (heq.trans hn) ((hμ heq).trans hm)
        rw [hsz] at this; exact this
      · exact .ptrx _ _ _ _ _ (.inr ⟨bl', hb', by omega⟩)
  | ptrx id n idx off a hs => exact .ptrx _ _ _ _ _ (stale_evo h hs)
  | cref x off b o us hk hn hc _ ho ih =>
    have key : x.cells ≠ [] → ¬ c'.own b := fun hne => by
      have hpos : 0 < x.cells.length := List.length_pos_iff.2 hne
      exact own_evo h (block_lt_of_cell (hc 0 hpos)) (ho hne)
    refine .cref x off b o us hk hn (fun j hj => ?_) ih key
    exact cell_evo h (hc j hj) (ho (fun e => by simp [e] at hj))
  | nilP => exact .nilP
  | func f first cap us vs hl _ hl' _ ih ih' => exact .func f first cap us vs hl ih hl' ih'
  | nilF => exact .nilF
  | iface t x v _ ih => exact .iface t x v ih
  | nilI => exact .nilI

theorem RepL.evo {c c' : Cfg} (h : Evo c c') {ps : List PV} {vs : List Value} (hr : RepL c ps vs) : RepL c' ps vs := ⟨hr.1, fun j h1 h2 => (hr.2 j h1 h2).evo h⟩

end Go.Abs
end
/-
  THE ABSTRACT OPERATIONS ARE THE MODEL's: reading.
-/
section
set_option linter.unusedSimpArgs false
set_option linter.unusedVariables false
namespace Go.Abs
open Go

/-! ### types -/
def TD.fits (P : Program) : TD → TypeDesc → Prop
  | .int k, d => d = .int k
  | .bool, d => d = .bool
  | .str, d => d = .string
  | .slice e, d => d = .slice e
  | .ptr e, d => d = .pointer e
  | .struct fs, d => ∃ l, d = .struct l ∧ (fs = l.toList.map fun f => (f.type, f.offset)) ∧ ∀ f ∈ l.toList, ∃ i, P.info? f.type = some i
  | .arr n e, d => d = .array n e
  | .func, d => ∃ a b v, d = .func a b v
  | .iface, d => ∃ ms, d = .interface ms
  | .other, _ => True

structure TypeOk (P : Program) (t : TypeId) (x : TI) : Prop where
  info : ∃ i z, P.info? t = some i ∧ i.size = x.size ∧ i.bytes = x.bytes ∧ i.zero = some z ∧ (∀ c, Rep c x.zero z) ∧ fitsE x.size x.zero = true ∧ isAggV x.zero = x.isAgg
  desc : ∃ d, P.underlying t = some d ∧ x.d.fits P d

/-- The table of types is the program's, as far as it goes. -/
def TOk (T : TypeId → TI) (P : Program) : Prop := ∀ t, (T t).usable = true → TypeOk P t (T t)

def VOk (P : Program) (c : Cfg) (res : Res) (s : Sem Value) : Prop :=
  match res with
  | .ok p st' => ∃ μ' w' v, s.run P c.w = .ok v w' ∧ Good ⟨st', μ', w', c.hid⟩ ∧ Evo c ⟨st', μ', w', c.hid⟩ ∧ Rep ⟨st', μ', w', c.hid⟩ p v
  | .panic _ _ => False
  | .fail => True

section
variable {P : Program} {c : Cfg} (g : Good c)
include g

theorem VOk.same {p : PV} {s : Sem Value} {v : Value} (h : s.run P c.w = .ok v c.w) (hr : Rep c p v) : VOk P c (.ok p c.st) s :=
  ⟨c.μ, c.w, v, h, g, .refl c, hr⟩

theorem VOk.ret {p : PV} {s : Sem Value} {v : Value} (h : s.run P c.w = .ok v c.w) (hr : Rep c p v) : VOk P c (ret p c.st) s := VOk.same g h hr
end

theorem VOk.failM {P : Program} {c : Cfg} {s : Sem Value} : VOk P c (failM c.st) s := trivial

/-! ### cells -/
theorem flat_nil : flat [] = [] := rfl
theorem flat_cons (x : PV) (xs : List PV) : flat (x :: xs) = x.cells ++ flat xs := rfl
theorem flat_append (xs ys : List PV) : flat (xs ++ ys) = flat xs ++ flat ys := by simp [flat]

theorem fitsE_len {sz : Nat} {x : PV} (h : fitsE sz x = true) : x.cells.length = sz := by simp [fitsE] at h; exact h.2
theorem fitsE_known {sz : Nat} {x : PV} (h : fitsE sz x = true) : x.known = true := by simp [fitsE] at h; exact h.1

theorem flat_length {sz : Nat} : ∀ {xs : List PV}, (∀ x ∈ xs, fitsE sz x = true) → (flat xs).length = xs.length * sz
  | [], _ => by simp [flat]
  | x :: xs, h => by
    rw [flat_cons, List.length_append, flat_length (xs := xs) fun y hy => h y (by simp [hy]), fitsE_len (h x (by simp)), List.length_cons]
    rw [Nat.add_mul]; omega

theorem flat_get {sz : Nat} : ∀ {xs : List PV}, (∀ x ∈ xs, fitsE sz x = true) → ∀ {i : Nat} {x : PV}, xs[i]? = some x → ∀ {j : Nat}, j < sz → (flat xs)[i * sz + j]? = x.cells[j]?
  | [], _, i, x, hx, _, _ => by simp at hx
  | y :: xs, h, 0, x, hx, j, hj => by
    simp at hx; subst hx
    have := fitsE_len (h y (by simp))
    rw [flat_cons, Nat.zero_mul, Nat.zero_add, List.getElem?_append_left (by omega)]
  | y :: xs, h, i + 1, x, hx, j, hj => by
    have hy := fitsE_len (h y (by simp))
    have := flat_get (xs := xs) (fun z hz => h z (by simp [hz])) (i := i) (x := x) (by simpa using hx) hj
    rw [flat_cons, List.getElem?_append_right (by rw [hy, Nat.add_mul]; omega), hy, ← this]
    congr 1
    rw [Nat.add_mul]; omega

theorem add_addr (b o n : Nat) : (⟨b, o, none⟩ : Addr).add n = ⟨b, o + n, none⟩ := by
  unfold Addr.add; split
  · rename_i h; subst h; rfl
  · rfl

theorem cells_single {c : Cfg} {p : PV} {v : Value} (h : Rep c p v) (hp : p.cells = [p]) (hv : v.cells = #[v]) : p.cells.length = v.cells.size ∧ ∀ (j : Nat) q, p.cells[j]? = some q → ∃ u, v.cells[j]? = some u ∧ Rep c q u := by
  rw [hp, hv]
  refine ⟨rfl, fun j q hq => ?_⟩
  rw [List.getElem?_singleton] at hq
  split at hq
  · cases hq; rename_i hj; subst hj; exact ⟨v, by simp, h⟩
  · cases hq

/-- Values cell by cell. -/
theorem Rep.cells {c : Cfg} {p : PV} {v : Value} (h : Rep c p v) (hk : p.known = true) : p.cells.length = v.cells.size ∧ ∀ (j : Nat) q, p.cells[j]? = some q → ∃ u, v.cells[j]? = some u ∧ Rep c q u := by
  have h0 := h
  cases h with
  | agg cs vs hl h =>
    refine ⟨by simp [PV.cells, Value.cells, hl], fun j q hq => ?_⟩
    simp only [PV.cells] at hq
    obtain ⟨hj, rfl⟩ := List.getElem?_eq_some_iff.1 hq
    exact ⟨vs[j]'(hl ▸ hj), by simp [Value.cells, hl ▸ hj], h j hj (hl ▸ hj)⟩
  | junk v => simp [PV.known] at hk
  | tup => simp [PV.known] at hk
  | _ => exact cells_single h0 rfl rfl

theorem Rep.one {c : Cfg} {p : PV} {v : Value} (h : Rep c p v) (hs : p.simple = true) : v.oneCell' = true := by
  cases h <;> first | rfl | assumption | (simp [PV.simple] at hs)

/-! ### what the tables say -/
theorem run_isAgg_of {P : Program} {t : TypeId} {x : TI} (h : TypeOk P t x) (hu : x.usable = true) (w : World) : (isAgg t).run P w = .ok x.isAgg w := by
  obtain ⟨d, hd, hf⟩ := h.desc
  unfold isAgg
  simp only [Sem.run_bind, run_underlying hd, Result.andThen]
  cases hx : x.d <;> simp only [hx, TD.fits] at hf <;> simp only [TI.isAgg, hx]
  case other => simp [TI.usable, hx] at hu
  case struct fs => obtain ⟨l, rfl, _, _⟩ := hf; simp
  case func => obtain ⟨a, b, v, rfl⟩ := hf; simp
  case iface => obtain ⟨ms, rfl⟩ := hf; simp
  all_goals (subst hf; simp)

theorem run_sizeOf_of {P : Program} {t : TypeId} {x : TI} (h : TypeOk P t x) (w : World) : (sizeOf t).run P w = .ok x.size w := by
  obtain ⟨i, z, hi, hs, _⟩ := h.info
  simp [sizeOf, typeInfo, hi, hs]

theorem run_zero_of {P : Program} {t : TypeId} {x : TI} (h : TypeOk P t x) : ∃ z, (∀ w, (zeroValue t).run P w = .ok z w) ∧ (∀ c, Rep c x.zero z) := by
  obtain ⟨i, z, hi, hs, hb, hz, hr, _⟩ := h.info
  exact ⟨z, fun w => by simp [zeroValue, typeInfo, hi, hz], hr⟩

/-! ### reading -/
/-- The same, of what leaves the world alone. -/
def LOk (P : Program) (c : Cfg) (res : Res) (s : Sem Value) : Prop :=
  match res with
  | .ok p st' => st' = c.st ∧ ∃ v, s.run P c.w = .ok v c.w ∧ Rep c p v
  | .panic _ _ => False
  | .fail => True

theorem LOk.v {P : Program} {c : Cfg} (g : Good c) {res : Res} {s : Sem Value} (h : LOk P c res s) : VOk P c res s := by
  unfold LOk at h
  unfold VOk
  split
  · obtain ⟨rfl, v, h1, h2⟩ := h
    exact ⟨c.μ, c.w, v, h1, g, .refl c, h2⟩
  · exact h
  · trivial

theorem loadPart {P : Program} {c : Cfg} (g : Good c) {t : TypeId} {ti : TI} (ht : TypeOk P t ti) {q : Option Nat} (hq : ti.pt = some q) {x : PV} {b o off : Nat} (f : Nat → Value)
    (hf : ∀ (j : Nat) y, x.cells[j]? = some y → c.w.cell? ⟨b, o + j, none⟩ = some (f j) ∧ Rep c y (f j)) :
    LOk P c (opt (part q x off) c.st) (loadVar t ⟨b, o + off, none⟩) := by
  have hu : ti.usable = true := by
    unfold TI.pt at hq; unfold TI.usable; split at hq
    · rename_i h; unfold TI.isAgg at h; revert h; cases ti.d <;> simp
    · split at hq
      · rename_i h; unfold TI.usable at h; exact h
      · cases hq
  have ha := run_isAgg_of ht hu c.w
  have hs := run_sizeOf_of ht c.w
  unfold loadVar
  cases hagg : ti.isAgg with
  | false =>
    rw [hagg] at ha
    have hq' : q = none := by simp [TI.pt, hagg, hu] at hq; exact hq.symm
    subst hq'
    simp only [part]
    cases hy : x.cells[off]? with
    | none => trivial
    | some y =>
      obtain ⟨h1, h2⟩ := hf off y hy
      exact ⟨rfl, _, by simp [ha, h1], h2⟩
  | true =>
    rw [hagg] at ha
    have hq' : q = some ti.size := by simp [TI.pt, hagg] at hq; exact hq.symm
    subst hq'
    simp only [part]
    split
    · rename_i hle
      have hcells : ∀ (j : Nat) v, ((List.range ti.size).map fun j => f (off + j))[j]? = some v → c.w.cell? ((⟨b, o + off, none⟩ : Addr).add j) = some v := by
        intro j v hv
        simp only [List.getElem?_map, List.getElem?_range] at hv
        by_cases hj : j < ti.size
        · have hy : (x.cells)[off + j]? = some (x.cells[off + j]'(by omega)) := List.getElem?_eq_getElem (by omega)
          have := (hf (off + j) _ hy).1
          simp [hj] at hv
          rw [add_addr, ← hv, Nat.add_assoc]; exact this
        · simp [hj] at hv
      have hl := run_loadCells_list (P := P) c.w ⟨b, o + off, none⟩ _ hcells
      simp only [List.length_map, List.length_range] at hl
      refine ⟨rfl, .agg ((List.range ti.size).map fun j => f (off + j)).toArray, by simp [ha, hs, hl], ?_⟩
      refine .agg _ _ (by simp; omega) (fun j h1 h2 => ?_)
      simp only [List.length_map, List.length_range] at h2
      have hy : (x.cells)[off + j]? = some (x.cells[off + j]'(by omega)) := List.getElem?_eq_getElem (by omega)
      have := (hf (off + j) _ hy).2
      simpa using this
    · trivial

theorem cell_block {w : World} {b j : Nat} {cs : Array Value} {e : TypeId} {fz : Nat × Nat} (h : w.heap[b]? = some (.cells cs e fz)) : w.cell? ⟨b, j, none⟩ = cs[j]? := by
  simp [World.cell?, h]

theorem run_loadAt {P : Program} {t : TypeId} {a : Addr} {w : World} : (Instr.loadAt t (.pointer (some a))).run P w = (loadVar t a).run P w := by
  simp [Instr.loadAt, Instr.sureAddr]

/-- What a live pointer's element is. -/
theorem Good.elem {c : Cfg} (g : Good c) {id b idx : Nat} {bl : Blk} {x : PV} (hb : c.st.H id = some bl) (hm : c.μ id = some b) (hx : bl.xs[idx]? = some x) :
    ∃ cs e, c.w.heap[b]? = some (.cells cs e (0, 0)) ∧ fitsE bl.sz x = true ∧ idx * bl.sz + bl.sz ≤ cs.size ∧ ∀ (j : Nat) y, x.cells[j]? = some y → ∃ u, cs[idx * bl.sz + j]? = some u ∧ Rep c y u := by
  obtain ⟨hh, cs, e, h1, h2, h3⟩ := g.blk id bl b hb hm
  have hfit := g.fits id bl hb
  have hidx : idx < bl.xs.length := (List.getElem?_eq_some_iff.1 hx).1
  have hxm : x ∈ bl.xs := List.mem_of_getElem? hx
  refine ⟨cs, e, h1, hfit x hxm, ?_, fun j y hy => ?_⟩
  · have : (idx + 1) * bl.sz ≤ bl.xs.length * bl.sz := Nat.mul_le_mul_right _ hidx
    rw [Nat.add_mul] at this
    rw [Nat.mul_comm bl.sz] at h2
    omega
  · have hj : j < bl.sz := by have := (List.getElem?_eq_some_iff.1 hy).1; rw [fitsE_len (hfit x hxm)] at this; exact this
    have hfl := flat_get hfit hx hj
    rw [hy] at hfl
    obtain ⟨hlt, he⟩ := List.getElem?_eq_some_iff.1 hfl
    obtain ⟨u, hu, hr⟩ := h3 _ hlt
    rw [he] at hr
    exact ⟨u, hu, hr⟩

theorem load_okL {P : Program} {c : Cfg} (g : Good c) {t : TypeId} {ti : TI} (ht : TypeOk P t ti) {q : Option Nat} (hq : ti.pt = some q) {p : PV} {v : Value} (hr : Rep c p v) :
    LOk P c (loadM q p c.st) (Instr.loadAt t v) := by
  unfold loadM
  cases hr with
  | ptr id n idx off bl b hi hb hn hm =>
    simp only [hb, hn, if_true]
    cases hx : bl.xs[idx]? with
    | none => trivial
    | some x =>
      obtain ⟨cs, e, h1, hfit, _, h3⟩ := g.elem hb hm hx
      have := loadPart g ht hq (x := x) (b := b) (o := idx * bl.sz) (off := off) (fun j => cs.getD (idx * bl.sz + j) undef) (fun j y hy => by
        obtain ⟨u, hu, hr⟩ := h3 j y hy
        rw [cell_block h1]
        obtain ⟨hlt, he⟩ := Array.getElem?_eq_some_iff.1 hu
        have hd : cs.getD (idx * bl.sz + j) undef = u := by simp [hlt, he]
        rw [hd]; exact ⟨hu, hr⟩)
      unfold LOk at this ⊢
      rw [run_loadAt]
      exact this
  | ptrx id n idx off a hs =>
    rcases hs with hd | ⟨bl, hb, hlt⟩
    · simp only [g.dead id hd]; trivial
    · have : ¬ bl.xs.length = n := by omega
      simp only [hb, this, if_false]; trivial
  | cref x off b o us hk hn hc hr ho =>
    have := loadPart g ht hq (x := x) (b := b) (o := o) (off := off) us (fun j y hy => by
      obtain ⟨hj, rfl⟩ := List.getElem?_eq_some_iff.1 hy
      exact ⟨hc j hj, hr j hj⟩)
    unfold LOk at this ⊢
    rw [run_loadAt]
    exact this
  | _ => trivial

theorem load_ok {P : Program} {c : Cfg} (g : Good c) {t : TypeId} {ti : TI} (ht : TypeOk P t ti) {q : Option Nat} (hq : ti.pt = some q) {p : PV} {v : Value} (hr : Rep c p v) :
    VOk P c (loadM q p c.st) (Instr.loadAt t v) := (load_okL g ht hq hr).v g

end Go.Abs
end
/-
  THE ABSTRACT OPERATIONS ARE THE MODEL's: writing, making blocks.
-/
section
set_option linter.unusedSimpArgs false
set_option linter.unusedVariables false
namespace Go.Abs
open Go

/-- Values one by one: as far as the first list goes. -/
def RepSeq (c : Cfg) (ps : List PV) (us : List Value) : Prop := ∀ (j : Nat) p, ps[j]? = some p → ∃ u, us[j]? = some u ∧ Rep c p u

theorem RepSeq.evo {c c' : Cfg} (h : Evo c c') {ps us} (r : RepSeq c ps us) : RepSeq c' ps us := fun j p hp => let ⟨u, h1, h2⟩ := r j p hp; ⟨u, h1, h2.evo h⟩

theorem RepSeq.splice {c : Cfg} {ps qs : List PV} {us vs : List Value} (h : RepSeq c ps us) (k : RepSeq c qs vs) (hl : qs.length = vs.length) {o : Nat} (ho : o + qs.length ≤ ps.length) :
    RepSeq c (Abs.splice ps o qs) (us.take o ++ vs ++ us.drop (o + vs.length)) := by
  have hps : ps.length ≤ us.length := by
    by_cases h0 : ps.length = 0
    · omega
    · obtain ⟨u, hu, _⟩ := h (ps.length - 1) (ps[ps.length - 1]'(by omega)) (List.getElem?_eq_getElem (by omega))
      have := (List.getElem?_eq_some_iff.1 hu).1; omega
  intro j p hp
  unfold Abs.splice at hp
  have h1 : (ps.take o).length = o := by rw [List.length_take]; omega
  have h2 : (us.take o).length = o := by rw [List.length_take]; omega
  by_cases hj : j < o
  · rw [List.append_assoc, List.getElem?_append_left (by omega), List.getElem?_take, if_pos hj] at hp
    rw [List.append_assoc, List.getElem?_append_left (by omega), List.getElem?_take, if_pos hj]
    exact h j p hp
  · by_cases hj2 : j < o + qs.length
    · rw [List.append_assoc, List.getElem?_append_right (by omega), h1, List.getElem?_append_left (by omega)] at hp
      rw [List.append_assoc, List.getElem?_append_right (by omega), h2, List.getElem?_append_left (by omega)]
      exact k (j - o) p hp
    · rw [List.append_assoc, List.getElem?_append_right (by omega), h1, List.getElem?_append_right (by omega), List.getElem?_drop] at hp
      rw [List.append_assoc, List.getElem?_append_right (by omega), h2, List.getElem?_append_right (by omega), List.getElem?_drop]
      rw [← hl]
      exact h _ p hp

theorem RepSeq.append {c : Cfg} {ps qs : List PV} {us vs : List Value} (h : RepSeq c ps us) (k : RepSeq c qs vs) (hl : ps.length = us.length) : RepSeq c (ps ++ qs) (us ++ vs) := by
  intro j p hp
  by_cases hj : j < ps.length
  · rw [List.getElem?_append_left hj] at hp
    rw [List.getElem?_append_left (by omega)]; exact h j p hp
  · rw [List.getElem?_append_right (by omega)] at hp
    rw [List.getElem?_append_right (by omega), ← hl]; exact k _ p hp

theorem RepSeq.more {c : Cfg} {ps : List PV} {us vs : List Value} (h : RepSeq c ps us) : RepSeq c ps (us ++ vs) := fun j p hp => by
  obtain ⟨u, hu, hr⟩ := h j p hp
  exact ⟨u, by rw [List.getElem?_append_left (List.getElem?_eq_some_iff.1 hu).1]; exact hu, hr⟩

theorem RepSeq.take {c : Cfg} {ps : List PV} {us : List Value} (h : RepSeq c ps us) (n : Nat) : RepSeq c (ps.take n) (us.take n) := fun j p hp => by
  rw [List.getElem?_take] at hp ⊢
  split at hp
  · rename_i hj; rw [if_pos hj]; exact h j p hp
  · cases hp

theorem RepSeq.drop {c : Cfg} {ps : List PV} {us : List Value} (h : RepSeq c ps us) (n : Nat) : RepSeq c (ps.drop n) (us.drop n) := fun j p hp => by
  rw [List.getElem?_drop] at hp ⊢; exact h _ p hp

theorem Rep.seq {c : Cfg} {p : PV} {v : Value} (h : Rep c p v) (hk : p.known = true) : RepSeq c p.cells v.cells.toList := fun j q hq => by
  obtain ⟨u, hu, hr⟩ := (h.cells hk).2 j q hq
  exact ⟨u, by simpa using hu, hr⟩

theorem BlkOk.seq {c : Cfg} {bl : Blk} {b : Nat} (h : BlkOk c bl b) : ∃ cs e, c.w.heap[b]? = some (.cells cs e (0, 0)) ∧ bl.sz * bl.xs.length ≤ cs.size ∧ RepSeq c (flat bl.xs) cs.toList := by
  obtain ⟨_, cs, e, h1, h2, h3⟩ := h
  refine ⟨cs, e, h1, h2, fun j p hp => ?_⟩
  obtain ⟨hj, rfl⟩ := List.getElem?_eq_some_iff.1 hp
  obtain ⟨u, hu, hr⟩ := h3 j hj
  exact ⟨u, by simpa using hu, hr⟩

theorem BlkOk.of_seq {c : Cfg} {bl : Blk} {b : Nat} (hh : ¬ c.hid b) {cs : Array Value} {e : TypeId} (h1 : c.w.heap[b]? = some (.cells cs e (0, 0))) (h2 : bl.sz * bl.xs.length ≤ cs.size) (h3 : RepSeq c (flat bl.xs) cs.toList) : BlkOk c bl b :=
  ⟨hh, cs, e, h1, h2, fun j hj => by
    obtain ⟨u, hu, hr⟩ := h3 j _ (List.getElem?_eq_getElem hj)
    exact ⟨u, by simpa using hu, hr⟩⟩

theorem BlkOk.evo {c c' : Cfg} (h : Evo c c') {bl : Blk} {b : Nat} (hb : BlkOk c bl b) (hw : c'.w.heap[b]? = c.w.heap[b]?) : BlkOk c' bl b :=
  ⟨by rw [h.hid]; exact hb.hid, by
    obtain ⟨cs, e, h1, h2, h3⟩ := hb.cells
    exact ⟨cs, e, hw.trans h1, h2, fun j hj => let ⟨u, hu, hr⟩ := h3 j hj; ⟨u, hu, hr.evo h⟩⟩⟩

theorem upd_same (H : Nat → Option Blk) (i : Nat) (b : Option Blk) : upd H i b i = b := by simp [upd]
theorem upd_other (H : Nat → Option Blk) {i j : Nat} (b : Option Blk) (h : j ≠ i) : upd H i b j = H j := by simp [upd, h]

theorem shape_setRow {w : World} {b : Nat} {cs cs' : Array Value} {e : TypeId} (hw : w.heap[b]? = some (.cells cs e (0, 0))) (hsz : cs'.size = cs.size) (k : Nat) : (w.setRow b cs').shape? k = w.shape? k := by
  by_cases hk : k = b
  · subst hk
    simp only [World.shape?, setRow_heap w k cs cs' e (0, 0) hw, hw, hsz]
  · simp only [World.shape?, setRow_other w b k cs' hk]

/-- A block of our own gets other contents, no fewer elements. -/
theorem Good.write {c : Cfg} (g : Good c) {id b : Nat} {bl : Blk} (hb : c.st.H id = some bl) (hm : c.μ id = some b) {cs cs' : Array Value} {e : TypeId} (hw : c.w.heap[b]? = some (.cells cs e (0, 0)))
    (hsz : cs'.size = cs.size) {xs : List PV} (hle : bl.xs.length ≤ xs.length) (hfit : ∀ x ∈ xs, fitsE bl.sz x = true) (hroom : bl.sz * xs.length ≤ cs'.size) (hrep : RepSeq c (flat xs) cs'.toList) :
    Good ⟨{ c.st with H := upd c.st.H id (some ⟨bl.sz, xs⟩) }, c.μ, c.w.setRow b cs', c.hid⟩ ∧ Evo c ⟨{ c.st with H := upd c.st.H id (some ⟨bl.sz, xs⟩) }, c.μ, c.w.setRow b cs', c.hid⟩ := by
  have ev : Evo c ⟨{ c.st with H := upd c.st.H id (some ⟨bl.sz, xs⟩) }, c.μ, c.w.setRow b cs', c.hid⟩ := by
    refine ⟨fun k hk hmk => setRow_other _ _ _ _ (fun e => hmk ⟨id, bl, hb, e ▸ hm⟩), by simp, rfl, rfl, rfl, rfl, fun k hk => ?_, Nat.le_refl _, fun i hi => hi, fun i bl' hb' => ?_, fun k s hs => ?_⟩
    · obtain ⟨i, bl', h1, h2⟩ := hk
      by_cases hi : i = id
      · subst hi; exact .inl ⟨i, bl, hb, h2⟩
      · have h1' : upd c.st.H id (some ⟨bl.sz, xs⟩) i = some bl' := h1
        rw [upd_other _ _ hi] at h1'; exact .inl ⟨i, bl', h1', h2⟩
    · by_cases hi : i = id
      · subst hi; rw [hb] at hb'; cases hb'
        exact .inr ⟨⟨bl.sz, xs⟩, upd_same _ _ _, rfl, hle, fun _ => rfl⟩
      · exact .inr ⟨bl', by simpa [upd_other _ _ hi] using hb', rfl, Nat.le_refl _, fun _ => rfl⟩
    · rw [← hs]; exact shape_setRow hw hsz k
  refine ⟨⟨fun i bl' hb' => ?_, fun i hd => ?_, fun i hd => g.deadnx i hd, fun i bl' hb' => ?_, fun i bl' b' hb' hm' => ?_, fun i bl' hb' hm' => ?_, fun i i' bl1 bl2 b' h1 h2 m1 m2 => ?_, fun b' hb' => by simpa using g.hidlt b' hb'⟩, ev⟩
  · by_cases hi : i = id
    · subst hi; exact g.nx i bl hb
    · exact g.nx i bl' (by simpa [upd_other _ _ hi] using hb')
  · have hi : i ≠ id := fun e => by subst e; have := g.dead i hd; rw [hb] at this; cases this
    have := g.dead i hd
    simpa [upd_other _ _ hi] using this
  · by_cases hi : i = id
    · subst hi; simp only [upd_same, Option.some.injEq] at hb'; subst hb'; exact hfit
    · exact g.fits i bl' (by simpa [upd_other _ _ hi] using hb')
  · by_cases hi : i = id
    · subst hi; simp only [upd_same, Option.some.injEq] at hb'; subst hb'
      simp only [hm, Option.some.injEq] at hm'; subst hm'
      exact .of_seq (g.blk i bl b hb hm).hid (setRow_heap _ _ _ _ _ _ hw) hroom (hrep.evo ev)
    · have hb'' : c.st.H i = some bl' := by simpa [upd_other _ _ hi] using hb'
      have hne : b' ≠ b := fun e => hi (g.inj i id bl' bl b' hb'' hb hm' (e ▸ hm))
      exact (g.blk i bl' b' hb'' hm').evo ev (setRow_other _ _ _ _ hne)
  · by_cases hi : i = id
    · subst hi; simp only [hm] at hm'; cases hm'
    · exact g.bare i bl' (by simpa [upd_other _ _ hi] using hb') hm'
  · have f : ∀ i bl', upd c.st.H id (some ⟨bl.sz, xs⟩) i = some bl' → ∃ bl'', c.st.H i = some bl'' := fun i bl' h => by
      by_cases hi : i = id
      · subst hi; exact ⟨bl, hb⟩
      · exact ⟨bl', by simpa [upd_other _ _ hi] using h⟩
    obtain ⟨x1, y1⟩ := f i bl1 h1
    obtain ⟨x2, y2⟩ := f i' bl2 h2
    exact g.inj i i' x1 x2 b' y1 y2 m1 m2

theorem flat_set {sz : Nat} : ∀ {xs : List PV}, (∀ x ∈ xs, fitsE sz x = true) → ∀ {i : Nat} {y : PV}, i < xs.length → y.cells.length = sz → flat (xs.set i y) = (flat xs).take (i * sz) ++ y.cells ++ (flat xs).drop (i * sz + sz)
  | [], _, i, y, hi, _ => by simp at hi
  | x :: xs, h, 0, y, hi, hy => by
    have hx := fitsE_len (h x (by simp))
    simp only [List.set_cons_zero, flat_cons, Nat.zero_mul, List.take_zero, List.nil_append, Nat.zero_add]
    rw [List.drop_append, hx]
    have e1 : List.drop sz x.cells = [] := List.drop_eq_nil_iff.2 (by omega)
    simp [e1]
  | x :: xs, h, i + 1, y, hi, hy => by
    have hx := fitsE_len (h x (by simp))
    have ih := flat_set (xs := xs) (fun z hz => h z (by simp [hz])) (i := i) (y := y) (by simpa using hi) hy
    simp only [List.set_cons_succ, flat_cons, ih]
    have e1 : (i + 1) * sz = sz + i * sz := by rw [Nat.add_mul]; omega
    rw [e1, List.take_append, List.drop_append, hx]
    have e2 : List.take (sz + i * sz) x.cells = x.cells := List.take_of_length_le (by omega)
    have e3 : List.drop (sz + i * sz + sz) x.cells = [] := List.drop_eq_nil_iff.2 (by omega)
    rw [e2, e3]
    have e4 : sz + i * sz - sz = i * sz := by omega
    have e5 : sz + i * sz + sz - sz = i * sz + sz := by omega
    rw [e4, e5]
    simp [List.append_assoc]

theorem splice_splice {α : Type} (l m n : List α) (o p : Nat) (hm : p + n.length ≤ m.length) (ho : o + m.length ≤ l.length) (hl : (l.drop o).take m.length = m) :
    l.take o ++ (m.take p ++ n ++ m.drop (p + n.length)) ++ l.drop (o + m.length) = l.take (o + p) ++ n ++ l.drop (o + p + n.length) := by
  have e1 : l.take o ++ m.take p = l.take (o + p) := by
    rw [List.take_add, ← hl, List.take_take]
    congr 2; omega
  have e2 : m.drop (p + n.length) ++ l.drop (o + m.length) = l.drop (o + p + n.length) := by
    have : l.drop (o + p + n.length) = ((l.drop o).take m.length ++ (l.drop o).drop m.length).drop (p + n.length) := by
      rw [List.take_append_drop, List.drop_drop]; congr 1; omega
    rw [this, hl, List.drop_append, List.drop_drop]
    congr 1
    rw [show p + n.length - m.length = 0 by omega]
    simp
  rw [← e1, ← e2]
  simp [List.append_assoc]

theorem splice_length (cs vs : List PV) (off : Nat) (h : off + vs.length ≤ cs.length) : (splice cs off vs).length = cs.length := by
  simp [splice]; omega

theorem simple_known {v : PV} (h : v.simple = true) : v.known = true := by cases v <;> simp_all [PV.simple, PV.known]
theorem simple_cells {v : PV} (h : v.simple = true) : v.cells = [v] := by cases v <;> simp_all [PV.simple, PV.cells]

theorem setPart_spec {x v y : PV} {off sz : Nat} (hx : fitsE sz x = true) (h : setPart x off v = some y) :
    v.known = true ∧ (∀ q ∈ v.cells, q.simple = true) ∧ off + v.cells.length ≤ x.cells.length ∧ y.cells = splice x.cells off v.cells ∧ y.known = true := by
  unfold setPart at h
  split at h
  · rename_i hv
    simp only [Bool.and_eq_true, List.all_eq_true] at hv
    split at h
    · rename_i cs
      split at h
      · rename_i hle; cases h; exact ⟨hv.1, hv.2, hle, rfl, rfl⟩
      · cases h
    · rename_i hna
      split at h
      · rename_i hle
        cases h
        have hc := simple_cells hle.2
        have hxc : x.cells = [x] := by cases x <;> simp_all [PV.cells]
        refine ⟨hv.1, hv.2, by rw [hc, hxc, hle.1]; simp, ?_, hv.1⟩
        rw [hc, hxc, hle.1]; simp [splice]
      · cases h
  · cases h

theorem one_of_simple {c : Cfg} {ps : List PV} {us : List Value} (h : RepSeq c ps us) (hl : ps.length = us.length) (hs : ∀ q ∈ ps, q.simple = true) : ∀ u ∈ us, u.oneCell' = true := by
  intro u hu
  obtain ⟨j, hj, rfl⟩ := List.getElem_of_mem hu
  obtain ⟨u', hu', hr⟩ := h j _ (List.getElem?_eq_getElem (by omega : j < ps.length))
  rw [List.getElem?_eq_getElem hj] at hu'
  cases hu'
  exact hr.one (hs _ (List.getElem_mem _))

/-- What 'storeVar' does in a block of our own. -/
theorem store_run {P : Program} {c : Cfg} (g : Good c) {t : TypeId} {ti : TI} (ht : TypeOk P t ti) {id b idx off : Nat} {bl : Blk} (hb : c.st.H id = some bl) (hm : c.μ id = some b)
    {x y v : PV} {u : Value} (hx : bl.xs[idx]? = some x) (hsz : v.cells.length = ti.size) (hset : setPart x off v = some y) (hr : Rep c v u) :
    ∃ w', (storeVar t ⟨b, idx * bl.sz + off, none⟩ u).run P c.w = .ok () w' ∧ Good ⟨{ c.st with H := upd c.st.H id (some ⟨bl.sz, bl.xs.set idx y⟩) }, c.μ, w', c.hid⟩ ∧
      Evo c ⟨{ c.st with H := upd c.st.H id (some ⟨bl.sz, bl.xs.set idx y⟩) }, c.μ, w', c.hid⟩ := by
  have hfit := g.fits id bl hb
  have hidx : idx < bl.xs.length := (List.getElem?_eq_some_iff.1 hx).1
  have hxf := hfit x (List.mem_of_getElem? hx)
  obtain ⟨hvk, hvs, hle, hyc, hyk⟩ := setPart_spec hxf hset
  have hxl := fitsE_len hxf
  obtain ⟨cs, e, h1, h2, h3⟩ := (g.blk id bl b hb hm).seq
  have hfl := flat_length hfit
  have hseq := hr.seq hvk
  have hcl := (hr.cells hvk).1
  have hlen : v.cells.length = u.cells.toList.length := by simpa using hcl
  have hone := one_of_simple hseq hlen hvs
  have hfin : idx * bl.sz + bl.sz ≤ bl.xs.length * bl.sz := by
    have : (idx + 1) * bl.sz ≤ bl.xs.length * bl.sz := Nat.mul_le_mul_right _ hidx
    rw [Nat.add_mul] at this; omega
  have hroom : idx * bl.sz + off + 0 + u.cells.toList.length ≤ cs.size := by
    rw [Nat.mul_comm] at h2; omega
  have hst := run_storeCells_at P b (idx * bl.sz + off) e u.cells.toList 0 cs c.w h1 hroom hone
  simp only [Nat.add_zero] at hst
  have hsize := run_sizeOf_of ht c.w
  refine ⟨c.w.setRow b (List.take (idx * bl.sz + off) cs.toList ++ u.cells.toList ++ List.drop (idx * bl.sz + off + u.cells.toList.length) cs.toList).toArray, ?_, ?_⟩
  · unfold storeVar
    have hcs : u.cells.size = ti.size := by omega
    simp only [Sem.run_bind, hsize, Result.andThen, hcs, ne_eq, not_true_eq_false, if_false, Sem.run_pure, hst]
  · have hflat : flat (bl.xs.set idx y) = splice (flat bl.xs) (idx * bl.sz + off) v.cells := by
      rw [flat_set hfit hidx (by rw [hyc, splice_length _ _ _ hle]; exact hxl), hyc]
      have hpart : ((flat bl.xs).drop (idx * bl.sz)).take x.cells.length = x.cells := by
        apply List.ext_getElem?
        intro j
        rw [List.getElem?_take]
        split
        · rename_i hj
          rw [List.getElem?_drop]
          exact flat_get hfit hx (by omega)
        · rename_i hj
          rw [List.getElem?_eq_none (by omega)]
      have := splice_splice (flat bl.xs) x.cells v.cells (idx * bl.sz) off hle (by omega) hpart
      rw [hxl] at this
      unfold splice
      rw [← this]
    refine g.write hb hm h1 (by simp; omega) (by simp) (fun z hz => ?_) (by simp; omega) ?_
    · rcases List.mem_or_eq_of_mem_set hz with hz | rfl
      · exact hfit z hz
      · simp [fitsE, hyk, hyc, splice_length _ _ _ hle, hxl]
    · rw [hflat]
      have := RepSeq.splice h3 hseq hlen (o := idx * bl.sz + off) (by omega)
      simpa using this

end Go.Abs
end
/-
  THE ABSTRACT OPERATIONS ARE THE MODEL's: new blocks, aggregates, slices that are made.
-/
section
set_option linter.unusedSimpArgs false
set_option linter.unusedVariables false
namespace Go.Abs
open Go

/-- A world with the same memory. -/
structure SameMem (w w' : World) : Prop where
  heap : w'.heap = w.heap
  os : w'.os = w.os
  tape : w'.tape = w.tape
  output : w'.output = w.output

theorem SameMem.refl (w : World) : SameMem w w := ⟨rfl, rfl, rfl, rfl⟩
theorem SameMem.drew (w : World) : SameMem w w.drew := ⟨rfl, rfl, rfl, rfl⟩

theorem cell_same {w w' : World} (h : SameMem w w') (a : Addr) : w'.cell? a = w.cell? a := by simp [World.cell?, h.heap]
theorem shape_same {w w' : World} (h : SameMem w w') (k : Nat) : w'.shape? k = w.shape? k := by simp [World.shape?, h.heap]

/-- The same memory under another world. -/
theorem Evo.same {c : Cfg} {w' : World} (h : SameMem c.w w') : Evo c ⟨c.st, c.μ, w', c.hid⟩ :=
  ⟨fun b _ _ => by simp [h.heap], by simp [h.heap], h.os, h.tape, h.output, rfl, fun b hb => .inl hb, Nat.le_refl _, fun _ h => h, fun id bl hb => .inr ⟨bl, hb, rfl, Nat.le_refl _, fun _ => rfl⟩, fun b s hs => by rw [← hs]; exact shape_same h b⟩

theorem Good.same {c : Cfg} (g : Good c) {w' : World} (h : SameMem c.w w') : Good ⟨c.st, c.μ, w', c.hid⟩ :=
  ⟨g.nx, g.dead, g.deadnx, g.fits, fun id bl b hb hm => (g.blk id bl b hb hm).evo (Evo.same h) (by simp [h.heap]), g.bare, g.inj, fun b hb => by have := g.hidlt b hb; simpa [h.heap] using this⟩

/-- A new block. -/
theorem Good.fresh {c : Cfg} (g : Good c) {id nx' : Nat} (hH : c.st.H id = none) (hd : c.st.dead id = false) (hlt : id < nx') (hnx : c.st.nx ≤ nx') {sz : Nat} {xs : List PV} (hfit : ∀ x ∈ xs, fitsE sz x = true)
    {cells : Array Value} {e : TypeId} (hroom : sz * xs.length ≤ cells.size) (hrep : RepSeq c (flat xs) cells.toList) {w0 : World} (hw : SameMem c.w w0) :
    Good ⟨⟨upd c.st.H id (some ⟨sz, xs⟩), nx', c.st.dead⟩, fun i => if i = id then some c.w.heap.size else c.μ i, w0.alloc (.cells cells e), c.hid⟩ ∧
    Evo c ⟨⟨upd c.st.H id (some ⟨sz, xs⟩), nx', c.st.dead⟩, fun i => if i = id then some c.w.heap.size else c.μ i, w0.alloc (.cells cells e), c.hid⟩ := by
  have hsize : w0.heap.size = c.w.heap.size := by rw [hw.heap]
  have hold : ∀ k, k < c.w.heap.size → (w0.alloc (.cells cells e)).heap[k]? = c.w.heap[k]? := fun k hk => by
    rw [heap_alloc_old _ _ (by omega), hw.heap]
  have hnew : (w0.alloc (.cells cells e)).heap[c.w.heap.size]? = some (.cells cells e (0, 0)) := by
    rw [← hsize]; exact heap_alloc_new w0 _
  have ev : Evo c ⟨⟨upd c.st.H id (some ⟨sz, xs⟩), nx', c.st.dead⟩, fun i => if i = id then some c.w.heap.size else c.μ i, w0.alloc (.cells cells e), c.hid⟩ := by
    refine ⟨fun k hk _ => hold k hk, by simp; omega, hw.os, hw.tape, hw.output, rfl, fun k hk => ?_, hnx, fun i hi => hi, fun i bl hb => ?_, fun k s hs => ?_⟩
    · obtain ⟨i, bl, h1, h2⟩ := hk
      by_cases hi : i = id
      · subst hi; simp at h2; exact .inr (by omega)
      · have h1' : upd c.st.H id (some ⟨sz, xs⟩) i = some bl := h1
        rw [upd_other _ _ hi] at h1'
        simp only [hi, if_false] at h2
        exact .inl ⟨i, bl, h1', h2⟩
    · have hi : i ≠ id := fun e => by subst e; rw [hH] at hb; cases hb
      exact .inr ⟨bl, by simpa [upd_other _ _ hi] using hb, rfl, Nat.le_refl _, fun _ => by simp [hi]⟩
    · have hk : k < c.w.heap.size := by
        simp only [World.shape?] at hs
        split at hs
        · rename_i h; exact (Array.getElem?_eq_some_iff.1 h).1
        · cases hs
      simp only [World.shape?, hold k hk] at hs ⊢; exact hs
  have mlt : ∀ i bl b, c.st.H i = some bl → c.μ i = some b → b < c.w.heap.size := fun i bl b hb hm => by
    obtain ⟨cs, e, h, _⟩ := (g.blk i bl b hb hm).cells
    exact (Array.getElem?_eq_some_iff.1 h).1
  refine ⟨⟨fun i bl hb => ?_, fun i hi => ?_, fun i hi => Nat.lt_of_lt_of_le (g.deadnx i hi) hnx, fun i bl hb => ?_, fun i bl b hb hm => ?_, fun i bl hb hm => ?_, fun i i' bl bl' b h1 h2 m1 m2 => ?_, fun b hb => ?_⟩, ev⟩
  · by_cases hi : i = id
    · subst hi; exact hlt
    · exact Nat.lt_of_lt_of_le (g.nx i bl (by simpa [upd_other _ _ hi] using hb)) hnx
  · have hne : i ≠ id := fun e => by subst e; simp only at hi; rw [hd] at hi; cases hi
    have := g.dead i hi
    simpa [upd_other _ _ hne] using this
  · by_cases hi : i = id
    · subst hi; simp only [upd_same, Option.some.injEq] at hb; subst hb; exact hfit
    · exact g.fits i bl (by simpa [upd_other _ _ hi] using hb)
  · by_cases hi : i = id
    · subst hi; simp only [upd_same, Option.some.injEq] at hb; subst hb
      simp only [if_true, Option.some.injEq] at hm; subst hm
      exact .of_seq (fun hh => by have := g.hidlt _ hh; omega) hnew hroom (hrep.evo ev)
    · have hb' : c.st.H i = some bl := by simpa [upd_other _ _ hi] using hb
      simp only [hi, if_false] at hm
      exact (g.blk i bl b hb' hm).evo ev (hold b (mlt i bl b hb' hm))
  · by_cases hi : i = id
    · subst hi; simp at hm
    · simp only [hi, if_false] at hm; exact g.bare i bl (by simpa [upd_other _ _ hi] using hb) hm
  · by_cases hi : i = id
    · by_cases hi' : i' = id
      · rw [hi, hi']
      · subst hi
        simp only [hi', if_false] at m2
        simp only [if_true, Option.some.injEq] at m1
        have := mlt i' bl' b (by simpa [upd_other _ _ hi'] using h2) m2
        omega
    · by_cases hi' : i' = id
      · subst hi'
        simp only [hi, if_false] at m1
        simp only [if_true, Option.some.injEq] at m2
        have := mlt i bl b (by simpa [upd_other _ _ hi] using h1) m1
        omega
      · simp only [hi, if_false] at m1
        simp only [hi', if_false] at m2
        exact g.inj i i' bl bl' b (by simpa [upd_other _ _ hi] using h1) (by simpa [upd_other _ _ hi'] using h2) m1 m2
  · have := g.hidlt b hb
    simp; omega

/-- A number under which a block may be made. -/
def FreeId (c : Cfg) (at_ : Option Nat) : Prop := ∀ id, at_ = some id → id < c.st.nx ∧ c.st.H id = none ∧ c.st.dead id = false

theorem nx_free {c : Cfg} (g : Good c) : c.st.H c.st.nx = none ∧ c.st.dead c.st.nx = false := by
  refine ⟨?_, ?_⟩
  · cases h : c.st.H c.st.nx with
    | none => rfl
    | some bl => have := g.nx _ _ h; omega
  · cases h : c.st.dead c.st.nx with
    | false => rfl
    | true => have := g.deadnx _ h; omega

/-- What making a block comes to. -/
theorem withId_newAt {c : Cfg} (g : Good c) {at_ : Option Nat} (hf : FreeId c at_) {sz : Nat} {xs : List PV} {v : Nat → PV} {p : PV} {st' : St}
    (h : withId at_ (fun id => newAt id sz xs (v id)) c.st = .ok p st') :
    ∃ id nx', c.st.H id = none ∧ c.st.dead id = false ∧ id < nx' ∧ c.st.nx ≤ nx' ∧ p = v id ∧ st' = ⟨upd c.st.H id (some ⟨sz, xs⟩), nx', c.st.dead⟩ ∧ ∀ x ∈ xs, fitsE sz x = true := by
  unfold withId at h
  cases at_ with
  | none =>
    simp only [newAt] at h
    split at h
    · rename_i hall
      cases h
      obtain ⟨h1, h2⟩ := nx_free g
      exact ⟨c.st.nx, c.st.nx + 1, h1, h2, by omega, by omega, rfl, rfl, by simpa using hall⟩
    · cases h
  | some id =>
    simp only [newAt] at h
    obtain ⟨h1, h2, h3⟩ := hf id rfl
    split at h
    · rename_i hall
      cases h
      exact ⟨id, c.st.nx, h2, h3, h1, by omega, rfl, rfl, by simpa using hall⟩
    · cases h

theorem withId_no_panic {at_ : Option Nat} {sz : Nat} {xs : List PV} {v : Nat → PV} {st : St} {p : PV} {st' : St} : withId at_ (fun id => newAt id sz xs (v id)) st ≠ .panic p st' := by
  unfold withId newAt
  cases at_ <;> simp only [] <;> split <;> simp

theorem VOk.made {P : Program} {c : Cfg} (g : Good c) {at_ : Option Nat} (hf : FreeId c at_) {sz : Nat} {xs : List PV} {v : Nat → PV} {s : Sem Value}
    (h : (∀ x ∈ xs, fitsE sz x = true) → ∃ cells e w0 u, s.run P c.w = .ok u (w0.alloc (.cells cells e)) ∧ SameMem c.w w0 ∧ sz * xs.length ≤ cells.size ∧ RepSeq c (flat xs) cells.toList ∧
      ∀ id (c' : Cfg), id < c'.st.nx → c'.st.H id = some ⟨sz, xs⟩ → c'.μ id = some c.w.heap.size → c'.w = w0.alloc (.cells cells e) → Rep c' (v id) u) :
    VOk P c (withId at_ (fun id => newAt id sz xs (v id)) c.st) s := by
  unfold VOk
  split
  · rename_i p st' he
    obtain ⟨id, nx', h1, h2, h3, h4, rfl, rfl, h5⟩ := withId_newAt g hf he
    obtain ⟨cells, e, w0, u, hs, hw, hroom, hrep, hu⟩ := h h5
    obtain ⟨g', ev⟩ := g.fresh h1 h2 h3 h4 h5 hroom hrep hw (e := e)
    exact ⟨_, _, u, hs, g', ev, hu id _ h3 (upd_same _ _ _) (by simp) rfl⟩
  · rename_i p st' he; exact (withId_no_panic he).elim
  · trivial

theorem flat_one (v : PV) : flat [v] = v.cells := by simp [flat]

theorem box_ok {P : Program} {c : Cfg} (g : Good c) {at_ : Option Nat} (hf : FreeId c at_) {e : TypeId} {ti : TI} (ht : TypeOk P e ti) {p : PV} {u : Value} (hr : Rep c p u) :
    VOk P c (boxM at_ ti.size p c.st) (Instr.box e u) := by
  refine VOk.made g hf fun hfit => ?_
  have hp := hfit p (by simp)
  have hk := fitsE_known hp
  have hl := fitsE_len hp
  refine ⟨u.cells, e, c.w, .pointer (some ⟨c.w.heap.size, 0, none⟩), ?_, .refl _, ?_, ?_, fun id c' h0 h1 h2 h3 => ?_⟩
  · simp [Instr.box, newVar, newRow]
  · have := (hr.cells hk).1; simp; omega
  · rw [flat_one]; exact hr.seq hk
  · have := Rep.ptr (c := c') id 1 0 0 ⟨ti.size, [p]⟩ c.w.heap.size h0 h1 rfl h2
    simpa using this

theorem alloc_ok {P : Program} {c : Cfg} (g : Good c) {at_ : Option Nat} (hf : FreeId c at_) {e : TypeId} {ti : TI} (ht : TypeOk P e ti) :
    VOk P c (boxM at_ ti.size ti.zero c.st) (Instr.alloc e true (.tuple #[])) := by
  obtain ⟨z, hz, hr⟩ := run_zero_of ht
  have := box_ok (P := P) g hf ht (hr c)
  unfold VOk at this ⊢
  have hrun : (Instr.alloc e true (.tuple #[])).run P c.w = (Instr.box e z).run P c.w := by
    simp [Instr.alloc, Instr.box, hz]
  rw [hrun]; exact this

/-! ### filling -/
theorem foldl_set (off : Nat) : ∀ (vs : List Value) (j : Nat) (cells : Array Value), off + j + vs.length ≤ cells.size →
    ((vs.zipIdx j).foldl (fun (cs : Array Value) (x : Value × Nat) => cs.setIfInBounds (off + x.2) x.1) cells).toList = cells.toList.take (off + j) ++ vs ++ cells.toList.drop (off + j + vs.length)
  | [], j, cells, _ => by simp
  | v :: vs, j, cells, h => by
    simp only [List.zipIdx_cons, List.foldl_cons]
    rw [foldl_set off vs (j + 1) _ (by simp at h ⊢; omega)]
    have hj : off + j < cells.size := by simp at h; omega
    simp only [Array.toList_setIfInBounds, List.length_cons]
    have e1 : (cells.toList.set (off + j) v).take (off + (j + 1)) = cells.toList.take (off + j) ++ [v] := by
      rw [← Nat.add_assoc, List.take_add_one, List.take_set_of_le (by omega)]
      simp [hj]
    have e2 : (cells.toList.set (off + j) v).drop (off + (j + 1) + vs.length) = cells.toList.drop (off + j + (vs.length + 1)) := by
      rw [List.drop_set_of_lt (by omega)]
      congr 1; omega
    rw [e1, e2]
    simp [List.append_assoc]

theorem fill_cons {place : Nat → Option (Nat × Nat)} {cells : Array Value} {i off size : Nat} {v : Value} {rest : List (Nat × Value)} (hp : place i = some (off, size)) (hs : v.cells.size = size) (hle : off + size ≤ cells.size) :
    ∃ cells' : Array Value, Instr.fill place cells ((i, v) :: rest) = Instr.fill place cells' rest ∧ cells'.toList = cells.toList.take off ++ v.cells.toList ++ cells.toList.drop (off + v.cells.toList.length) ∧ cells'.size = cells.size := by
  refine ⟨v.cells.zipIdx.foldl (fun cs (c, j) => cs.setIfInBounds (off + j) c) cells, ?_, ?_, ?_⟩
  · rw [Instr.fill, hp]
    simp only []
    rw [if_neg]
    simp [hs]; omega
  · have := foldl_set off v.cells.toList 0 cells (by simp; omega)
    simp only [Nat.add_zero] at this
    rw [← this, ← Array.foldl_toList]
    simp [Array.toList_zipIdx]
  · have := foldl_set off v.cells.toList 0 cells (by simp; omega)
    simp only [Nat.add_zero] at this
    have h2 : (v.cells.zipIdx.foldl (fun (cs : Array Value) (x : Value × Nat) => cs.setIfInBounds (off + x.2) x.1) cells).toList = cells.toList.take off ++ v.cells.toList ++ cells.toList.drop (off + v.cells.toList.length) := by
      rw [← this, ← Array.foldl_toList]
      simp [Array.toList_zipIdx]
    have h3 := congrArg List.length h2
    simp only [Array.length_toList, List.length_append, List.length_take, List.length_drop] at h3
    rw [h3]; omega

end Go.Abs
end
/-
  THE ABSTRACT OPERATIONS ARE THE MODEL's: aggregates and slices that are made; append.
-/
section
set_option linter.unusedSimpArgs false
set_option linter.unusedVariables false
namespace Go.Abs
open Go

/-- Parts with their places, one by one. -/
inductive PartsR (c : Cfg) : List (Nat × PV) → List (Nat × Value) → Prop where
  | nil : PartsR c [] []
  | cons (i : Nat) (p : PV) (v : Value) (ps : List (Nat × PV)) (vs : List (Nat × Value)) (h : Rep c p v) (t : PartsR c ps vs) : PartsR c ((i, p) :: ps) ((i, v) :: vs)

theorem fillE_ok {c : Cfg} {esz : Nat} {eagg : Bool} : ∀ {ps : List (Nat × PV)} {vs : List (Nat × Value)}, PartsR c ps vs → ∀ {xs xs' : List PV} {cells : Array Value}, (∀ x ∈ xs, fitsE esz x = true) →
    cells.size = xs.length * esz → RepSeq c (flat xs) cells.toList → fillE esz eagg xs ps = some xs' →
    ∃ cells', Instr.fill (fun i => some (i * esz, esz)) cells vs = some cells' ∧ (∀ x ∈ xs', fitsE esz x = true) ∧ xs'.length = xs.length ∧ cells'.size = xs'.length * esz ∧ RepSeq c (flat xs') cells'.toList
  | [], _, .nil, xs, xs', cells, hf, hs, hr, h => by
    simp only [fillE, Option.some.injEq] at h
    subst h
    exact ⟨cells, rfl, hf, rfl, hs, hr⟩
  | _, _, .cons i p v ps vs hp t, xs, xs', cells, hf, hs, hr, h => by
    simp only [fillE] at h
    split at h
    · rename_i hc
      obtain ⟨hi, hfit, _⟩ := hc
      have hk := fitsE_known hfit
      have hl := fitsE_len hfit
      have hvc := (hp.cells hk).1
      have hle : i * esz + esz ≤ cells.size := by
        have : (i + 1) * esz ≤ xs.length * esz := Nat.mul_le_mul_right _ hi
        rw [Nat.add_mul] at this; omega
      obtain ⟨cells1, h1, h2, h3⟩ := fill_cons (place := fun i => some (i * esz, esz)) (cells := cells) (i := i) (v := v) (rest := vs) rfl (by omega) hle
      have hflat : flat (xs.set i p) = splice (flat xs) (i * esz) p.cells := by
        rw [flat_set hf hi hl]; unfold splice; rw [hl]
      have hfl := flat_length hf
      have hr1 : RepSeq c (flat (xs.set i p)) cells1.toList := by
        rw [hflat, h2]
        exact RepSeq.splice hr (hp.seq hk) (by simp; omega) (by omega)
      obtain ⟨cells', g1, g2, g3, g4, g5⟩ := fillE_ok t (xs := xs.set i p) (xs' := xs') (cells := cells1) (fun z hz => by
        rcases List.mem_or_eq_of_mem_set hz with hz | rfl
        · exact hf z hz
        · exact hfit) (by rw [h3, List.length_set]; exact hs) hr1 h
      exact ⟨cells', by rw [h1]; exact g1, g2, by rw [g3, List.length_set], g4, g5⟩
    · cases h

theorem flat_replicate_get {sz : Nat} {z : PV} (hz : fitsE sz z = true) (n j : Nat) (hj : j < n * sz) : (flat (List.replicate n z))[j]? = z.cells[j % sz]? := by
  have hpos : 0 < sz := by
    by_cases h : sz = 0
    · subst h; simp at hj
    · omega
  have hd : j / sz < n := Nat.div_lt_of_lt_mul (by rw [Nat.mul_comm]; exact hj)
  have := flat_get (sz := sz) (xs := List.replicate n z) (fun x hx => by rw [(List.mem_replicate.1 hx).2]; exact hz) (i := j / sz) (x := z) (by simp [hd]) (j := j % sz) (Nat.mod_lt _ hpos)
  rw [← this]
  congr 1
  rw [Nat.mul_comm]; exact (Nat.div_add_mod j sz).symm

theorem RepSeq.replicate {c : Cfg} {sz : Nat} {z : PV} {u : Value} (hz : fitsE sz z = true) (hr : Rep c z u) (n m : Nat) (hnm : n ≤ m) :
    RepSeq c (flat (List.replicate n z)) ((Array.range (m * sz)).map (fun i => u.cells[i % u.cells.size]!)).toList := by
  intro j p hp
  have hfl := flat_length (sz := sz) (xs := List.replicate n z) (fun x hx => by rw [(List.mem_replicate.1 hx).2]; exact hz)
  have hj : j < n * sz := by
    have := (List.getElem?_eq_some_iff.1 hp).1
    rw [hfl, List.length_replicate] at this; exact this
  rw [flat_replicate_get hz n j hj] at hp
  have hk := fitsE_known hz
  have hl := fitsE_len hz
  obtain ⟨hc1, hc2⟩ := hr.cells hk
  obtain ⟨u', hu', hr'⟩ := hc2 _ _ hp
  refine ⟨u', ?_, hr'⟩
  have hjm : j < m * sz := Nat.lt_of_lt_of_le hj (Nat.mul_le_mul_right _ hnm)
  have hsz : u.cells.size = sz := by omega
  simp only [Array.toList_map, List.getElem?_map, Array.toList_range, List.getElem?_range hjm, Option.map_some, Option.some.injEq, hsz]
  obtain ⟨hlt, he⟩ := Array.getElem?_eq_some_iff.1 hu'
  rw [getElem!_pos u.cells (j % sz) hlt, he]

theorem buildSlice_ok {P : Program} {c : Cfg} (g : Good c) {at_ : Option Nat} (hf : FreeId c at_) {t e : TypeId} (hts : P.underlying t = some (.slice e)) {ti : TI} (ht : TypeOk P e ti) {len : Nat} {ps : List (Nat × PV)} {vs : List (Nat × Value)}
    (hp : PartsR c ps vs) : VOk P c (buildSliceM at_ ti.size ti.isAgg ti.zero len ps c.st) (Instr.buildSlice t len vs.toArray) := by
  unfold buildSliceM
  cases hxs : fillE ti.size ti.isAgg (List.replicate len ti.zero) ps with
  | none => trivial
  | some xs =>
    simp only []
    by_cases hlen : len * ti.size ≤ 2 ^ 24
    · rw [if_pos hlen]
      obtain ⟨i, z, hi, hs, hb, hz, hzr, hzf, hza⟩ := ht.info
      have hzz := hzr c
      have hzero : ∀ w, (zeroValue e).run P w = .ok z w := fun w => by simp [zeroValue, typeInfo, hi, hz]
      have hsize := run_sizeOf_of ht c.w
      have hrepl : ∀ x ∈ List.replicate len ti.zero, fitsE ti.size x = true := fun x hx => by rw [(List.mem_replicate.1 hx).2]; exact hzf
      obtain ⟨cells', h1, h2, h3, h4, h5⟩ := fillE_ok (esz := ti.size) (eagg := ti.isAgg) hp (xs := List.replicate len ti.zero) (xs' := xs) (cells := (Array.range (len * ti.size)).map (fun i => z.cells[i % z.cells.size]!)) hrepl
        (by simp) (RepSeq.replicate hzf hzz len len (Nat.le_refl _)) hxs
      rw [List.length_replicate] at h3
      refine VOk.made g hf fun hfit => ?_
      refine ⟨cells', e, c.w, .slice (some ⟨c.w.heap.size, 0, none⟩) len len, ?_, .refl _, ?_, h5, fun id c' h0 h1' h2' h3' => ?_⟩
      · have hlen' : ¬ (2 ^ 24 < len * ti.size) := by omega
        by_cases h0 : len * ti.size = 0
        · rw [h0] at h1
          rw [show Array.range 0 = #[] from rfl, Array.map_empty] at h1
          have e0 : ∀ f : Nat → Value, (Array.range 0).map f = #[] := fun f => by simp [show Array.range 0 = #[] from rfl]
          simp [Instr.buildSlice, run_underlying hts, hsize, h0, e0, h1, newRow]
        · simp only [Instr.buildSlice, Sem.run_bind, run_underlying hts, Result.andThen, hsize, gt_iff_lt, hlen', if_false, Sem.run_pure, h0, hzero, h1]
          simp [newRow]
      · rw [h4, Nat.mul_comm]; exact Nat.le_refl _
      · have := Rep.sl (c := c') id len 0 len ⟨ti.size, xs⟩ c.w.heap.size len (len * ti.size) e h0 h1' h3 h2' (by
          rw [h3']; simp only [World.shape?, heap_alloc_new]; simp [h4, h3]) (by simp) (by omega) (Nat.le_refl _) (by omega)
        simpa using this
    · rw [if_neg hlen]; trivial

/-! ### structs -/
/-- Parts and where they lie. -/
inductive PlacesR (c : Cfg) (place : Nat → Option (Nat × Nat)) : List (Nat × Nat × PV) → List (Nat × Value) → Prop where
  | nil : PlacesR c place [] []
  | cons (i off n : Nat) (p : PV) (v : Value) (ps : List (Nat × Nat × PV)) (vs : List (Nat × Value)) (hp : place i = some (off, n)) (h : Rep c p v) (t : PlacesR c place ps vs) : PlacesR c place ((off, n, p) :: ps) ((i, v) :: vs)

theorem fillS_ok {c : Cfg} {place : Nat → Option (Nat × Nat)} : ∀ {ps : List (Nat × Nat × PV)} {vs : List (Nat × Value)}, PlacesR c place ps vs → ∀ {cs cs' : List PV} {cells : Array Value},
    cells.size = cs.length → RepSeq c cs cells.toList → fillS cs ps = some cs' → ∃ cells', Instr.fill place cells vs = some cells' ∧ cells'.size = cs'.length ∧ cs'.length = cs.length ∧ RepSeq c cs' cells'.toList
  | [], _, .nil, cs, cs', cells, hs, hr, h => by
    simp only [fillS, Option.some.injEq] at h
    subst h
    exact ⟨cells, rfl, hs, rfl, hr⟩
  | _, _, .cons i off n p v ps vs hp hrep t, cs, cs', cells, hs, hr, h => by
    simp only [fillS] at h
    split at h
    · rename_i hc
      obtain ⟨hk, hl, hle⟩ := hc
      have hvc := (hrep.cells hk).1
      obtain ⟨cells1, h1, h2, h3⟩ := fill_cons (place := place) (cells := cells) (i := i) (v := v) (rest := vs) hp (by omega) (by omega)
      have hsl : (splice cs off p.cells).length = cs.length := splice_length _ _ _ (by omega)
      obtain ⟨cells', g1, g2, g3, g4⟩ := fillS_ok t (cs := splice cs off p.cells) (cs' := cs') (cells := cells1) (by omega) (by
        rw [h2]; exact RepSeq.splice hr (hrep.seq hk) (by simp; omega) (by omega)) h
      exact ⟨cells', by rw [h1]; exact g1, g2, by omega, g4⟩
    · cases h

theorem run_mapM_sizes {P : Program} (w : World) : ∀ (l : List Field), (∀ f ∈ l, ∃ i, P.info? f.type = some i) →
    ((l.mapM fun f => do pure (f.offset, ← sizeOf f.type)) : Sem (List (Nat × Nat))).run P w = .ok (l.map fun f => (f.offset, P.cellsOf f.type)) w
  | [], _ => by simp
  | f :: l, h => by
    obtain ⟨i, hi⟩ := h f (by simp)
    have ih := run_mapM_sizes w l fun x hx => h x (by simp [hx])
    simp only [List.mapM_cons, Sem.run_bind, run_sizeOf w hi, Result.andThen, Sem.run_pure, ih, List.map_cons]

theorem cellsOf_of {P : Program} {t : TypeId} {x : TI} (h : TypeOk P t x) : P.cellsOf t = x.size := by
  obtain ⟨i, z, hi, hs, _⟩ := h.info
  simp [Program.cellsOf, hi, hs]

theorem build_ok {P : Program} {c : Cfg} (g : Good c) {t : TypeId} {ti : TI} (ht : TypeOk P t ti) {zs : List PV} (hz : ti.zero = .agg zs) {ps : List (Nat × Nat × PV)} {vs : List (Nat × Value)} {l : Array Field}
    (hd : P.underlying t = some (.struct l)) (hl : ∀ f ∈ l.toList, ∃ i, P.info? f.type = some i)
    (hp : PlacesR c (fun i => (l.map fun f => (f.offset, P.cellsOf f.type))[i]?) ps vs) : VOk P c (buildM zs ps c.st) (Instr.build t vs.toArray) := by
  unfold buildM
  cases hcs : fillS zs ps with
  | none => trivial
  | some cs =>
    obtain ⟨z, hzr, hrep⟩ := run_zero_of ht
    have hr0 := hrep c
    rw [hz] at hr0
    have hk : (PV.agg zs).known = true := rfl
    have hc1 := (hr0.cells hk).1
    have hseq := hr0.seq hk
    simp only [PV.cells] at hc1 hseq
    obtain ⟨cells', h1, h2, h3, h4⟩ := fillS_ok hp (cs := zs) (cs' := cs) (cells := z.cells) (by omega) hseq hcs
    refine VOk.ret g (v := .agg cells') ?_ ?_
    · have hm := run_mapM_sizes (P := P) c.w l.toList hl
      have hmA : ((l.mapM fun f => do pure (f.offset, ← sizeOf f.type)) : Sem (Array (Nat × Nat))).run P c.w = .ok (l.map fun f => (f.offset, P.cellsOf f.type)) c.w := by
        rw [Array.mapM_eq_mapM_toList]
        simp only [Sem.run_map, hm, Result.andThen]
        congr 1
        exact Array.ext' (by simp)
      simp only [Instr.build, Sem.run_bind, hzr, Result.andThen, run_underlying hd]
      simp only [hmA, Result.andThen, List.toList_toArray]
      rw [h1]
      simp
    · have := Rep.agg (c := c) cs cells'.toList (by simp; omega) (fun j h1 h2 => by
        obtain ⟨u, hu, hr⟩ := h4 j _ (List.getElem?_eq_getElem h1)
        obtain ⟨_, rfl⟩ := List.getElem?_eq_some_iff.1 hu
        exact hr)
      simpa using this

end Go.Abs
end
