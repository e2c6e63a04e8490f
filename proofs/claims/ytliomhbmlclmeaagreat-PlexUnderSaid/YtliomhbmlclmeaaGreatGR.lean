/-
  Joined from: AbsR AbsL.
-/
import Derived.Test.YtliomhbmlclmeaaGreatGG
import Derived.OpenShut
import Derived.RowKit
import Derived.ChangeSame
import Derived.WideKeyArgs
import Derived.DataReads
import Derived.Below
import Derived.Carry
import Derived.Handed
/-
  READING: arguments that can be read as data stand for abstract values of known form; what a law without references answers.
-/
section
set_option linter.unusedSimpArgs false
set_option linter.unusedVariables false
namespace Go.Abs
open Go

/-- Forms of plain data. 'nil' and 'cons': the fields of a struct. -/
inductive Ty where
  | int (k : IntKind) | bool | str
  | slice (e : Ty)
  | struct (fs : Ty)
  | arr (n : Nat) (e : Ty)
  | nil
  | cons (f fs : Ty)

def Ty.size : Ty → Nat
  | .struct fs => fs.size
  | .arr n e => n * e.size
  | .nil => 0
  | .cons f fs => f.size + fs.size
  | _ => 1
def Ty.agg : Ty → Bool
  | .struct _ | .arr _ _ => true
  | _ => false

mutual
def Ty.is (P : Program) : Ty → TypeId → Bool
  | .int k, t => match P.underlying t with | some (.int k') => decide (k = k') | _ => false
  | .bool, t => match P.underlying t with | some .bool => true | _ => false
  | .str, t => match P.underlying t with | some .string => true | _ => false
  | .slice e, t => match P.underlying t with | some (.slice e') => Ty.is P e e' && P.cellsOf e' == e.size && Nat.blt 0 e.size | _ => false
  | .struct fs, t => match P.underlying t with | some (.struct l) => Ty.isF P fs l.toList 0 && P.cellsOf t == fs.size | _ => false
  | .arr n e, t => match P.underlying t with | some (.array n' e') => n == n' && Ty.is P e e' && P.cellsOf e' == e.size && P.cellsOf t == n * e.size | _ => false
  | .nil, _ => false
  | .cons _ _, _ => false
def Ty.isF (P : Program) : Ty → List Field → Nat → Bool
  | .nil, l, _ => l.isEmpty
  | .cons f fs, x :: l, o => Ty.is P f x.type && x.offset == o && P.cellsOf x.type == f.size && Ty.isF P fs l (o + f.size)
  | _, _, _ => false
end

/-- Cells of a form. -/
def Ty.sh : Ty → List PV → Prop
  | .int k, ps => ∃ n, ps = [.int k n] ∧ k.min ≤ n ∧ n ≤ k.max
  | .bool, ps => ∃ b, ps = [.bool b]
  | .str, ps => ∃ s : ByteArray, ps = [.str s] ∧ s.size ≤ maxLen
  | .slice e, ps => ∃ xs, ps = [.lst xs] ∧ xs.length ≤ maxLen ∧ ∀ x ∈ xs, (e.agg = true → ∃ cs, x = .agg cs ∧ e.sh cs) ∧ (e.agg = false → e.sh [x])
  | .struct fs, ps => fs.sh ps
  | .arr n e, ps => ps.length = n * e.size ∧ ∀ i, i < n → e.sh ((ps.drop (i * e.size)).take e.size)
  | .nil, ps => ps = []
  | .cons f fs, ps => ∃ a b, ps = a ++ b ∧ a.length = f.size ∧ f.sh a ∧ fs.sh b

/-- A value of a form. -/
def Ty.shV (T : Ty) (x : PV) : Prop := (T.agg = true → ∃ cs, x = .agg cs ∧ T.sh cs) ∧ (T.agg = false → T.sh [x])

def plain1 (p : PV) : Prop := p.simple = true ∧ p.noref = true

/-- Cells that stand for real ones. -/
def Cl (w : World) (ps : List PV) (cs : List Value) : Prop := RepL (Cfg.bare w fun _ => False) ps cs ∧ ∀ p ∈ ps, plain1 p

theorem Cl.one {w : World} {p : PV} {v : Value} (h : Rep (Cfg.bare w fun _ => False) p v) (hp : plain1 p) : Cl w [p] [v] :=
  ⟨⟨rfl, fun j h1 h2 => by
    have : j = 0 := by simp at h1; omega
    subst this; exact h⟩, fun q hq => by simp at hq; subst hq; exact hp⟩

theorem Cl.app {w : World} {ps qs : List PV} {cs ds : List Value} (h : Cl w ps cs) (k : Cl w qs ds) : Cl w (ps ++ qs) (cs ++ ds) :=
  ⟨h.1.app k.1, fun p hp => by
    rcases List.mem_append.1 hp with hp | hp
    · exact h.2 p hp
    · exact k.2 p hp⟩

theorem cell_add {w : World} {a : Addr} {m k : Nat} {u : Value} (h : w.cell? ((a.add m).add k) = some u) : w.cell? ⟨a.block, a.off + m + k, none⟩ = some u := by
  obtain ⟨b, o, s⟩ := a
  have key : ((Addr.add ⟨b, o, s⟩ m).add k) = ⟨b, o + m + k, none⟩ ∨ (m = 0 ∧ k = 0) := by
    unfold Addr.add
    by_cases hm : m = 0 <;> by_cases hk : k = 0 <;> simp [hm, hk]
  rcases key with e | ⟨rfl, rfl⟩
  · rw [e] at h; exact h
  · simp only [Addr.add, if_true] at h
    cases s with
    | none => simpa using h
    | some s =>
      simp only [World.cell?] at h
      split at h <;> simp_all

section
variable {H : Type} {enc : TypeId × Value → H} {P : Program} {w : World} {sp : Nat → Bool} {held : Bool}

/-- The elements of a slice. -/
theorem list_sh {e : Ty} {e' : TypeId} (ih : ∀ fuel cs x, DataW.trod enc P w 0 sp held fuel e' cs = some x → ∃ ps, Cl w ps cs ∧ ps.length = e.size ∧ e.sh ps) (hsz : P.cellsOf e' = e.size) (hpos : 0 < e.size)
    {a : Addr} {len cap n : Nat} {elems : List (DataW H × List MemPlace)} (hlen : elems.length = len) (hcap : len ≤ cap)
    (hel : ∀ i, i < len → (w.cells? 0 (a.add (i * P.cellsOf e')) (P.cellsOf e')).bind (DataW.trod enc P w 0 sp held n e') = elems[i]?) (hagg : e.agg = false → e.size = 1) :
    ∃ xs : List PV, xs.length = len ∧ Rep (Cfg.bare w fun _ => False) (.lst xs) (.slice (some a) len cap) ∧ ∀ x ∈ xs, e.shV x := by
  by_cases h0 : len = 0
  · subst h0
    exact ⟨[], rfl, .lst0 (some a) cap, fun x hx => by cases hx⟩
  -- each element
  have each : ∀ i, i < len → ∃ (x : PV), e.shV x ∧ x.noref = true ∧ fitsE e.size x = true ∧ ∀ k (hk : k < x.cells.length), ∃ u, w.cell? ⟨a.block, a.off + i * e.size + k, none⟩ = some u ∧ Rep (Cfg.bare w fun _ => False) x.cells[k] u := by
    intro i hi
    have h1 := hel i hi
    have hi' : i < elems.length := by omega
    rw [List.getElem?_eq_getElem hi', Option.bind_eq_some_iff] at h1
    obtain ⟨cs, h2, h3⟩ := h1
    obtain ⟨ps, c1, c2, c3⟩ := ih n cs _ h3
    rw [hsz] at h2
    have hcs : ∀ k, k < e.size → w.cell? ⟨a.block, a.off + i * e.size + k, none⟩ = cs[k]? := by
      intro k hk
      unfold World.cells? at h2
      rw [if_pos (Nat.zero_le _)] at h2
      have h5 := mapM_some_get h2 k k (by simp [hk])
      have hl := mapM_some_length h2
      simp at hl
      have hk' : k < cs.length := by omega
      rw [List.getElem?_eq_getElem hk'] at h5 ⊢
      exact cell_add h5
    have cells : ∀ (x : PV), x.cells = ps → ∀ k (hk : k < x.cells.length), ∃ u, w.cell? ⟨a.block, a.off + i * e.size + k, none⟩ = some u ∧ Rep (Cfg.bare w fun _ => False) x.cells[k] u := by
      intro x hx k hk
      have hk1 : k < ps.length := by rw [hx] at hk; exact hk
      have hk2 : k < cs.length := by rw [← c1.1.1]; exact hk1
      refine ⟨cs[k], by rw [hcs k (by omega), List.getElem?_eq_getElem hk2], ?_⟩
      have := c1.1.2 k hk1 hk2
      simpa only [hx] using this
    cases ha : e.agg with
    | true =>
      refine ⟨.agg ps, ⟨fun _ => ⟨ps, rfl, c3⟩, fun h => by rw [ha] at h; cases h⟩, ?_, ?_, cells _ rfl⟩
      · show noreL ps = true
        exact noreL_of fun p hp => (c1.2 p hp).2
      · simp [fitsE, PV.known, PV.cells, c2]
    | false =>
      have h1 := hagg ha
      obtain ⟨p, rfl⟩ : ∃ p, ps = [p] := by
        rw [h1] at c2; exact List.length_eq_one_iff.1 c2
      obtain ⟨q1, q2⟩ := c1.2 p (by simp)
      refine ⟨p, ⟨fun h => (by rw [ha] at h; cases h), fun _ => c3⟩, q2, ?_, cells _ (simple_cells q1)⟩
      rw [fitsE, simple_known q1, simple_cells q1, h1]; rfl
  -- together
  have hch : ∃ f : Nat → PV, ∀ i, i < len → e.shV (f i) ∧ (f i).noref = true ∧ fitsE e.size (f i) = true ∧ ∀ k (hk : k < (f i).cells.length), ∃ u, w.cell? ⟨a.block, a.off + i * e.size + k, none⟩ = some u ∧ Rep (Cfg.bare w fun _ => False) (f i).cells[k] u := by
    have hex : ∀ i, ∃ x : PV, i < len → e.shV x ∧ x.noref = true ∧ fitsE e.size x = true ∧ ∀ k (hk : k < x.cells.length), ∃ u, w.cell? ⟨a.block, a.off + i * e.size + k, none⟩ = some u ∧ Rep (Cfg.bare w fun _ => False) x.cells[k] u := fun i => by
      by_cases hi : i < len
      · obtain ⟨x, hx⟩ := each i hi; exact ⟨x, fun _ => hx⟩
      · exact ⟨.junk, fun h => (hi h).elim⟩
    exact ⟨fun i => Classical.choose (hex i), fun i hi => Classical.choose_spec (hex i) hi⟩
  obtain ⟨f, hf⟩ := hch
  have hmem : ∀ x ∈ (List.range len).map f, ∃ i, i < len ∧ x = f i := fun x hx => by
    simp only [List.mem_map, List.mem_range] at hx
    obtain ⟨i, hi, rfl⟩ := hx; exact ⟨i, hi, rfl⟩
  refine ⟨(List.range len).map f, by simp, ?_, fun x hx => ?_⟩
  · have hfit : ∀ x ∈ (List.range len).map f, fitsE e.size x = true := fun x hx => by
      obtain ⟨i, hi, rfl⟩ := hmem x hx; exact (hf i hi).2.2.1
    have hspot : a.spot = none := by
      obtain ⟨_, _, h3, h4⟩ := hf 0 (by omega)
      have hk : 0 < (f 0).cells.length := by rw [fitsE_len h3]; exact hpos
      have h1 := hel 0 (by omega)
      rw [List.getElem?_eq_getElem (by omega : 0 < elems.length), Option.bind_eq_some_iff] at h1
      obtain ⟨cs, h2, _⟩ := h1
      unfold World.cells? at h2
      rw [if_pos (Nat.zero_le _)] at h2
      have h5 := mapM_some_get h2 0 0 (List.getElem?_range (by omega))
      have hl := mapM_some_length h2
      simp at hl
      rw [List.getElem?_eq_getElem (by omega : 0 < cs.length)] at h5
      simp only [Nat.zero_mul, Addr.add, if_true] at h5
      cases hs : a.spot with
      | none => rfl
      | some s =>
        simp only [World.cell?, hs] at h5
        split at h5 <;> simp_all
    have := Rep.lst_of (c := Cfg.bare w fun _ => False) (xs := (List.range len).map f) (sz := e.size) (b := a.block) (o := a.off) (cap := cap) hfit (noreL_of fun x hx => by
      obtain ⟨i, hi, rfl⟩ := hmem x hx; exact (hf i hi).2.1) (fun j q hq => ?_) (fun _ h => bare_own.1 h) (by simpa using hcap)
    · simp only [List.length_map, List.length_range] at this
      obtain ⟨b, o, s⟩ := a
      simp only at hspot; subst hspot
      exact this
    · have hj := (List.getElem?_eq_some_iff.1 hq).1
      have hfl : (flat ((List.range len).map f)).length = len * e.size := by rw [flat_length hfit]; simp
      rw [hfl] at hj
      have hi : j / e.size < len := Nat.div_lt_of_lt_mul (by rw [Nat.mul_comm]; exact hj)
      have hk : j % e.size < e.size := Nat.mod_lt _ hpos
      have hget : ((List.range len).map f)[j / e.size]? = some (f (j / e.size)) := by simp [hi]
      have h1 := flat_get hfit hget (j := j % e.size) hk
      have hje : j / e.size * e.size + j % e.size = j := by rw [Nat.mul_comm]; exact Nat.div_add_mod j e.size
      rw [hje, hq] at h1
      obtain ⟨_, _, h3, h4⟩ := hf _ hi
      have hk' : j % e.size < (f (j / e.size)).cells.length := by rw [fitsE_len h3]; exact hk
      obtain ⟨u, hu, hr⟩ := h4 _ hk'
      rw [List.getElem?_eq_getElem hk'] at h1
      cases h1
      refine ⟨u, ?_, hr⟩
      show w.cell? _ = _
      rw [← hu]; congr 2; omega
  · obtain ⟨i, hi, rfl⟩ := hmem x hx; exact (hf i hi).1

theorem is_agg {T : Ty} {t : TypeId} (h : T.is P t = true) (ha : T.agg = false) : T.size = 1 := by
  cases T <;> first | rfl | (simp [Ty.agg] at ha; done) | (simp [Ty.is] at h; done)

mutual
theorem trod_sh : ∀ (T : Ty) (t : TypeId), T.is P t = true → ∀ fuel cs x, DataW.trod enc P w 0 sp held fuel t cs = some x → ∃ ps, Cl w ps cs ∧ ps.length = T.size ∧ T.sh ps
  | .int k, t, h, fuel, cs, x, hx => by
    simp only [Ty.is] at h
    split at h
    · rename_i k' hu
      have : k = k' := of_decide_eq_true h
      subst this
      obtain ⟨n, rfl, _, hw⟩ := DataW.trod_int hu hx
      simp only [Lit.wf, Bool.and_eq_true, decide_eq_true_eq] at hw
      exact ⟨[.int k n], .one (.int _ _) ⟨rfl, rfl⟩, rfl, n, rfl, hw.1, hw.2⟩
    · cases h
  | .bool, t, h, fuel, cs, x, hx => by
    simp only [Ty.is] at h
    split at h
    · rename_i hu
      obtain ⟨b, rfl, _⟩ := DataW.trod_bool hu hx
      exact ⟨[.bool b], .one (.bool _) ⟨rfl, rfl⟩, rfl, b, rfl⟩
    · cases h
  | .str, t, h, fuel, cs, x, hx => by
    simp only [Ty.is] at h
    split at h
    · rename_i hu
      obtain ⟨s, rfl, _, hs⟩ := DataW.trod_string hu hx
      exact ⟨[.str s], .one (.str _) ⟨rfl, rfl⟩, rfl, s, rfl, hs⟩
    · cases h
  | .slice e, t, h, fuel, cs, x, hx => by
    simp only [Ty.is] at h
    split at h
    · rename_i e' hu
      simp only [Bool.and_eq_true, beq_iff_eq, Nat.blt_eq] at h
      obtain ⟨⟨h1, h2⟩, h3⟩ := h
      rcases DataW.trod_slice hu hx with ⟨rfl, _⟩ | ⟨a, len, cap, elems, rest, n, _, rfl, _, _, hl, hm, hlen, hel, _, _⟩
      · exact ⟨[.lst []], .one (.lst0 _ _) ⟨rfl, rfl⟩, rfl, [], rfl, Nat.zero_le _, fun x hx => by cases hx⟩
      · obtain ⟨xs, k1, k2, k3⟩ := list_sh (e := e) (e' := e') (fun fuel cs x hx => trod_sh e e' h1 fuel cs x hx) h2 h3 hlen hl hel (is_agg h1)
        exact ⟨[.lst xs], .one k2 ⟨rfl, rfl⟩, rfl, xs, rfl, by omega, k3⟩
    · cases h
  | .struct fs, t, h, fuel, cs, x, hx => by
    simp only [Ty.is] at h
    split at h
    · rename_i l hu
      simp only [Bool.and_eq_true, beq_iff_eq] at h
      obtain ⟨xs, n, _, _, hlen, hxl, hf⟩ := DataW.trod_struct hu hx
      obtain ⟨ps, k1, k2, k3⟩ := trodF_sh fs l.toList 0 h.1 n cs (by rw [hlen, h.2]; omega) (fun i f hif => by
        have hif' : l[i]? = some f := by simpa using hif
        have := hf i f hif'
        have hi : i < xs.length := by
          rw [hxl]; exact (Array.getElem?_eq_some_iff.1 hif').1
        rw [List.getElem?_eq_getElem hi] at this
        exact ⟨_, this⟩)
      exact ⟨ps, by simpa using k1, k2, k3⟩
    · cases h
  | .arr n e, t, h, fuel, cs, x, hx => by
    simp only [Ty.is] at h
    split at h
    · rename_i n' e' hu
      simp only [Bool.and_eq_true, beq_iff_eq] at h
      obtain ⟨⟨⟨rfl, h1⟩, h2⟩, h3⟩ := h
      obtain ⟨xs, m, _, _, hlen, hxl, hf⟩ := DataW.trod_array hu hx
      rw [h3] at hlen
      rw [h2] at hf
      have each : ∀ i, i < n → ∃ ps, Cl w ps ((cs.drop (i * e.size)).take e.size) ∧ ps.length = e.size ∧ e.sh ps := fun i hi => by
        have := hf i hi
        rw [List.getElem?_eq_getElem (by omega)] at this
        exact trod_sh e e' h1 m _ _ this
      -- the first so many
      have key : ∀ m, m ≤ n → ∃ ps, Cl w ps (cs.take (m * e.size)) ∧ ps.length = m * e.size ∧ ∀ i, i < m → e.sh ((ps.drop (i * e.size)).take e.size) := by
        intro m
        induction m with
        | zero => intro _; exact ⟨[], ⟨⟨by simp, fun j h => by simp at h⟩, fun p hp => by cases hp⟩, by simp, fun i hi => by omega⟩
        | succ m ih =>
          intro hm
          obtain ⟨ps, a1, a2, a3⟩ := ih (by omega)
          obtain ⟨qs, b1, b2, b3⟩ := each m (by omega)
          have hsplit : cs.take ((m + 1) * e.size) = cs.take (m * e.size) ++ (cs.drop (m * e.size)).take e.size := by
            rw [Nat.succ_mul, List.take_add]
          refine ⟨ps ++ qs, by rw [hsplit]; exact a1.app b1, by rw [List.length_append, a2, b2, Nat.succ_mul], fun i hi => ?_⟩
          by_cases him : i < m
          · have hle : i * e.size + e.size ≤ ps.length := by
              rw [a2, ← Nat.succ_mul]; exact Nat.mul_le_mul_right _ him
            rw [List.drop_append_of_le_length (by omega), List.take_append_of_le_length (by rw [List.length_drop]; omega)]
            exact a3 i him
          · have : i = m := by omega
            subst this
            rw [List.drop_append, a2, Nat.sub_self, List.drop_eq_nil_of_le (by omega), List.nil_append, List.drop_zero, List.take_of_length_le (by omega)]
            exact b3
      obtain ⟨ps, k1, k2, k3⟩ := key n (Nat.le_refl _)
      rw [List.take_of_length_le (by omega)] at k1
      exact ⟨ps, k1, k2, k2, k3⟩
    · cases h
  | .nil, t, h, fuel, cs, x, hx => by simp [Ty.is] at h
  | .cons _ _, t, h, fuel, cs, x, hx => by simp [Ty.is] at h
theorem trodF_sh : ∀ (T : Ty) (l : List Field) (o : Nat), T.isF P l o = true → ∀ (n : Nat) (cs : List Value), cs.length = o + T.size →
    (∀ (i : Nat) f, l[i]? = some f → ∃ y, DataW.trod enc P w 0 sp held n f.type ((cs.drop f.offset).take (P.cellsOf f.type)) = some y) → ∃ ps, Cl w ps (cs.drop o) ∧ ps.length = T.size ∧ T.sh ps
  | .nil, l, o, h, n, cs, hl, hf => by
    simp only [Ty.size] at hl
    refine ⟨[], ⟨⟨by rw [List.length_drop]; simp; omega, fun j h => by simp at h⟩, fun p hp => by cases hp⟩, rfl, rfl⟩
  | .cons f fs, [], o, h, n, cs, hl, hf => by simp [Ty.isF] at h
  | .cons f fs, x :: l, o, h, n, cs, hl, hf => by
    simp only [Ty.isF, Bool.and_eq_true, beq_iff_eq] at h
    obtain ⟨⟨⟨h1, h2⟩, h3⟩, h4⟩ := h
    simp only [Ty.size] at hl
    obtain ⟨y, hy⟩ := hf 0 x rfl
    rw [h2, h3] at hy
    obtain ⟨ps, a1, a2, a3⟩ := trod_sh f x.type h1 n _ _ hy
    obtain ⟨qs, b1, b2, b3⟩ := trodF_sh fs l (o + f.size) h4 n cs (by omega) (fun i g hg => hf (i + 1) g (by simpa using hg))
    refine ⟨ps ++ qs, ?_, by rw [List.length_append, a2, b2]; rfl, ps, qs, rfl, a2, a3, b3⟩
    have : cs.drop o = (cs.drop o).take f.size ++ cs.drop (o + f.size) := by
      rw [← List.drop_drop, List.take_append_drop]
    rw [this]; exact a1.app b1
  | .int _, l, o, h, n, cs, hl, hf => by simp [Ty.isF] at h
  | .bool, l, o, h, n, cs, hl, hf => by simp [Ty.isF] at h
  | .str, l, o, h, n, cs, hl, hf => by simp [Ty.isF] at h
  | .slice _, l, o, h, n, cs, hl, hf => by simp [Ty.isF] at h
  | .struct _, l, o, h, n, cs, hl, hf => by simp [Ty.isF] at h
  | .arr _ _, l, o, h, n, cs, hl, hf => by simp [Ty.isF] at h
end

end
end Go.Abs
end
/-
  LAWS: of a function without references that answers true at all that its parameters' forms allow, the row's contract holds.
-/
section
set_option linter.unusedSimpArgs false
set_option linter.unusedVariables false
namespace Go.Abs
open Go Go.ChangeShapes Go.RowKit

def ShAll : List Ty → List PV → Prop
  | [], [] => True
  | T :: Ts, a :: as_ => T.shV a ∧ ShAll Ts as_
  | _, _ => False

def isAll (P : Program) : List Ty → List TypeId → Bool
  | [], [] => true
  | T :: Ts, t :: ts => T.is P t && isAll P Ts ts
  | _, _ => false

section
variable {H : Type} {enc : TypeId × Value → H} {P : Program} {w : World} {sp : Nat → Bool} {held : Bool}

theorem rep_agg {w : World} {ps : List PV} {cs : Array Value} (h : Cl w ps cs.toList) : Rep (Cfg.bare w fun _ => False) (.agg ps) (.agg cs) := by
  have := Rep.agg (c := Cfg.bare w fun _ => False) ps cs.toList h.1.1 h.1.2
  simpa using this

theorem arg_sh {T : Ty} {t : TypeId} (h : T.is P t = true) {v : Value} {d : DataW H} {ps : List MemPlace} (hd : DataW.Trod enc P w 0 sp held t v d ps) {r : Reach} {base : Nat} (hv : Value.okWide P w r base t v) :
    ∃ a, Rep (Cfg.bare w fun _ => False) a v ∧ T.shV a := by
  obtain ⟨fuel, hf⟩ := hd
  obtain ⟨qs, k1, k2, k3⟩ := trod_sh T t h fuel _ _ hf
  cases ha : T.agg with
  | true =>
    have : ∃ cs, v = .agg cs := by
      unfold Value.okWide at hv
      cases T <;> simp only [Ty.agg, Bool.false_eq_true] at ha
      · simp only [Ty.is] at h
        split at h
        · rename_i hu; rw [hu] at hv; obtain ⟨cs, rfl, _⟩ := hv; exact ⟨cs, rfl⟩
        · cases h
      · simp only [Ty.is] at h
        split at h
        · rename_i hu; rw [hu] at hv; obtain ⟨cs, rfl, _⟩ := hv; exact ⟨cs, rfl⟩
        · cases h
    obtain ⟨cs, rfl⟩ := this
    exact ⟨.agg qs, rep_agg k1, fun _ => ⟨qs, rfl, k3⟩, fun h => by rw [ha] at h; cases h⟩
  | false =>
    have h1 := is_agg h ha
    rw [h1] at k2
    obtain ⟨p, rfl⟩ := List.length_eq_one_iff.1 k2
    have hcells : v.cells.toList = [v] := by
      cases v with
      | agg cs =>
        exfalso
        unfold Value.okWide at hv
        cases T <;> simp only [Ty.agg, Bool.true_eq_false] at ha <;> simp only [Ty.is, Bool.false_eq_true] at h <;> (split at h <;> first | (rename_i hu; rw [hu] at hv; simp [Cell.okWide, hu, Cell.ok] at hv) | cases h)
      | _ => rfl
    rw [hcells] at k1
    have := k1.1.2 0 (by simp) (by simp)
    exact ⟨p, this, fun h => by rw [ha] at h; (cases h), fun _ => k3⟩

theorem args_sh : ∀ (Ts : List Ty) (ts : List TypeId), isAll P Ts ts = true → ∀ (vs : List Value) (ds : List (DataW H)) (ps : List MemPlace), DataW.TrodAll enc P w 0 sp held ts vs ds ps →
    ∀ {r : Reach} {base : Nat}, (∀ (j : Nat) t v, ts[j]? = some t → vs[j]? = some v → Value.okWide P w r base t v) → ∃ as_, RepL (Cfg.bare w fun _ => False) as_ vs ∧ ShAll Ts as_ ∧ ds.length = ts.length
  | [], [], _, vs, ds, ps, hd, r, base, hv => by
    obtain ⟨rfl, rfl, rfl⟩ := trodAll_nil hd
    exact ⟨[], ⟨rfl, fun j h => by simp at h⟩, trivial, rfl⟩
  | [], _ :: _, h, _, _, _, _, _, _, _ => by simp [isAll] at h
  | _ :: _, [], h, _, _, _, _, _, _, _ => by simp [isAll] at h
  | T :: Ts, t :: ts, h, vs, ds, ps, hd, r, base, hv => by
    simp only [isAll, Bool.and_eq_true] at h
    obtain ⟨v, vs1, d, ds1, a, b, rfl, rfl, rfl, h1, h2⟩ := trodAll_cons hd
    obtain ⟨x, hx, hsh⟩ := arg_sh h.1 h1 (hv 0 t v rfl rfl)
    obtain ⟨as_, hl, hs, hlen⟩ := args_sh Ts ts h.2 vs1 ds1 b h2 (fun j t v h3 h4 => hv (j + 1) t v (by simpa using h3) (by simpa using h4))
    refine ⟨x :: as_, ⟨by simp [hl.1], fun j h3 h4 => ?_⟩, ⟨hsh, hs⟩, by simp [hlen]⟩
    cases j with
    | zero => exact hx
    | succ j => exact hl.2 j (by simpa using h3) (by simpa using h4)

theorem Keeps.below {w w' : World} (k : Keeps w w') : Below w.heap.size w w' := ⟨k.os, k.tape, k.output, k.size, k.heap⟩

theorem trodAll_stays {W W' : World} (hl : laidOutB P = true) (hb : Below W.heap.size W W') : ∀ {ts : List TypeId} {vs : List Value} {ds : List (DataW H)} {ps : List MemPlace},
    (∀ t ∈ ts, P.readableRec t = true ∧ t < P.types.size) → DataW.TrodAll enc P W 0 (fun _ => true) true ts vs ds ps → (∀ x ∈ ps, x.block < W.heap.size) →
    DataW.TrodAll enc P W' 0 (fun b => decide (b < W.heap.size)) true ts vs ds ps
  | [], _, _, _, _, h, _ => by
    obtain ⟨rfl, rfl, rfl⟩ := trodAll_nil h
    exact trodAll_mk0
  | t :: ts, _, _, _, hts, h, hlt => by
    obtain ⟨v, vs1, d, ds1, a, b, rfl, rfl, rfl, h1, h2⟩ := trodAll_cons h
    refine ⟨a, b, Below.trod hl (hts t (by simp)).1 (hts t (by simp)).2 h1 hb (fun x hx => hlt x (by simp [hx])), trodAll_stays hl hb (fun t ht => hts t (by simp [ht])) h2 (fun x hx => hlt x (by simp [hx])), rfl⟩

theorem law_post {f : Func} {s : ChangeSpec} {W W' : World} {args : Array Value} {ds gs : List (DataW H)} {before : List MemPlace} (hl : laidOutB P = true) (hp : ∀ t ∈ f.params.toList, P.readableRec t = true ∧ t < P.types.size)
    {tb : TypeId} (hr : f.resultTypes = #[tb]) (hb : P.underlying tb = some .bool) (hv : s.vars = []) (hfn : s.fn H ds = { results := [.lit (.bool true)], args := ds })
    (hW : DataW.Whole enc P f.params.toList s.vars false W args.toList ds gs before) (k : Keeps W W') : s.post enc P f false true false false W args (.bool true) W' := by
  have hW' := hW
  obtain ⟨p, q, hA, hV, rfl, hfz, hnd⟩ := hW'
  rw [hv] at hV
  obtain ⟨rfl, rfl⟩ := trodVars_none hV
  refine ⟨ds, [], _, [], p, [], hW, ?_, ?_, ?_, k.below.frame _, fun h => by cases h⟩
  · rw [List.append_nil, hfn, hr]
    exact trodAll_mk1 (RowKit.shut_bool hb true)
  · rw [List.append_nil, hfn]
    exact trodAll_stays hl k.below hp hA (fun x hx => by simpa using hW.lt x (by simpa using hx))
  · rw [List.append_nil, hfn, hv]
    rfl

theorem law_contract {f : FuncId} {fn : Func} {F : List PV → PRes} (hs : SoundP P f F) (hl : laidOutB P = true) (hp : (fn.params.toList.all fun t => P.readableRec t && Nat.blt t P.types.size) = true)
    {tb : TypeId} (hr : fn.resultTypes = #[tb]) (hb : P.underlying tb = some .bool) (Ts : List Ty) (hT : isAll P Ts fn.params.toList = true) (hF : ∀ as_, ShAll Ts as_ → F as_ = .ret (.bool true))
    {s : ChangeSpec} (hv : s.vars = []) (hfn : ∀ ds : List (DataW H), ds.length = fn.params.toList.length → s.fn H ds = { results := [.lit (.bool true)], args := ds })
    (W : World) (base : Nat) (args : Array Value) (ds gs : List (DataW H)) (before : List MemPlace)
    (hval : ∀ (j : Nat) t v, fn.params[j]? = some t → args[j]? = some v → Value.okWide P W .any base t v)
    (hW : DataW.Whole enc P fn.params.toList s.vars false W args.toList ds gs before) : Calls P f args W fun e W' => ∃ v, e = .returned v ∧ s.post enc P fn false true false false W args v W' := by
  have hW' := hW
  obtain ⟨p, q, hA, hV, rfl, hfz, hnd⟩ := hW'
  obtain ⟨as_, h1, h2, h3⟩ := args_sh Ts _ hT _ _ _ hA (fun j t v h3 h4 => hval j t v (by simpa using h3) (by simpa using h4))
  have := hs W (fun _ => False) as_ args.toList (fun b h => h.elim) h1
  rw [hF as_ h2] at this
  refine Calls.mono (by simpa using this.2) fun e W' h => ?_
  obtain ⟨v, rfl, k, ho⟩ := h
  have hvv : v = .bool true := by
    obtain ⟨_, hrep⟩ := ho
    cases hrep; rfl
  subst hvv
  refine ⟨_, rfl, law_post hl (fun t ht => ?_) hr hb hv (hfn ds h3) hW k⟩
  have := List.all_eq_true.1 hp t ht
  simpa using this
end

end Go.Abs
end
