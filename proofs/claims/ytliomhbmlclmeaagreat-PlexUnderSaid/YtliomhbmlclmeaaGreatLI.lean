/-
  Joined from: S10 S11.
-/
import Derived.Test.YtliomhbmlclmeaaGreatLH
/-
  THE REFERENCE's LINEAR PROGRAMS: within, Right, Numbers, Bound.
-/
section
set_option linter.unusedSimpArgs false
set_option linter.unusedVariables false
namespace Go.Abs
open Go

theorem ref08_Within_ok (x : Int) : F_ref08_Within [I x] = .ret (.bool (decide (-1048576 ≤ x ∧ x ≤ 1048576))) := by
  refine runP_rets (v := .bool (decide (-1048576 ≤ x ∧ x ≤ 1048576))) ?_ (fun H => by simp)
  by_cases h : -1048576 ≤ x <;> simp [B_ref08_Within, h]

theorem ref20_within_ok (l : List Int) (hl : l.length < 2 ^ 62) : F_ref20_within [intsV l] = .ret (.bool (decide (within 1048576 l))) := by
  refine runP_rets (v := .bool (decide (within 1048576 l))) ?_ (fun H => by simp)
  simp [B_ref20_within]
  refine loop_ind (α := Nat) _ (fun i k v st' => v = [intsV l, I i] ∧ k = l.length - i ∧ i ≤ l.length ∧ (within 1048576 (l.drop i) ↔ within 1048576 l)) (fun r => Rets (.bool (decide (within 1048576 l))) r) ?_ fuel 0 l.length _ _ ⟨by simp, by omega, by omega, by simp⟩ (by unfold fuel; omega)
  rintro i k v st' ⟨rfl, rfl, hi, he⟩ self ih
  by_cases hlt : i < l.length
  · have hlt' : (i : Int) < (l.length : Int) := by omega
    have d1 := idx_ints st' l i hlt
    have hw : IntKind.i64.wrap ((i : Int) + 1) = ((i + 1 : Nat) : Int) := by rw [wrap64] <;> omega
    rw [List.drop_eq_getElem_cons hlt] at he
    have hcons : within 1048576 (l[i] :: l.drop (i + 1)) ↔ (-1048576 ≤ l[i] ∧ l[i] ≤ 1048576) ∧ within 1048576 (l.drop (i + 1)) := by unfold within; exact List.forall_mem_cons
    rw [hcons] at he
    have hwi := ref08_Within_ok l[i]
    generalize l[i] = x at *
    by_cases c1 : -1048576 ≤ x ∧ x ≤ 1048576
    · rw [decide_eq_true c1] at hwi
      simp [L_ref20_within_1, hlt', d1, hwi, hw]
      refine ih (i + 1) (l.length - (i + 1)) _ st' (by omega) ⟨rfl, rfl, by omega, ?_⟩
      rw [← he]
      exact ⟨fun h => ⟨c1, h⟩, fun h => h.2⟩
    · rw [decide_eq_false c1] at hwi
      have : ¬ within 1048576 l := fun h => c1 (he.2 h).1
      simp [L_ref20_within_1, hlt', d1, hwi, this]
  · have : i = l.length := by omega
    subst this
    have : within 1048576 l := he.1 (by simp [within])
    simp [L_ref20_within_1, this]

/-- What a row must be. -/
def rowOk (p : LP) (i : Nat) : Prop := ((p.a.getD i []).length = p.lo.length ∧ within 1048576 (p.a.getD i [])) ∧ -1099511627776 ≤ p.b.getD i 0 ∧ p.b.getD i 0 ≤ 1099511627776
instance (p : LP) (i : Nat) : Decidable (rowOk p i) := by unfold rowOk; exact inferInstance
theorem rowOk_all (p : LP) (h : p.a.length = p.b.length) : (∀ i, i < p.a.length → rowOk p i) ↔ (within 1099511627776 p.b ∧ ∀ r ∈ p.a, r.length = p.lo.length ∧ within 1048576 r) := by
  constructor
  · intro hh
    refine ⟨fun n hn => ?_, fun r hr => ?_⟩
    · obtain ⟨i, hi, rfl⟩ := List.getElem_of_mem hn
      have := (hh i (by omega)).2
      simpa [List.getD_eq_getElem?_getD, hi] using this
    · obtain ⟨i, hi, rfl⟩ := List.getElem_of_mem hr
      have := (hh i hi).1
      simpa [List.getD_eq_getElem?_getD, hi] using this
  · rintro ⟨h1, h2⟩ i hi
    refine ⟨?_, within_getD h1 (by omega) i⟩
    have := h2 p.a[i] (List.getElem_mem _)
    simpa [List.getD_eq_getElem?_getD, hi] using this

theorem ref20_rows (p : LP) (hn : p.lo.length ≤ 64) (hab : p.a.length = p.b.length) (ham : p.a.length ≤ 160) (hr : ∀ r ∈ p.a, r.length < 2 ^ 62) (st : St) (h0 : st.H 0 = some ⟨5, [progV p]⟩) :
    Rets (.bool (decide (∀ i, i < p.a.length → rowOk p i))) (iter fuel (fun self v => (L_ref20_Right_1 self v).run) [.ptr 0 1 0 0, I p.lo.length, I 0] st) := by
  generalize hW : decide (∀ i, i < p.a.length → rowOk p i) = W
  refine loop_ind (α := Nat) _ (fun i k v st' => v = [.ptr 0 1 0 0, I p.lo.length, I i] ∧ k = p.a.length - i ∧ i ≤ p.a.length ∧ st'.H 0 = some ⟨5, [progV p]⟩ ∧ (∀ j, j < i → rowOk p j)) (fun r => Rets (.bool W) r) ?_ fuel 0 p.a.length _ _ ⟨rfl, by omega, by omega, h0, fun j hj => by omega⟩ (by unfold fuel; omega)
  rintro i k v st' ⟨rfl, rfl, hi, h0, he⟩ self ih
  by_cases hlt : i < p.a.length
  · have hlt' : (i : Int) < (p.a.length : Int) := by omega
    have hw : IntKind.i64.wrap ((i : Int) + 1) = (i : Int) + 1 := wrap64 _ (by omega) (by omega)
    have d1 : idxM 1 (rowsV p.a) (I i) st' = .ok (.cref (intsV (p.a.getD i [])) 0) st' := by rw [idx_rows st' p.a i hlt]; simp [hlt]
    have d2 : idxM 1 (intsV p.b) (I i) st' = .ok (.cref (I (p.b.getD i 0)) 0) st' := by rw [idx_ints st' p.b i (by omega)]; simp [show i < p.b.length by omega]
    have hlen : (p.a.getD i []).length < 2 ^ 62 := by
      have := hr p.a[i] (List.getElem_mem _)
      simpa [List.getD_eq_getElem?_getD, hlt] using this
    have hwi := ref20_within_ok (p.a.getD i []) hlen
    have hro : rowOk p i ↔ ((p.a.getD i []).length = p.lo.length ∧ within 1048576 (p.a.getD i [])) ∧ -1099511627776 ≤ p.b.getD i 0 ∧ p.b.getD i 0 ≤ 1099511627776 := Iff.rfl
    generalize p.a.getD i [] = r at *
    generalize p.b.getD i 0 = b at *
    have bad : ¬ rowOk p i → W = false := fun h => by rw [← hW]; exact decide_eq_false fun hh => h (hh i hlt)
    by_cases c1 : r.length = p.lo.length
    rotate_left
    · have c1' : ¬ (r.length : Int) = (p.lo.length : Int) := by omega
      rw [bad fun h => c1 (hro.1 h).1.1]
      simp [L_ref20_Right_1, h0, hlt', d1, c1']
    have c1' : (r.length : Int) = (p.lo.length : Int) := by omega
    by_cases c2 : within 1048576 r
    rotate_left
    · rw [bad fun h => c2 (hro.1 h).1.2]
      rw [decide_eq_false c2] at hwi
      simp [L_ref20_Right_1, h0, hlt', d1, c1', hwi]
    rw [decide_eq_true c2] at hwi
    by_cases c3 : b < -1099511627776
    · rw [bad fun h => by have := (hro.1 h).2; omega]
      simp [L_ref20_Right_1, h0, hlt', d1, d2, c1', hwi, c3]
    by_cases c4 : 1099511627776 < b
    · rw [bad fun h => by have := (hro.1 h).2; omega]
      simp [L_ref20_Right_1, h0, hlt', d1, d2, c1', hwi, c3, c4]
    simp [L_ref20_Right_1, h0, hlt', d1, d2, c1', hwi, c3, c4, hw]
    refine ih (i + 1) (p.a.length - (i + 1)) _ st' (by omega) ⟨rfl, rfl, by omega, h0, fun j hj => ?_⟩
    rcases Nat.lt_or_ge j i with h | h
    · exact he j h
    · have : j = i := by omega
      subst this; exact hro.2 ⟨⟨c1, c2⟩, by omega, by omega⟩
  · have hi' : i = p.a.length := by omega
    subst hi'
    have hlt' : ¬ (p.a.length : Int) < (p.a.length : Int) := by omega
    have : W = true := by rw [← hW]; exact decide_eq_true he
    rw [this]
    simp [L_ref20_Right_1, h0]

theorem ref20_Right_ok (p : LP) (h1 : p.lo.length < 2 ^ 62) (h2 : p.hi.length < 2 ^ 62) (h3 : p.c.length < 2 ^ 62) (h4 : p.b.length < 2 ^ 62) (h5 : p.a.length < 2 ^ 62) (h6 : ∀ r ∈ p.a, r.length < 2 ^ 62) : F_ref20_Right [progV p] = .ret (.bool p.okB) := by
  refine runP_rets (v := .bool p.okB) ?_ (fun H => by simp)
  by_cases c1 : p.lo.length ≤ 64
  rotate_left
  · have : (64 : Int) < (p.lo.length : Int) := by omega
    simp [B_ref20_Right, LP.okB, c1, this]
  have c1' : ¬ (64 : Int) < (p.lo.length : Int) := by omega
  by_cases c2 : p.hi.length = p.lo.length
  rotate_left
  · have : ¬ (p.hi.length : Int) = (p.lo.length : Int) := by omega
    simp [B_ref20_Right, LP.okB, c1', c2, this]
  have c2' : (p.hi.length : Int) = (p.lo.length : Int) := by omega
  by_cases c3 : p.c.length = p.lo.length
  rotate_left
  · have : ¬ (p.c.length : Int) = (p.lo.length : Int) := by omega
    simp [B_ref20_Right, LP.okB, c1', c2', c3, this]
  have c3' : (p.c.length : Int) = (p.lo.length : Int) := by omega
  by_cases c4 : p.a.length = p.b.length
  rotate_left
  · have : ¬ (p.a.length : Int) = (p.b.length : Int) := by omega
    simp [B_ref20_Right, LP.okB, c1', c2', c3', c4, this]
  have c4' : (p.a.length : Int) = (p.b.length : Int) := by omega
  by_cases c5 : p.a.length ≤ 160
  rotate_left
  · have : (160 : Int) < (p.a.length : Int) := by omega
    have this' : (160 : Int) < (p.b.length : Int) := by omega
    have hb : ¬ p.b.length ≤ 160 := by omega
    simp [B_ref20_Right, LP.okB, c1', c2', c3', c4', c5, this, this', hb]
  have c5' : ¬ (160 : Int) < (p.a.length : Int) := by omega
  have c5'' : ¬ (160 : Int) < (p.b.length : Int) := by omega
  have w1 := ref20_within_ok p.lo h1
  have w2 := ref20_within_ok p.hi h2
  have w3 := ref20_within_ok p.c h3
  by_cases d1 : within 1048576 p.lo
  rotate_left
  · simp [B_ref20_Right, LP.okB, c1', c2', c3', c4', c5', c5'', w1, d1]
  by_cases d2 : within 1048576 p.hi
  rotate_left
  · simp [B_ref20_Right, LP.okB, c1', c2', c3', c4', c5', c5'', w1, w2, d1, d2]
  by_cases d3 : within 1048576 p.c
  rotate_left
  · simp [B_ref20_Right, LP.okB, c1', c2', c3', c4', c5', c5'', w1, w2, w3, d1, d2, d3]
  have hB : p.okB = (decide (∀ j, j < p.lo.length → p.lo.getD j 0 ≤ p.hi.getD j 0) && decide (∀ i, i < p.a.length → rowOk p i)) := by
    have c5b : p.b.length ≤ 160 := by omega
    have hra := rowOk_all p c4
    simp only [LP.okB, c1, c2, c3, c4, c5b, d1, d2, d3, decide_true, Bool.true_and]
    rw [← c4]
    by_cases e1 : within 1099511627776 p.b
    · by_cases e2 : ∀ r ∈ p.a, r.length = p.lo.length ∧ within 1048576 r
      · rw [decide_eq_true e1, decide_eq_true e2, decide_eq_true (hra.2 ⟨e1, e2⟩)]; simp
      · rw [decide_eq_false e2, decide_eq_false fun h => e2 (hra.1 h).2]; simp
    · rw [decide_eq_false e1, decide_eq_false fun h => e1 (hra.1 h).1]; simp
  rw [hB]
  generalize hE : decide (∀ j, j < p.lo.length → p.lo.getD j 0 ≤ p.hi.getD j 0) = E
  generalize hR : decide (∀ i, i < p.a.length → rowOk p i) = R
  simp [B_ref20_Right, c1', c2', c3', c4', c5', c5'', w1, w2, w3, d1, d2, d3]
  refine loop_ind (α := Nat) _ (fun j k v st' => v = [.ptr 0 1 0 0, I p.lo.length, I j] ∧ k = p.lo.length - j ∧ j ≤ p.lo.length ∧ st'.H 0 = some ⟨5, [progV p]⟩ ∧ (∀ i, i < j → p.lo.getD i 0 ≤ p.hi.getD i 0))
    (fun r => Rets (.bool (E && R)) r) ?step fuel 0 p.lo.length _ _ ?start (by unfold fuel; omega)
  case start => exact ⟨rfl, by omega, by omega, by simp, fun i hi => by omega⟩
  rintro j k v st' ⟨rfl, rfl, hj, hP, he⟩ self ih
  by_cases hlt : j < p.lo.length
  · have hlt' : (j : Int) < (p.lo.length : Int) := by omega
    have i1 := idx_ints st' p.lo j hlt
    have i2 := idx_ints st' p.hi j (by omega)
    have e1 : p.lo[j] = p.lo.getD j 0 := by simp [hlt]
    have e2 : p.hi[j]'(by omega) = p.hi.getD j 0 := by simp [show j < p.hi.length by omega]
    rw [e1] at i1
    rw [e2] at i2
    have hw : IntKind.i64.wrap ((j : Int) + 1) = (j : Int) + 1 := wrap64 _ (by omega) (by omega)
    by_cases c : p.lo.getD j 0 ≤ p.hi.getD j 0
    · have c' : ¬ p.hi.getD j 0 < p.lo.getD j 0 := by omega
      generalize hx : p.lo.getD j 0 = x at *
      generalize hy : p.hi.getD j 0 = y at *
      simp [L_ref20_Right_2, hlt', hP, i1, i2, c', hw]
      refine ih (j + 1) (p.lo.length - (j + 1)) _ st' (by omega) ⟨rfl, rfl, by omega, hP, fun i hi => ?_⟩
      rcases Nat.lt_or_ge i j with h | h
      · exact he i h
      · have : i = j := by omega
        subst this; rw [hx, hy]; exact c
    · have c' : p.hi.getD j 0 < p.lo.getD j 0 := by omega
      have : E = false := by rw [← hE]; exact decide_eq_false fun h => c (h j hlt)
      rw [this, Bool.false_and]
      generalize p.lo.getD j 0 = x at *
      generalize p.hi.getD j 0 = y at *
      simp [L_ref20_Right_2, hlt', hP, i1, i2, c']
  · have hj' : j = p.lo.length := by omega
    subst hj'
    have hlt' : ¬ (p.lo.length : Int) < (p.lo.length : Int) := by omega
    have hr := ref20_rows p c1 c4 c5 h6 st' hP
    rw [hR] at hr
    have : E = true := by rw [← hE]; exact decide_eq_true he
    rw [this, Bool.true_and]
    simp only [L_ref20_Right_2, run_bnd, g_zero, g_succ, cmp_lss, hlt', decide_false, thn_ok, run_if, Bool.false_eq_true, if_false, run_loop]
    exact hr

theorem raw_right04 (r : Raw) (h : r.dig) : F_ref04_Right [rawV r] = .ret (.bool r.right) := ref04_Right_raw r.a r.m r.b r.n h.1 h.2

theorem ref20_Numbers_ok (p : LP) (ys : List Raw) (hd : ∀ r ∈ ys, r.dig) (hl : ys.length < 2 ^ 62) (h5 : p.a.length < 2 ^ 62) : F_ref20_Numbers [progV p, rawsV ys] = .ret (.bool (decide (ys.length = p.a.length) && ys.all Raw.num)) := by
  refine runP_rets (v := .bool (decide (ys.length = p.a.length) && ys.all Raw.num)) ?_ (fun H => by simp)
  by_cases c : ys.length = p.a.length
  rotate_left
  · have : ¬ (ys.length : Int) = (p.a.length : Int) := by omega
    simp [B_ref20_Numbers, c, this]
  have c' : (ys.length : Int) = (p.a.length : Int) := by omega
  rw [decide_eq_true c, Bool.true_and]
  generalize hW : ys.all Raw.num = W
  simp [B_ref20_Numbers, c']
  refine loop_ind (α := Nat) _ (fun i k v st' => v = [rawsV ys, I i] ∧ k = ys.length - i ∧ i ≤ ys.length ∧ (ys.drop i).all Raw.num = W) (fun r => Rets (.bool W) r) ?_ fuel 0 ys.length _ _ ⟨by simp, by omega, by omega, by simpa using hW⟩ (by unfold fuel; omega)
  rintro i k v st' ⟨rfl, rfl, hi, he⟩ self ih
  by_cases hlt : i < ys.length
  · have hlt' : (i : Int) < (ys.length : Int) := by omega
    have d1 := idx_raws st' ys i hlt
    have hdi := hd ys[i] (List.getElem_mem _)
    have hw : IntKind.i64.wrap ((i : Int) + 1) = (i : Int) + 1 := wrap64 _ (by omega) (by omega)
    rw [List.drop_eq_getElem_cons hlt, List.all_cons] at he
    generalize ys[i] = r at *
    have hr := raw_right04 r hdi
    have hb : F_ref20_below [rawV r] = .ret (.bool r.a) := ref20_below_ok _ _ _ _
    unfold Raw.num at he
    cases c1 : r.right
    · rw [c1] at hr he
      simp only [Bool.false_and] at he
      rw [← he]
      simp [L_ref20_Numbers_1, hlt', d1, raw_def, hr]
    · rw [c1] at hr he
      cases c2 : r.a
      · rw [c2] at hb he
        simp only [Bool.not_false, Bool.and_self, Bool.true_and] at he
        simp [L_ref20_Numbers_1, hlt', d1, raw_def, hr, hb, hw]
        exact ih (i + 1) (ys.length - (i + 1)) _ _ (by omega) ⟨rfl, rfl, by omega, he⟩
      · rw [c2] at hb he
        simp only [Bool.not_true, Bool.and_false, Bool.false_and] at he
        rw [← he]
        simp [L_ref20_Numbers_1, hlt', d1, raw_def, hr, hb]
  · have : i = ys.length := by omega
    subst this
    rw [List.drop_length] at he
    rw [← he]
    simp [L_ref20_Numbers_1]

theorem ref20_Bound_bad (p : LP) (ys : List Raw) (hd : ∀ r ∈ ys, r.dig) (hl : ys.length < 2 ^ 62) (h1 : p.lo.length < 2 ^ 62) (h2 : p.hi.length < 2 ^ 62) (h3 : p.c.length < 2 ^ 62) (h4 : p.b.length < 2 ^ 62) (h5 : p.a.length < 2 ^ 62) (h6 : ∀ r ∈ p.a, r.length < 2 ^ 62)
    (h : (p.okB && (decide (ys.length = p.a.length) && ys.all Raw.num)) = false) : F_ref20_Bound [progV p, rawsV ys] = .ret (.tup [Q0, I 2]) := by
  have hr := ref20_Right_ok p h1 h2 h3 h4 h5 h6
  have hn := ref20_Numbers_ok p ys hd hl h5
  generalize (decide (ys.length = p.a.length) && ys.all Raw.num) = nb at *
  refine runP_rets (v := .tup [.agg [.bool false, .nilS, .bool false, .nilS], I 2]) ?_ (fun H => by simp [Q0, Qz, N_zero])
  cases hk : p.okB with
  | false =>
    rw [hk] at hr
    simp [B_ref20_Bound, prog_def, hr]
  | true =>
    rw [hk] at hr h
    have : nb = false := by simpa using h
    rw [this] at hn
    simp [B_ref20_Bound, prog_def, hr, hn]

theorem least_O (p : LP) (l : List Rat) : subO (leastR p l (some p.c) p.lo.length 0 0) (dotR (fun i => p.b.getD i 0) l 0 0) = least p l (some p.c) := rfl
theorem fitO_leastR (p : LP) (y : List Rat) (c : Option (List Int)) : ∀ (k j : Nat) (s : Option Rat), fitO s → fitO (s.bind fun s => leastR p y c k j s)
  | 0, j, s, h => fun q e => by
    cases s with
    | none => cases e
    | some s => exact h q e
  | k + 1, j, s, h => fun q e => by
    refine fitO_leastR p y c k (j + 1) (s.bind fun s => termR p y c j s) (fitO_bind fun s => ?_) q ?_
    · unfold termR
      exact fitO_bind fun _ => fitO_bind fun _ => fitO_bind fun _ => fitO_ck _
    · rw [Option.bind_assoc]; exact e

theorem ref20_Bound_ok (p : LP) (hp : p.ok) (l : List Rat) (hl : l.length = p.a.length) (hf : ∀ q ∈ l, fit64 q) (hr : F_ref20_Right [progV p] = .ret (.bool true)) (hn : F_ref20_Numbers [progV p, ratsV l] = .ret (.bool true)) : F_ref20_Bound [progV p, ratsV l] = .ret (boundV p l) := by
  have hpm := hp.m
  have hleast := ref20_least_ok p hp l hf hl true
  simp only [if_true] at hleast
  have hdot := ref20_dot_ok l p.b hf (by rw [hl, hp.b]; exact Nat.le_refl _) (by omega) (fun n hn => by have := hp.wb n hn; omega)
  have hmin := ref20_minus_ok (fitO_leastR p l (some p.c) p.lo.length 0 (some 0) (fitO_some fit64_zero)) (fitO_dot (fun i => p.b.getD i 0) l)
  simp only [Option.bind_some] at hmin
  rw [least_O] at hmin
  unfold boundV
  generalize leastR p l (some p.c) p.lo.length 0 0 = A at *
  generalize dotR (fun i => p.b.getD i 0) l 0 0 = B at *
  cases ho : least p l (some p.c) with
  | none =>
    rw [ho] at hmin
    refine runP_rets (v := .tup [.agg [.bool false, .nilS, .bool false, .nilS], I 3]) ?_ (fun H => by simp [Q0, Qz, N_zero])
    simp [B_ref20_Bound, prog_def, hr, hn, hleast, hdot, hmin]
  | some q =>
    rw [ho] at hmin
    refine runP_rets (v := .tup [QV q, I 0]) ?_ (fun H => by simp)
    have hO : Qz (os (some q)) (om (some q)) false (od (some q)) = QV q := rfl
    simp [B_ref20_Bound, prog_def, hr, hn, hleast, hdot, hmin, Qz_def, hO]
    rfl

end Go.Abs
end
/-
  THE LAW OF LINEAR PROGRAMS: what it asks of its arguments, and what it makes of them; PlexBounds.
-/
section
set_option linter.unusedSimpArgs false
set_option linter.unusedVariables false
namespace Go.Abs
open Go

@[simp] theorem known_ints (l : List Int) : (intsV l).known = true := (rfl)
@[simp] theorem known_rows (l : List (List Int)) : (rowsV l).known = true := (rfl)
@[simp] theorem simple_ints (l : List Int) : (intsV l).simple = true := (rfl)
@[simp] theorem simple_rows (l : List (List Int)) : (rowsV l).simple = true := (rfl)
@[simp] theorem known_prog (p : LP) : (progV p).known = true := (rfl)
@[simp] theorem take_prog (p : LP) (st : St) : takeM none (progV p) st = .ok (progV p) st := (rfl)
@[simp] theorem take_raw (r : Raw) (st : St) : takeM none (rawV r) st = .ok (rawV r) st := (rfl)
@[simp] theorem take_raws (l : List Raw) (st : St) : takeM none (rawsV l) st = .ok (rawsV l) st := (rfl)
@[simp] theorem snapD_raw (H : Nat → Option Blk) (r : Raw) : snapF H depth (rawV r) = some (rawV r) := snap_raw H 999994 r

/-! ### what fits -/
theorem law20_fits_ok (p : LP) : ∃ b, F_law20_fits [progV p] = .ret (.bool b) ∧ (b = true → p.lo.length ≤ 200 ∧ p.hi.length ≤ 200 ∧ p.c.length ≤ 200 ∧ p.a.length ≤ 200 ∧ p.b.length ≤ 200 ∧ ∀ r ∈ p.a, r.length ≤ 200) := by
  by_cases c1 : p.lo.length ≤ 200
  rotate_left
  · have : (200 : Int) < (p.lo.length : Int) := by omega
    refine ⟨false, runP_rets (v := .bool false) ?_ (fun H => by simp), fun h => by cases h⟩
    simp [B_law20_fits, this]
  have c1' : ¬ (200 : Int) < (p.lo.length : Int) := by omega
  by_cases c2 : p.hi.length ≤ 200
  rotate_left
  · have : (200 : Int) < (p.hi.length : Int) := by omega
    refine ⟨false, runP_rets (v := .bool false) ?_ (fun H => by simp), fun h => by cases h⟩
    simp [B_law20_fits, c1', this]
  have c2' : ¬ (200 : Int) < (p.hi.length : Int) := by omega
  by_cases c3 : p.c.length ≤ 200
  rotate_left
  · have : (200 : Int) < (p.c.length : Int) := by omega
    refine ⟨false, runP_rets (v := .bool false) ?_ (fun H => by simp), fun h => by cases h⟩
    simp [B_law20_fits, c1', c2', this]
  have c3' : ¬ (200 : Int) < (p.c.length : Int) := by omega
  by_cases c4 : p.a.length ≤ 200
  rotate_left
  · have : (200 : Int) < (p.a.length : Int) := by omega
    refine ⟨false, runP_rets (v := .bool false) ?_ (fun H => by simp), fun h => by cases h⟩
    simp [B_law20_fits, c1', c2', c3', this]
  have c4' : ¬ (200 : Int) < (p.a.length : Int) := by omega
  by_cases c5 : p.b.length ≤ 200
  rotate_left
  · have : (200 : Int) < (p.b.length : Int) := by omega
    refine ⟨false, runP_rets (v := .bool false) ?_ (fun H => by simp), fun h => by cases h⟩
    simp [B_law20_fits, c1', c2', c3', c4', this]
  have c5' : ¬ (200 : Int) < (p.b.length : Int) := by omega
  refine ⟨decide (∀ r ∈ p.a, r.length ≤ 200), ?_, fun h => ⟨c1, c2, c3, c4, c5, of_decide_eq_true h⟩⟩
  generalize hW : decide (∀ r ∈ p.a, r.length ≤ 200) = W
  refine runP_rets (v := .bool W) ?_ (fun H => by simp)
  simp [B_law20_fits, c1', c2', c3', c4', c5']
  refine loop_ind (α := Nat) _ (fun i k v st' => v = [.ptr 0 1 0 0, I p.a.length, I i] ∧ k = p.a.length - i ∧ i ≤ p.a.length ∧ st'.H 0 = some ⟨5, [progV p]⟩ ∧ decide (∀ r ∈ p.a.drop i, r.length ≤ 200) = W) (fun r => Rets (.bool W) r) ?step fuel 0 p.a.length _ _ ?start (by unfold fuel; omega)
  case start => exact ⟨rfl, by omega, by omega, by simp, hW⟩
  rintro i k v st' ⟨rfl, rfl, hi, h0, he⟩ self ih
  by_cases hlt : i < p.a.length
  · have hlt' : (i : Int) < (p.a.length : Int) := by omega
    have d1 := idx_rows st' p.a i hlt
    have hw : IntKind.i64.wrap ((i : Int) + 1) = (i : Int) + 1 := wrap64 _ (by omega) (by omega)
    rw [List.drop_eq_getElem_cons hlt] at he
    generalize p.a[i] = r at *
    by_cases c : r.length ≤ 200
    · have c' : ¬ (200 : Int) < (r.length : Int) := by omega
      simp [L_law20_fits_1, hlt', h0, d1, c', hw]
      refine ih (i + 1) (p.a.length - (i + 1)) _ st' (by omega) ⟨rfl, rfl, by omega, h0, ?_⟩
      rw [← he]
      exact decide_eq_decide.2 ⟨fun h => List.forall_mem_cons.2 ⟨c, h⟩, fun h => (List.forall_mem_cons.1 h).2⟩
    · have c' : (200 : Int) < (r.length : Int) := by omega
      have : W = false := by rw [← he]; exact decide_eq_false fun h => c (List.forall_mem_cons.1 h).1
      rw [this]
      simp [L_law20_fits_1, hlt', h0, d1, c']
  · have hi' : i = p.a.length := by omega
    subst hi'
    have : W = true := by rw [← he]; simp
    rw [this]
    simp [L_law20_fits_1]

theorem law20_few_ok (ys : List Raw) : ∃ b, F_law20_few [rawsV ys] = .ret (.bool b) ∧ (b = true → ys.length ≤ 200 ∧ ∀ r ∈ ys, r.m.length ≤ 20 ∧ r.n.length ≤ 20) := by
  by_cases c1 : ys.length ≤ 200
  rotate_left
  · have : (200 : Int) < (ys.length : Int) := by omega
    refine ⟨false, runP_rets (v := .bool false) ?_ (fun H => by simp), fun h => by cases h⟩
    simp [B_law20_few, this]
  have c1' : ¬ (200 : Int) < (ys.length : Int) := by omega
  refine ⟨decide (∀ r ∈ ys, r.m.length ≤ 20 ∧ r.n.length ≤ 20), ?_, fun h => ⟨c1, of_decide_eq_true h⟩⟩
  generalize hW : decide (∀ r ∈ ys, r.m.length ≤ 20 ∧ r.n.length ≤ 20) = W
  refine runP_rets (v := .bool W) ?_ (fun H => by simp)
  simp [B_law20_few, c1']
  refine loop_ind (α := Nat) _ (fun i k v st' => v = [rawsV ys, I ys.length, I i] ∧ k = ys.length - i ∧ i ≤ ys.length ∧ decide (∀ r ∈ ys.drop i, r.m.length ≤ 20 ∧ r.n.length ≤ 20) = W) (fun r => Rets (.bool W) r) ?step fuel 0 ys.length _ _ ?start (by unfold fuel; omega)
  case start => exact ⟨rfl, by omega, by omega, hW⟩
  rintro i k v st' ⟨rfl, rfl, hi, he⟩ self ih
  by_cases hlt : i < ys.length
  · have hlt' : (i : Int) < (ys.length : Int) := by omega
    have d1 := idx_raws st' ys i hlt
    have hw : IntKind.i64.wrap ((i : Int) + 1) = (i : Int) + 1 := wrap64 _ (by omega) (by omega)
    rw [List.drop_eq_getElem_cons hlt] at he
    generalize ys[i] = r at *
    by_cases c : r.m.length ≤ 20
    · have c' : ¬ (20 : Int) < (r.m.length : Int) := by omega
      by_cases d : r.n.length ≤ 20
      · have d' : ¬ (20 : Int) < (r.n.length : Int) := by omega
        simp [L_law20_few_1, hlt', d1, c', d', hw]
        refine ih (i + 1) (ys.length - (i + 1)) _ _ (by omega) ⟨rfl, rfl, by omega, ?_⟩
        rw [← he]
        exact decide_eq_decide.2 ⟨fun h => List.forall_mem_cons.2 ⟨⟨c, d⟩, h⟩, fun h => (List.forall_mem_cons.1 h).2⟩
      · have d' : (20 : Int) < (r.n.length : Int) := by omega
        have : W = false := by rw [← he]; exact decide_eq_false fun h => d (List.forall_mem_cons.1 h).1.2
        rw [this]
        simp [L_law20_few_1, hlt', d1, c', d']
    · have c' : (20 : Int) < (r.m.length : Int) := by omega
      have : W = false := by rw [← he]; exact decide_eq_false fun h => c (List.forall_mem_cons.1 h).1.1
      rw [this]
      simp [L_law20_few_1, hlt', d1, c']
  · have hi' : i = ys.length := by omega
    subst hi'
    have : W = true := by rw [← he]; simp
    rw [this]
    simp [L_law20_few_1]

/-! ### what is the same on both sides -/
theorem law20_Theirs_ok (p : LP) : F_law20_Theirs [progV p] = .ret (progV p) := by
  refine runP_rets (v := progV p) ?_ (fun H => by simp)
  simp [B_law20_Theirs, prog_def]
theorem law04_whole_ok (a : Bool) (xs : List Nat) : F_law04_whole [.agg [.bool a, .lst (digV xs)]] = .ret (.agg [.bool a, .lst (digV xs)]) := by
  refine runP_rets (v := .agg [.bool a, .lst (digV xs)]) ?_ (fun H => by simp)
  simp [B_law04_whole]
theorem law04_Theirs_ok (r : Raw) : F_law04_Theirs [rawV r] = .ret (rawV r) := by
  have h1 := law04_whole_ok r.a r.m
  have h2 := law04_whole_ok r.b r.n
  refine runP_rets (v := rawV r) ?_ (fun H => by simp)
  simp [B_law04_Theirs, h1, h2, raw_def]
theorem law04_Ours_ok (a : Bool) (m : Nat) (b : Bool) (n : Nat) : F_law04_Ours [Qz a m b n] = .ret (Qz a m b n) := by
  refine runP_rets (v := Qz a m b n) ?_ (fun H => by simp)
  simp [B_law04_Ours, Qz_def]

theorem snapL_raws {H : Nat → Option Blk} : ∀ (l : List Raw) (d : Nat), l.length + 8 < d → snapL H d (l.map rawV) = some (l.map rawV)
  | [], d, h => by
    obtain ⟨d, rfl⟩ : ∃ e, d = e + 1 := ⟨d - 1, by omega⟩
    rfl
  | r :: l, d, h => by
    simp only [List.length_cons] at h
    obtain ⟨d, rfl⟩ : ∃ e, d = e + 7 := ⟨d - 7, by omega⟩
    rw [List.map_cons, snap_cons, snapL_raws l (d + 6) (by omega), snap_raw H d r]

theorem law20_Rats_ok (ys : List Raw) (hl : ys.length ≤ 200) : F_law20_Rats [rawsV ys] = .ret (rawsV ys) := by
  refine runP_of ?_
  have key : ∃ v st, (B_law20_Rats [rawsV ys]).run St.empty = .ok v st ∧ Buf 4 st v (ys.map rawV) := by
    generalize hL : ys.map rawV = L
    simp [B_law20_Rats]
    refine loop_ind (α := Nat) _ (fun i k w st' => ∃ v, w = [v, rawsV ys, I ys.length, I i] ∧ k = ys.length - i ∧ i ≤ ys.length ∧ Buf 4 st' v ((ys.take i).map rawV))
      (fun r => ∃ v st', r = .ok v st' ∧ Buf 4 st' v L) ?step fuel 0 ys.length _ _ ?start (by unfold fuel; omega)
    case start => exact ⟨.nilS, rfl, by omega, by omega, by simpa using Buf.nil 4 _⟩
    rintro i k w st' ⟨v, rfl, rfl, hi, hb⟩ self ih
    by_cases hlt : i < ys.length
    · have hlt' : (i : Int) < (ys.length : Int) := by omega
      have hw : IntKind.i64.wrap ((i : Int) + 1) = ((i + 1 : Nat) : Int) := by rw [wrap64] <;> omega
      have d1 := idx_raws st' ys i hlt
      have t1 : ys.take (i + 1) = ys.take i ++ [ys[i]] := by rw [List.take_add_one, List.getElem?_eq_getElem hlt]; rfl
      generalize ys[i] = r at *
      have hth := law04_Theirs_ok r
      -- a box between
      have hb2 : Buf 4 ⟨upd st'.H st'.nx (some ⟨4, [rawV r]⟩), st'.nx + 1, st'.dead⟩ v ((ys.take i).map rawV) := by
        rcases hb with ⟨rfl, h⟩ | ⟨id, rfl, h1, hid⟩
        · exact .inl ⟨rfl, h⟩
        · have : ¬ id = st'.nx := by omega
          exact .inr ⟨id, rfl, by simp [this, h1], by simp; omega⟩
      have hlen : ((ys.take i).map rawV).length = i := by simp; omega
      obtain ⟨st2, v2, e1, e2, e3, e4, e5, e6⟩ := hb2.push (bytes := 64) (ag := true) (z := .agg [(.bool false), .nilS, (.bool false), .nilS]) (x := rawV r) rfl rfl (by omega) (by omega) (by simp [mostBytes]) (by rw [hlen]; simp [mostLen]; omega)
        (fun t12 => .bnd (binM .add ty_int (I i) (I 1)) fun t13 => .leaf (self [t12, rawsV ys, I ys.length, t13]))
      simp only [run_bnd] at e1
      have pre : ((L_law20_Rats_1 self [v, rawsV ys, I ys.length, I i]).run st') = (buildSliceM none 4 true (.agg [(.bool false), .nilS, (.bool false), .nilS]) 1 [(0, rawV r)] ⟨upd st'.H st'.nx (some ⟨4, [rawV r]⟩), st'.nx + 1, st'.dead⟩).thn fun t => (Prog.bnd (appendM 4 64 v t) fun t12 => .bnd (binM .add ty_int (I i) (I 1)) fun t13 => .leaf (self [t12, rawsV ys, I ys.length, t13])).run := by
        simp [L_law20_Rats_1, hlt', d1, raw_def, hth]
      rw [pre]
      rw [e1]
      simp only [op_add, hw, thn_ok, run_leaf]
      exact ih (i + 1) (ys.length - (i + 1)) _ st2 (by omega) ⟨v2, rfl, rfl, by omega, by rw [t1, List.map_append]; exact e2⟩
    · have hi' : i = ys.length := by omega
      subst hi'
      rw [List.take_length, hL] at hb
      refine ⟨v, st', ?_, hb⟩
      simp [L_law20_Rats_1]
  obtain ⟨v, st, h1, h2⟩ := key
  exact ⟨v, st, h1, h2.snap (d := 999999) (snapL_raws ys _ (by omega))⟩

/-! ### PlexBounds -/
theorem fitO_least (p : LP) (l : List Rat) : fitO (least p l (some p.c)) := fitO_bind fun _ => fitO_bind fun _ => fitO_ck _
theorem len_zero : (digs 0).length < 2 ^ 50 := by rw [digs_zero]; simp
theorem boundV_form (p : LP) (l : List Rat) : ∃ a m b n e, boundV p l = .tup [Qz a m b n, I e] ∧ (digs m).length < 2 ^ 50 ∧ (digs n).length < 2 ^ 50 := by
  unfold boundV
  cases h : least p l (some p.c) with
  | none => exact ⟨_, _, _, _, _, rfl, len_zero, len_zero⟩
  | some q =>
    have hf := fitO_least p l q h
    have h1 := digs_len.2 hf.1
    have h2 := digs_len.2 hf.2
    exact ⟨_, _, _, _, _, rfl, by unfold qm; omega, by omega⟩

theorem bounds_same (p : LP) (ys : List Raw) (hd : ∀ r ∈ ys, r.dig) (hl : ys.length ≤ 200) (h1 : p.lo.length ≤ 200) (h2 : p.hi.length ≤ 200) (h3 : p.c.length ≤ 200) (h4 : p.b.length ≤ 200) (h5 : p.a.length ≤ 200) (h6 : ∀ r ∈ p.a, r.length ≤ 200) :
    ∃ a m b n e, F_plex_Bound [progV p, rawsV ys] = .ret (.tup [Qz a m b n, I e]) ∧ F_ref20_Bound [progV p, rawsV ys] = .ret (.tup [Qz a m b n, I e]) ∧ (digs m).length < 2 ^ 50 ∧ (digs n).length < 2 ^ 50 := by
  have g6 : ∀ r ∈ p.a, r.length < 2 ^ 62 := fun r hr => by have := h6 r hr; omega
  cases h : p.okB && (decide (ys.length = p.a.length) && ys.all Raw.num) with
  | false =>
    exact ⟨_, _, _, _, _, plex_Bound_bad p ys hd (by omega) (by omega) (by omega) (by omega) (by omega) (by omega) g6 h,
      ref20_Bound_bad p ys hd (by omega) (by omega) (by omega) (by omega) (by omega) (by omega) g6 h, len_zero, len_zero⟩
  | true =>
    have r1 := plex_Right_ok p (by omega) (by omega) (by omega) (by omega) (by omega) g6
    have r2 := ref20_Right_ok p (by omega) (by omega) (by omega) (by omega) (by omega) g6
    have n1 := plex_numbers_ok p ys hd (by omega) (by omega)
    have n2 := ref20_Numbers_ok p ys hd (by omega) (by omega)
    simp only [Bool.and_eq_true, decide_eq_true_eq] at h
    obtain ⟨k1, k2, k3⟩ := h
    rw [k1] at r1 r2
    rw [decide_eq_true k2, k3] at n1 n2
    obtain ⟨l, l1, l2, l3⟩ := raws_rats ys hd k3
    rw [l2] at n1 n2 ⊢
    have b1 := plex_Bound_ok p (LP.ok_of k1) l (by omega) (fun q hq => (l1 q hq).1) r1 n1
    have b2 := ref20_Bound_ok p (LP.ok_of k1) l (by omega) (fun q hq => (l1 q hq).1) r2 n2
    obtain ⟨a, m, b, n, e, hb, hb'⟩ := boundV_form p l
    rw [hb] at b1 b2
    exact ⟨a, m, b, n, e, b1, b2, hb'⟩

theorem PlexBounds_ok (hal : F_law20_alive [] = .ret (.bool true)) (p : LP) (ys : List Raw) (hd : ∀ r ∈ ys, r.dig) : F_law20_PlexBounds [progV p, rawsV ys] = .ret (.bool true) := by
  obtain ⟨b1, f1, g1⟩ := law20_fits_ok p
  obtain ⟨b2, f2, g2⟩ := law20_few_ok ys
  refine runP_rets (v := .bool true) ?_ (fun H => by simp)
  cases b1
  · simp [B_law20_PlexBounds, hal, f1, prog_def]
  · cases b2
    · simp [B_law20_PlexBounds, hal, f1, f2, prog_def]
    · obtain ⟨k1, k2, k3, k4, k5, k6⟩ := g1 rfl
      obtain ⟨m1, m2⟩ := g2 rfl
      obtain ⟨a, m, b, n, e, hb1, hb2, hm, hn⟩ := bounds_same p ys hd m1 k1 k2 k3 k5 k4 k6
      have hth := law20_Theirs_ok p
      have hra := law20_Rats_ok ys m1
      have hou := law04_Ours_ok a m b n
      have hsm : F_ref04_Same [Qz a m b n, Qz a m b n] = .ret (.bool true) := ref04_Same_self a (digs m) b (digs n) hm hn
      simp [B_law20_PlexBounds, hal, f1, f2, prog_def, hth, hra, hb1, hb2, hou, hsm, Qz_def]

end Go.Abs
end
