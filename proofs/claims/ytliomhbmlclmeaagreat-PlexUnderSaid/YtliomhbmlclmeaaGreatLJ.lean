/-
  Joined from: U1 U2.
-/
import Derived.Test.YtliomhbmlclmeaaGreatLI
/-
  THE LAW OF LINEAR PROGRAMS: weak duality, with no program in sight.
-/
section
set_option linter.unusedSimpArgs false
set_option linter.unusedVariables false
namespace Go.Abs
open Go

/-- The sum of fractions times numbers, from there on. -/
def sumR (n : Nat → Int) : List Rat → Nat → Rat
  | [], _ => 0
  | y :: ys, i => y * (n i : Rat) + sumR n ys (i + 1)
theorem dotR_val (n : Nat → Int) : ∀ (ys : List Rat) (i : Nat) (s q : Rat), dotR n ys i s = some q → q = s + sumR n ys i
  | [], i, s, q, h => by cases h; simp [sumR, Rat.add_zero]
  | y :: ys, i, s, q, h => by
    simp only [dotR, Option.bind_eq_some_iff] at h
    obtain ⟨p, h1, s', h2, h3⟩ := h
    have e := dotR_val n ys (i + 1) s' q h3
    rw [e, (ck_some h2).1, (ck_some h1).1, sumR, Rat.add_assoc]

/-- So many terms, from there on. -/
def sumN (f : Nat → Rat) : Nat → Nat → Rat
  | 0, _ => 0
  | k + 1, j => f j + sumN f k (j + 1)
theorem sumN_add (f g : Nat → Rat) : ∀ k j, sumN (fun j => f j + g j) k j = sumN f k j + sumN g k j
  | 0, j => by simp [sumN, Rat.add_zero]
  | k + 1, j => by simp only [sumN]; rw [sumN_add f g k (j + 1)]; grind
theorem sumN_mul (c : Rat) (f : Nat → Rat) : ∀ k j, sumN (fun j => c * f j) k j = c * sumN f k j
  | 0, j => by simp [sumN, Rat.mul_zero]
  | k + 1, j => by simp only [sumN]; rw [sumN_mul c f k (j + 1)]; grind
theorem sumN_le (f g : Nat → Rat) : ∀ k j, (∀ i, j ≤ i → i < j + k → f i ≤ g i) → sumN f k j ≤ sumN g k j
  | 0, j, _ => Rat.le_refl
  | k + 1, j, h => by
    simp only [sumN]
    have h1 := h j (by omega) (by omega)
    have h2 := sumN_le f g k (j + 1) fun i a b => h i (by omega) (by omega)
    grind
theorem sumN_congr (f g : Nat → Rat) : ∀ k j, (∀ i, j ≤ i → i < j + k → f i = g i) → sumN f k j = sumN g k j
  | 0, j, _ => rfl
  | k + 1, j, h => by
    simp only [sumN]
    rw [h j (by omega) (by omega), sumN_congr f g k (j + 1) fun i a b => h i (by omega) (by omega)]
def sumI (f : Nat → Int) : Nat → Nat → Int
  | 0, _ => 0
  | k + 1, j => f j + sumI f k (j + 1)
theorem sumI_cast (f : Nat → Int) : ∀ k j, ((sumI f k j : Int) : Rat) = sumN (fun j => (f j : Rat)) k j
  | 0, j => rfl
  | k + 1, j => by simp only [sumI, sumN]; rw [Rat.intCast_add, sumI_cast f k (j + 1)]

/-- Sums of sums, the other way round. -/
theorem sum_swap (a : Nat → Nat → Int) (x : Nat → Int) (k j : Nat) : ∀ (y : List Rat) (i : Nat), sumN (fun j => sumR (fun i => a i j) y i * (x j : Rat)) k j = sumR (fun i => sumI (fun j => a i j * x j) k j) y i
  | [], i => by
    simp only [sumR]
    have := sumN_mul 0 (fun j => (x j : Rat)) k j
    rw [Rat.zero_mul] at this
    exact this
  | y :: ys, i => by
    simp only [sumR]
    rw [← sum_swap a x k j ys (i + 1), sumI_cast, ← sumN_mul, ← sumN_add]
    refine sumN_congr _ _ k j fun t _ _ => ?_
    rw [Rat.intCast_mul]
    grind
theorem sumR_le (m n : Nat → Int) : ∀ (y : List Rat) (i : Nat), (∀ q ∈ y, 0 ≤ q) → (∀ t, i ≤ t → t < i + y.length → m t ≤ n t) → sumR m y i ≤ sumR n y i
  | [], i, _, _ => Rat.le_refl
  | y :: ys, i, h, k => by
    simp only [sumR]
    have h1 := sumR_le m n ys (i + 1) (fun q hq => h q (by simp [hq])) fun t a b => k t (by omega) (by simp; omega)
    have h2 : ((m i : Int) : Rat) ≤ ((n i : Int) : Rat) := Rat.intCast_le_intCast.2 (k i (by omega) (by simp))
    have h3 := Rat.mul_le_mul_of_nonneg_left h2 (h y (by simp))
    grind

/-- What the rows by numbers, and the costs, say of a variable. -/
def redC (p : LP) (y : List Rat) (j : Nat) : Rat := sumR (fun i => at2 p.a i j) y 0 + (p.c.getD j 0 : Rat)
def endR (p : LP) (y : List Rat) (j : Nat) : Int := if redC p y j < 0 then p.hi.getD j 0 else p.lo.getD j 0
theorem leastR_val (p : LP) (y : List Rat) : ∀ (k j : Nat) (s q : Rat), leastR p y (some p.c) k j s = some q → q = s + sumN (fun j => redC p y j * (endR p y j : Rat)) k j
  | 0, j, s, q, h => by cases h; simp [sumN, Rat.add_zero]
  | k + 1, j, s, q, h => by
    simp only [leastR, termR, Option.bind_eq_some_iff] at h
    obtain ⟨s', ⟨d, h1, d', h2, e, h3, h4⟩, h5⟩ := h
    have e1 := dotR_val _ _ _ _ _ h1
    rw [Rat.zero_add] at e1
    have e2 : d' = redC p y j := by rw [(ck_some h2).1, e1]; rfl
    have e3 := (ck_some h3).1
    have e4 := (ck_some h4).1
    rw [leastR_val p y k (j + 1) s' q h5, e4, e3, e2]
    simp only [sumN]
    rw [Rat.add_assoc]
    rfl

/-- Weak duality. -/
theorem weak (p : LP) (y : List Rat) (x : List Int) (hy : ∀ q ∈ y, 0 ≤ q) (hl : y.length = p.a.length) (hx : ∀ j, j < p.lo.length → p.lo.getD j 0 ≤ x.getD j 0 ∧ x.getD j 0 ≤ p.hi.getD j 0)
    (hr : ∀ i, i < p.a.length → sumI (fun j => at2 p.a i j * x.getD j 0) p.lo.length 0 ≤ p.b.getD i 0) {q : Rat} (h : least p y (some p.c) = some q) :
    q ≤ ((sumI (fun j => p.c.getD j 0 * x.getD j 0) p.lo.length 0 : Int) : Rat) := by
  simp only [least, Option.bind_eq_some_iff] at h
  obtain ⟨s, h1, t, h2, h3⟩ := h
  have e1 := leastR_val p y _ _ _ _ h1
  have e2 := dotR_val _ _ _ _ _ h2
  rw [Rat.zero_add] at e1 e2
  rw [(ck_some h3).1]
  have l1 : sumN (fun j => redC p y j * (endR p y j : Rat)) p.lo.length 0 ≤ sumN (fun j => redC p y j * (x.getD j 0 : Rat)) p.lo.length 0 := by
    refine sumN_le _ _ _ _ fun i _ hi => ?_
    obtain ⟨k1, k2⟩ := hx i (by omega)
    have c1 : ((p.lo.getD i 0 : Int) : Rat) ≤ ((x.getD i 0 : Int) : Rat) := Rat.intCast_le_intCast.2 k1
    have c2 : ((x.getD i 0 : Int) : Rat) ≤ ((p.hi.getD i 0 : Int) : Rat) := Rat.intCast_le_intCast.2 k2
    unfold endR
    by_cases hn : redC p y i < 0
    · rw [if_pos hn]
      have := Rat.mul_le_mul_of_nonneg_left c2 (show (0 : Rat) ≤ - redC p y i by grind)
      grind
    · rw [if_neg hn]
      exact Rat.mul_le_mul_of_nonneg_left c1 (Rat.not_lt.1 hn)
  have l2 : sumN (fun j => redC p y j * (x.getD j 0 : Rat)) p.lo.length 0 = sumR (fun i => sumI (fun j => at2 p.a i j * x.getD j 0) p.lo.length 0) y 0 + ((sumI (fun j => p.c.getD j 0 * x.getD j 0) p.lo.length 0 : Int) : Rat) := by
    rw [← sum_swap, sumI_cast, ← sumN_add]
    refine sumN_congr _ _ _ _ fun t _ _ => ?_
    rw [Rat.intCast_mul]
    unfold redC
    grind
  have l3 := sumR_le (fun i => sumI (fun j => at2 p.a i j * x.getD j 0) p.lo.length 0) (fun i => p.b.getD i 0) y 0 hy fun t _ ht => hr t (by omega)
  grind

end Go.Abs
end
/-
  THE LAW OF LINEAR PROGRAMS: small, cost, PlexUnder.
-/
section
set_option linter.unusedSimpArgs false
set_option linter.unusedVariables false
namespace Go.Abs
open Go

/-- What cost says of a point. -/
def Costs (p : LP) (x : List Int) (n : Int) : Prop :=
  x.length = p.lo.length ∧ (∀ j, j < p.lo.length → p.lo.getD j 0 ≤ x.getD j 0 ∧ x.getD j 0 ≤ p.hi.getD j 0) ∧
    (∀ i, i < p.a.length → sumI (fun j => at2 p.a i j * x.getD j 0) p.lo.length 0 ≤ p.b.getD i 0) ∧ n = sumI (fun j => p.c.getD j 0 * x.getD j 0) p.lo.length 0
def CostQ (p : LP) (x : List Int) (r : Res) : Prop := ∃ n ok st, r = .ok (.tup [I n, .bool ok]) st ∧ (ok = true → Costs p x n) ∧ -9223372036854775808 ≤ n ∧ n ≤ 9223372036854775807

theorem cost_bad (p : LP) (x : List Int) (st : St) : CostQ p x (.ok (.tup [I 0, .bool false]) st) := ⟨0, false, st, rfl, fun h => (by cases h), by omega, by omega⟩

theorem sumI_snoc (f : Nat → Int) : ∀ k j, sumI f (k + 1) j = sumI f k j + f (j + k)
  | 0, j => by simp [sumI]
  | k + 1, j => by
    rw [sumI, sumI_snoc f k (j + 1), sumI]
    have : j + 1 + k = j + (k + 1) := by omega
    rw [this]; omega
theorem sumI_bound (f : Nat → Int) (m : Int) : ∀ k j, (∀ i, j ≤ i → i < j + k → -m ≤ f i ∧ f i ≤ m) → -(k * m) ≤ sumI f k j ∧ sumI f k j ≤ k * m
  | 0, j, _ => by simp [sumI]
  | k + 1, j, h => by
    have h1 := h j (by omega) (by omega)
    have h2 := sumI_bound f m k (j + 1) fun i a b => h i (by omega) (by omega)
    simp only [sumI]
    have e : ((k + 1 : Nat) : Int) * m = k * m + m := by rw [Int.natCast_add, Int.add_mul]; simp
    rw [e]; omega
theorem mul_bound {a b : Int} (h1 : -1048576 ≤ a ∧ a ≤ 1048576) (h2 : -1048576 ≤ b ∧ b ≤ 1048576) : -1099511627776 ≤ a * b ∧ a * b ≤ 1099511627776 := by
  have k1 : a.natAbs ≤ 1048576 := by omega
  have k2 : b.natAbs ≤ 1048576 := by omega
  have k3 : (a * b).natAbs ≤ 1099511627776 := by
    rw [Int.natAbs_mul]
    exact Nat.le_trans (Nat.mul_le_mul k1 k2) (by omega)
  omega

/-- One row. -/
theorem cost_row (p : LP) (hp : p.ok) (x : List Int) (hx : x.length = p.lo.length) (hb : ∀ j, j < p.lo.length → -1048576 ≤ x.getD j 0 ∧ x.getD j 0 ≤ 1048576) (me : List PV → M) (n : Int) (i : Nat) (hi : i < p.a.length) (st : St) (h0 : st.H 0 = some ⟨5, [progV p]⟩)
    (good : sumI (fun j => at2 p.a i j * x.getD j 0) p.lo.length 0 ≤ p.b.getD i 0 → CostQ p x (me [intsV x, .ptr 0 1 0 0, I n, I p.a.length, I ((i : Int) + 1)] st)) :
    CostQ p x (iter fuel (fun self v => (L_law20_cost_1 me self v).run) [intsV x, .ptr 0 1 0 0, I n, I i, I 0, I p.a.length, I i, intsV x, I x.length, I 0] st) := by
  have hpn := hp.n
  refine loop_ind (α := Nat) _ (fun j k v st' => v = [intsV x, .ptr 0 1 0 0, I n, I i, I (sumI (fun j => at2 p.a i j * x.getD j 0) j 0), I p.a.length, I i, intsV x, I x.length, I j] ∧ st' = st ∧ k = p.lo.length - j ∧ j ≤ p.lo.length) (fun r => CostQ p x r) ?step fuel 0 p.lo.length _ _ ?start (by unfold fuel; omega)
  case start => exact ⟨rfl, rfl, by omega, by omega⟩
  rintro j k v st' ⟨rfl, rfl, rfl, hj⟩ self ih
  have hab := hp.b
  have hpm := hp.m
  have hrow := hp.rows p.a[i] (List.getElem_mem _)
  have ea : at2 p.a i = fun j => p.a[i].getD j 0 := by funext j; simp [at2, hi]
  have d1 : idxM 1 (rowsV p.a) (I i) st' = .ok (.cref (intsV p.a[i]) 0) st' := idx_rows st' p.a i hi
  have d4 : idxM 1 (intsV p.b) (I i) st' = .ok (.cref (I (p.b.getD i 0)) 0) st' := by rw [idx_ints st' p.b i (by omega)]; simp [show i < p.b.length by omega]
  have hbd : ∀ t, t < p.lo.length → -1099511627776 ≤ p.a[i].getD t 0 * x.getD t 0 ∧ p.a[i].getD t 0 * x.getD t 0 ≤ 1099511627776 := fun t ht => mul_bound (within_getD hrow.2 (by omega) t) (hb t ht)
  have hsum := sumI_bound (fun j => at2 p.a i j * x.getD j 0) 1099511627776 j 0 fun t _ ht => by rw [ea]; exact hbd t (by omega)
  by_cases hlt : j < p.lo.length
  · have hlt' : (j : Int) < (x.length : Int) := by omega
    have hw : IntKind.i64.wrap ((j : Int) + 1) = (j : Int) + 1 := wrap64 _ (by omega) (by omega)
    have d2 : idxM 1 (intsV x) (I j) st' = .ok (.cref (I (x.getD j 0)) 0) st' := by rw [idx_ints st' x j (by omega)]; simp [show j < x.length by omega]
    have d3 : idxM 1 (intsV p.a[i]) (I j) st' = .ok (.cref (I (p.a[i].getD j 0)) 0) st' := by rw [idx_ints st' p.a[i] j (by omega)]; simp [show j < p.a[i].length by omega]
    have hm := hbd j hlt
    have w1 : IntKind.i64.wrap (p.a[i].getD j 0 * x.getD j 0) = p.a[i].getD j 0 * x.getD j 0 := wrap64 _ (by omega) (by omega)
    have w2 : IntKind.i64.wrap (sumI (fun j => at2 p.a i j * x.getD j 0) j 0 + p.a[i].getD j 0 * x.getD j 0) = sumI (fun j => at2 p.a i j * x.getD j 0) (j + 1) 0 := by
      rw [sumI_snoc, Nat.zero_add, ea]
      rw [ea] at hsum
      exact wrap64 _ (by omega) (by omega)
    have key := fun st => ih (j + 1) (p.lo.length - (j + 1)) [intsV x, .ptr 0 1 0 0, I n, I i, I (sumI (fun j => at2 p.a i j * x.getD j 0) (j + 1) 0), I p.a.length, I i, intsV x, I x.length, I ((j : Int) + 1)] st (by omega)
    generalize sumI (fun j => at2 p.a i j * x.getD j 0) (j + 1) 0 = S' at *
    generalize sumI (fun j => at2 p.a i j * x.getD j 0) j 0 = S at *
    generalize p.a[i].getD j 0 = aj at *
    generalize x.getD j 0 = xj at *
    generalize p.a[i] = r at *
    simp [L_law20_cost_1, hlt', d1, d2, d3, h0, w1, w2, hw]
    exact key st' ⟨rfl, rfl, rfl, by omega⟩
  · have hj' : j = p.lo.length := by omega
    subst hj'
    have hlt' : ¬ (p.lo.length : Int) < (x.length : Int) := by omega
    have hw : IntKind.i64.wrap ((i : Int) + 1) = (i : Int) + 1 := wrap64 _ (by omega) (by omega)
    generalize sumI (fun j => at2 p.a i j * x.getD j 0) p.lo.length 0 = S at *
    generalize p.b.getD i 0 = b at *
    by_cases c : b < S
    · simp [L_law20_cost_1, hlt', d4, h0, c]
      exact cost_bad p x _
    · simp [L_law20_cost_1, hlt', d4, h0, c, hw]
      exact good (by omega)

theorem cost_rows (p : LP) (hp : p.ok) (x : List Int) (hx : x.length = p.lo.length) (hc : ∀ j, j < p.lo.length → p.lo.getD j 0 ≤ x.getD j 0 ∧ x.getD j 0 ≤ p.hi.getD j 0) (st : St) (h0 : st.H 0 = some ⟨5, [progV p]⟩) (n : Int) (hn : n = sumI (fun j => p.c.getD j 0 * x.getD j 0) p.lo.length 0)
    (n1 : -9223372036854775808 ≤ n) (n2 : n ≤ 9223372036854775807) :
    CostQ p x (iter fuel (fun self v => (L_law20_cost_2 self v).run) [intsV x, .ptr 0 1 0 0, I n, I p.a.length, I 0] st) := by
  have hpm := hp.m
  have hb : ∀ j, j < p.lo.length → -1048576 ≤ x.getD j 0 ∧ x.getD j 0 ≤ 1048576 := fun j hj => by
    have h1 := hc j hj
    have h2 := within_getD hp.wlo (by omega) j
    have h3 := within_getD hp.whi (by omega) j
    omega
  refine loop_ind (α := Nat) _ (fun i k v st' => v = [intsV x, .ptr 0 1 0 0, I n, I p.a.length, I i] ∧ st' = st ∧ k = p.a.length - i ∧ i ≤ p.a.length ∧ (∀ t, t < i → sumI (fun j => at2 p.a t j * x.getD j 0) p.lo.length 0 ≤ p.b.getD t 0)) (fun r => CostQ p x r) ?step fuel 0 p.a.length _ _ ?start (by unfold fuel; omega)
  case start => exact ⟨rfl, rfl, by omega, by omega, fun t ht => by omega⟩
  rintro i k v st' ⟨rfl, rfl, rfl, hi, he⟩ self ih
  by_cases hlt : i < p.a.length
  · have hlt' : (i : Int) < (p.a.length : Int) := by omega
    simp only [L_law20_cost_2, run_bnd, g_zero, g_succ, cmp_lss, hlt', decide_true, thn_ok, run_if, if_true, len_ints, run_loop]
    refine cost_row p hp x hx hb self n i hlt st' h0 fun hg => ?_
    refine ih (i + 1) (p.a.length - (i + 1)) _ st' (by omega) ⟨rfl, rfl, rfl, by omega, fun t ht => ?_⟩
    rcases Nat.lt_or_ge t i with h | h
    · exact he t h
    · have : t = i := by omega
      subst this; exact hg
  · have hi' : i = p.a.length := by omega
    subst hi'
    have hlt' : ¬ (p.a.length : Int) < (p.a.length : Int) := by omega
    simp only [L_law20_cost_2, run_bnd, g_zero, g_succ, cmp_lss, hlt', decide_false, thn_ok, run_if, Bool.false_eq_true, if_false, run_leaf, ret_at]
    exact ⟨n, true, st', rfl, fun _ => ⟨hx, hc, he, hn⟩, n1, n2⟩

theorem cost_run (p : LP) (hp : p.ok) (x : List Int) : CostQ p x ((B_law20_cost [progV p, intsV x]).run .empty) := by
  have hpn := hp.n
  by_cases hx : x.length = p.lo.length
  rotate_left
  · have : ¬ (x.length : Int) = (p.lo.length : Int) := by omega
    simp [B_law20_cost, this]
    exact cost_bad p x _
  have hx' : (x.length : Int) = (p.lo.length : Int) := by omega
  simp [B_law20_cost, hx']
  refine loop_ind (α := Nat) _ (fun j k v st' => v = [intsV x, .ptr 0 1 0 0, I (sumI (fun j => p.c.getD j 0 * x.getD j 0) j 0), intsV x, I p.lo.length, I j] ∧ st'.H 0 = some ⟨5, [progV p]⟩ ∧ k = p.lo.length - j ∧ j ≤ p.lo.length ∧ (∀ t, t < j → p.lo.getD t 0 ≤ x.getD t 0 ∧ x.getD t 0 ≤ p.hi.getD t 0)) (fun r => CostQ p x r) ?step fuel 0 p.lo.length _ _ ?start (by unfold fuel; omega)
  case start => exact ⟨rfl, by simp, by omega, by omega, fun t ht => by omega⟩
  rintro j k v st' ⟨rfl, h0, rfl, hj, he⟩ self ih
  have hbd : ∀ t, (p.lo.getD t 0 ≤ x.getD t 0 ∧ x.getD t 0 ≤ p.hi.getD t 0) → -1099511627776 ≤ p.c.getD t 0 * x.getD t 0 ∧ p.c.getD t 0 * x.getD t 0 ≤ 1099511627776 := fun t ht => mul_bound (within_getD hp.wc (by omega) t) (by
    have h2 := within_getD hp.wlo (by omega) t
    have h3 := within_getD hp.whi (by omega) t
    omega)
  have hsum := sumI_bound (fun j => p.c.getD j 0 * x.getD j 0) 1099511627776 j 0 fun t _ ht => hbd t (he t (by omega))
  by_cases hlt : j < p.lo.length
  · have hlt' : (j : Int) < (p.lo.length : Int) := by omega
    have hw : IntKind.i64.wrap ((j : Int) + 1) = (j : Int) + 1 := wrap64 _ (by omega) (by omega)
    have d1 : idxM 1 (intsV p.lo) (I j) st' = .ok (.cref (I (p.lo.getD j 0)) 0) st' := by rw [idx_ints st' p.lo j hlt]; simp [hlt]
    have d2 : idxM 1 (intsV p.hi) (I j) st' = .ok (.cref (I (p.hi.getD j 0)) 0) st' := by rw [idx_ints st' p.hi j (by rw [hp.hi]; exact hlt)]; simp [show j < p.hi.length by rw [hp.hi]; exact hlt]
    have d3 : idxM 1 (intsV p.c) (I j) st' = .ok (.cref (I (p.c.getD j 0)) 0) st' := by rw [idx_ints st' p.c j (by rw [hp.c]; exact hlt)]; simp [show j < p.c.length by rw [hp.c]; exact hlt]
    have d4 : idxM 1 (intsV x) (I j) st' = .ok (.cref (I (x.getD j 0)) 0) st' := by rw [idx_ints st' x j (by omega)]; simp [show j < x.length by omega]
    have hbj := hbd j
    have hsn : sumI (fun j => p.c.getD j 0 * x.getD j 0) (j + 1) 0 = sumI (fun j => p.c.getD j 0 * x.getD j 0) j 0 + p.c.getD j 0 * x.getD j 0 := by rw [sumI_snoc, Nat.zero_add]
    have key := fun st => ih (j + 1) (p.lo.length - (j + 1)) [intsV x, .ptr 0 1 0 0, I (sumI (fun j => p.c.getD j 0 * x.getD j 0) (j + 1) 0), intsV x, I p.lo.length, I ((j : Int) + 1)] st (by omega)
    rw [hsn] at key
    have hex : (p.lo.getD j 0 ≤ x.getD j 0 ∧ x.getD j 0 ≤ p.hi.getD j 0) → ∀ t, t < j + 1 → p.lo.getD t 0 ≤ x.getD t 0 ∧ x.getD t 0 ≤ p.hi.getD t 0 := fun hh t ht => by
      rcases Nat.lt_or_ge t j with h | h
      · exact he t h
      · have : t = j := by omega
        subst this; exact hh
    have key2 : (p.lo.getD j 0 ≤ x.getD j 0 ∧ x.getD j 0 ≤ p.hi.getD j 0) → CostQ p x (self [intsV x, .ptr 0 1 0 0, I (sumI (fun j => p.c.getD j 0 * x.getD j 0) j 0 + p.c.getD j 0 * x.getD j 0), intsV x, I p.lo.length, I ((j : Int) + 1)] st') := fun hh =>
      key st' ⟨rfl, h0, rfl, by omega, hex hh⟩
    clear key hex hsn
    generalize sumI (fun j => p.c.getD j 0 * x.getD j 0) j 0 = S at *
    generalize p.lo.getD j 0 = lo at *
    generalize p.hi.getD j 0 = hi at *
    generalize p.c.getD j 0 = c at *
    generalize x.getD j 0 = xj at *
    by_cases c1 : xj < lo
    · simp [L_law20_cost_3, hlt', h0, d1, d4, c1]
      exact cost_bad p x _
    · by_cases c2 : hi < xj
      · simp [L_law20_cost_3, hlt', h0, d1, d2, d4, c1, c2]
        exact cost_bad p x _
      · have hm := hbj ⟨by omega, by omega⟩
        have w1 : IntKind.i64.wrap (c * xj) = c * xj := wrap64 _ (by omega) (by omega)
        have w2 : IntKind.i64.wrap (S + c * xj) = S + c * xj := wrap64 _ (by omega) (by omega)
        simp [L_law20_cost_3, hlt', h0, d1, d2, d3, d4, c1, c2, w1, w2, hw]
        exact key2 ⟨by omega, by omega⟩
  · have hj' : j = p.lo.length := by omega
    subst hj'
    have hlt' : ¬ (p.lo.length : Int) < (p.lo.length : Int) := by omega
    generalize hS : sumI (fun j => p.c.getD j 0 * x.getD j 0) p.lo.length 0 = S at *
    simp only [L_law20_cost_3, run_bnd, g_zero, g_succ, cmp_lss, hlt', decide_false, thn_ok, run_if, Bool.false_eq_true, if_false, addM_ptr, load_ptr, h0, List.length_singleton, if_true, List.getElem?_cons_zero, part_none, cells_prog, Nat.zero_add, List.getElem?_cons_succ, opt_some, len_rows, run_loop]
    exact cost_rows p hp x hx he st' h0 S hS.symm (by omega) (by omega)

theorem law20_cost_ok (p : LP) (hp : p.ok) (x : List Int) : ∃ n ok, F_law20_cost [progV p, intsV x] = .ret (.tup [I n, .bool ok]) ∧ (ok = true → Costs p x n) ∧ -9223372036854775808 ≤ n ∧ n ≤ 9223372036854775807 := by
  obtain ⟨n, ok, st, h, h2⟩ := cost_run p hp x
  exact ⟨n, ok, runP_ret h (by simp), h2⟩

theorem law20_small_ok (p : LP) : ∃ b, F_law20_small [progV p] = .ret (.bool b) ∧ (b = true → p.lo.length ≤ 4 ∧ p.a.length ≤ 5 ∧ p.lo.length ≤ 200 ∧ p.hi.length ≤ 200 ∧ p.c.length ≤ 200 ∧ p.a.length ≤ 200 ∧ p.b.length ≤ 200 ∧ ∀ r ∈ p.a, r.length ≤ 200) := by
  obtain ⟨b, f, g⟩ := law20_fits_ok p
  cases b
  · refine ⟨false, runP_rets (v := .bool false) ?_ (fun H => by simp), fun h => by cases h⟩
    simp [B_law20_small, prog_def, f]
  · by_cases c1 : p.lo.length ≤ 4
    · have c1' : (p.lo.length : Int) ≤ 4 := by omega
      by_cases c2 : p.a.length ≤ 5
      · have c2' : (p.a.length : Int) ≤ 5 := by omega
        refine ⟨true, runP_rets (v := .bool true) ?_ (fun H => by simp), fun _ => ⟨c1, c2, g rfl⟩⟩
        simp [B_law20_small, prog_def, f, c1', c2']
      · have c2' : ¬ (p.a.length : Int) ≤ 5 := by omega
        refine ⟨false, runP_rets (v := .bool false) ?_ (fun H => by simp), fun h => by cases h⟩
        simp [B_law20_small, prog_def, f, c1', c2']
    · have c1' : ¬ (p.lo.length : Int) ≤ 4 := by omega
      refine ⟨false, runP_rets (v := .bool false) ?_ (fun H => by simp), fun h => by cases h⟩
      simp [B_law20_small, prog_def, f, c1']

theorem PlexUnder_ok (hal : F_law20_alive [] = .ret (.bool true)) (p : LP) (ys : List Raw) (x : List Int) (hd : ∀ r ∈ ys, r.dig) : F_law20_PlexUnder [progV p, rawsV ys, intsV x] = .ret (.bool true) := by
  obtain ⟨b1, f1, g1⟩ := law20_small_ok p
  obtain ⟨b2, f2, g2⟩ := law20_few_ok ys
  refine runP_rets (v := .bool true) ?_ (fun H => by simp)
  cases b1
  · simp [B_law20_PlexUnder, hal, f1, prog_def]
  · obtain ⟨_, _, k1, k2, k3, k4, k5, k6⟩ := g1 rfl
    have g6 : ∀ r ∈ p.a, r.length < 2 ^ 62 := fun r hr => by have := k6 r hr; omega
    have r2 := ref20_Right_ok p (by omega) (by omega) (by omega) (by omega) (by omega) g6
    cases hok : p.okB
    · rw [hok] at r2
      simp [B_law20_PlexUnder, hal, f1, prog_def, r2]
    · have hp := LP.ok_of hok
      have r1 := plex_Right_ok p (by omega) (by omega) (by omega) (by omega) (by omega) g6
      rw [hok] at r1 r2
      cases b2
      · simp [B_law20_PlexUnder, hal, f1, f2, prog_def, r2]
      · obtain ⟨m1, m2⟩ := g2 rfl
        have hth := law20_Theirs_ok p
        have hra := law20_Rats_ok ys m1
        obtain ⟨n, ok, hco, hcost, n1, n2⟩ := law20_cost_ok p hp x
        have nb := plex_numbers_ok p ys hd (by omega) (by omega)
        cases hn : decide (ys.length = p.a.length) && ys.all Raw.num with
        | false =>
          have hb := plex_Bound_bad p ys hd (by omega) (by omega) (by omega) (by omega) (by omega) (by omega) g6 (by rw [hn, Bool.and_false])
          cases ok
          · simp [B_law20_PlexUnder, hal, f1, f2, prog_def, r2, hth, hra, hco, hb, Q0]
          · simp [B_law20_PlexUnder, hal, f1, f2, prog_def, r2, hth, hra, hco, hb, Q0]
        | true =>
          rw [hn] at nb
          simp only [Bool.and_eq_true, decide_eq_true_eq] at hn
          obtain ⟨l, l1, l2, l3⟩ := raws_rats ys hd hn.2
          rw [l2] at nb hra ⊢ f2
          have hb := plex_Bound_ok p hp l (by omega) (fun q hq => (l1 q hq).1) r1 nb
          unfold boundV at hb
          cases ho : least p l (some p.c) with
          | none =>
            rw [ho] at hb
            simp only at hb
            cases ok
            · simp [B_law20_PlexUnder, hal, f1, f2, prog_def, r2, hth, hra, hco, hb, Q0]
            · simp [B_law20_PlexUnder, hal, f1, f2, prog_def, r2, hth, hra, hco, hb, Q0]
          | some q =>
            rw [ho] at hb
            simp only at hb
            cases ok
            · simp [B_law20_PlexUnder, hal, f1, f2, prog_def, r2, hth, hra, hco, hb]
            · obtain ⟨c1, c2, c3, c4⟩ := hcost rfl
              have hw := weak p l x (fun q hq => (l1 q hq).2) (by omega) c2 c3 ho
              rw [← c4] at hw
              have hof := ratio_Of_ok n n1 n2
              have hcm := ratio_Cmp_ok (fitO_least p l q ho) (fit64_int n n1 n2)
              have hle : cmpQ q (n : Rat) ≤ 0 := by
                unfold cmpQ
                split
                · omega
                · rw [if_neg (Rat.not_lt.2 hw)]; omega
              simp [B_law20_PlexUnder, hal, f1, f2, prog_def, r2, hth, hra, hco, hb, QV_def, hof, hcm, hle]

end Go.Abs
end
