/-
  Joined from: P1 P2 Q1 Q2 Q3.
-/
import Derived.Test.YtliomhbmlclmeaaGreatLC
/-
  WHOLE NUMBERS: signed.
-/
section
set_option linter.unusedSimpArgs false
set_option linter.unusedVariables false
namespace Go.Abs
open Go

@[simp] theorem eq_bool (st : St) (a b : Bool) : binM .eql ty_bool (.bool a) (.bool b) st = .ok (.bool (a == b)) st := rfl
@[simp] theorem ne_bool (st : St) (a b : Bool) : binM .neq ty_bool (.bool a) (.bool b) st = .ok (.bool (!(a == b))) st := rfl
@[simp] theorem apart_ptr (i n a b j m c d : Nat) (st : St) : apartM (.ptr i n a b) (.ptr j m c d) st = if i = j then .fail else .ok (.tup []) st := by
  have e : apartM (.ptr i n a b) (.ptr j m c d) = if i = j then failM else ret (.tup []) := rfl
  rw [e]; split <;> rfl

/-- A number of a sign and digits. -/
def Z (neg : Bool) (m : Nat) : PV := .agg [.bool neg, N m]
@[simp] theorem fits_Z (n : Nat) (b : Bool) (m : Nat) : fitsE n (Z b m) = (2 == n) := fits_agg n _
@[simp] theorem cells_Z (b : Bool) (m : Nat) : (Z b m).cells = [.bool b, N m] := (rfl)
@[simp] theorem known_Z (b : Bool) (m : Nat) : (Z b m).known = true := (rfl)
@[simp] theorem noref_Z (b : Bool) (m : Nat) : (Z b m).noref = true := (rfl)
@[simp] theorem snap_Z (H : Nat → Option Blk) (d : Nat) (b : Bool) (m : Nat) : snapF H (d + 4) (Z b m) = some (Z b m) := by simp [Z]
@[simp] theorem snapD_Z (H : Nat → Option Blk) (b : Bool) (m : Nat) : snapF H depth (Z b m) = some (Z b m) := by simp [Z]
@[simp] theorem setPart_Z (b c : Bool) (m k : Nat) : setPart (Z b m) 0 (Z c k) = some (Z c k) := (rfl)
theorem Z_def (b : Bool) (m : Nat) : PV.agg [.bool b, N m] = Z b m := rfl
theorem N_zero : N 0 = .lst [] := by simp [N, digs_zero, digV]
@[simp] theorem digsN_ne (n : Nat) : (digs n = []) ↔ n = 0 := by
  constructor
  · intro h; exact Classical.byContradiction fun hh => digs_ne.2 hh h
  · rintro rfl; exact digs_zero
theorem lst_nil : PV.lst [] = N 0 := N_zero.symm

theorem signed_Right_raw (neg : Bool) (xs : List Nat) : F_signed_Right [.agg [.bool neg, .lst (digV xs)]] = .ret (.bool (okL xs && (!neg || decide (xs ≠ [])))) := by
  refine runP_rets (v := .bool (okL xs && (!neg || decide (xs ≠ [])))) ?_ (fun H => by simp)
  cases h1 : okL xs <;> cases neg <;> cases xs <;> simp [B_signed_Right, h1]

theorem signed_Right_Z (neg : Bool) (m : Nat) (hm : m < 4294967296 ^ 256) (h : neg = true → m ≠ 0) : F_signed_Right [Z neg m] = .ret (.bool true) := by
  have := signed_Right_raw neg (digs m)
  rw [okL_digs] at this
  refine Eq.trans this ?_
  cases neg <;> simp_all


/-- A valid sign. -/
def okZ (neg : Bool) (m : Nat) : Prop := m < 4294967296 ^ 256 ∧ (neg = true → m ≠ 0)

theorem signed_both_Z {a b : Bool} {m n : Nat} (h1 : okZ a m) (h2 : okZ b n) : F_signed_both [Z a m, Z b n] = .ret (.bool true) := by
  refine runP_rets (v := .bool true) ?_ (fun H => by simp)
  simp [B_signed_both, Z_def, signed_Right_Z a m h1.1 h1.2, signed_Right_Z b n h2.1 h2.2]

theorem append_nil_dig (st : St) (m : Nat) (hm : m < 4294967296 ^ 256) (h0 : m ≠ 0) : appendM 1 4 .nilS (N m) st = .ok (.sl st.nx (digs m).length 0 (digs m).length) ⟨upd st.H st.nx (some ⟨1, digV (digs m)⟩), st.nx + 1, st.dead⟩ := by
  have hl := digs_len.2 hm
  have hf := digV_fitsA (digs m)
  have hne : ¬ (digs m).length = 0 := fun h => h0 ((digsN_ne m).1 (List.eq_nil_of_length_eq_zero h))
  simp only [appendM, elems, N, digV_length, hne, hf, if_true, if_false, show 4 ≤ mostBytes by simp [mostBytes], show (digs m).length ≤ mostLen by unfold mostLen; omega, Nat.zero_lt_one, and_self]
theorem append_nil_zero (st : St) : appendM 1 4 .nilS (N 0) st = .ok .nilS st := by
  rw [N_zero]
  simp [appendM, elems, mostBytes]

theorem signed_made_ok (neg : Bool) (m : Nat) (hm : m < 4294967296 ^ 256) : F_signed_made [.bool neg, N m, I 0] = .ret (.tup [Z (neg && decide (m ≠ 0)) m, I 0]) := by
  by_cases h0 : m = 0
  · subst h0
    refine runP_ret (v := .tup [.agg [.bool false, .nilS], I 0]) (st := ⟨upd St.empty.H 0 (some ⟨2, [.agg [.bool false, .nilS]]⟩), 1, St.empty.dead⟩) ?_ ?_
    · cases neg <;> simp [B_signed_made, append_nil_zero, digs_zero]
    · simp [Z, N_zero]
  · have hl := digs_len.2 hm
    have hpos : (0 : Int) < ((digs m).length : Int) := by
      have := digs_ne.2 h0
      rw [← List.length_pos_iff] at this
      omega
    have hposN : 0 < (digs m).length := by omega
    refine runP_ret (v := .tup [.agg [.bool neg, .sl 1 (digs m).length 0 (digs m).length], I 0]) (st := ⟨upd (upd (upd St.empty.H 0 (some ⟨2, [.agg [.bool false, .nilS]]⟩)) 1 (some ⟨1, digV (digs m)⟩)) 0 (some ⟨2, [.agg [.bool neg, .sl 1 (digs m).length 0 (digs m).length]]⟩), 2, St.empty.dead⟩) ?_ ?_
    · cases neg <;> simp [B_signed_made, append_nil_dig _ m hm h0, hpos, hposN]
    · simp only [snapD_tup, snap_cons, snap_agg, snap_bool, snap_int, snap_nil]
      rw [snap_sl_dig (xs := digs m) (sz := 1) (by simp) (by omega)]
      simp [h0, Z, N]
theorem signed_made_err (neg : Bool) (v : PV) (e : Int) (he : e ≠ 0) : F_signed_made [.bool neg, v, I e] = .ret (.tup [Z false 0, I e]) := by
  refine runP_ret (v := .tup [.agg [.bool false, .nilS], I e]) (st := ⟨upd St.empty.H 0 (some ⟨2, [.agg [.bool false, .nilS]]⟩), 1, St.empty.dead⟩) ?_ ?_
  · simp [B_signed_made, he]
  · simp [Z, N_zero]

/-! ### as whole numbers -/
def sgn (neg : Bool) (m : Nat) : Int := if neg = true then -(m : Int) else m
/-- A whole number as a value. -/
def ZI (z : Int) : PV := Z (decide (z < 0)) z.natAbs
theorem ZI_sgn {neg : Bool} {m : Nat} (h : neg = true → m ≠ 0) : Z neg m = ZI (sgn neg m) := by
  cases neg
  · have : ¬ ((m : Int) < 0) := by omega
    simp [ZI, sgn, this]
  · have := h rfl
    have h2 : -(m : Int) < 0 := by omega
    simp only [ZI, sgn, if_true, h2, decide_true, Int.natAbs_neg, Int.natAbs_natCast]
theorem ZI_made (neg : Bool) (m : Nat) : Z (neg && decide (m ≠ 0)) m = ZI (sgn neg m) := by
  by_cases h : m = 0
  · subst h; simp [ZI, sgn]
  · rw [← ZI_sgn (fun _ => h)]; simp [h]
theorem ZI_zero : ZI 0 = Z false 0 := rfl
/-- Few enough digits. -/
def fitI (z : Int) : Prop := z.natAbs < 4294967296 ^ 256
instance (z : Int) : Decidable (fitI z) := by unfold fitI; exact inferInstance
theorem okZI {z : Int} (h : fitI z) : okZ (decide (z < 0)) z.natAbs := ⟨h, fun hn => by simp at hn; omega⟩
def resI (z : Int) : PV := .tup [if fitI z then ZI z else ZI 0, I (if fitI z then 0 else 3)]

@[simp] theorem snapD_ZI (H : Nat → Option Blk) (z : Int) : snapF H depth (ZI z) = some (ZI z) := snapD_Z H _ _
@[simp] theorem snap_ZI (H : Nat → Option Blk) (d : Nat) (z : Int) : snapF H (d + 4) (ZI z) = some (ZI z) := snap_Z H d _ _
@[simp] theorem noref_ZI (z : Int) : (ZI z).noref = true := (rfl)
@[simp] theorem fits_ZI (n : Nat) (z : Int) : fitsE n (ZI z) = (2 == n) := fits_agg n _
@[simp] theorem cells_ZI (z : Int) : (ZI z).cells = [.bool (decide (z < 0)), N z.natAbs] := (rfl)
@[simp] theorem setPart_ZI (z y : Int) : setPart (ZI z) 0 (ZI y) = some (ZI y) := (rfl)
@[simp] theorem known_ZI (z : Int) : (ZI z).known = true := (rfl)
theorem ZI_def (z : Int) : PV.agg [.bool (decide (z < 0)), N z.natAbs] = ZI z := rfl

@[simp] theorem snapD_resI (H : Nat → Option Blk) (z : Int) : snapF H depth (resI z) = some (resI z) := by
  unfold resI
  by_cases h : fitI z <;> simp [h]

theorem signed_Neg_Z {b : Bool} {m : Nat} (h : okZ b m) : F_signed_Neg [Z b m] = .ret (.tup [Z (!b && decide (m ≠ 0)) m, I 0]) := by
  have hm := signed_made_ok (!b) m h.1
  generalize (!b && decide (m ≠ 0)) = c at hm
  refine runP_rets (v := .tup [Z c m, I 0]) ?_ (fun H => by simp)
  simp [B_signed_Neg, Z_def, signed_Right_Z b m h.1 h.2, hm]

/-- What nat answers, with a sign. -/
def resZ (neg : Bool) (m : Nat) : PV := .tup [if m < 4294967296 ^ 256 then Z (neg && decide (m ≠ 0)) m else Z false 0, I (if m < 4294967296 ^ 256 then 0 else 3)]
theorem made_res (neg : Bool) (m : Nat) : ∃ v e, resN m = .tup [v, I e] ∧ F_signed_made [.bool neg, v, I e] = .ret (resZ neg m) ∧ v.noref = true ∧ (∀ H d, 3 < d → snapF H d v = some v) := by
  by_cases h : m < 4294967296 ^ 256
  · refine ⟨N m, 0, by simp [resN, h], ?_, rfl, fun H d hd => ?_⟩
    · rw [signed_made_ok neg m h]; simp [resZ, h]
    · obtain ⟨e, rfl⟩ : ∃ e, d = e + 1 := ⟨d - 1, by omega⟩
      simp
  · refine ⟨.lst [], 3, by simp [resN, h], ?_, rfl, fun H d hd => ?_⟩
    · rw [signed_made_err neg _ 3 (by omega)]; simp [resZ, h]
    · obtain ⟨e, rfl⟩ : ∃ e, d = e + 1 := ⟨d - 1, by omega⟩
      simp
theorem resZ_form (neg : Bool) (m : Nat) : ∃ c n e, resZ neg m = .tup [Z c n, I e] := by
  by_cases h : m < 4294967296 ^ 256
  · exact ⟨neg && decide (m ≠ 0), m, 0, by simp only [resZ, h, if_true]⟩
  · exact ⟨false, 0, 3, by simp only [resZ, h, if_false]⟩
theorem resZ_sgn (neg : Bool) (m : Nat) : resZ neg m = resI (sgn neg m) := by
  have hf : fitI (sgn neg m) ↔ m < 4294967296 ^ 256 := by
    unfold fitI sgn; cases neg <;> simp
  unfold resZ resI
  rw [ZI_made, ZI_zero]
  by_cases h : m < 4294967296 ^ 256
  · simp only [h, hf.2 h, if_true]
  · have := mt hf.1 h
    simp only [h, this, if_false]

theorem signed_Mul_Z {a b : Bool} {m n : Nat} (ha : okZ a m) (hb : okZ b n) : F_signed_Mul [Z a m, Z b n] = .ret (resZ (!(a == b)) (m * n)) := by
  obtain ⟨v, e, h1, h2, h3, h4⟩ := made_res (!(a == b)) (m * n)
  obtain ⟨c, k, e', h5⟩ := resZ_form (!(a == b)) (m * n)
  rw [h5] at h2 ⊢
  have hmul := nat_Mul_ok m n ha.1 hb.1
  rw [h1] at hmul
  refine runP_rets (v := .tup [Z c k, I e']) ?_ (fun H => by simp)
  simp [B_signed_Mul, Z_def, signed_both_Z ha hb, hmul, h2, h3, h4]


theorem signed_Add_same {a : Bool} {m n : Nat} (ha : okZ a m) (hb : okZ a n) : F_signed_Add [Z a m, Z a n] = .ret (resZ a (m + n)) := by
  obtain ⟨v, e, h1, h2, h3, h4⟩ := made_res a (m + n)
  obtain ⟨c, k, e', h5⟩ := resZ_form a (m + n)
  rw [h5] at h2 ⊢
  have hadd := nat_Add_ok m n ha.1 hb.1
  rw [h1] at hadd
  refine runP_rets (v := .tup [Z c k, I e']) ?_ (fun H => by simp)
  simp [B_signed_Add, Z_def, signed_both_Z ha hb, hadd, h2, h3, h4]

/-- The difference of two numbers of other signs. -/
theorem signed_Add_diff {a b : Bool} {m n : Nat} (ha : okZ a m) (hb : okZ b n) (hne : ¬ a = b) : F_signed_Add [Z a m, Z b n] = .ret (.tup [if m < n then Z (b && decide (n - m ≠ 0)) (n - m) else Z (a && decide (m - n ≠ 0)) (m - n), I 0]) := by
  have hc := nat_Cmp_ok m n ha.1 hb.1
  by_cases hlt : m < n
  · have hs := nat_Sub_ok n m hb.1 (by omega)
    have hm := signed_made_ok b (n - m) (by have := hb.1; omega)
    generalize hg : (b && decide (n - m ≠ 0)) = c at hm
    have hcm : cmpN m n = -1 := by simp [cmpN, hlt]
    rw [hcm] at hc
    rw [if_pos hlt]
    refine runP_rets (v := .tup [Z c (n - m), I 0]) ?_ (fun H => by simp)
    simp [B_signed_Add, J_signed_Add_1, Z_def, signed_both_Z ha hb, hne, hc, hs, hm]
  · have hs := nat_Sub_ok m n ha.1 (by omega)
    have hm := signed_made_ok a (m - n) (by have := ha.1; omega)
    generalize hg : (a && decide (m - n ≠ 0)) = c at hm
    have hcm : ¬ cmpN m n < 0 := by unfold cmpN; rw [if_neg hlt]; split <;> omega
    rw [if_neg hlt]
    refine runP_rets (v := .tup [Z c (m - n), I 0]) ?_ (fun H => by simp)
    simp [B_signed_Add, J_signed_Add_1, Z_def, signed_both_Z ha hb, hne, hc, hcm, hs, hm]

theorem signed_Cmp_Z {a b : Bool} {m n : Nat} (ha : okZ a m) (hb : okZ b n) : F_signed_Cmp [Z a m, Z b n] = .ret (.tup [I (if sgn a m < sgn b n then -1 else if sgn b n < sgn a m then 1 else 0), I 0]) := by
  have hc := nat_Cmp_ok m n ha.1 hb.1
  have h1 := ha.2
  have h2 := hb.2
  refine runP_rets (v := .tup [I (if sgn a m < sgn b n then -1 else if sgn b n < sgn a m then 1 else 0), I 0]) ?_ (fun H => by simp)
  cases a <;> cases b
  · simp [B_signed_Cmp, Z_def, signed_both_Z ha hb, hc, cmpN, sgn]
  · have e1 : ¬ (m : Int) < -(n : Int) := by omega
    have e2 : -(n : Int) < (m : Int) := by have := h2 rfl; omega
    simp [B_signed_Cmp, Z_def, signed_both_Z ha hb, hc, sgn, e1, e2]
  · have e2 : -(m : Int) < (n : Int) := by have := h1 rfl; omega
    simp [B_signed_Cmp, Z_def, signed_both_Z ha hb, hc, sgn, e2]
  · have e : IntKind.i64.wrap (0 - cmpN m n) = if -(m : Int) < -(n : Int) then -1 else if -(n : Int) < -(m : Int) then 1 else 0 := by
      unfold cmpN
      by_cases g1 : m < n
      · have k1 : ¬ -(m : Int) < -(n : Int) := by omega
        have k2 : -(n : Int) < -(m : Int) := by omega
        simp [g1, k1, k2]
      · by_cases g2 : n < m
        · have k1 : -(m : Int) < -(n : Int) := by omega
          simp [g1, g2, k1]
        · have k1 : ¬ -(m : Int) < -(n : Int) := by omega
          have k2 : ¬ -(n : Int) < -(m : Int) := by omega
          simp [g1, g2, k1, k2]
    simp only [sgn, if_true, ← e]
    simp [B_signed_Cmp, Z_def, signed_both_Z ha hb, hc]

/-- The quotient, rounded down, and what is left, of the divisor's sign. -/
theorem signed_DivMod_Z {a b : Bool} {m n : Nat} (ha : okZ a m) (hb : okZ b n) (h0 : 0 < n) : F_signed_DivMod [Z a m, Z b n] =
    .ret (.tup [ZI (if (!(a == b) && decide (m % n ≠ 0)) = true then sgn (!(a == b)) (m / n + 1) else sgn (!(a == b)) (m / n)), ZI (if (!(a == b) && decide (m % n ≠ 0)) = true then sgn b (n - m % n) else sgn b (m % n)), I 0]) := by
  have hd := nat_DivMod_ok m n ha.1 hb.1 h0
  have hn0 : ¬ n = 0 := by omega
  have hq : m / n ≤ m := Nat.div_le_self m n
  have hr : m % n < n := Nat.mod_lt m h0
  have hrl : ((digs (m % n)).length = 0) ↔ m % n = 0 := by rw [List.length_eq_zero_iff, digsN_ne]
  by_cases hs : a = b
  · have m1 := signed_made_ok false (m / n) (by have := ha.1; omega)
    have m2 := signed_made_ok b (m % n) (by have := hb.1; omega)
    rw [ZI_made] at m1 m2
    subst hs
    simp only [BEq.rfl, Bool.not_true, Bool.false_and, Bool.false_eq_true, if_false]
    refine runP_rets (v := .tup [ZI (sgn false (m / n)), ZI (sgn a (m % n)), I 0]) ?_ (fun H => by simp)
    generalize sgn false (m / n) = x at m1 ⊢
    generalize sgn a (m % n) = y at m2 ⊢
    simp [B_signed_DivMod, J_signed_DivMod_1, Z_def, signed_both_Z ha hb, hd, hn0, m1, m2]
    exact ⟨rfl, rfl⟩
  · by_cases hz : m % n = 0
    · have m1 := signed_made_ok (!(a == b)) (m / n) (by have := ha.1; omega)
      have m2 := signed_made_ok b (m % n) (by have := hb.1; omega)
      rw [ZI_made] at m1 m2
      simp only [hz, ne_eq, not_true, decide_false, Bool.and_false, Bool.false_eq_true, if_false] at m1 m2 ⊢
      refine runP_rets (v := .tup [ZI (sgn (!(a == b)) (m / n)), ZI (sgn b 0), I 0]) ?_ (fun H => by simp)
      generalize sgn (!(a == b)) (m / n) = x at m1 ⊢
      generalize sgn b 0 = y at m2 ⊢
      simp [B_signed_DivMod, J_signed_DivMod_1, Z_def, signed_both_Z ha hb, hd, hn0, m1, m2, hs, hz, digs_zero]
      exact ⟨rfl, rfl⟩
    · -- one step further down
      have hq1 : m / n + 1 < 4294967296 ^ 256 := by
        have h1 : m / n * n ≤ m := Nat.div_mul_le_self m n
        have h2 : n ≠ 1 := fun e => hz (by rw [e, Nat.mod_one])
        have h3 : m / n * 2 ≤ m / n * n := Nat.mul_le_mul_left _ (by omega)
        have h4 := ha.1
        have h5 : (2 : Nat) < 4294967296 ^ 256 := by
          calc 2 < 4294967296 ^ 1 := by omega
            _ ≤ 4294967296 ^ 256 := Nat.pow_le_pow_right (by omega) (by omega)
        omega
      have hof := nat_Of_ok 1 (by omega)
      have hadd := nat_Add_ok (m / n) 1 (by omega) (by omega)
      simp only [resN, hq1, if_true] at hadd
      have hsub := nat_Sub_ok n (m % n) hb.1 (by omega)
      have m1 := signed_made_ok (!(a == b)) (m / n + 1) hq1
      have m2 := signed_made_ok b (n - m % n) (by have := hb.1; omega)
      rw [ZI_made] at m1 m2
      have hc : (!(a == b) && decide (m % n ≠ 0)) = true := by simp [hs, hz]
      rw [if_pos hc, if_pos hc]
      refine runP_rets (v := .tup [ZI (sgn (!(a == b)) (m / n + 1)), ZI (sgn b (n - m % n)), I 0]) ?_ (fun H => by simp)
      have hpos : 0 < (digs (m % n)).length := List.length_pos_iff.2 (digs_ne.2 hz)
      have hof' : F_nat_Of [.int .u64 1] = .ret (N 1) := hof
      generalize sgn (!(a == b)) (m / n + 1) = x at m1 ⊢
      generalize sgn b (n - m % n) = y at m2 ⊢
      simp [B_signed_DivMod, J_signed_DivMod_1, Z_def, signed_both_Z ha hb, hd, hn0, m1, m2, hs, hz, hpos, hof', hadd, hsub]
      exact ⟨rfl, rfl⟩

end Go.Abs
end
/-
  WHOLE NUMBERS: Gcd, Small, Of; as numbers.
-/
section
set_option linter.unusedSimpArgs false
set_option linter.unusedVariables false
namespace Go.Abs
open Go

def rightI (neg : Bool) (xs : List Nat) : Bool := okL xs && (!neg || decide (xs ≠ []))
theorem signed_both_raw (a b : Bool) (xs ys : List Nat) : F_signed_both [.agg [.bool a, .lst (digV xs)], .agg [.bool b, .lst (digV ys)]] = .ret (.bool (rightI a xs && rightI b ys)) := by
  refine runP_rets (v := .bool (rightI a xs && rightI b ys)) ?_ (fun H => by simp)
  have h1 := signed_Right_raw a xs
  have h2 := signed_Right_raw b ys
  unfold rightI
  generalize (okL xs && (!a || decide (xs ≠ []))) = c at *
  generalize (okL ys && (!b || decide (ys ≠ []))) = d at *
  cases c <;> cases d <;> simp [B_signed_both, h1, h2]

/-- How far Euclid still has to go. -/
def gcdM (x y : Nat) : Nat := if y = 0 then 0 else 1 + Nat.log2 (x * y) + (if x < y then 1 else 0)
theorem gcdM_lt {x y : Nat} (hy : y ≠ 0) : gcdM y (x % y) < gcdM x y := by
  have hr : x % y < y := Nat.mod_lt _ (by omega)
  unfold gcdM
  rw [if_neg hy]
  by_cases h0 : x % y = 0
  · rw [if_pos h0]; omega
  · rw [if_neg h0, if_neg (by omega)]
    by_cases hlt : x < y
    · rw [if_pos hlt, Nat.mod_eq_of_lt hlt, Nat.mul_comm]; omega
    · rw [if_neg hlt]
      have hq : x % y + y ≤ x := by
        have := Nat.div_add_mod x y
        have h1 : 1 ≤ x / y := (Nat.one_le_div_iff (by omega)).2 (by omega)
        have h2 : y * 1 ≤ y * (x / y) := Nat.mul_le_mul_left _ h1
        omega
      have hne : y * (x % y) ≠ 0 := Nat.mul_ne_zero hy h0
      have hne2 : x * y ≠ 0 := Nat.mul_ne_zero (by omega) hy
      have h1 : 2 ^ (Nat.log2 (y * (x % y)) + 1) ≤ x * y := by
        rw [Nat.pow_succ]
        have := Nat.log2_self_le hne
        have h3 : y * (x % y) * 2 ≤ y * x := by rw [Nat.mul_assoc]; exact Nat.mul_le_mul_left _ (by omega)
        rw [Nat.mul_comm x y]; omega
      have := (Nat.le_log2 hne2).2 h1
      omega
theorem pow_32 (n : Nat) : (4294967296 : Nat) ^ n = 2 ^ (32 * n) := by rw [Nat.pow_mul]
theorem gcdM_bound {x y : Nat} (hx : x < 4294967296 ^ 256) (hy : y < 4294967296 ^ 256) : gcdM x y < 2 ^ 63 := by
  unfold gcdM
  by_cases h : y = 0
  · rw [if_pos h]; omega
  · rw [if_neg h]
    by_cases hx0 : x = 0
    · subst hx0; simp; split <;> omega
    have hne : x * y ≠ 0 := Nat.mul_ne_zero hx0 h
    obtain ⟨e, he⟩ : ∃ e : Nat, e = 32 * 256 := ⟨_, rfl⟩
    have hb : (4294967296 : Nat) ^ 256 = 2 ^ e := by
      rw [he]; exact pow_32 256
    rw [hb] at hx hy
    have h1 : x * y < 2 ^ (e + e) := by
      rw [Nat.pow_add]
      exact Nat.mul_lt_mul'' hx hy
    have := (Nat.log2_lt hne).2 h1
    split <;> omega

theorem gcd_run (st : St) (p : Nat) (hp : st.H p = some ⟨2, [.agg [.bool false, .nilS]]⟩) (m n : Nat) (hm : m < 4294967296 ^ 256) (hn : n < 4294967296 ^ 256) :
    Rets (.tup [Z false (Nat.gcd m n), I 0]) (iter fuel (fun self v => (L_signed_Gcd_1 self v).run) [.ptr p 1 0 0, N m, N n] st) := by
  refine loop_ind (α := Nat × Nat) _ (fun a k v st' => ∃ x y, a = (x, y) ∧ v = [.ptr p 1 0 0, N x, N y] ∧ st' = st ∧ k = gcdM x y ∧ x < 4294967296 ^ 256 ∧ y < 4294967296 ^ 256 ∧ Nat.gcd x y = Nat.gcd m n) (fun r => Rets (.tup [Z false (Nat.gcd m n), I 0]) r) ?_ fuel (m, n) (gcdM m n) _ _
    ⟨m, n, rfl, rfl, rfl, rfl, hm, hn, rfl⟩ (by have := gcdM_bound hm hn; unfold fuel; omega)
  rintro _ k v st' ⟨x, y, rfl, rfl, rfl, rfl, hx, hy, hg⟩ self ih
  by_cases h0 : y = 0
  · subst h0
    rw [Nat.gcd_zero_right] at hg
    have hmd := signed_made_ok false x hx
    simp only [Bool.false_and, hg] at hmd
    simp [L_signed_Gcd_1, digs_zero, hg, hmd, hp, Z_def]
  · have hd := nat_DivMod_ok x y hx hy (by omega)
    have hpos : 0 < (digs y).length := List.length_pos_iff.2 (digs_ne.2 h0)
    have hmod : x % y < y := Nat.mod_lt _ (by omega)
    simp [L_signed_Gcd_1, hpos, hd]
    refine ih (y, x % y) _ _ _ (gcdM_lt h0) ⟨y, x % y, rfl, rfl, rfl, rfl, hy, by omega, ?_⟩
    rw [← hg, Nat.gcd_comm x y, Nat.gcd_rec y x, Nat.gcd_comm]

theorem signed_Gcd_Z {a b : Bool} {m n : Nat} (ha : okZ a m) (hb : okZ b n) : F_signed_Gcd [Z a m, Z b n] = .ret (.tup [Z false (Nat.gcd m n), I 0]) := by
  refine runP_rets (v := .tup [Z false (Nat.gcd m n), I 0]) ?_ (fun H => by simp)
  simp [B_signed_Gcd, Z_def, signed_both_Z ha hb]
  exact gcd_run _ 2 (by simp) m n ha.1 hb.1
theorem signed_Gcd_bad (a b : Bool) (xs ys : List Nat) (h : (rightI a xs && rightI b ys) = false) : F_signed_Gcd [.agg [.bool a, .lst (digV xs)], .agg [.bool b, .lst (digV ys)]] = .ret (.tup [Z false 0, I 2]) := by
  refine runP_rets (v := .tup [.agg [.bool false, .nilS], I 2]) ?_ (fun H => by simp [Z, N_zero])
  have hb := signed_both_raw a b xs ys
  rw [h] at hb
  simp [B_signed_Gcd, hb]

/-! ### numbers of 64 bits -/
theorem nat_Uint_ok (m : Nat) (h : m < 4294967296 ^ 256) : F_nat_Uint [N m] = .ret (.tup [.int .u64 (if m < 18446744073709551616 then (m : Int) else 0), I (if m < 18446744073709551616 then 0 else 4)]) := by
  by_cases hm : m < 18446744073709551616
  · have hl : (digs m).length ≤ 2 := digs_len.2 (by omega)
    have hl' : ¬ (2 : Int) < ((digs m).length : Int) := by omega
    rw [if_pos hm, if_pos hm]
    refine runP_rets (v := .tup [.int .u64 (m : Int), I 0]) ?_ (fun H => by simp)
    simp [B_nat_Uint, h, hl']
    refine loop_ind (α := Nat) _ (fun i k v st' => v = [.int .u64 ((dval ((digs m).take i) : Nat) : Int), N m, I (digs m).length, I i] ∧ k = (digs m).length - i ∧ i ≤ (digs m).length) (fun r => Rets (.tup [.int .u64 (m : Int), I 0]) r) ?_ fuel 0 (digs m).length _ _ ⟨by simp [dval], by omega, by omega⟩ (by unfold fuel; omega)
    rintro i k v st' ⟨rfl, rfl, hi⟩ self ih
    by_cases hlt : i < (digs m).length
    · have hlt' : (i : Int) < ((digs m).length : Int) := by omega
      have d1 := idx_dig st' (digs m) i hlt
      have hd := (dig_digs m).at hlt
      have hlow := dval_lt ((dig_digs m).take i)
      rw [List.length_take, Nat.min_eq_left (by omega)] at hlow
      have t1 : (digs m).take (i + 1) = (digs m).take i ++ [(digs m)[i]] := by rw [List.take_add_one, List.getElem?_eq_getElem hlt]; rfl
      have hw : IntKind.i64.wrap ((i : Int) + 1) = ((i + 1 : Nat) : Int) := by rw [wrap64] <;> omega
      have hw2 : IntKind.i64.wrap (32 * (i : Int)) = ((32 * i : Nat) : Int) := by rw [wrap64] <;> omega
      have hpw : 2 ^ (32 * i) = 4294967296 ^ i := by rw [Nat.pow_mul]
      have hi1 : i ≤ 1 := by omega
      have hmul : (digs m)[i] * 2 ^ (32 * i) < 18446744073709551616 := by
        rw [hpw]
        rcases (by omega : i = 0 ∨ i = 1) with rfl | rfl
        · omega
        · omega
      have s1 := shl64 st' ty_uint64 .i64 (digs m)[i] (32 * i) (by omega) hmul
      have s2 := or64 st' ty_uint64 (dval ((digs m).take i)) ((digs m)[i] * 2 ^ (32 * i)) (by rcases (by omega : i = 0 ∨ i = 1) with rfl | rfl <;> omega) hmul
      rw [or_add' _ (32 * i) _ (by rw [hpw]; exact hlow)] at s2
      have d1' : idxM 1 (N m) (I i) st' = _ := d1
      simp only [L_nat_Uint_1, run_bnd, g_zero, g_succ, cmp_lss, hlt', decide_true, thn_ok, run_if, if_true, d1', load_cell, conv_u64 _ _ (digs m)[i] (by omega), op_mul, hw2, s1, s2, op_add, hw, run_leaf]
      refine ih (i + 1) ((digs m).length - (i + 1)) _ st' (by omega) ⟨?_, rfl, by omega⟩
      rw [t1, dval_snoc, List.length_take, Nat.min_eq_left (by omega), hpw, Nat.mul_comm, Nat.add_comm]
    · have : i = (digs m).length := by omega
      subst this
      simp [L_nat_Uint_1, dval_digs]
  · have hl : ¬ (digs m).length ≤ 2 := fun hh => by have := digs_len.1 hh; omega
    have hl' : (2 : Int) < ((digs m).length : Int) := by omega
    rw [if_neg hm, if_neg hm]
    refine runP_rets (v := .tup [.int .u64 0, I 4]) ?_ (fun H => by simp)
    simp [B_nat_Uint, h, hl']

/-- Is it one of 64 bits? -/
def small64 (z : Int) : Bool := decide (-9223372036854775808 ≤ z) && decide (z ≤ 9223372036854775807)
theorem signed_Small_Z {a : Bool} {m : Nat} (ha : okZ a m) : F_signed_Small [Z a m] = .ret (.tup [I (if small64 (sgn a m) = true then sgn a m else 0), I (if small64 (sgn a m) = true then 0 else 4)]) := by
  have hr := signed_Right_Z a m ha.1 ha.2
  have hu := nat_Uint_ok m ha.1
  by_cases hm : m < 18446744073709551616
  · rw [if_pos hm, if_pos hm] at hu
    cases a
    · by_cases h2 : m ≤ 9223372036854775807
      · have hs : small64 (sgn false m) = true := by simp [small64, sgn]; omega
        have e1 : ¬ (9223372036854775807 : Int) < (m : Int) := by omega
        have e2 : IntKind.i64.wrap (m : Int) = m := wrap64 _ (by omega) (by omega)
        rw [hs]
        refine runP_rets (v := .tup [I (m : Int), I 0]) ?_ (fun H => by simp [sgn])
        simp [B_signed_Small, J_signed_Small_1, Z_def, hr, hu, e1, e2]
      · have hs : small64 (sgn false m) = false := by simp [small64, sgn]; omega
        have e1 : (9223372036854775807 : Int) < (m : Int) := by omega
        rw [hs]
        refine runP_rets (v := .tup [I 0, I 4]) ?_ (fun H => by simp)
        simp [B_signed_Small, J_signed_Small_1, Z_def, hr, hu, e1]
    · have hm0 := ha.2 rfl
      by_cases h2 : m ≤ 9223372036854775808
      · have hs : small64 (sgn true m) = true := by simp [small64, sgn]; omega
        have e1 : ¬ (9223372036854775808 : Int) < (m : Int) := by omega
        have e2 : IntKind.i64.wrap (IntKind.u64.wrap (0 - (m : Int))) = -(m : Int) := by
          rw [IntKind.wrap_u64, IntKind.wrap_i64]; omega
        rw [hs]
        refine runP_rets (v := .tup [I (-(m : Int)), I 0]) ?_ (fun H => by simp [sgn])
        simp only [Int.zero_sub] at e2
        simp [B_signed_Small, J_signed_Small_1, Z_def, hr, hu, e1, e2]
      · have hs : small64 (sgn true m) = false := by simp [small64, sgn]; omega
        have e1 : (9223372036854775808 : Int) < (m : Int) := by omega
        rw [hs]
        refine runP_rets (v := .tup [I 0, I 4]) ?_ (fun H => by simp)
        simp [B_signed_Small, J_signed_Small_1, Z_def, hr, hu, e1]
  · rw [if_neg hm, if_neg hm] at hu
    have hs : small64 (sgn a m) = false := by cases a <;> simp [small64, sgn] <;> omega
    rw [hs]
    refine runP_rets (v := .tup [I 0, I 4]) ?_ (fun H => by simp)
    simp [B_signed_Small, J_signed_Small_1, Z_def, hr, hu]

theorem signed_Of_ok (n : Int) (h1 : -9223372036854775808 ≤ n) (h2 : n ≤ 9223372036854775807) : F_signed_Of [I n] = .ret (ZI n) := by
  refine runP_rets (v := ZI n) ?_ (fun H => by simp)
  by_cases hn : n < 0
  · have e1 : IntKind.u64.wrap (0 - IntKind.u64.wrap n) = ((n.natAbs : Nat) : Int) := by
      rw [IntKind.wrap_u64, IntKind.wrap_u64]; omega
    simp only [Int.zero_sub] at e1
    have hof := nat_Of_ok n.natAbs (by omega)
    have : ZI n = Z true n.natAbs := by simp [ZI, hn]
    rw [this]
    simp [B_signed_Of, hn, e1, hof, Z_def]
  · have e1 : IntKind.u64.wrap n = ((n.natAbs : Nat) : Int) := by
      rw [IntKind.wrap_u64]; omega
    have hof := nat_Of_ok n.natAbs (by omega)
    have : ZI n = Z false n.natAbs := by simp [ZI, hn]
    rw [this]
    simp [B_signed_Of, hn, e1, hof, Z_def]

/-! ### as numbers -/
theorem sgn_self (z : Int) : sgn (decide (z < 0)) z.natAbs = z := by
  unfold sgn
  by_cases h : z < 0
  · simp only [h, decide_true, if_true]; omega
  · simp only [h, decide_false, Bool.false_eq_true, if_false]; omega
theorem signed_Mul_ok (a b : Int) (ha : fitI a) (hb : fitI b) : F_signed_Mul [ZI a, ZI b] = .ret (resI (a * b)) := by
  have := signed_Mul_Z (okZI ha) (okZI hb)
  rw [resZ_sgn] at this
  refine Eq.trans this ?_
  congr 2
  have h1 := sgn_self a
  have h2 := sgn_self b
  conv => rhs; rw [← h1, ← h2]
  generalize a.natAbs = x
  generalize b.natAbs = y
  cases decide (a < 0) <;> cases decide (b < 0) <;> simp [sgn, Int.neg_mul, Int.mul_neg]
theorem signed_Add_ok (a b : Int) (ha : fitI a) (hb : fitI b) : F_signed_Add [ZI a, ZI b] = .ret (resI (a + b)) := by
  by_cases hs : decide (a < 0) = decide (b < 0)
  · have hb' := okZI hb
    rw [← hs] at hb'
    have := signed_Add_same (okZI ha) hb'
    rw [resZ_sgn] at this
    have e : ZI b = Z (decide (a < 0)) b.natAbs := by rw [ZI, hs]
    rw [e]
    refine Eq.trans this ?_
    congr 2
    have h1 := sgn_self a
    have h2 := sgn_self b
    rw [← hs] at h2
    conv => rhs; rw [← h1, ← h2]
    generalize a.natAbs = x
    generalize b.natAbs = y
    cases decide (a < 0) <;> simp [sgn] <;> omega
  · refine Eq.trans (signed_Add_diff (okZI ha) (okZI hb) hs) ?_
    have key : (if a.natAbs < b.natAbs then Z (decide (b < 0) && decide (b.natAbs - a.natAbs ≠ 0)) (b.natAbs - a.natAbs) else Z (decide (a < 0) && decide (a.natAbs - b.natAbs ≠ 0)) (a.natAbs - b.natAbs)) = ZI (a + b) := by
      have h1 := sgn_self a
      have h2 := sgn_self b
      conv => rhs; rw [← h1, ← h2]
      rw [ZI_made, ZI_made]
      generalize a.natAbs = x
      generalize b.natAbs = y
      revert hs
      generalize decide (a < 0) = c
      generalize decide (b < 0) = d
      intro hs
      by_cases hlt : x < y
      · rw [if_pos hlt]; congr 1
        cases c <;> cases d <;> simp_all [sgn] <;> omega
      · rw [if_neg hlt]; congr 1
        cases c <;> cases d <;> simp_all [sgn] <;> omega
    have hf : fitI (a + b) := by
      simp only [decide_eq_decide] at hs
      unfold fitI at *; omega
    rw [key]; simp [resI, hf]
theorem signed_Cmp_ok (a b : Int) (ha : fitI a) (hb : fitI b) : F_signed_Cmp [ZI a, ZI b] = .ret (.tup [I (if a < b then -1 else if b < a then 1 else 0), I 0]) := by
  have := signed_Cmp_Z (okZI ha) (okZI hb)
  rw [sgn_self, sgn_self] at this
  exact this
theorem signed_Neg_ok (a : Int) (ha : fitI a) : F_signed_Neg [ZI a] = .ret (.tup [ZI (-a), I 0]) := by
  refine Eq.trans (signed_Neg_Z (okZI ha)) ?_
  rw [ZI_made]
  congr 4
  unfold sgn
  by_cases h : a < 0
  · simp only [h, decide_true, Bool.not_true, Bool.false_eq_true, if_false]; omega
  · simp only [h, decide_false, Bool.not_false, if_true]; omega
theorem signed_Gcd_ok (a b : Int) (ha : fitI a) (hb : fitI b) : F_signed_Gcd [ZI a, ZI b] = .ret (.tup [ZI (Int.gcd a b), I 0]) := by
  refine Eq.trans (signed_Gcd_Z (okZI ha) (okZI hb)) ?_
  rw [ZI_sgn (neg := false) (by simp)]
  rfl
theorem signed_Small_ok (a : Int) (ha : fitI a) : F_signed_Small [ZI a] = .ret (.tup [I (if small64 a = true then a else 0), I (if small64 a = true then 0 else 4)]) := by
  have := signed_Small_Z (okZI ha)
  rw [sgn_self] at this
  exact this

end Go.Abs
end
/-
  FRACTIONS: ratio.
-/
section
set_option linter.unusedSimpArgs false
set_option linter.unusedVariables false
namespace Go.Abs
open Go

@[simp] theorem part_Z2 (b : Bool) (m : Nat) : part (some 2) (Z b m) 0 = some (Z b m) := (rfl)

/-- A fraction of two numbers. -/
def Qz (a : Bool) (m : Nat) (b : Bool) (n : Nat) : PV := .agg [.bool a, N m, .bool b, N n]
@[simp] theorem fits_Qz (k : Nat) (a : Bool) (m : Nat) (b : Bool) (n : Nat) : fitsE k (Qz a m b n) = (4 == k) := fits_agg k _
@[simp] theorem cells_Qz (a : Bool) (m : Nat) (b : Bool) (n : Nat) : (Qz a m b n).cells = [.bool a, N m, .bool b, N n] := (rfl)
@[simp] theorem known_Qz (a : Bool) (m : Nat) (b : Bool) (n : Nat) : (Qz a m b n).known = true := (rfl)
@[simp] theorem noref_Qz (a : Bool) (m : Nat) (b : Bool) (n : Nat) : (Qz a m b n).noref = true := (rfl)
@[simp] theorem snap_Qz (H : Nat → Option Blk) (d : Nat) (a : Bool) (m : Nat) (b : Bool) (n : Nat) : snapF H (d + 6) (Qz a m b n) = some (Qz a m b n) := by simp [Qz]
@[simp] theorem snapD_Qz (H : Nat → Option Blk) (a : Bool) (m : Nat) (b : Bool) (n : Nat) : snapF H depth (Qz a m b n) = some (Qz a m b n) := by simp [Qz]
@[simp] theorem setPart_Qz (a : Bool) (m : Nat) (b : Bool) (n : Nat) (a' : Bool) (m' : Nat) (b' : Bool) (n' : Nat) : setPart (Qz a m b n) 0 (Qz a' m' b' n') = some (Qz a' m' b' n') := (rfl)
theorem Qz_def (a : Bool) (m : Nat) (b : Bool) (n : Nat) : PV.agg [.bool a, N m, .bool b, N n] = Qz a m b n := rfl

/-- A number and an error. -/
def Tz (a : Bool) (m : Nat) (e : Int) : PV := .agg [.bool a, N m, I e]
@[simp] theorem fits_Tz (k : Nat) (a : Bool) (m : Nat) (e : Int) : fitsE k (Tz a m e) = (3 == k) := fits_agg k _
@[simp] theorem cells_Tz (a : Bool) (m : Nat) (e : Int) : (Tz a m e).cells = [.bool a, N m, I e] := (rfl)
@[simp] theorem known_Tz (a : Bool) (m : Nat) (e : Int) : (Tz a m e).known = true := (rfl)
@[simp] theorem noref_Tz (a : Bool) (m : Nat) (e : Int) : (Tz a m e).noref = true := (rfl)
@[simp] theorem snap_Tz (H : Nat → Option Blk) (d : Nat) (a : Bool) (m : Nat) (e : Int) : snapF H (d + 5) (Tz a m e) = some (Tz a m e) := by simp [Tz]
@[simp] theorem snapD_Tz (H : Nat → Option Blk) (a : Bool) (m : Nat) (e : Int) : snapF H depth (Tz a m e) = some (Tz a m e) := by simp [Tz]
@[simp] theorem take_Tz (a : Bool) (m : Nat) (e : Int) (st : St) : takeM none (Tz a m e) st = .ok (Tz a m e) st := (rfl)
@[simp] theorem take_Z (a : Bool) (m : Nat) (st : St) : takeM none (Z a m) st = .ok (Z a m) st := (rfl)
@[simp] theorem take_Qz (a : Bool) (m : Nat) (b : Bool) (n : Nat) (st : St) : takeM none (Qz a m b n) st = .ok (Qz a m b n) st := (rfl)
@[simp] theorem field_Tz (a : Bool) (m : Nat) (e : Int) (st : St) : fieldM (some 2) 0 (Tz a m e) st = .ok (Z a m) st := (rfl)
theorem Tz_def (a : Bool) (m : Nat) (e : Int) : PV.agg [.bool a, N m, I e] = Tz a m e := rfl

theorem times_of {a b : Bool} {m n : Nat} {s : Bool} {k : Nat} {e : Int} (h : F_signed_Mul [Z a m, Z b n] = .ret (.tup [Z s k, I e])) : F_ratio_times [Z a m, Z b n] = .ret (Tz s k e) := by
  refine runP_rets (v := Tz s k e) ?_ (fun H => by simp)
  simp [B_ratio_times, Z_def, Tz_def, h]
theorem plus_of {a b : Bool} {m n : Nat} {s : Bool} {k : Nat} {e : Int} (h : F_signed_Add [Z a m, Z b n] = .ret (.tup [Z s k, I e])) : F_ratio_term_plus [Tz a m 0, Tz b n 0] = .ret (Tz s k e) := by
  refine runP_rets (v := Tz s k e) ?_ (fun H => by simp)
  simp [B_ratio_term_plus, Z_def, Tz_def, h]
theorem over_of {a b : Bool} {m n : Nat} {s : Bool} {k : Nat} {s' : Bool} {k' : Nat} {e : Int} (h : F_ratio_Make [Z a m, Z b n] = .ret (.tup [Qz s k s' k', I e])) : F_ratio_term_over [Tz a m 0, Tz b n 0] = .ret (.tup [Qz s k s' k', I e]) := by
  refine runP_rets (v := .tup [Qz s k s' k', I e]) ?_ (fun H => by simp)
  simp [B_ratio_term_over, Z_def, Qz_def, Tz_def, h]

/-- What is left of two numbers by their greatest divisor. -/
def mkQ (a : Bool) (m : Nat) (b : Bool) (n : Nat) : PV :=
  .tup [if m / Nat.gcd m n < 4294967296 ^ 64 ∧ n / Nat.gcd m n < 4294967296 ^ 64 then Qz (!(a == b) && decide (m / Nat.gcd m n ≠ 0)) (m / Nat.gcd m n) false (n / Nat.gcd m n) else Qz false 0 false 0,
    I (if m / Nat.gcd m n < 4294967296 ^ 64 ∧ n / Nat.gcd m n < 4294967296 ^ 64 then 0 else 3)]

theorem ratio_Make_Z {a b : Bool} {m n : Nat} (ha : okZ a m) (hb : okZ b n) (h0 : n ≠ 0) : F_ratio_Make [Z a m, Z b n] = .ret (mkQ a m b n) := by
  have hg := signed_Gcd_Z ha hb
  have hgp : 0 < Nat.gcd m n := Nat.gcd_pos_of_pos_right m (by omega)
  have hgn : Nat.gcd m n ≤ n := Nat.gcd_le_right m (by omega)
  have hgf : Nat.gcd m n < 4294967296 ^ 256 := by have := hb.1; omega
  have d1 : m % Nat.gcd m n = 0 := Nat.mod_eq_zero_of_dvd (Nat.gcd_dvd_left m n)
  have d2 : n % Nat.gcd m n = 0 := Nat.mod_eq_zero_of_dvd (Nat.gcd_dvd_right m n)
  -- the divisor has the sign of the second number
  have hsg : okZ b (Nat.gcd m n) := ⟨hgf, fun _ => by omega⟩
  have q1 := signed_DivMod_Z ha hsg hgp
  have q2 := signed_DivMod_Z hb hsg hgp
  rw [d1] at q1
  rw [d2] at q2
  simp only [ne_eq, not_true, decide_false, Bool.and_false, Bool.false_eq_true, if_false, BEq.rfl, Bool.not_true] at q1 q2
  rw [← ZI_made, ← ZI_made] at q1 q2
  simp only [ne_eq, not_true, decide_false, Bool.and_false, Bool.false_and] at q1 q2
  have hneg := signed_Neg_Z (b := false) (m := Nat.gcd m n) ⟨hgf, fun h => by cases h⟩
  have hgne : ¬ Nat.gcd m n = 0 := by omega
  have hgne' : decide (Nat.gcd m n ≠ 0) = true := decide_eq_true hgne
  rw [hgne'] at hneg
  simp only [Bool.not_false, Bool.and_true] at hneg
  generalize hG : Nat.gcd m n = G at *
  have l1 : ∀ x : Nat, ((64 : Int) < ((digs x).length : Int)) ↔ ¬ x < 4294967296 ^ 64 := fun x => by
    rw [← digs_len]; omega
  unfold mkQ
  rw [hG]
  generalize hs : (!(a == b) && decide (¬ m / G = 0)) = s at *
  refine runP_rets (v := .tup [if m / G < 4294967296 ^ 64 ∧ n / G < 4294967296 ^ 64 then Qz s (m / G) false (n / G) else .agg [.bool false, .nilS, .bool false, .nilS], I (if m / G < 4294967296 ^ 64 ∧ n / G < 4294967296 ^ 64 then 0 else 3)]) ?_ (fun H => ?_)
  · by_cases c1 : m / G < 4294967296 ^ 64 <;> by_cases c2 : n / G < 4294967296 ^ 64 <;> cases b <;>
      simp [B_ratio_Make, J_ratio_Make_1, Z_def, Qz_def, hg, hneg, h0, q1, q2, l1, c1, c2, hs]
  · by_cases c : m / G < 4294967296 ^ 64 ∧ n / G < 4294967296 ^ 64
    · simp only [c, and_self, if_true]; simp
    · simp only [c, if_false]; simp [Qz, N_zero]

end Go.Abs
end
/-
  FRACTIONS: ratio, as rational numbers.
-/
section
set_option linter.unusedSimpArgs false
set_option linter.unusedVariables false
namespace Go.Abs
open Go

/-- Few enough digits. -/
def fit64 (q : Rat) : Prop := q.num.natAbs < 4294967296 ^ 64 ∧ q.den < 4294967296 ^ 64
instance (q : Rat) : Decidable (fit64 q) := by unfold fit64; exact inferInstance
def qs (q : Rat) : Bool := decide (q.num < 0)
def qm (q : Rat) : Nat := q.num.natAbs
/-- A fraction as a value. -/
def QV (q : Rat) : PV := Qz (qs q) (qm q) false q.den
/-- The zero value, which is no fraction. -/
def Q0 : PV := Qz false 0 false 0
def resQ (q : Rat) : PV := .tup [if fit64 q then QV q else Q0, I (if fit64 q then 0 else 3)]

@[simp] theorem fits_QV (k : Nat) (q : Rat) : fitsE k (QV q) = (4 == k) := fits_agg k _
@[simp] theorem cells_QV (q : Rat) : (QV q).cells = [.bool (qs q), N (qm q), .bool false, N q.den] := (rfl)
@[simp] theorem setPart_QV (q r : Rat) : setPart (QV q) 0 (QV r) = some (QV r) := (rfl)
@[simp] theorem known_QV (q : Rat) : (QV q).known = true := (rfl)
@[simp] theorem noref_QV (q : Rat) : (QV q).noref = true := (rfl)
@[simp] theorem snap_QV (H : Nat → Option Blk) (d : Nat) (q : Rat) : snapF H (d + 6) (QV q) = some (QV q) := snap_Qz _ _ _ _ _ _
@[simp] theorem snapD_QV (H : Nat → Option Blk) (q : Rat) : snapF H depth (QV q) = some (QV q) := snapD_Qz _ _ _ _ _
@[simp] theorem take_QV (q : Rat) (st : St) : takeM none (QV q) st = .ok (QV q) st := (rfl)

theorem lt64 {x : Nat} (h : x < 4294967296 ^ 64) : x < 4294967296 ^ 256 := Nat.lt_of_lt_of_le h (Nat.pow_le_pow_right (by omega) (by omega))
theorem lt128 {x y : Nat} (hx : x < 4294967296 ^ 64) (hy : y < 4294967296 ^ 64) : x * y < 4294967296 ^ 128 := by
  rw [show (128 : Nat) = 64 + 64 from rfl, Nat.pow_add]
  exact Nat.mul_lt_mul'' hx hy
theorem lt256 {x : Nat} (h : x < 4294967296 ^ 128) : x < 4294967296 ^ 256 := Nat.lt_of_lt_of_le h (Nat.pow_le_pow_right (by omega) (by omega))
theorem lt256' {x y : Nat} (hx : x < 4294967296 ^ 128) (hy : y < 4294967296 ^ 128) : x + y < 4294967296 ^ 256 := by
  have h1 : (4294967296 : Nat) ^ 128 * 2 ≤ 4294967296 ^ 129 := by
    rw [Nat.pow_succ]; exact Nat.mul_le_mul_left _ (by omega)
  have h2 : (4294967296 : Nat) ^ 129 ≤ 4294967296 ^ 256 := Nat.pow_le_pow_right (by omega) (by omega)
  omega

theorem sgn_natAbs (a : Bool) (m : Nat) : (sgn a m).natAbs = m := by unfold sgn; cases a <;> simp
theorem sgn_neg {a : Bool} {m : Nat} (h : a = true → m ≠ 0) : decide (sgn a m < 0) = a := by
  unfold sgn
  cases a
  · simp
  · have := h rfl; simp; omega
theorem sgn_ediv (a : Bool) {m g : Nat} (h : g ∣ m) : sgn a m / (g : Int) = sgn a (m / g) := by
  unfold sgn
  cases a
  · simp
  · simp only [if_true]
    rw [Int.neg_ediv_of_dvd (Int.natCast_dvd_natCast.2 h)]; rfl
theorem sgn_mulsign (a b : Bool) {m n : Nat} (hb : b = true → n ≠ 0) (hn : n ≠ 0) : (sgn b n).sign * sgn a m = sgn (!(a == b)) m := by
  unfold sgn
  have hs : (n : Int).sign = 1 := Int.sign_eq_one_of_pos (by omega)
  cases a <;> cases b <;> simp [hs, Int.sign_neg]

theorem mkQ_rat {a b : Bool} {m n : Nat} (ha : a = true → m ≠ 0) (hb : b = true → n ≠ 0) (hn : n ≠ 0) : mkQ a m b n = resQ (Rat.divInt (sgn a m) (sgn b n)) := by
  have hg : Int.gcd (sgn b n) (sgn a m) = Nat.gcd m n := by
    rw [Int.gcd, sgn_natAbs, sgn_natAbs, Nat.gcd_comm]
  have hgp : 0 < Nat.gcd m n := Nat.gcd_pos_of_pos_right m (by omega)
  have hnum : (Rat.divInt (sgn a m) (sgn b n)).num = sgn (!(a == b)) (m / Nat.gcd m n) := by
    rw [Rat.num_divInt, hg, sgn_mulsign a b hb hn, sgn_ediv _ (Nat.gcd_dvd_left m n)]
  have hb0 : ¬ sgn b n = 0 := by
    intro h
    have := sgn_natAbs b n
    rw [h] at this; simp at this; omega
  have hden : (Rat.divInt (sgn a m) (sgn b n)).den = n / Nat.gcd m n := by
    rw [Rat.den_divInt, if_neg hb0, hg, sgn_natAbs]
  have hfit : fit64 (Rat.divInt (sgn a m) (sgn b n)) ↔ m / Nat.gcd m n < 4294967296 ^ 64 ∧ n / Nat.gcd m n < 4294967296 ^ 64 := by
    unfold fit64; rw [hnum, hden, sgn_natAbs]
  have hQV : QV (Rat.divInt (sgn a m) (sgn b n)) = Qz (!(a == b) && decide (m / Nat.gcd m n ≠ 0)) (m / Nat.gcd m n) false (n / Nat.gcd m n) := by
    unfold QV qs qm
    rw [hnum, hden, sgn_natAbs]
    congr 1
    by_cases h0 : m / Nat.gcd m n = 0
    · simp [h0, sgn]
    · rw [sgn_neg (fun _ => h0)]; simp [h0]
  unfold mkQ resQ
  rw [hQV]
  by_cases h : m / Nat.gcd m n < 4294967296 ^ 64 ∧ n / Nat.gcd m n < 4294967296 ^ 64
  · have := hfit.2 h
    simp only [h, this, and_self, if_true]
  · have := mt hfit.1 h
    simp only [h, this, if_false]
    rfl

theorem ratio_Make_ok (x y : Int) (hx : fitI x) (hy : fitI y) (h0 : y ≠ 0) : F_ratio_Make [ZI x, ZI y] = .ret (resQ (Rat.divInt x y)) := by
  have h := ratio_Make_Z (okZI hx) (okZI hy) (by omega)
  rw [mkQ_rat (okZI hx).2 (okZI hy).2 (by omega), sgn_self, sgn_self] at h
  exact h
theorem resQ_form (q : Rat) : ∃ s k s' k' e, resQ q = .tup [Qz s k s' k', I e] := by
  unfold resQ QV Q0
  by_cases h : fit64 q
  · exact ⟨_, _, _, _, _, by simp only [h, if_true]; rfl⟩
  · exact ⟨_, _, _, _, _, by simp only [h, if_false]; rfl⟩

/-! ### what may be a fraction -/
theorem ratio_is_ok {a : Bool} {m : Nat} (ha : okZ a m) (n : Int) (h1 : -9223372036854775808 ≤ n) (h2 : n ≤ 9223372036854775807) : F_ratio_is [Z a m, I n] = .ret (.bool (decide (sgn a m = n))) := by
  have hs := signed_Small_Z ha
  refine runP_rets (v := .bool (decide (sgn a m = n))) ?_ (fun H => by simp)
  by_cases h : small64 (sgn a m) = true
  · simp only [h, if_true] at hs
    simp [B_ratio_is, Z_def, hs]
  · simp only [h, if_false] at hs
    have : ¬ sgn a m = n := fun e => h (by simp [small64, e]; omega)
    simp [B_ratio_is, Z_def, hs, this]

/-- Which digits may be a fraction's. -/
def rightQ (a : Bool) (xs : List Nat) (b : Bool) (ys : List Nat) : Bool :=
  decide (xs.length ≤ 64) && decide (ys.length ≤ 64) && decide (ys ≠ []) && !b && rightI a xs && rightI b ys && decide (Nat.gcd (dval xs) (dval ys) = 1)

theorem ratio_Right_raw (a : Bool) (xs : List Nat) (b : Bool) (ys : List Nat) (hx : Dig xs) (hy : Dig ys) : F_ratio_Right [.agg [.bool a, .lst (digV xs), .bool b, .lst (digV ys)]] = .ret (.bool (rightQ a xs b ys)) := by
  refine runP_rets (v := .bool (rightQ a xs b ys)) ?_ (fun H => by simp)
  unfold rightQ
  by_cases c1 : xs.length ≤ 64
  · have c1' : ¬ (64 : Int) < (xs.length : Int) := by omega
    by_cases c2 : ys.length ≤ 64
    · have c2' : ¬ (64 : Int) < (ys.length : Int) := by omega
      by_cases c3 : ys = []
      · subst c3
        simp [B_ratio_Right, c1', c1]
      · cases b
        · by_cases c4 : (rightI a xs && rightI false ys) = true
          · have c4' := c4
            simp only [Bool.and_eq_true] at c4
            obtain ⟨k1, k2⟩ := c4
            have r1 := k1
            have r2 := k2
            simp only [rightI, Bool.and_eq_true] at k1 k2
            obtain ⟨e1, f1⟩ := okL_canon hx k1.1
            obtain ⟨e2, f2⟩ := okL_canon hy k2.1
            have z1 : okZ a (dval xs) := ⟨f1, fun ha => by
              have := k1.2
              simp [ha] at this
              intro h0; rw [h0, digs_zero] at e1; exact this e1⟩
            have z2 : okZ false (dval ys) := ⟨f2, fun h => by cases h⟩
            have hg := signed_Gcd_Z z1 z2
            have hi := ratio_is_ok (a := false) (m := Nat.gcd (dval xs) (dval ys)) ⟨by
              have h0 : dval ys ≠ 0 := fun h => c3 (by rw [e2, h, digs_zero])
              have := Nat.gcd_le_right (dval xs) (show 0 < dval ys by omega)
              omega, fun h => by cases h⟩ 1 (by omega) (by omega)
            have z3 : (PV.agg [.bool a, .lst (digV xs)]) = Z a (dval xs) := by unfold Z N; rw [← e1]
            have z4 : (PV.agg [.bool false, .lst (digV ys)]) = Z false (dval ys) := by unfold Z N; rw [← e2]
            have hsg : (sgn false (Nat.gcd (dval xs) (dval ys)) = 1) ↔ Nat.gcd (dval xs) (dval ys) = 1 := by simp [sgn]; omega
            simp [B_ratio_Right, c1', c2', c3, c1, c2, z3, z4, hg, Z_def, hi, hsg, r1, r2]
          · have c4' : (rightI a xs && rightI false ys) = false := by simpa using c4
            have hg := signed_Gcd_bad a false xs ys c4'
            simp [B_ratio_Right, c1', c2', c3, c1, c2, hg]
            intro r1 r2
            exact absurd (by simp [r1, r2]) c4
        · simp [B_ratio_Right, c1', c2', c3]
    · have c2' : (64 : Int) < (ys.length : Int) := by omega
      simp [B_ratio_Right, c1', c2', c2]
  · have c1' : (64 : Int) < (xs.length : Int) := by omega
    simp [B_ratio_Right, c1', c1]

end Go.Abs
end
/-
  FRACTIONS: sums, products, quotients, and how two follow each other.
-/
section
set_option linter.unusedSimpArgs false
set_option linter.unusedVariables false
namespace Go.Abs
open Go

theorem ZI_nat (n : Nat) : ZI (n : Int) = Z false n := by
  have : ¬ (n : Int) < 0 := by omega
  simp [ZI, this]
theorem ZI_num (q : Rat) : ZI q.num = Z (qs q) (qm q) := rfl
theorem QV_def (q : Rat) : PV.agg [.bool (qs q), N (qm q), .bool false, N q.den] = QV q := rfl

/-- Digits that may be a fraction's are one's. -/
theorem rightQ_spec {a b : Bool} {xs ys : List Nat} (hx : Dig xs) (hy : Dig ys) (h : rightQ a xs b ys = true) : ∃ q : Rat, fit64 q ∧ PV.agg [.bool a, .lst (digV xs), .bool b, .lst (digV ys)] = QV q ∧ a = qs q := by
  simp only [rightQ, rightI, Bool.and_eq_true, decide_eq_true_eq, Bool.not_eq_true'] at h
  obtain ⟨⟨⟨⟨⟨⟨h1, h2⟩, h3⟩, h4⟩, h5, h5'⟩, h6, _⟩, h7⟩ := h
  obtain ⟨e1, f1⟩ := okL_canon hx h5
  obtain ⟨e2, f2⟩ := okL_canon hy h6
  have hd : dval ys ≠ 0 := fun hh => h3 (by rw [e2, hh, digs_zero])
  have hneg : a = true → dval xs ≠ 0 := fun ha hh => by
    rw [hh, digs_zero] at e1
    simp [ha, e1] at h5'
  have hred : (sgn a (dval xs)).natAbs.Coprime (dval ys) := by rw [sgn_natAbs]; exact h7
  refine ⟨⟨sgn a (dval xs), dval ys, hd, hred⟩, ⟨?_, ?_⟩, ?_, ?_⟩
  · show (sgn a (dval xs)).natAbs < _
    rw [sgn_natAbs, ← digs_len, ← e1]; exact h1
  · show dval ys < _
    rw [← digs_len, ← e2]; exact h2
  · show _ = Qz (decide (sgn a (dval xs) < 0)) (sgn a (dval xs)).natAbs false (dval ys)
    rw [sgn_neg hneg, sgn_natAbs, Qz, N, N, ← e1, ← e2, h4]
  · show a = decide (sgn a (dval xs) < 0)
    rw [sgn_neg hneg]
theorem rightQ_QV {q : Rat} (h : fit64 q) : rightQ (qs q) (digs (qm q)) false (digs q.den) = true := by
  have h1 := digs_len.2 h.1
  have h2 := digs_len.2 h.2
  have h3 : digs q.den ≠ [] := digs_ne.2 q.den_nz
  have h4 : qs q = true → qm q ≠ 0 := fun hs => by
    simp only [qs, decide_eq_true_eq] at hs
    unfold qm; omega
  have h5 : okL (digs (qm q)) = true := by rw [okL_digs]; exact decide_eq_true (lt64 h.1)
  have h6 : okL (digs q.den) = true := by rw [okL_digs]; exact decide_eq_true (lt64 h.2)
  have h7 : Nat.gcd (qm q) q.den = 1 := q.reduced
  have h8 : (!qs q || decide (digs (qm q) ≠ [])) = true := by
    cases hs : qs q
    · rfl
    · have := digs_ne.2 (h4 hs); simp [this]
  unfold rightQ rightI
  have h9 : decide (Nat.gcd (dval (digs (qm q))) (dval (digs q.den)) = 1) = true := decide_eq_true (by rw [dval_digs, dval_digs]; exact h7)
  have h1' : (digs (qm q)).length ≤ 64 := h1
  rw [h5, h6, h8, h9, decide_eq_true h1', decide_eq_true h2, decide_eq_true h3]
  rfl

theorem ratio_Right_QV {q : Rat} (h : fit64 q) : F_ratio_Right [QV q] = .ret (.bool true) := by
  have := ratio_Right_raw (qs q) (digs (qm q)) false (digs q.den) (dig_digs _) (dig_digs _)
  rw [rightQ_QV h] at this
  exact this
theorem ratio_both_QV {q r : Rat} (h : fit64 q) (k : fit64 r) : F_ratio_both [QV q, QV r] = .ret (.bool true) := by
  refine runP_rets (v := .bool true) ?_ (fun H => by simp)
  simp [B_ratio_both, QV_def, ratio_Right_QV h, ratio_Right_QV k]

/-- A number that came without an error. -/
def TI' (z : Int) : PV := Tz (decide (z < 0)) z.natAbs 0
theorem times_fit {x y : Int} (hx : fitI x) (hy : fitI y) (h : fitI (x * y)) : F_ratio_times [ZI x, ZI y] = .ret (TI' (x * y)) := by
  have hm := signed_Mul_ok x y hx hy
  simp only [resI, h, if_true] at hm
  exact times_of hm
theorem plus_fit {x y : Int} (hx : fitI x) (hy : fitI y) (h : fitI (x + y)) : F_ratio_term_plus [TI' x, TI' y] = .ret (TI' (x + y)) := by
  have hm := signed_Add_ok x y hx hy
  simp only [resI, h, if_true] at hm
  exact plus_of hm
theorem over_fit {x y : Int} (hx : fitI x) (hy : fitI y) (h : y ≠ 0) : F_ratio_term_over [TI' x, TI' y] = .ret (resQ (Rat.divInt x y)) := by
  have hm := ratio_Make_ok x y hx hy h
  obtain ⟨s, k, s', k', e, he⟩ := resQ_form (Rat.divInt x y)
  rw [he] at hm ⊢
  exact over_of hm

section
variable {a b : Rat} (ha : fit64 a) (hb : fit64 b)
include ha hb

theorem fit_nd : fitI (a.num * b.den) := by
  unfold fitI; rw [Int.natAbs_mul, Int.natAbs_natCast]; exact lt256 (lt128 ha.1 hb.2)
theorem fit_nn : fitI (a.num * b.num) := by
  unfold fitI; rw [Int.natAbs_mul]; exact lt256 (lt128 ha.1 hb.1)
theorem fit_dd : fitI ((a.den : Int) * b.den) := by
  unfold fitI; rw [Int.natAbs_mul, Int.natAbs_natCast, Int.natAbs_natCast]; exact lt256 (lt128 ha.2 hb.2)
theorem fit_dn : fitI ((a.den : Int) * b.num) := by
  unfold fitI; rw [Int.natAbs_mul, Int.natAbs_natCast]; exact lt256 (lt128 ha.2 hb.1)
theorem fit_sum : fitI (a.num * b.den + b.num * a.den) := by
  unfold fitI
  have h1 := lt128 ha.1 hb.2
  have h2 := lt128 hb.1 ha.2
  have h3 := Int.natAbs_add_le (a.num * b.den) (b.num * a.den)
  rw [Int.natAbs_mul, Int.natAbs_mul, Int.natAbs_natCast, Int.natAbs_natCast] at h3
  have := lt256' h1 h2
  omega
end
theorem fit_num {a : Rat} (ha : fit64 a) : fitI a.num := lt64 ha.1
theorem fit_den {a : Rat} (ha : fit64 a) : fitI (a.den : Int) := by unfold fitI; rw [Int.natAbs_natCast]; exact lt64 ha.2
theorem den_ne (a : Rat) : (a.den : Int) ≠ 0 := by have := a.den_nz; omega

theorem ratio_Add_ok {a b : Rat} (ha : fit64 a) (hb : fit64 b) : F_ratio_Add [QV a, QV b] = .ret (resQ (a + b)) := by
  have t1 := times_fit (fit_num ha) (fit_den hb) (fit_nd ha hb)
  have t2 := times_fit (fit_num hb) (fit_den ha) (fit_nd hb ha)
  have t3 := times_fit (fit_den ha) (fit_den hb) (fit_dd ha hb)
  have p := plus_fit (fit_nd ha hb) (fit_nd hb ha) (fit_sum ha hb)
  have o := over_fit (fit_sum ha hb) (fit_dd ha hb) (Int.mul_ne_zero (den_ne a) (den_ne b))
  rw [ZI_num, ZI_nat] at t1 t2
  rw [ZI_nat, ZI_nat] at t3
  have e : Rat.divInt (a.num * b.den + b.num * a.den) ((a.den : Int) * b.den) = a + b := by
    rw [← Int.natCast_mul, Rat.divInt_ofNat, Rat.add_def']
  rw [e] at o
  unfold TI' at t1 t2 t3 p o
  generalize decide (a.num * b.den < 0) = s1 at *
  generalize (a.num * b.den).natAbs = k1 at *
  generalize decide (b.num * a.den < 0) = s2 at *
  generalize (b.num * a.den).natAbs = k2 at *
  generalize decide ((a.den : Int) * b.den < 0) = s3 at *
  generalize ((a.den : Int) * b.den).natAbs = k3 at *
  generalize decide (a.num * b.den + b.num * a.den < 0) = s4 at *
  generalize (a.num * b.den + b.num * a.den).natAbs = k4 at *
  obtain ⟨s, k, s', k', e, he⟩ := resQ_form (a + b)
  rw [he] at o ⊢
  have hbo : F_ratio_both [Qz (qs a) (qm a) false a.den, Qz (qs b) (qm b) false b.den] = .ret (.bool true) := ratio_both_QV ha hb
  refine runP_rets (v := .tup [Qz s k s' k', I e]) ?_ (fun H => by simp)
  simp [B_ratio_Add, Z_def, Qz_def, hbo, t1, t2, t3, p, o]

theorem ratio_Mul_ok {a b : Rat} (ha : fit64 a) (hb : fit64 b) : F_ratio_Mul [QV a, QV b] = .ret (resQ (a * b)) := by
  have t1 := times_fit (fit_num ha) (fit_num hb) (fit_nn ha hb)
  have t3 := times_fit (fit_den ha) (fit_den hb) (fit_dd ha hb)
  have o := over_fit (fit_nn ha hb) (fit_dd ha hb) (Int.mul_ne_zero (den_ne a) (den_ne b))
  rw [ZI_num, ZI_num] at t1
  rw [ZI_nat, ZI_nat] at t3
  have e : Rat.divInt (a.num * b.num) ((a.den : Int) * b.den) = a * b := by
    rw [← Int.natCast_mul, Rat.divInt_ofNat, Rat.mul_def']
  rw [e] at o
  unfold TI' at t1 t3 o
  generalize decide (a.num * b.num < 0) = s1 at *
  generalize (a.num * b.num).natAbs = k1 at *
  generalize decide ((a.den : Int) * b.den < 0) = s3 at *
  generalize ((a.den : Int) * b.den).natAbs = k3 at *
  obtain ⟨s, k, s', k', e, he⟩ := resQ_form (a * b)
  rw [he] at o ⊢
  have hbo : F_ratio_both [Qz (qs a) (qm a) false a.den, Qz (qs b) (qm b) false b.den] = .ret (.bool true) := ratio_both_QV ha hb
  refine runP_rets (v := .tup [Qz s k s' k', I e]) ?_ (fun H => by simp)
  simp [B_ratio_Mul, Z_def, Qz_def, hbo, t1, t3, o]

theorem ratio_Div_ok {a b : Rat} (ha : fit64 a) (hb : fit64 b) (h0 : b ≠ 0) : F_ratio_Div [QV a, QV b] = .ret (resQ (a / b)) := by
  have hbn : b.num ≠ 0 := fun h => h0 (Rat.num_eq_zero.1 h)
  have t1 := times_fit (fit_num ha) (fit_den hb) (fit_nd ha hb)
  have t3 := times_fit (fit_den ha) (fit_num hb) (fit_dn ha hb)
  have o := over_fit (fit_nd ha hb) (fit_dn ha hb) (Int.mul_ne_zero (den_ne a) hbn)
  rw [ZI_num, ZI_nat] at t1
  rw [ZI_nat, ZI_num] at t3
  have e : Rat.divInt (a.num * b.den) ((a.den : Int) * b.num) = a / b := by
    rw [Rat.div_def, Rat.inv_def, ← Rat.divInt_mul_divInt, Rat.num_divInt_den]
  rw [e] at o
  unfold TI' at t1 t3 o
  generalize decide (a.num * b.den < 0) = s1 at *
  generalize (a.num * b.den).natAbs = k1 at *
  generalize decide ((a.den : Int) * b.num < 0) = s3 at *
  generalize ((a.den : Int) * b.num).natAbs = k3 at *
  obtain ⟨s, k, s', k', e, he⟩ := resQ_form (a / b)
  rw [he] at o ⊢
  have hl : ¬ qm b = 0 := by unfold qm; omega
  have hbo : F_ratio_both [Qz (qs a) (qm a) false a.den, Qz (qs b) (qm b) false b.den] = .ret (.bool true) := ratio_both_QV ha hb
  refine runP_rets (v := .tup [Qz s k s' k', I e]) ?_ (fun H => by simp)
  simp [B_ratio_Div, Z_def, Qz_def, hbo, t1, t3, o, hl]

/-- How two fractions follow each other. -/
def cmpQ (a b : Rat) : Int := if a < b then -1 else if b < a then 1 else 0
theorem ratio_Cmp_ok {a b : Rat} (ha : fit64 a) (hb : fit64 b) : F_ratio_Cmp [QV a, QV b] = .ret (.tup [I (cmpQ a b), I 0]) := by
  have t1 := times_fit (fit_num ha) (fit_den hb) (fit_nd ha hb)
  have t2 := times_fit (fit_num hb) (fit_den ha) (fit_nd hb ha)
  have c := signed_Cmp_ok _ _ (fit_nd ha hb) (fit_nd hb ha)
  rw [ZI_num, ZI_nat] at t1 t2
  have e : (if a.num * b.den < b.num * a.den then (-1 : Int) else if b.num * a.den < a.num * b.den then 1 else 0) = cmpQ a b := by
    unfold cmpQ
    have h1 : (a.num * b.den < b.num * a.den) = (a < b) := propext (Rat.lt_iff a b).symm
    have h2 : (b.num * a.den < a.num * b.den) = (b < a) := propext (Rat.lt_iff b a).symm
    simp only [h1, h2]
  rw [e] at c
  unfold TI' at t1 t2
  unfold ZI at c
  generalize decide (a.num * b.den < 0) = s1 at *
  generalize (a.num * b.den).natAbs = k1 at *
  generalize decide (b.num * a.den < 0) = s2 at *
  generalize (b.num * a.den).natAbs = k2 at *
  have hbo : F_ratio_both [Qz (qs a) (qm a) false a.den, Qz (qs b) (qm b) false b.den] = .ret (.bool true) := ratio_both_QV ha hb
  refine runP_rets (v := .tup [I (cmpQ a b), I 0]) ?_ (fun H => by simp)
  simp [B_ratio_Cmp, Z_def, Qz_def, hbo, t1, t2, c]

theorem fit64_neg {a : Rat} (ha : fit64 a) : fit64 (-a) := by
  show (-a.num).natAbs < _ ∧ a.den < _
  rw [Int.natAbs_neg]; exact ha
theorem ratio_Neg_ok {a : Rat} (ha : fit64 a) : F_ratio_Neg [QV a] = .ret (.tup [QV (-a), I 0]) := by
  have t1 := signed_Neg_ok _ (fit_num ha)
  have t2 := signed_Add_ok (a.den : Int) 0 (fit_den ha) (by unfold fitI; simp)
  rw [ZI_num] at t1
  rw [Int.add_zero] at t2
  simp only [resI, fit_den ha, if_true] at t2
  rw [ZI_nat, ZI_zero] at t2
  have e1 : ZI (-a.num) = Z (qs (-a)) (qm (-a)) := rfl
  rw [e1] at t1
  have e2 : PV.agg [.bool (qs (-a)), N (qm (-a)), .bool false, N a.den] = QV (-a) := rfl
  have e3 : PV.agg [.bool false, .lst []] = Z false 0 := by rw [Z, N_zero]
  have hr : F_ratio_Right [Qz (qs a) (qm a) false a.den] = .ret (.bool true) := ratio_Right_QV ha
  refine runP_rets (v := .tup [QV (-a), I 0]) ?_ (fun H => by simp)
  simp [B_ratio_Neg, Qz_def, Z_def, e3, hr, t1, t2]
  rfl

theorem fit64_int (n : Int) (h1 : -9223372036854775808 ≤ n) (h2 : n ≤ 9223372036854775807) : fit64 (n : Rat) := by
  refine ⟨?_, ?_⟩
  · rw [Rat.num_intCast]
    refine Nat.lt_of_lt_of_le (m := 4294967296 ^ 2) (by omega) (Nat.pow_le_pow_right (by omega) (by omega))
  · rw [Rat.den_intCast]
    exact Nat.one_lt_pow (by omega) (by omega)
theorem ratio_Of_ok (n : Int) (h1 : -9223372036854775808 ≤ n) (h2 : n ≤ 9223372036854775807) : F_ratio_Of [I n] = .ret (QV (n : Rat)) := by
  have t1 := signed_Of_ok n h1 h2
  have t2 := signed_Of_ok 1 (by omega) (by omega)
  have e1 : ZI n = Z (qs (n : Rat)) (qm (n : Rat)) := rfl
  have e2 : ZI 1 = Z false 1 := rfl
  rw [e1] at t1
  rw [e2] at t2
  have e3 : PV.agg [.bool (qs (n : Rat)), N (qm (n : Rat)), .bool false, N 1] = QV (n : Rat) := rfl
  refine runP_rets (v := QV (n : Rat)) ?_ (fun H => by simp)
  simp [B_ratio_Of, t1, t2, e3]

end Go.Abs
end
