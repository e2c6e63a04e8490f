/-
  Joined from: S4 S5 S6.
-/
import Derived.Test.YtliomhbmlclmeaaGreatLF
import Derived.Test.YtliomhbmlclmeaaGreatLD
/-
  THE REFERENCE's SIGNED NUMBERS.
-/
section
set_option linter.unusedSimpArgs false
set_option linter.unusedVariables false
namespace Go.Abs
open Go

@[simp] theorem take_ZI (z : Int) (st : St) : takeM none (ZI z) st = .ok (ZI z) st := (rfl)

theorem ref03_Right_raw (neg : Bool) (xs : List Nat) : F_ref03_Right [.agg [.bool neg, .lst (digV xs)]] = .ret (.bool (rightI neg xs)) := by
  refine runP_rets (v := .bool (rightI neg xs)) ?_ (fun H => by simp)
  unfold rightI
  cases h1 : okL xs <;> cases neg <;> cases xs <;> simp [B_ref03_Right, ref02_Right_eq, h1] <;> omega
theorem ref03_Right_Z {neg : Bool} {m : Nat} (h : okZ neg m) : F_ref03_Right [Z neg m] = .ret (.bool true) := by
  have := ref03_Right_raw neg (digs m)
  have e : rightI neg (digs m) = true := by
    have h1 := h.1
    have h2 := h.2
    unfold rightI
    rw [okL_digs]
    cases neg <;> simp_all
  rw [e] at this
  exact this
theorem ref03_made_ok (neg : Bool) (m : Nat) : F_ref03_made [.bool neg, N m] = .ret (Z (neg && decide (m ≠ 0)) m) := by
  refine runP_rets (v := Z (neg && decide (m ≠ 0)) m) ?_ (fun H => by simp)
  by_cases h0 : m = 0
  · subst h0
    cases neg <;> simp [B_ref03_made, digs_zero, Z_def]
  · have hpos : 0 < (digs m).length := List.length_pos_iff.2 (digs_ne.2 h0)
    have hposI : (0 : Int) < ((digs m).length : Int) := by omega
    cases neg <;> simp [B_ref03_made, hpos, hposI, h0, Z_def]
theorem ref03_made_I (neg : Bool) (m : Nat) : F_ref03_made [.bool neg, N m] = .ret (ZI (sgn neg m)) := by
  rw [ref03_made_ok, ZI_made]

theorem len600 {x : Nat} (h : x < 4294967296 ^ 256) : (digs x).length ≤ 600 := Nat.le_trans (digs_len.2 h) (by omega)
theorem len2000 {x : Nat} (h : x < 4294967296 ^ 256) : (digs x).length ≤ 2000 := Nat.le_trans (digs_len.2 h) (by omega)

theorem ref03_Times_Z (a b : Bool) (m n : Nat) (hm : m < 4294967296 ^ 256) (hn : n < 4294967296 ^ 256) : F_ref03_Times [Z a m, Z b n] = .ret (ZI (sgn (!(a == b)) (m * n))) := by
  refine runP_rets (v := ZI (sgn (!(a == b)) (m * n))) ?_ (fun H => by simp)
  simp [B_ref03_Times, ref02_Product_ok m n (len600 hm) (len600 hn), ref03_made_I, ZI_def]
theorem sgn_mul (a b : Bool) (m n : Nat) : sgn (!(a == b)) (m * n) = sgn a m * sgn b n := by
  cases a <;> cases b <;> simp [sgn, Int.neg_mul, Int.mul_neg]
theorem ref03_Times_ok (a b : Int) (ha : fitI a) (hb : fitI b) : F_ref03_Times [ZI a, ZI b] = .ret (ZI (a * b)) := by
  refine Eq.trans (ref03_Times_Z _ _ _ _ ha hb) ?_
  rw [sgn_mul, sgn_self, sgn_self]

theorem ref03_Sum_Z (a b : Bool) (m n : Nat) (hm : m < 4294967296 ^ 256) (hn : n < 4294967296 ^ 256) : F_ref03_Sum [Z a m, Z b n] = .ret (ZI (sgn a m + sgn b n)) := by
  refine runP_rets (v := ZI (sgn a m + sgn b n)) ?_ (fun H => by simp)
  by_cases hs : a = b
  · subst hs
    have e : sgn a m + sgn a n = sgn a (m + n) := by cases a <;> simp [sgn] <;> omega
    rw [e]
    simp [B_ref03_Sum, ref02_Plus_ok m n (len2000 hm) (len2000 hn), ref03_made_I, ZI_def]
  · have hl := ref02_Less_ok m n (by have := len2000 hm; omega) (by have := len2000 hn; omega)
    by_cases hlt : m < n
    · have e : sgn a m + sgn b n = sgn b (n - m) := by cases a <;> cases b <;> simp_all [sgn] <;> omega
      rw [e]
      simp [B_ref03_Sum, hs, hl, hlt, ref02_Minus_ok n m (len2000 hn) (by omega), ref03_made_I, ZI_def]
    · have e : sgn a m + sgn b n = sgn a (m - n) := by cases a <;> cases b <;> simp_all [sgn] <;> omega
      rw [e]
      simp [B_ref03_Sum, hs, hl, hlt, ref02_Minus_ok m n (len2000 hm) (by omega), ref03_made_I, ZI_def]
theorem ref03_Sum_ok (a b : Int) (ha : fitI a) (hb : fitI b) : F_ref03_Sum [ZI a, ZI b] = .ret (ZI (a + b)) := by
  refine Eq.trans (ref03_Sum_Z _ _ _ _ ha hb) ?_
  rw [sgn_self, sgn_self]

theorem ref03_Neg_ok (a : Int) (ha : fitI a) : F_ref03_Neg [ZI a] = .ret (.tup [ZI (-a), I 0]) := by
  refine runP_rets (v := .tup [ZI (-a), I 0]) ?_ (fun H => by simp)
  have hr := ref03_Right_Z (okZI ha)
  have e : sgn (!decide (a < 0)) a.natAbs = -a := by
    by_cases h : a < 0
    · simp only [sgn, h, decide_true, Bool.not_true, Bool.false_eq_true, if_false]; omega
    · simp only [sgn, h, decide_false, Bool.not_false, if_true]; omega
  have hm := ref03_made_I (!decide (a < 0)) a.natAbs
  rw [e] at hm
  have hZ : ZI a = Z (decide (a < 0)) a.natAbs := rfl
  rw [hZ]
  generalize decide (a < 0) = c at *
  simp [B_ref03_Neg, hr, Z_def, hm]
  simp [ZI]

theorem ref03_fit_ok (a : Int) : F_ref03_fit [ZI a] = .ret (resI a) := by
  by_cases h : fitI a
  · refine runP_rets (v := resI a) ?_ (fun H => by simp)
    have hl : ¬ (256 : Int) < ((digs a.natAbs).length : Int) := by have := digs_len.2 h; omega
    simp [B_ref03_fit, hl, resI, h, ZI_def]
  · refine runP_rets (v := .tup [.agg [.bool false, .nilS], I 3]) ?_ (fun H => by simp [resI, h, ZI_zero, Z, N_zero])
    have hl : (256 : Int) < ((digs a.natAbs).length : Int) := by
      have : ¬ (digs a.natAbs).length ≤ 256 := fun hc => h (digs_len.1 hc)
      omega
    simp [B_ref03_fit, hl]

theorem ref03_gcd_run (st : St) (p : Nat) (hp : st.H p = some ⟨2, [.agg [.bool false, .nilS]]⟩) (m n : Nat) (hm : m < 4294967296 ^ 256) (hn : n < 4294967296 ^ 256) :
    Rets (.tup [Z false (Nat.gcd m n), I 0]) (iter fuel (fun self v => (L_ref03_Gcd_1 self v).run) [.ptr p 1 0 0, N m, N n] st) := by
  refine loop_ind (α := Nat × Nat) _ (fun a k v st' => ∃ x y, a = (x, y) ∧ v = [.ptr p 1 0 0, N x, N y] ∧ st' = st ∧ k = gcdM x y ∧ x < 4294967296 ^ 256 ∧ y < 4294967296 ^ 256 ∧ Nat.gcd x y = Nat.gcd m n) (fun r => Rets (.tup [Z false (Nat.gcd m n), I 0]) r) ?_ fuel (m, n) (gcdM m n) _ _
    ⟨m, n, rfl, rfl, rfl, rfl, hm, hn, rfl⟩ (by have := gcdM_bound hm hn; unfold fuel; omega)
  rintro _ k v st' ⟨x, y, rfl, rfl, rfl, rfl, hx, hy, hg⟩ self ih
  by_cases h0 : y = 0
  · subst h0
    rw [Nat.gcd_zero_right] at hg
    have hmd := ref03_made_ok false x
    simp only [Bool.false_and, hg] at hmd
    simp [L_ref03_Gcd_1, digs_zero, hg, hmd, hp, Z_def]
  · have hd := ref02_DivMod_ok x y hx hy (by omega)
    have hpos : 0 < (digs y).length := List.length_pos_iff.2 (digs_ne.2 h0)
    have hmod : x % y < y := Nat.mod_lt _ (by omega)
    simp [L_ref03_Gcd_1, hpos, hd]
    refine ih (y, x % y) _ _ _ (gcdM_lt h0) ⟨y, x % y, rfl, rfl, rfl, rfl, hy, by omega, ?_⟩
    rw [← hg, Nat.gcd_comm x y, Nat.gcd_rec y x, Nat.gcd_comm]
theorem ref03_Gcd_Z {a b : Bool} {m n : Nat} (ha : okZ a m) (hb : okZ b n) : F_ref03_Gcd [Z a m, Z b n] = .ret (.tup [Z false (Nat.gcd m n), I 0]) := by
  refine runP_rets (v := .tup [Z false (Nat.gcd m n), I 0]) ?_ (fun H => by simp)
  simp [B_ref03_Gcd, Z_def, ref03_Right_Z ha, ref03_Right_Z hb]
  exact ref03_gcd_run _ 2 (by simp) m n ha.1 hb.1

/-- Division without a rest, by a positive number. -/
theorem ref03_DivMod_exact {a : Bool} {q g : Nat} (ha : okZ a (q * g)) (hg : okZ false g) (h0 : g ≠ 0) : F_ref03_DivMod [Z a (q * g), Z false g] = .ret (.tup [Z a q, Z false 0, I 0]) := by
  refine runP_rets (v := .tup [Z a q, Z false 0, I 0]) ?_ (fun H => by simp)
  have hd := ref02_DivMod_ok (q * g) g ha.1 hg.1 (by omega)
  rw [Nat.mul_div_cancel _ (by omega), Nat.mul_mod_left] at hd
  have hne : digs g ≠ [] := digs_ne.2 h0
  have m1 := ref03_made_ok false q
  have m2 := ref03_made_ok false 0
  have m3 := ref03_made_ok true q
  have m4 := ref03_made_ok false 0
  cases a
  · simp only [Bool.false_and] at m1 m2
    simp [B_ref03_DivMod, ref03_Right_Z ha, ref03_Right_Z hg, Z_def, hne, hd, m1, m2, digs_zero]
  · have hq : q ≠ 0 := fun e => ha.2 rfl (by rw [e, Nat.zero_mul])
    have hq' : q < 4294967296 ^ 256 := Nat.lt_of_le_of_lt (Nat.le_mul_of_pos_right q (by omega)) ha.1
    have hf := ref03_fit_ok (sgn true q)
    rw [← ZI_sgn (neg := true) (fun _ => hq)] at hf
    have hr : resI (sgn true q) = .tup [Z true q, I 0] := by
      have : fitI (sgn true q) := by unfold fitI; rw [sgn_natAbs]; exact hq'
      simp [resI, this, ← ZI_sgn (neg := true) (fun _ => hq)]
    rw [hr] at hf
    simp only [hq, Bool.true_and, ne_eq, not_false_eq_true, decide_true, Bool.false_and] at m3 m4
    simp [B_ref03_DivMod, J_ref03_DivMod_1, ref03_Right_Z ha, ref03_Right_Z hg, Z_def, hne, hd, m3, m4, hf, digs_zero]

theorem callP_frz_dig2 {own : Option Nat} {mp : Bool} {F : List PV → PRes} {v : PV} {st : St} {id n : Nat} {xs : List Nat} (h : st.H id = some ⟨1, digV xs⟩) (hx : xs.length < 2 ^ 19) (hF : F [N n, .lst (digV xs)] = .ret v) :
    ∃ dd, callP true own mp F [N n, .sl id xs.length 0 xs.length] st = takeM own v ⟨upd st.H id none, st.nx, dd⟩ := by
  have hs : snapL st.H depth [N n, .sl id xs.length 0 xs.length] = some [N n, .lst (digV xs)] := by
    have e : snapF st.H 999998 (.sl id xs.length 0 xs.length) = some (.lst (digV xs)) := snap_sl_dig h (by omega)
    simp [e]
  have hi : idsL st.H depth [N n, .sl id xs.length 0 xs.length] = [id] := by
    have e : idsL st.H depth [N n, .sl id xs.length 0 xs.length] = [] ++ (idsF st.H 999998 (.sl id xs.length 0 xs.length) ++ []) := rfl
    have e2 : idsF st.H 999998 (.sl id xs.length 0 xs.length) = id :: (match st.H id with | some b => idsL st.H 999997 ((b.xs.drop 0).take xs.length) | none => []) := rfl
    rw [e, e2, h]
    simp only [List.drop_zero]
    rw [List.take_of_length_le (by simp), ids_dig]
    rfl
  unfold callP
  rw [hs]
  simp only [hF, noreL_cons, noref_sl, Bool.false_and, Bool.and_false, Bool.false_eq_true, if_false, if_true, hi]
  unfold kill
  rw [h]
  exact ⟨_, rfl⟩

theorem ref03_Of_ok (n : Int) (h1 : -9223372036854775808 ≤ n) (h2 : n ≤ 9223372036854775807) : F_ref03_Of [I n] = .ret (ZI n) := by
  refine runP_rets (v := ZI n) ?_ (fun H => by simp)
  by_cases hn : n < 0
  · have w1 : IntKind.i64.wrap (n + 1) = n + 1 := wrap64 _ (by omega) (by omega)
    have w2 : IntKind.i64.wrap (0 - (n + 1)) = 0 - (n + 1) := wrap64 _ (by omega) (by omega)
    have w3 : IntKind.u64.wrap (0 - (n + 1)) = ((n.natAbs - 1 : Nat) : Int) := by rw [wrapu64 _ (by omega) (by omega)]; omega
    have hof := ref02_Of_ok (n.natAbs - 1) (by omega)
    have hpl := ref02_Plus_ok (n.natAbs - 1) 1 (len2000 (by
      have : (4294967296 : Nat) ^ 2 ≤ 4294967296 ^ 256 := Nat.pow_le_pow_right (by omega) (by omega)
      omega)) (len2000 (by
      have : (4294967296 : Nat) ^ 2 ≤ 4294967296 ^ 256 := Nat.pow_le_pow_right (by omega) (by omega)
      omega))
    rw [show n.natAbs - 1 + 1 = n.natAbs by omega] at hpl
    have hmd := ref03_made_I true n.natAbs
    rw [show sgn true n.natAbs = n by simp [sgn]; omega] at hmd
    have hd1 : N 1 = .lst (digV [1]) := by rw [N, digs_small (by omega) (by omega)]
    rw [hd1] at hpl
    obtain ⟨dd, hc⟩ := callP_frz_dig2 (own := none) (mp := true) (F := F_ref02_Plus) (n := n.natAbs - 1) (xs := [1]) (id := 1)
      (st := ⟨upd (upd St.empty.H 0 (some ⟨2, [.agg [.bool false, .nilS]]⟩)) 1 (some ⟨1, [.int .u32 1]⟩), 2, St.empty.dead⟩) rfl (by simp) hpl
    have hbld : ∀ st, buildSliceM none 1 false (.int .u32 0) 1 [(0, .int .u32 1)] st = .ok (.sl st.nx 1 0 1) ⟨upd st.H st.nx (some ⟨1, [.int .u32 1]⟩), st.nx + 1, st.dead⟩ := fun st => build_one st 1 false (.int .u32 0) (.int .u32 1) (by simp) rfl (by omega)
    simp only [List.length_singleton] at hc
    simp only [B_ref03_Of, run_bnd, boxM_at, fits_agg, List.length_cons, List.length_nil, Nat.zero_add, beq_self_eq_true, if_true, thn_ok, cmp_lss, hn, decide_true, run_if, op_add, w1, un_neg, w2, conv_at, w3]
    rw [callP_eq (by simp) (by simp)]
    simp only [snapDL_cons, snap_cons, snap_nil, snap_int, snapDL_nil, Option.getD_some, hof, callK_ret, take_N, thn_ok, run_bnd, hbld]
    simp only [empty_nx, Nat.zero_add] at hc ⊢
    rw [hc]
    simp [hmd, ZI_def]
  · have e1 : IntKind.u64.wrap n = ((n.natAbs : Nat) : Int) := by rw [wrapu64 _ (by omega) (by omega)]; omega
    have hof := ref02_Of_ok n.natAbs (by omega)
    have hmd := ref03_made_I false n.natAbs
    rw [show sgn false n.natAbs = n by simp [sgn]; omega] at hmd
    simp [B_ref03_Of, hn, e1, hof, hmd, ZI_def]
    simp [ZI, Z, hn]

end Go.Abs
end
/-
  THE REFERENCE's FRACTIONS.
-/
section
set_option linter.unusedSimpArgs false
set_option linter.unusedVariables false
namespace Go.Abs
open Go

theorem ref04_one_ok {a : Bool} {m : Nat} (h : a = true → m ≠ 0) : F_ref04_one [Z a m] = .ret (.bool (decide (sgn a m = 1))) := by
  refine runP_rets (v := .bool (decide (sgn a m = 1))) ?_ (fun H => by simp)
  by_cases hm0 : m = 0
  · subst hm0
    cases a
    · simp [B_ref04_one, digs_zero, sgn]
    · exact absurd rfl (h rfl)
  · by_cases h1 : m < 4294967296
    · have hd := digs_small hm0 h1
      have i1 : ∀ st, idxM 1 (N m) (I 0) st = .ok (.cref (.int .u32 (m : Int)) 0) st := fun st => by rw [N, hd]; rfl
      cases a
      · have e : (sgn false m = 1) ↔ m = 1 := by simp [sgn]; omega
        have e2 : ((m : Int) = 1) ↔ m = 1 := by omega
        simp [B_ref04_one, hd, i1, e, e2]
      · have e : ¬ sgn true m = 1 := by simp [sgn]; omega
        simp [B_ref04_one, e]
    · have hl : ¬ ((digs m).length : Int) = 1 := fun e => by
        have : (digs m).length ≤ 1 := by omega
        have := digs_len.1 this
        omega
      have e : ¬ sgn a m = 1 := by cases a <;> simp [sgn] <;> omega
      have hl' : ¬ (digs m).length = 1 := by omega
      cases a <;> simp [B_ref04_one, hl, hl', e]

theorem ref04_Right_raw (a : Bool) (xs : List Nat) (b : Bool) (ys : List Nat) (hx : Dig xs) (hy : Dig ys) : F_ref04_Right [.agg [.bool a, .lst (digV xs), .bool b, .lst (digV ys)]] = .ret (.bool (rightQ a xs b ys)) := by
  refine runP_rets (v := .bool (rightQ a xs b ys)) ?_ (fun H => by simp)
  have r1 := ref03_Right_raw a xs
  have r2 := ref03_Right_raw b ys
  unfold rightQ
  cases k1 : rightI a xs with
  | false => rw [k1] at r1; simp [B_ref04_Right, r1]
  | true =>
    rw [k1] at r1
    cases k2 : rightI b ys with
    | false => rw [k2] at r2; simp [B_ref04_Right, r1, r2]
    | true =>
      rw [k2] at r2
      by_cases c1 : xs.length ≤ 64
      rotate_left
      · have c1' : (64 : Int) < (xs.length : Int) := by omega
        simp [B_ref04_Right, r1, r2, c1', c1]
      have c1' : ¬ (64 : Int) < (xs.length : Int) := by omega
      by_cases c2 : ys.length ≤ 64
      rotate_left
      · have c2' : (64 : Int) < (ys.length : Int) := by omega
        simp [B_ref04_Right, r1, r2, c1', c2', c2]
      have c2' : ¬ (64 : Int) < (ys.length : Int) := by omega
      cases b
      rotate_left
      · simp [B_ref04_Right, r1, r2, c1', c2']
      by_cases c3 : ys = []
      · subst c3
        simp [B_ref04_Right, r1, r2, c1', c2']
      · have k1' := k1
        have k2' := k2
        simp only [rightI, Bool.and_eq_true] at k1' k2'
        obtain ⟨e1, f1⟩ := okL_canon hx k1'.1
        obtain ⟨e2, f2⟩ := okL_canon hy k2'.1
        have z1 : okZ a (dval xs) := ⟨f1, fun ha => by
          have := k1'.2
          simp [ha] at this
          intro h0; rw [h0, digs_zero] at e1; exact this e1⟩
        have z2 : okZ false (dval ys) := ⟨f2, fun h => by cases h⟩
        have hg := ref03_Gcd_Z z1 z2
        have hi := ref04_one_ok (a := false) (m := Nat.gcd (dval xs) (dval ys)) (fun h => by cases h)
        have z3 : (PV.agg [.bool a, .lst (digV xs)]) = Z a (dval xs) := by unfold Z N; rw [← e1]
        have z4 : (PV.agg [.bool false, .lst (digV ys)]) = Z false (dval ys) := by unfold Z N; rw [← e2]
        have hsg : (sgn false (Nat.gcd (dval xs) (dval ys)) = 1) ↔ Nat.gcd (dval xs) (dval ys) = 1 := by simp [sgn]; omega
        rw [z3] at r1
        rw [z4] at r2
        simp [B_ref04_Right, r1, r2, c1', c2', c3, c1, c2, z3, z4, hg, Z_def, hi, hsg]

theorem ref04_Right_QV {q : Rat} (h : fit64 q) : F_ref04_Right [QV q] = .ret (.bool true) := by
  have := ref04_Right_raw (qs q) (digs (qm q)) false (digs q.den) (dig_digs _) (dig_digs _)
  rw [rightQ_QV h] at this
  exact this
theorem ref04_Right_Q0 : F_ref04_Right [Q0] = .ret (.bool false) := by
  have := ref04_Right_raw false [] false [] Dig.nil Dig.nil
  rw [show rightQ false [] false [] = false by simp [rightQ]] at this
  rw [Q0, Qz, N_zero]
  exact this

/-! ### a fraction in lowest terms -/
theorem ref04_made_Z {a b : Bool} {m n : Nat} (ha : okZ a m) (hb : okZ b n) (h0 : n ≠ 0) : F_ref04_made [Z a m, Z b n] = .ret (mkQ a m b n) := by
  have hg := ref03_Gcd_Z ha hb
  have hgp : 0 < Nat.gcd m n := Nat.gcd_pos_of_pos_right m (by omega)
  have hgn : Nat.gcd m n ≤ n := Nat.gcd_le_right m (by omega)
  have hgf : okZ false (Nat.gcd m n) := ⟨by have := hb.1; omega, fun h => by cases h⟩
  have e1 : m / Nat.gcd m n * Nat.gcd m n = m := Nat.div_mul_cancel (Nat.gcd_dvd_left m n)
  have e2 : n / Nat.gcd m n * Nat.gcd m n = n := Nat.div_mul_cancel (Nat.gcd_dvd_right m n)
  have d1 := ref03_DivMod_exact (a := a) (q := m / Nat.gcd m n) (g := Nat.gcd m n) (by rw [e1]; exact ha) hgf (by omega)
  have d2 := ref03_DivMod_exact (a := b) (q := n / Nat.gcd m n) (g := Nat.gcd m n) (by rw [e2]; exact hb) hgf (by omega)
  rw [e1] at d1
  rw [e2] at d2
  have hn0 : n / Nat.gcd m n ≠ 0 := fun e => by rw [e, Nat.zero_mul] at e2; omega
  have hm0 : m / Nat.gcd m n = 0 → m = 0 := fun e => by rw [e, Nat.zero_mul] at e1; omega
  have fm : m / Nat.gcd m n < 4294967296 ^ 256 := Nat.lt_of_le_of_lt (Nat.div_le_self _ _) ha.1
  have fn : n / Nat.gcd m n < 4294967296 ^ 256 := Nat.lt_of_le_of_lt (Nat.div_le_self _ _) hb.1
  have sa : a = true → m / Nat.gcd m n ≠ 0 := fun h e => ha.2 h (hm0 e)
  unfold mkQ
  generalize m / Nat.gcd m n = x at *
  generalize n / Nat.gcd m n = y at *
  generalize Nat.gcd m n = gg at *
  have n1 : b = true → F_ref03_Neg [Z a x] = .ret (.tup [Z (!a && decide (x ≠ 0)) x, I 0]) := fun _ => by
    have := ref03_Neg_ok (sgn a x) (by unfold fitI; rw [sgn_natAbs]; exact fm)
    rw [← ZI_sgn sa] at this
    rw [this, ZI_made]
    congr 4
    cases a <;> simp [sgn]
  have n2 : b = true → F_ref03_Neg [Z b y] = .ret (.tup [Z false y, I 0]) := fun h => by
    subst h
    have := ref03_Neg_ok (sgn true y) (by unfold fitI; rw [sgn_natAbs]; exact fn)
    rw [← ZI_sgn (fun _ => hn0)] at this
    rw [this, ← ZI_nat]
    simp [sgn]
  by_cases hf : x < 4294967296 ^ 64 ∧ y < 4294967296 ^ 64
  · rw [if_pos hf, if_pos hf]
    have lx : ¬ (64 : Int) < ((digs x).length : Int) := by have := digs_len.2 hf.1; omega
    have ly : ¬ (64 : Int) < ((digs y).length : Int) := by have := digs_len.2 hf.2; omega
    have hs : (!(a == b) && decide (x ≠ 0)) = if b = true then (!a && decide (x ≠ 0)) else a := by
      cases b
      · cases a
        · rfl
        · simp [sa rfl]
      · cases a <;> simp
    rw [hs]
    refine runP_rets (v := .tup [Qz (if b = true then (!a && decide (x ≠ 0)) else a) x false y, I 0]) ?_ (fun H => by simp)
    cases b
    · simp [B_ref04_made, J_ref04_made_1, hg, d1, d2, lx, ly, Z_def, Qz_def]
    · have n1 := n1 rfl
      have n2 := n2 rfl
      generalize (!a && decide (x ≠ 0)) = s at *
      simp [B_ref04_made, J_ref04_made_1, hg, d1, d2, lx, ly, n1, n2, Z_def, Qz_def]
  · rw [if_neg hf, if_neg hf]
    refine runP_rets (v := .tup [.agg [.bool false, .nilS, .bool false, .nilS], I 3]) ?_ (fun H => by simp [Qz, N_zero])
    have hl : (64 : Int) < ((digs x).length : Int) ∨ (¬ (64 : Int) < ((digs x).length : Int) ∧ (64 : Int) < ((digs y).length : Int)) := by
      by_cases h1 : x < 4294967296 ^ 64
      · have h2 : ¬ y < 4294967296 ^ 64 := fun h2 => hf ⟨h1, h2⟩
        have : ¬ (digs y).length ≤ 64 := fun hc => h2 (digs_len.1 hc)
        omega
      · have : ¬ (digs x).length ≤ 64 := fun hc => h1 (digs_len.1 hc)
        omega
    cases b
    · rcases hl with h | ⟨h', h⟩ <;> simp [B_ref04_made, J_ref04_made_1, hg, d1, d2, *, Z_def, Qz_def]
    · have n1 := n1 rfl
      have n2 := n2 rfl
      generalize (!a && decide (x ≠ 0)) = s at *
      rcases hl with h | ⟨h', h⟩ <;> simp [B_ref04_made, J_ref04_made_1, hg, d1, d2, *, n1, n2, Z_def, Qz_def]

theorem ref04_made_ok (x y : Int) (hx : fitI x) (hy : fitI y) (h0 : y ≠ 0) : F_ref04_made [ZI x, ZI y] = .ret (resQ (Rat.divInt x y)) := by
  have := ref04_made_Z (okZI hx) (okZI hy) (by omega)
  rw [mkQ_rat (okZI hx).2 (okZI hy).2 (by omega), sgn_self, sgn_self] at this
  exact this

end Go.Abs
end
/-
  THE REFERENCE's FRACTIONS: their arithmetic.
-/
section
set_option linter.unusedSimpArgs false
set_option linter.unusedVariables false
namespace Go.Abs
open Go

theorem ref04_Mul_ok {a b : Rat} (ha : fit64 a) (hb : fit64 b) : F_ref04_Mul [QV a, QV b] = .ret (resQ (a * b)) := by
  have t1 := ref03_Times_ok _ _ (fit_num ha) (fit_num hb)
  have t2 := ref03_Times_ok _ _ (fit_den ha) (fit_den hb)
  have o := ref04_made_ok _ _ (fit_nn ha hb) (fit_dd ha hb) (Int.mul_ne_zero (den_ne a) (den_ne b))
  have e : Rat.divInt (a.num * b.num) ((a.den : Int) * b.den) = a * b := by
    rw [← Int.natCast_mul, Rat.divInt_ofNat, Rat.mul_def]
    exact (Rat.normalize_eq_mkRat _).symm
  rw [e] at o
  rw [ZI_num, ZI_num] at t1
  rw [ZI_nat, ZI_nat] at t2
  have r1 := ref04_Right_QV ha
  have r2 := ref04_Right_QV hb
  obtain ⟨s, k, s', k', er, he⟩ := resQ_form (a * b)
  rw [he] at o ⊢
  unfold ZI at t1 t2 o
  generalize decide (a.num * b.num < 0) = s1 at *
  generalize (a.num * b.num).natAbs = k1 at *
  generalize decide ((a.den : Int) * b.den < 0) = s3 at *
  generalize ((a.den : Int) * b.den).natAbs = k3 at *
  have r1' : F_ref04_Right [Qz (qs a) (qm a) false a.den] = .ret (.bool true) := r1
  have r2' : F_ref04_Right [Qz (qs b) (qm b) false b.den] = .ret (.bool true) := r2
  refine runP_rets (v := .tup [Qz s k s' k', I er]) ?_ (fun H => by simp)
  simp [B_ref04_Mul, Z_def, Qz_def, r1', r2', t1, t2, o]

theorem ref04_Add_ok {a b : Rat} (ha : fit64 a) (hb : fit64 b) : F_ref04_Add [QV a, QV b] = .ret (resQ (a + b)) := by
  have t1 := ref03_Times_ok _ _ (fit_num ha) (fit_den hb)
  have t2 := ref03_Times_ok _ _ (fit_num hb) (fit_den ha)
  have t3 := ref03_Times_ok _ _ (fit_den ha) (fit_den hb)
  have p := ref03_Sum_ok _ _ (fit_nd ha hb) (fit_nd hb ha)
  have o := ref04_made_ok _ _ (fit_sum ha hb) (fit_dd ha hb) (Int.mul_ne_zero (den_ne a) (den_ne b))
  have e : Rat.divInt (a.num * b.den + b.num * a.den) ((a.den : Int) * b.den) = a + b := by
    rw [← Int.natCast_mul, Rat.divInt_ofNat, Rat.add_def']
  rw [e] at o
  rw [ZI_num, ZI_nat] at t1 t2
  rw [ZI_nat, ZI_nat] at t3
  have r1 := ref04_Right_QV ha
  have r2 := ref04_Right_QV hb
  obtain ⟨s, k, s', k', er, he⟩ := resQ_form (a + b)
  rw [he] at o ⊢
  unfold ZI at t1 t2 t3 p o
  generalize decide (a.num * b.den < 0) = s1 at *
  generalize (a.num * b.den).natAbs = k1 at *
  generalize decide (b.num * a.den < 0) = s2 at *
  generalize (b.num * a.den).natAbs = k2 at *
  generalize decide ((a.den : Int) * b.den < 0) = s3 at *
  generalize ((a.den : Int) * b.den).natAbs = k3 at *
  generalize decide (a.num * b.den + b.num * a.den < 0) = s4 at *
  generalize (a.num * b.den + b.num * a.den).natAbs = k4 at *
  have r1' : F_ref04_Right [Qz (qs a) (qm a) false a.den] = .ret (.bool true) := r1
  have r2' : F_ref04_Right [Qz (qs b) (qm b) false b.den] = .ret (.bool true) := r2
  refine runP_rets (v := .tup [Qz s k s' k', I er]) ?_ (fun H => by simp)
  simp [B_ref04_Add, Z_def, Qz_def, r1', r2', t1, t2, t3, p, o]

theorem ref04_Neg_ok {a : Rat} (ha : fit64 a) : F_ref04_Neg [QV a] = .ret (.tup [QV (-a), I 0]) := by
  have n := ref03_Neg_ok _ (fit_num ha)
  have e : ZI (-a.num) = Z (qs (-a)) (qm (-a)) := by rw [← ZI_num, Rat.neg_num]
  rw [ZI_num, e] at n
  have r1 := ref04_Right_QV ha
  have r1' : F_ref04_Right [Qz (qs a) (qm a) false a.den] = .ret (.bool true) := r1
  have hq : QV (-a) = Qz (qs (-a)) (qm (-a)) false a.den := by rw [QV, Rat.neg_den]
  rw [hq]
  refine runP_rets (v := .tup [Qz (qs (-a)) (qm (-a)) false a.den, I 0]) ?_ (fun H => by simp)
  generalize qs (-a) = s at *
  generalize qm (-a) = k at *
  simp [B_ref04_Neg, Z_def, Qz_def, r1', n]

theorem ref04_Of_ok (n : Int) (h1 : -9223372036854775808 ≤ n) (h2 : n ≤ 9223372036854775807) : F_ref04_Of [I n] = .ret (QV (n : Rat)) := by
  have o1 := ref03_Of_ok n h1 h2
  have o2 := ref03_Of_ok 1 (by omega) (by omega)
  have e : QV (n : Rat) = Qz (decide (n < 0)) n.natAbs false 1 := rfl
  rw [e]
  have e2 : ZI 1 = Z false 1 := rfl
  rw [e2] at o2
  unfold ZI at o1
  generalize decide (n < 0) = s at *
  generalize n.natAbs = k at *
  refine runP_rets (v := Qz s k false 1) ?_ (fun H => by simp)
  simp [B_ref04_Of, Z_def, Qz_def, o1, o2]

/-! ### what is no fraction stays none -/
theorem Q0_agg : PV.agg [.bool false, .nilS, .bool false, .nilS] = .agg [.bool false, .nilS, .bool false, .nilS] := rfl
theorem ref04_Right_Q0' : F_ref04_Right [Qz false 0 false 0] = .ret (.bool false) := ref04_Right_Q0
theorem ref04_Mul_Q0 (v : PV) (hv : fitsE 4 v = true) (a : Bool) (m : Nat) (b : Bool) (n : Nat) (e : v = Qz a m b n) : F_ref04_Mul [Q0, v] = .ret (.tup [Q0, I 2]) := by
  subst e
  refine runP_rets (v := .tup [.agg [.bool false, .nilS, .bool false, .nilS], I 2]) ?_ (fun H => by simp [Q0, Qz, N_zero])
  simp [B_ref04_Mul, Q0, Qz_def, ref04_Right_Q0']
theorem ref04_Add_Q0l (a : Bool) (m : Nat) (b : Bool) (n : Nat) : F_ref04_Add [Q0, Qz a m b n] = .ret (.tup [Q0, I 2]) := by
  refine runP_rets (v := .tup [.agg [.bool false, .nilS, .bool false, .nilS], I 2]) ?_ (fun H => by simp [Q0, Qz, N_zero])
  simp [B_ref04_Add, Q0, Qz_def, ref04_Right_Q0']
theorem ref04_Add_Q0r {a : Rat} (ha : fit64 a) : F_ref04_Add [QV a, Q0] = .ret (.tup [Q0, I 2]) := by
  have r1' : F_ref04_Right [Qz (qs a) (qm a) false a.den] = .ret (.bool true) := ref04_Right_QV ha
  refine runP_rets (v := .tup [.agg [.bool false, .nilS, .bool false, .nilS], I 2]) ?_ (fun H => by simp [Q0, Qz, N_zero])
  simp [B_ref04_Add, Q0, Qz_def, r1', ref04_Right_Q0']
theorem ref04_Neg_Q0 : F_ref04_Neg [Q0] = .ret (.tup [Q0, I 2]) := by
  refine runP_rets (v := .tup [.agg [.bool false, .nilS, .bool false, .nilS], I 2]) ?_ (fun H => by simp [Q0, Qz, N_zero])
  simp [B_ref04_Neg, Q0, Qz_def, ref04_Right_Q0']

/-! ### sameness -/
theorem ref03_Same_ok (a : Bool) (xs : List Nat) (b : Bool) (ys : List Nat) (hx : xs.length < 2 ^ 50) : F_ref03_Same [.agg [.bool a, .lst (digV xs)], .agg [.bool b, .lst (digV ys)]] = .ret (.bool (decide (a = b ∧ xs = ys))) := by
  refine runP_rets (v := .bool (decide (a = b ∧ xs = ys))) ?_ (fun H => by simp)
  have h := ref02_Same_ok xs ys hx
  by_cases e : a = b
  · subst e; simp [B_ref03_Same, h]
  · simp [B_ref03_Same, e]
theorem ref04_Same_self (a : Bool) (xs : List Nat) (b : Bool) (ys : List Nat) (hx : xs.length < 2 ^ 50) (hy : ys.length < 2 ^ 50) :
    F_ref04_Same [.agg [.bool a, .lst (digV xs), .bool b, .lst (digV ys)], .agg [.bool a, .lst (digV xs), .bool b, .lst (digV ys)]] = .ret (.bool true) := by
  refine runP_rets (v := .bool true) ?_ (fun H => by simp)
  have h1 := ref03_Same_ok a xs a xs hx
  have h2 := ref03_Same_ok b ys b ys hy
  simp at h1 h2
  simp [B_ref04_Same, h1, h2]

end Go.Abs
end
