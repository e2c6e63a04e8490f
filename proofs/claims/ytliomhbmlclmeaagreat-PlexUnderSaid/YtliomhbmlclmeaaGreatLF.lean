/-
  Joined from: S1 S2 S3.
-/
import Derived.Test.YtliomhbmlclmeaaGreatLE
/-
  THE REFERENCE's NATURAL NUMBERS: buffers, trim, Of, Less, Plus, Minus.
-/
section
set_option linter.unusedSimpArgs false
set_option linter.unusedVariables false
namespace Go.Abs
open Go

/-! ### buffers that start as nil -/
/-- A slice that is built by append. -/
def Buf (esz : Nat) (st : St) (v : PV) (xs : List PV) : Prop := (v = .nilS ∧ xs = []) ∨ ∃ id, v = .sl id xs.length 0 xs.length ∧ st.H id = some ⟨esz, xs⟩ ∧ id < st.nx
theorem Buf.nil (esz : Nat) (st : St) : Buf esz st .nilS [] := .inl ⟨rfl, rfl⟩

theorem append_nil_sl (st : St) (esz bytes j : Nat) (ys : List PV) (h2 : st.H j = some ⟨esz, ys⟩) (he : 0 < esz) (hb : bytes ≤ mostBytes) (hy : ys.length ≤ mostLen) (hf : ys.all (fitsA esz) = true) (hne : ys ≠ []) :
    appendM esz bytes .nilS (.sl j ys.length 0 ys.length) st = .ok (.sl st.nx ys.length 0 ys.length) ⟨upd st.H st.nx (some ⟨esz, ys⟩), st.nx + 1, st.dead⟩ := by
  have h0 : ¬ ys.length = 0 := by have := List.length_pos_iff.2 hne; omega
  simp only [appendM, elems, h2, Nat.zero_add, Nat.le_refl, and_true, if_true, true_and, he, hb, hy, hf, List.drop_zero, List.take_length, h0, if_false]

theorem Buf.push {st : St} {esz bytes : Nat} {ag : Bool} {z v x : PV} {xs : List PV} (hv : Buf esz st v xs) (h : fitsA esz x = true) (ha : ag = isAggV x) (hs : esz ≤ 2 ^ 24) (he : 0 < esz) (hb : bytes ≤ mostBytes) (hx : xs.length ≤ mostLen)
    (k : PV → Prog) : ∃ st' v', (Prog.bnd (buildSliceM none esz ag z 1 [(0, x)]) fun t => Prog.bnd (appendM esz bytes v t) k).run st = (k v').run st' ∧
      Buf esz st' v' (xs ++ [x]) ∧ st.nx ≤ st'.nx ∧ (∀ j, j < st.nx → v ≠ .sl j xs.length 0 xs.length → st'.H j = st.H j) ∧ st'.dead = st.dead ∧ (∀ j n, v' = .sl j n 0 n → v ≠ .sl j xs.length 0 xs.length → st.nx ≤ j) := by
  rcases hv with ⟨rfl, rfl⟩ | ⟨id, rfl, h1, hid⟩
  · have hfit : fitsE esz x = true := by
      simp only [fitsA, Bool.and_eq_true] at h; simp only [fitsE, Bool.and_eq_true]; exact h.1
    rw [run_bnd, build_one st esz ag z x hfit ha hs, thn_ok, run_bnd]
    have := append_nil_sl ⟨upd st.H st.nx (some ⟨esz, [x]⟩), st.nx + 1, st.dead⟩ esz bytes st.nx [x] (by simp) he hb (by simp [mostLen]) (by simp [h]) (by simp)
    simp only [List.length_singleton] at this
    rw [this, thn_ok]
    refine ⟨_, _, rfl, .inr ⟨st.nx + 1, rfl, by simp, by simp⟩, by simp; omega, fun j hj _ => ?_, rfl, fun j n hj _ => ?_⟩
    · have m1 : ¬ j = st.nx := by omega
      have m2 : ¬ j = st.nx + 1 := by omega
      simp [m1, m2]
    · cases hj; omega
  · obtain ⟨st', e1, e2, e3, e4, e5⟩ := push_run st esz bytes ag z x id xs h1 hid h ha hs he hb hx k
    refine ⟨st', _, e1, .inr ⟨id, by simp, e2, by omega⟩, by omega, fun j hj hne => e4 j hj (fun e => hne (by rw [e])), e5, fun j n hj hne => ?_⟩
    cases hj; exact absurd rfl hne
theorem Buf.snap {st : St} {esz : Nat} {v : PV} {xs ys : List PV} (hv : Buf esz st v xs) {d : Nat} (hs : snapL st.H d xs = some ys) : snapF st.H (d + 1) v = some (.lst ys) := by
  rcases hv with ⟨rfl, rfl⟩ | ⟨id, rfl, h1, hid⟩
  · cases d with
    | zero => simp [snapL] at hs
    | succ d => cases hs; rfl
  · unfold snapF
    simp only [h1, Nat.zero_add, Nat.le_refl, and_self, if_true, List.drop_zero, List.take_length, hs]
    rfl
theorem Buf.frz {st : St} {esz : Nat} {v w : PV} {xs ys : List PV} (hv : Buf esz st v xs) (hs : snapL st.H 999998 xs = some ys) {own : Option Nat} {mp : Bool} {F : List PV → PRes} (hF : F [.lst ys] = .ret w) : ∃ st', callP true own mp F [v] st = takeM own w st' := by
  refine callP_frz (as_ := [.lst ys]) ?_ hF
  rw [snapDL_cons, hv.snap (d := 999998) hs]
  rfl
/-- A buffer of digits, given to a function. -/
theorem Buf.frz_dig {st : St} {v w : PV} {xs : List Nat} (hv : Buf 1 st v (digV xs)) (hx : xs.length < 2 ^ 19) {own : Option Nat} {mp : Bool} {F : List PV → PRes} (hF : F [.lst (digV xs)] = .ret w) : ∃ st', callP true own mp F [v] st = takeM own w st' :=
  hv.frz (digV_snap _ xs _ (by omega)) hF
theorem Buf.snap_dig {st : St} {v : PV} {xs : List Nat} (hv : Buf 1 st v (digV xs)) (hx : xs.length < 2 ^ 19) : snapF st.H depth v = some (.lst (digV xs)) :=
  hv.snap (d := 999999) (digV_snap _ xs _ (by omega))

/-! ### the reference's -/
theorem ref02_Right_eq : F_ref02_Right = F_nat_Right := rfl

theorem ref02_copy (xs : List Nat) (n : Nat) (hn : n ≤ xs.length) (hx : xs.length ≤ 5000) (st : St) : ∃ v st', iter fuel (fun self v => (L_ref02_trim_1 self v).run) [.lst (digV xs), I n, .nilS, I 0] st = .ok v st' ∧ Buf 1 st' v (digV (xs.take n)) := by
  refine loop_ind (α := Nat) _ (fun i k w st' => ∃ v, w = [.lst (digV xs), I n, v, I i] ∧ k = n - i ∧ i ≤ n ∧ Buf 1 st' v (digV (xs.take i))) (fun r => ∃ v st', r = .ok v st' ∧ Buf 1 st' v (digV (xs.take n))) ?_ fuel 0 n _ _ ⟨.nilS, by simp, by omega, by omega, by simpa [digV] using Buf.nil 1 st⟩ (by unfold fuel; omega)
  rintro i k w st' ⟨v, rfl, rfl, hi, hb⟩ self ih
  by_cases hlt : i < n
  · have hlt' : (i : Int) < (n : Int) := by omega
    have d1 := idx_dig st' xs i (by omega)
    have hw : IntKind.i64.wrap ((i : Int) + 1) = ((i + 1 : Nat) : Int) := by rw [wrap64] <;> omega
    have t1 : xs.take (i + 1) = xs.take i ++ [xs[i]'(by omega)] := by rw [List.take_add_one, List.getElem?_eq_getElem (by omega)]; rfl
    simp only [L_ref02_trim_1, run_bnd, g_zero, g_succ, cmp_lss, hlt', decide_true, thn_ok, run_if, if_true, d1, load_cell]
    obtain ⟨st2, v2, e1, e2, e3, _⟩ := hb.push (bytes := 4) (ag := false) (z := .int .u32 0) (x := .int .u32 ((xs[i]'(by omega) : Nat) : Int)) rfl rfl (by omega) (by omega) (by simp [mostBytes]) (by simp [mostLen]; omega)
      (fun t19 => .bnd (binM .add ty_int (I i) (I 1)) fun t20 => .leaf (self [.lst (digV xs), I n, t19, t20]))
    simp only [run_bnd] at e1
    rw [e1]
    simp only [op_add, hw, thn_ok, run_leaf]
    refine ih (i + 1) (n - (i + 1)) _ st2 (by omega) ⟨v2, rfl, rfl, by omega, ?_⟩
    rw [t1, digV_app]; exact e2
  · have : i = n := by omega
    subst this
    have hlt' : ¬ (i : Int) < (i : Int) := by omega
    simp only [L_ref02_trim_1, run_bnd, g_zero, g_succ, cmp_lss, hlt', decide_false, thn_ok, run_if, Bool.false_eq_true, if_false, run_leaf, ret_at]
    exact ⟨v, st', rfl, hb⟩

theorem ref02_trim_ok (xs : List Nat) (hx : xs.length ≤ 5000) (hd : Dig xs) : F_ref02_trim [.lst (digV xs)] = .ret (N (dval xs)) := by
  have key : ∃ v st', (B_ref02_trim [.lst (digV xs)]).run St.empty = .ok v st' ∧ Buf 1 st' v (digV (digs (dval xs))) := by
    simp only [B_ref02_trim, run_bnd, len_lst, digV_length, thn_ok, run_loop]
    refine loop_ind (α := Nat) _ (fun n k w st' => w = [.lst (digV xs), I n] ∧ k = n ∧ n ≤ xs.length ∧ dval (xs.take n) = dval xs) (fun r => ∃ v st', r = .ok v st' ∧ Buf 1 st' v (digV (digs (dval xs)))) ?_ fuel xs.length xs.length _ _ ⟨rfl, rfl, by omega, by rw [List.take_length]⟩ (by unfold fuel; omega)
    rintro n k w st' ⟨rfl, rfl, hn, hv⟩ self ih
    -- where it stops
    have stop : (∀ h : xs.take k ≠ [], (xs.take k).getLast h ≠ 0) → ∃ v st2, iter fuel (fun self v => (L_ref02_trim_1 self v).run) [.lst (digV xs), I k, .nilS, I 0] st' = .ok v st2 ∧ Buf 1 st2 v (digV (digs (dval xs))) := by
      intro hc
      obtain ⟨v, st2, h1, h2⟩ := ref02_copy xs k hn hx st'
      rw [← hv, digs_of_canon (hd.take k) hc]
      exact ⟨v, st2, h1, h2⟩
    cases k with
    | zero =>
      simp [L_ref02_trim_2]
      exact stop (fun h => absurd rfl h)
    | succ n =>
      have hgt : (0 : Int) < ((n + 1 : Nat) : Int) := by omega
      have hw : IntKind.i64.wrap (((n + 1 : Nat) : Int) - 1) = (n : Int) := by rw [wrap64] <;> omega
      have d1 := idx_dig st' xs n (by omega)
      have t1 : xs.take (n + 1) = xs.take n ++ [xs[n]'(by omega)] := by rw [List.take_add_one, List.getElem?_eq_getElem (by omega)]; rfl
      simp only [L_ref02_trim_2, run_bnd, g_zero, g_succ, cmp_gtr, hgt, decide_true, thn_ok, guardM_tt, if_true, ret_at, op_sub, hw, d1, load_cell, cmp_eql, pickM_at, run_if]
      by_cases h0 : xs[n]'(by omega) = 0
      · have h0' : ((xs[n]'(by omega) : Nat) : Int) = 0 := by omega
        simp only [h0', decide_true, if_true, run_bnd, op_sub, hw, thn_ok, run_leaf]
        refine ih n n _ st' (by omega) ⟨rfl, rfl, by omega, ?_⟩
        rw [← hv, t1, h0, dval_snoc]; simp
      · have h0' : ¬ ((xs[n]'(by omega) : Nat) : Int) = 0 := by omega
        simp only [h0', decide_false, Bool.false_eq_true, if_false, run_loop]
        refine stop (fun h => ?_)
        simp only [t1, List.getLast_concat]
        exact h0
  obtain ⟨v, st', h1, h2⟩ := key
  have hl : (digs (dval xs)).length ≤ xs.length := digs_len.2 (dval_lt hd)
  exact runP_ret h1 (h2.snap_dig (by omega))

theorem ref02_Of_ok (n : Nat) (h : n < 18446744073709551616) : F_ref02_Of [.int .u64 n] = .ret (N n) := by
  refine runP_rets (v := N n) ?_ (fun H => snapD_lst _ _)
  have e1 : IntKind.u32.wrap ((n : Int).tmod 4294967296) = ((n % 4294967296 : Nat) : Int) := by
    rw [show (n : Int).tmod 4294967296 = ((n % 4294967296 : Nat) : Int) from Int.ofNat_tmod _ _, IntKind.wrap_u32]; omega
  have e2 : IntKind.u64.wrap ((n : Int).tdiv 4294967296) = ((n / 4294967296 : Nat) : Int) := by
    rw [show (n : Int).tdiv 4294967296 = ((n / 4294967296 : Nat) : Int) from Int.ofNat_tdiv _ _, wrapu64] <;> omega
  have e4 : IntKind.u32.wrap ((n / 4294967296 : Nat) : Int) = ((n / 4294967296 : Nat) : Int) := wrapu32 _ (by omega) (by omega)
  simp only [B_ref02_Of, run_bnd, op_rem _ _ _ _ 4294967296 (by omega), op_quo _ _ _ _ 4294967296 (by omega), conv_at, thn_ok, e1, e2, e4]
  rw [build_two St.empty 1 false (.int .u32 0) (.int .u32 ((n % 4294967296 : Nat) : Int)) (.int .u32 ((n / 4294967296 : Nat) : Int)) rfl rfl rfl rfl (by omega)]
  simp only [thn_ok, run_bnd]
  have hd : Dig [n % 4294967296, n / 4294967296] := Dig.cons (by omega) (Dig.cons (by omega) Dig.nil)
  have hv : dval [n % 4294967296, n / 4294967296] = n := by simp only [dval]; omega
  have ht := ref02_trim_ok [n % 4294967296, n / 4294967296] (by simp) hd
  rw [hv] at ht
  obtain ⟨st', hc⟩ := callP_frz (own := none) (mp := true) (args := [PV.sl 0 2 0 2]) (st := ⟨upd St.empty.H 0 (some ⟨1, digV [n % 4294967296, n / 4294967296]⟩), 1, St.empty.dead⟩)
    (snapL_sl_dig (xs := [n % 4294967296, n / 4294967296]) (id := 0) (sz := 1) (by simp) (by simp)) ht
  have hc' : callP true none true F_ref02_trim [PV.sl St.empty.nx 2 0 2] ⟨upd St.empty.H St.empty.nx (some ⟨1, [PV.int .u32 ((n % 4294967296 : Nat) : Int), PV.int .u32 ((n / 4294967296 : Nat) : Int)]⟩), St.empty.nx + 1, St.empty.dead⟩ = takeM none (N n) st' := hc
  rw [hc']
  simp

theorem ref02_digit_ok (xs : List Nat) (hd : Dig xs) (i : Nat) : F_ref02_digit [.lst (digV xs), I i] = .ret (.int .u64 ((xs.getD i 0 : Nat) : Int)) := by
  refine runP_rets (v := .int .u64 ((xs.getD i 0 : Nat) : Int)) ?_ (fun H => snapD_int _ _ _)
  have h0 : (0 : Int) ≤ (i : Int) := by omega
  by_cases h : i < xs.length
  · have h' : (i : Int) < (xs.length : Int) := by omega
    have d1 := idx_dig St.empty xs i h
    have hx := hd.at h
    have e : xs[i] = xs.getD i 0 := by simp [h]
    rw [e] at d1 hx
    generalize xs.getD i 0 = x at *
    simp only [B_ref02_digit, run_bnd, cmp_geq, h0, decide_true, thn_ok, guardM_tt, if_true, ret_at, len_lst, digV_length, cmp_lss, h', pickM_at, run_if, d1, load_cell, conv_u64 _ _ x (by omega), run_leaf, rets_ok]
  · have h' : ¬ (i : Int) < (xs.length : Int) := by omega
    have e : xs.getD i 0 = 0 := by simp [h]
    rw [e]
    simp [B_ref02_digit, h0, h']

theorem ref02_Plus_ok (a b : Nat) (la : (digs a).length ≤ 2000) (lb : (digs b).length ≤ 2000) : F_ref02_Plus [N a, N b] = .ret (N (a + b)) := by
  refine runP_rets (v := N (a + b)) ?_ (fun H => snapD_lst _ _)
  simp only [B_ref02_Plus, run_loop]
  have hmax : ∀ st, ∃ m : Nat, (opt (maxI [I ((digs a).length : Int), I ((digs b).length : Int)])) st = .ok (I (m : Int)) st ∧ m = max (digs a).length (digs b).length := fun st => by
    refine ⟨max (digs a).length (digs b).length, ?_, rfl⟩
    simp only [maxI, intOnly, List.foldl, maxStep, if_true, opt]
    show Res.ok _ _ = _
    congr 2
    split <;> omega
  refine loop_ind (α := Nat × Nat × List Nat) _ (fun x k w st' => ∃ i c out v, x = (i, c, out) ∧ w = [N a, N b, v, .int .u64 (c : Int), I i] ∧ k = max (digs a).length (digs b).length + 1 - i ∧ i ≤ max (digs a).length (digs b).length + 1 ∧ c ≤ 1 ∧ Dig out ∧ out.length = i ∧ Buf 1 st' v (digV out) ∧
      dval out + 4294967296 ^ i * (c + (dval ((digs a).drop i) + dval ((digs b).drop i))) = a + b) (fun r => Rets (N (a + b)) r) ?_ fuel (0, 0, []) (max (digs a).length (digs b).length + 1) _ _
    ⟨0, 0, [], .nilS, rfl, rfl, by omega, by omega, by omega, Dig.nil, rfl, Buf.nil _ _, by simp [dval, dval_digs]⟩ (by unfold fuel; omega)
  rintro _ k w st' ⟨i, c, out, v, rfl, rfl, rfl, hi, hc, hdo, hlo, hb, hv⟩ self ih
  obtain ⟨m, hm1, hm2⟩ := hmax st'
  have w1 : IntKind.i64.wrap ((m : Int) + 1) = ((m + 1 : Nat) : Int) := by rw [wrap64] <;> omega
  by_cases hlt : i < max (digs a).length (digs b).length + 1
  · have hlt' : (i : Int) < ((m + 1 : Nat) : Int) := by omega
    have hw : IntKind.i64.wrap ((i : Int) + 1) = ((i + 1 : Nat) : Int) := by rw [wrap64] <;> omega
    have g1 := ref02_digit_ok (digs a) (dig_digs a) i
    have g2 := ref02_digit_ok (digs b) (dig_digs b) i
    have bx := dig_getD (dig_digs a) i
    have by' := dig_getD (dig_digs b) i
    rw [dval_drop (digs a) i, dval_drop (digs b) i] at hv
    have N1 : PV.lst (digV (digs a)) = N a := rfl
    have N2 : PV.lst (digV (digs b)) = N b := rfl
    rw [N1] at g1
    rw [N2] at g2
    generalize (digs a).getD i 0 = x at *
    generalize (digs b).getD i 0 = y at *
    have u1 : IntKind.u64.wrap ((x : Int) + y) = ((x + y : Nat) : Int) := by rw [wrapu64] <;> omega
    have u2 : IntKind.u64.wrap (((x + y : Nat) : Int) + c) = ((x + y + c : Nat) : Int) := by rw [wrapu64] <;> omega
    have u3 : IntKind.u32.wrap (((x + y + c : Nat) : Int).tmod 4294967296) = (((x + y + c) % 4294967296 : Nat) : Int) := by
      rw [show ((x + y + c : Nat) : Int).tmod 4294967296 = (((x + y + c) % 4294967296 : Nat) : Int) from Int.ofNat_tmod _ _, IntKind.wrap_u32]; omega
    have u4 : IntKind.u64.wrap (((x + y + c : Nat) : Int).tdiv 4294967296) = (((x + y + c) / 4294967296 : Nat) : Int) := by
      rw [show ((x + y + c : Nat) : Int).tdiv 4294967296 = (((x + y + c) / 4294967296 : Nat) : Int) from Int.ofNat_tdiv _ _, wrapu64] <;> omega
    simp only [L_ref02_Plus_1, run_bnd, g_zero, g_succ, len_N, thn_ok, hm1, op_add, w1, cmp_lss, hlt', decide_true, run_if, if_true]
    rw [callP_eq (by simp) (by simp)]
    simp only [snapDL_cons, snap_cons, snap_nil, snap_int, snap_N, Option.getD_some, g1, callK_ret, take_none_int, thn_ok, run_bnd]
    rw [callP_eq (by simp) (by simp)]
    simp only [snapDL_cons, snap_cons, snap_nil, snap_int, snap_N, Option.getD_some, g2, callK_ret, take_none_int, thn_ok, run_bnd, op_add, u1, u2, op_rem _ _ _ _ 4294967296 (by omega), conv_at, u3]
    obtain ⟨st2, v2, e1, e2, e3, _⟩ := hb.push (bytes := 4) (ag := false) (z := .int .u32 0) (x := .int .u32 (((x + y + c) % 4294967296 : Nat) : Int)) rfl rfl (by omega) (by omega) (by simp [mostBytes]) (by simp [mostLen]; omega)
      (fun t15 => .bnd (binM .quo ty_uint64 (.int .u64 ((x + y + c : Nat) : Int)) (.int .u64 4294967296)) fun t16 => .bnd (binM .add ty_int (I i) (I 1)) fun t17 => .leaf (self [N a, N b, t15, t16, t17]))
    simp only [run_bnd] at e1
    rw [e1]
    simp only [op_quo _ _ _ _ 4294967296 (by omega), u4, run_bnd, op_add, hw, thn_ok, run_leaf]
    refine ih (i + 1, (x + y + c) / 4294967296, out ++ [(x + y + c) % 4294967296]) (max (digs a).length (digs b).length + 1 - (i + 1)) _ st2 (by omega) ⟨i + 1, _, _, v2, rfl, rfl, rfl, by omega, by omega, hdo.app (Dig.cons (by omega) Dig.nil), by simp [hlo], by rw [digV_app]; exact e2, ?_⟩
    rw [dval_snoc, hlo, ← hv, Nat.pow_succ, Nat.mul_assoc, Nat.add_assoc, ← Nat.mul_add]
    congr 2
    have := Nat.mod_add_div (x + y + c) 4294967296
    omega
  · have hi' : i = max (digs a).length (digs b).length + 1 := by omega
    have hlt' : ¬ (i : Int) < ((m + 1 : Nat) : Int) := by omega
    simp only [L_ref02_Plus_1, run_bnd, g_zero, g_succ, len_N, thn_ok, hm1, op_add, w1, cmp_lss, hlt', decide_false, run_if, Bool.false_eq_true, if_false]
    rw [List.drop_eq_nil_of_le (by omega), List.drop_eq_nil_of_le (by omega)] at hv
    simp only [dval, Nat.add_zero] at hv
    have hc0 : c = 0 := by
      have h1 : a < 4294967296 ^ (max (digs a).length (digs b).length) := digs_len.1 (by omega)
      have h2 : b < 4294967296 ^ (max (digs a).length (digs b).length) := digs_len.1 (by omega)
      cases c with
      | zero => rfl
      | succ c =>
        rw [hi', Nat.pow_succ] at hv
        have : 4294967296 ^ (max (digs a).length (digs b).length) * 4294967296 * 1 ≤ 4294967296 ^ (max (digs a).length (digs b).length) * 4294967296 * (c + 1) := Nat.mul_le_mul_left _ (by omega)
        omega
    rw [hc0, Nat.mul_zero, Nat.add_zero] at hv
    have ht := ref02_trim_ok out (by omega) hdo
    rw [hv] at ht
    obtain ⟨st3, hc3⟩ := hb.frz_dig (by omega) (own := none) (mp := true) ht
    rw [hc3]
    simp

end Go.Abs
end
/-
  THE REFERENCE's NATURAL NUMBERS: Less, Minus, Product, Same.
-/
section
set_option linter.unusedSimpArgs false
set_option linter.unusedVariables false
namespace Go.Abs
open Go

theorem less_run (xs ys : List Nat) (st : St) (hl : xs.length = ys.length) (hx : Dig xs) (hy : Dig ys) (hb : xs.length < 2 ^ 50) :
    ∀ (i : Nat), i ≤ xs.length → xs.drop i = ys.drop i → iter fuel (fun self v => (L_ref02_Less_1 self v).run) [.lst (digV xs), .lst (digV ys), I ((i : Int) - 1)] st = .ok (.bool (decide (dval xs < dval ys))) st := by
  intro i hi hd
  refine loop_ind (α := Nat) _ (fun i k v st' => v = [.lst (digV xs), .lst (digV ys), I ((i : Int) - 1)] ∧ st' = st ∧ k = i ∧ i ≤ xs.length ∧ xs.drop i = ys.drop i) (fun r => r = .ok (.bool (decide (dval xs < dval ys))) st) ?_ fuel i i _ _ ⟨rfl, rfl, rfl, hi, hd⟩ (by unfold fuel; omega)
  rintro i k v st' ⟨rfl, rfl, rfl, hi, hd⟩ self ih
  cases k with
  | zero =>
    have he : xs = ys := by simpa using hd
    subst he
    have h1 : ¬ (0 : Int) ≤ ((0 : Nat) : Int) - 1 := by omega
    simp [L_ref02_Less_1, h1]
  | succ i =>
    have h1 : (0 : Int) ≤ (i : Int) := by omega
    have e1 : (((i + 1 : Nat) : Int) - 1) = (i : Int) := by omega
    have hix : i < xs.length := by omega
    have hiy : i < ys.length := by omega
    rw [e1]
    have d1 := idx_dig st' xs i hix
    have d2 := idx_dig st' ys i hiy
    have v1 := dval_take_drop xs (i + 1) (by omega)
    have v2 := dval_take_drop ys (i + 1) (by omega)
    have t1 : xs.take (i + 1) = xs.take i ++ [xs[i]] := by rw [List.take_add_one, List.getElem?_eq_getElem hix]; rfl
    have t2 : ys.take (i + 1) = ys.take i ++ [ys[i]] := by rw [List.take_add_one, List.getElem?_eq_getElem hiy]; rfl
    rw [t1, dval_snoc, List.length_take, Nat.min_eq_left (by omega)] at v1
    rw [t2, dval_snoc, List.length_take, Nat.min_eq_left (by omega), ← hd] at v2
    have b1 := dval_lt (hx.take i)
    have b2 := dval_lt (hy.take i)
    rw [List.length_take, Nat.min_eq_left (by omega)] at b1 b2
    have step : ∀ a b : Nat, a < b → 4294967296 ^ i * a + 4294967296 ^ i ≤ 4294967296 ^ i * b := fun a b h => by
      rw [← Nat.mul_succ]; exact Nat.mul_le_mul_left _ h
    by_cases heq : xs[i] = ys[i]
    · have hq : ((xs[i] : Nat) : Int) = ((ys[i] : Nat) : Int) := by omega
      have hw : IntKind.i64.wrap ((i : Int) - 1) = (i : Int) - 1 := wrap64 _ (by omega) (by omega)
      simp only [L_ref02_Less_1, run_bnd, g_zero, g_succ, cmp_geq, h1, decide_true, thn_ok, run_if, if_true, d1, d2, load_cell, cmp_neq, hq, Bool.not_true, Bool.false_eq_true, if_false, op_sub, hw, run_leaf]
      refine ih i i _ st' (by omega) ⟨rfl, rfl, rfl, by omega, ?_⟩
      rw [List.drop_eq_getElem_cons hix, List.drop_eq_getElem_cons hiy, heq, hd]
    · have hq : ¬ ((xs[i] : Nat) : Int) = ((ys[i] : Nat) : Int) := by omega
      have hiff : (((xs[i] : Nat) : Int) < ((ys[i] : Nat) : Int)) ↔ dval xs < dval ys := by
        rcases Nat.lt_or_gt_of_ne heq with h | h
        · have := step _ _ h
          exact ⟨fun _ => by omega, fun _ => by omega⟩
        · have := step _ _ h
          exact ⟨fun h' => by omega, fun h' => by omega⟩
      have e : decide (((xs[i] : Nat) : Int) < ((ys[i] : Nat) : Int)) = decide (dval xs < dval ys) := decide_eq_decide.2 hiff
      simp only [L_ref02_Less_1, run_bnd, g_zero, g_succ, cmp_geq, h1, decide_true, thn_ok, run_if, if_true, d1, d2, load_cell, cmp_neq, hq, decide_false, Bool.not_false, cmp_lss, run_leaf, ret_at, e]

theorem ref02_Less_ok (a b : Nat) (ha : (digs a).length < 2 ^ 50) (hb : (digs b).length < 2 ^ 50) : F_ref02_Less [N a, N b] = .ret (.bool (decide (a < b))) := by
  refine runP_ret (v := .bool (decide (a < b))) (st := St.empty) ?_ (snapD_bool _ _)
  by_cases h : (digs a).length = (digs b).length
  · have h' : ((digs a).length : Int) = ((digs b).length : Int) := by omega
    have hw : IntKind.i64.wrap (((digs b).length : Int) - 1) = ((digs a).length : Int) - 1 := by rw [h']; exact wrap64 _ (by omega) (by omega)
    have := less_run (digs a) (digs b) St.empty h (dig_digs a) (dig_digs b) ha (digs a).length (Nat.le_refl _) (by rw [List.drop_length, h, List.drop_length])
    rw [dval_digs, dval_digs] at this
    rw [← this]
    simp [B_ref02_Less, h', hw, N]
  · have h' : ¬ ((digs a).length : Int) = ((digs b).length : Int) := by omega
    have hiff : (((digs a).length : Int) < ((digs b).length : Int)) ↔ a < b := by
      rcases Nat.lt_or_gt_of_ne h with hlt | hgt
      · have hc := dval_lt_of_len (dig_digs a) (canon_digs b) (dig_digs b) hlt
        rw [dval_digs, dval_digs] at hc
        exact ⟨fun _ => hc, fun _ => by omega⟩
      · have hc := dval_lt_of_len (dig_digs b) (canon_digs a) (dig_digs a) hgt
        rw [dval_digs, dval_digs] at hc
        exact ⟨fun h => by omega, fun h => by omega⟩
    have e : decide (((digs a).length : Int) < ((digs b).length : Int)) = decide (a < b) := decide_eq_decide.2 hiff
    rw [← e]
    simp [B_ref02_Less, h']

theorem ref02_Minus_ok (a b : Nat) (la : (digs a).length ≤ 2000) (hle : b ≤ a) : F_ref02_Minus [N a, N b] = .ret (N (a - b)) := by
  refine runP_rets (v := N (a - b)) ?_ (fun H => snapD_lst _ _)
  have lb : (digs b).length ≤ (digs a).length := digs_len.2 (by have := digs_len.1 (Nat.le_refl (digs a).length); omega)
  simp only [B_ref02_Minus, run_loop]
  refine loop_ind (α := Nat × Nat × List Nat) _ (fun x k w st' => ∃ i c out v, x = (i, c, out) ∧ w = [N a, N b, v, .int .u64 (c : Int), I i] ∧ k = (digs a).length - i ∧ i ≤ (digs a).length ∧ c ≤ 1 ∧ Dig out ∧ out.length = i ∧ Buf 1 st' v (digV out) ∧
      dval out + 4294967296 ^ i * dval ((digs a).drop i) + b = a + 4294967296 ^ i * (c + dval ((digs b).drop i))) (fun r => Rets (N (a - b)) r) ?_ fuel (0, 0, []) (digs a).length _ _
    ⟨0, 0, [], .nilS, rfl, rfl, by omega, by omega, by omega, Dig.nil, rfl, Buf.nil _ _, by simp [dval, dval_digs]⟩ (by unfold fuel; omega)
  rintro _ k w st' ⟨i, c, out, v, rfl, rfl, rfl, hi, hc, hdo, hlo, hb, hv⟩ self ih
  by_cases hlt : i < (digs a).length
  · have hlt' : (i : Int) < ((digs a).length : Int) := by omega
    have hw : IntKind.i64.wrap ((i : Int) + 1) = ((i + 1 : Nat) : Int) := by rw [wrap64] <;> omega
    have g1 := ref02_digit_ok (digs a) (dig_digs a) i
    have g2 := ref02_digit_ok (digs b) (dig_digs b) i
    have bx := dig_getD (dig_digs a) i
    have by' := dig_getD (dig_digs b) i
    rw [dval_drop (digs a) i, dval_drop (digs b) i] at hv
    have N1 : PV.lst (digV (digs a)) = N a := rfl
    have N2 : PV.lst (digV (digs b)) = N b := rfl
    rw [N1] at g1
    rw [N2] at g2
    generalize (digs a).getD i 0 = x at *
    generalize (digs b).getD i 0 = y at *
    have u1 : IntKind.u64.wrap (4294967296 + (x : Int)) = ((4294967296 + x : Nat) : Int) := by rw [wrapu64] <;> omega
    have u2 : IntKind.u64.wrap (((4294967296 + x : Nat) : Int) - y) = ((4294967296 + x - y : Nat) : Int) := by rw [wrapu64] <;> omega
    have u2' : IntKind.u64.wrap (((4294967296 + x - y : Nat) : Int) - c) = ((4294967296 + x - y - c : Nat) : Int) := by rw [wrapu64] <;> omega
    generalize hs : 4294967296 + x - y - c = s at u2'
    have u3 : IntKind.u32.wrap ((s : Int).tmod 4294967296) = ((s % 4294967296 : Nat) : Int) := by
      rw [show (s : Int).tmod 4294967296 = ((s % 4294967296 : Nat) : Int) from Int.ofNat_tmod _ _, IntKind.wrap_u32]; omega
    have u4 : IntKind.u64.wrap ((s : Int).tdiv 4294967296) = ((s / 4294967296 : Nat) : Int) := by
      rw [show (s : Int).tdiv 4294967296 = ((s / 4294967296 : Nat) : Int) from Int.ofNat_tdiv _ _, wrapu64] <;> omega
    have u5 : IntKind.u64.wrap (1 - ((s / 4294967296 : Nat) : Int)) = ((1 - s / 4294967296 : Nat) : Int) := by rw [wrapu64] <;> omega
    simp only [L_ref02_Minus_1, run_bnd, g_zero, g_succ, len_N, thn_ok, cmp_lss, hlt', decide_true, run_if, if_true]
    rw [callP_eq (by simp) (by simp)]
    simp only [snapDL_cons, snap_cons, snap_nil, snap_int, snap_N, Option.getD_some, g1, callK_ret, take_none_int, thn_ok, run_bnd, op_add, u1]
    rw [callP_eq (by simp) (by simp)]
    simp only [snapDL_cons, snap_cons, snap_nil, snap_int, snap_N, Option.getD_some, g2, callK_ret, take_none_int, thn_ok, run_bnd, op_sub, u2, u2', op_rem _ _ _ _ 4294967296 (by omega), conv_at, u3]
    obtain ⟨st2, v2, e1, e2, e3, _⟩ := hb.push (bytes := 4) (ag := false) (z := .int .u32 0) (x := .int .u32 ((s % 4294967296 : Nat) : Int)) rfl rfl (by omega) (by omega) (by simp [mostBytes]) (by simp [mostLen]; omega)
      (fun t13 => .bnd (binM .quo ty_uint64 (.int .u64 (s : Int)) (.int .u64 4294967296)) fun t14 => .bnd (binM .sub ty_uint64 (.int .u64 1) t14) fun t15 => .bnd (binM .add ty_int (I i) (I 1)) fun t16 => .leaf (self [N a, N b, t13, t15, t16]))
    simp only [run_bnd] at e1
    rw [e1]
    simp only [op_quo _ _ _ _ 4294967296 (by omega), u4, run_bnd, op_sub, u5, op_add, hw, thn_ok, run_leaf]
    refine ih (i + 1, 1 - s / 4294967296, out ++ [s % 4294967296]) ((digs a).length - (i + 1)) _ st2 (by omega) ⟨i + 1, _, _, v2, rfl, rfl, rfl, by omega, by omega, hdo.app (Dig.cons (by omega) Dig.nil), by simp [hlo], by rw [digV_app]; exact e2, ?_⟩
    rw [dval_snoc, hlo]
    have e : 4294967296 ^ (i + 1) = 4294967296 ^ i * 4294967296 := Nat.pow_succ ..
    rw [e]
    have hdc : s % 4294967296 + y + c = x + 4294967296 * (1 - s / 4294967296) := by omega
    generalize s % 4294967296 = d at *
    generalize 1 - s / 4294967296 = c' at *
    generalize 4294967296 ^ i = p at *
    generalize dval ((digs a).drop (i + 1)) = X at *
    generalize dval ((digs b).drop (i + 1)) = Y at *
    have h5 : p * (d + y + c) = p * (x + 4294967296 * c') := by rw [hdc]
    simp only [Nat.mul_add] at hv h5 ⊢
    simp only [Nat.mul_assoc] at hv h5 ⊢
    omega
  · have hi' : i = (digs a).length := by omega
    have hlt' : ¬ (i : Int) < ((digs a).length : Int) := by omega
    simp only [L_ref02_Minus_1, run_bnd, g_zero, g_succ, len_N, thn_ok, cmp_lss, hlt', decide_false, run_if, Bool.false_eq_true, if_false]
    rw [hi', List.drop_length, List.drop_eq_nil_of_le lb] at hv
    simp only [dval, Nat.mul_zero, Nat.add_zero] at hv
    have hlt2 := dval_lt hdo
    have hc0 : c = 0 := by
      cases c with
      | zero => rfl
      | succ c =>
        have : 4294967296 ^ (digs a).length * 1 ≤ 4294967296 ^ (digs a).length * (c + 1) := Nat.mul_le_mul_left _ (by omega)
        rw [hlo, hi'] at hlt2
        omega
    have hvv : dval out = a - b := by rw [hc0] at hv; omega
    have ht := ref02_trim_ok out (by omega) hdo
    rw [hvv] at ht
    obtain ⟨st3, hc3⟩ := hb.frz_dig (by omega) (own := none) (mp := true) ht
    rw [hc3]
    simp

theorem scaled_run (a d by_ : Nat) (la : (digs a).length ≤ 2000) (hd : d < 4294967296) (hby : by_ ≤ 2000) (st : St) (v0 : PV) (hb0 : Buf 1 st v0 (digV (List.replicate by_ 0))) :
    Rets (N (a * d * 4294967296 ^ by_)) (iter fuel (fun self v => (L_ref02_scaled_1 self v).run) [N a, .int .u64 (d : Int), v0, .int .u64 0, I 0] st) := by
  refine loop_ind (α := Nat × Nat × List Nat) _ (fun x k w st' => ∃ i c out v, x = (i, c, out) ∧ w = [N a, .int .u64 (d : Int), v, .int .u64 (c : Int), I i] ∧ k = (digs a).length + 1 - i ∧ i ≤ (digs a).length + 1 ∧ c < 4294967296 ∧ Dig out ∧ out.length = by_ + i ∧ Buf 1 st' v (digV out) ∧
      dval out + 4294967296 ^ (by_ + i) * (c + d * dval ((digs a).drop i)) = a * d * 4294967296 ^ by_) (fun r => Rets (N (a * d * 4294967296 ^ by_)) r) ?_ fuel (0, 0, List.replicate by_ 0) ((digs a).length + 1) _ _
    ⟨0, 0, _, v0, rfl, rfl, by omega, by omega, by omega, Dig.rep _, by simp, hb0, by simp [dval_rep, dval_digs]; rw [Nat.mul_comm d a, Nat.mul_comm]⟩ (by unfold fuel; omega)
  rintro _ k w st' ⟨i, c, out, v, rfl, rfl, rfl, hi, hc, hdo, hlo, hb, hv⟩ self ih
  have w1 : IntKind.i64.wrap (((digs a).length : Int) + 1) = (((digs a).length + 1 : Nat) : Int) := by rw [wrap64] <;> omega
  by_cases hlt : i < (digs a).length + 1
  · have hlt' : (i : Int) < (((digs a).length + 1 : Nat) : Int) := by omega
    have hw : IntKind.i64.wrap ((i : Int) + 1) = ((i + 1 : Nat) : Int) := by rw [wrap64] <;> omega
    have g1 := ref02_digit_ok (digs a) (dig_digs a) i
    have bx := dig_getD (dig_digs a) i
    rw [dval_drop (digs a) i] at hv
    have N1 : PV.lst (digV (digs a)) = N a := rfl
    rw [N1] at g1
    generalize (digs a).getD i 0 = x at *
    have hm := mul_word (o := 0) bx hd hc (by omega)
    have u1 : IntKind.u64.wrap ((x : Int) * d) = ((x * d : Nat) : Int) := by rw [← Int.natCast_mul]; exact wrapu64 _ (Int.natCast_nonneg _) (by omega)
    have u2 : IntKind.u64.wrap (((x * d : Nat) : Int) + c) = ((x * d + c : Nat) : Int) := by rw [wrapu64] <;> omega
    generalize hs : x * d + c = s at *
    have u3 : IntKind.u32.wrap ((s : Int).tmod 4294967296) = ((s % 4294967296 : Nat) : Int) := by
      rw [show (s : Int).tmod 4294967296 = ((s % 4294967296 : Nat) : Int) from Int.ofNat_tmod _ _, IntKind.wrap_u32]; omega
    have u4 : IntKind.u64.wrap ((s : Int).tdiv 4294967296) = ((s / 4294967296 : Nat) : Int) := by
      rw [show (s : Int).tdiv 4294967296 = ((s / 4294967296 : Nat) : Int) from Int.ofNat_tdiv _ _, wrapu64] <;> omega
    simp only [L_ref02_scaled_1, run_bnd, g_zero, g_succ, len_N, thn_ok, op_add, w1, cmp_lss, hlt', decide_true, run_if, if_true]
    rw [callP_eq (by simp) (by simp)]
    simp only [snapDL_cons, snap_cons, snap_nil, snap_int, snap_N, Option.getD_some, g1, callK_ret, take_none_int, thn_ok, run_bnd, op_mul, u1, op_add, u2, op_rem _ _ _ _ 4294967296 (by omega), conv_at, u3]
    obtain ⟨st2, v2, e1, e2, e3, _⟩ := hb.push (bytes := 4) (ag := false) (z := .int .u32 0) (x := .int .u32 ((s % 4294967296 : Nat) : Int)) rfl rfl (by omega) (by omega) (by simp [mostBytes]) (by simp [mostLen]; omega)
      (fun t18 => .bnd (binM .quo ty_uint64 (.int .u64 (s : Int)) (.int .u64 4294967296)) fun t19 => .bnd (binM .add ty_int (I i) (I 1)) fun t20 => .leaf (self [N a, .int .u64 (d : Int), t18, t19, t20]))
    simp only [run_bnd] at e1
    rw [e1]
    simp only [op_quo _ _ _ _ 4294967296 (by omega), u4, run_bnd, op_add, hw, thn_ok, run_leaf]
    refine ih (i + 1, s / 4294967296, out ++ [s % 4294967296]) ((digs a).length + 1 - (i + 1)) _ st2 (by omega) ⟨i + 1, _, _, v2, rfl, rfl, rfl, by omega, by omega, hdo.app (Dig.cons (by omega) Dig.nil), by simp [hlo]; omega, by rw [digV_app]; exact e2, ?_⟩
    rw [dval_snoc, hlo, ← hv]
    have e : 4294967296 ^ (by_ + (i + 1)) = 4294967296 ^ (by_ + i) * 4294967296 := Nat.pow_succ ..
    rw [e]
    generalize 4294967296 ^ (by_ + i) = p at *
    generalize dval ((digs a).drop (i + 1)) = X at *
    have h4 : p * s = p * (s % 4294967296) + p * (4294967296 * (s / 4294967296)) := by rw [← Nat.mul_add, Nat.mod_add_div]
    have h5 : p * s = p * (x * d) + p * c := by rw [← hs, Nat.mul_add]
    have h6 : p * (d * (x + 4294967296 * X)) = p * (x * d) + p * (4294967296 * (d * X)) := by
      rw [Nat.mul_add d, Nat.mul_add p, Nat.mul_comm d x, Nat.mul_left_comm d 4294967296 X]
    rw [Nat.mul_assoc p 4294967296, Nat.mul_add 4294967296, Nat.mul_add p, Nat.mul_add p c, h6]
    omega
  · have hi' : i = (digs a).length + 1 := by omega
    have hlt' : ¬ (i : Int) < (((digs a).length + 1 : Nat) : Int) := by omega
    simp only [L_ref02_scaled_1, run_bnd, g_zero, g_succ, len_N, thn_ok, op_add, w1, cmp_lss, hlt', decide_false, run_if, Bool.false_eq_true, if_false]
    rw [List.drop_eq_nil_of_le (by omega)] at hv
    simp only [dval, Nat.mul_zero, Nat.add_zero] at hv
    have hc0 : c = 0 := by
      have h1 : a < 4294967296 ^ (digs a).length := digs_len.1 (Nat.le_refl _)
      have h2 : a * d < 4294967296 ^ (digs a).length * 4294967296 := Nat.mul_lt_mul'' h1 hd
      have h3 : a * d * 4294967296 ^ by_ < 4294967296 ^ (by_ + i) := by
        rw [hi', Nat.pow_add, Nat.pow_succ, Nat.mul_comm (4294967296 ^ by_)]
        exact Nat.mul_lt_mul_of_pos_right h2 (Nat.pow_pos (by omega))
      cases c with
      | zero => rfl
      | succ c =>
        have : 4294967296 ^ (by_ + i) * 1 ≤ 4294967296 ^ (by_ + i) * (c + 1) := Nat.mul_le_mul_left _ (by omega)
        omega
    rw [hc0, Nat.mul_zero, Nat.add_zero] at hv
    have ht := ref02_trim_ok out (by omega) hdo
    rw [hv] at ht
    obtain ⟨st3, hc3⟩ := hb.frz_dig (by omega) (own := none) (mp := true) ht
    rw [hc3]
    simp

theorem ref02_scaled_ok (a d by_ : Nat) (la : (digs a).length ≤ 2000) (hd : d < 4294967296) (hby : by_ ≤ 2000) : F_ref02_scaled [N a, .int .u64 (d : Int), I by_] = .ret (N (a * d * 4294967296 ^ by_)) := by
  refine runP_rets (v := N (a * d * 4294967296 ^ by_)) ?_ (fun H => snapD_lst _ _)
  simp only [B_ref02_scaled, run_loop]
  refine loop_ind (α := Nat) _ (fun i k w st' => ∃ v, w = [N a, .int .u64 (d : Int), I by_, v, I i] ∧ k = by_ - i ∧ i ≤ by_ ∧ Buf 1 st' v (digV (List.replicate i 0))) (fun r => Rets (N (a * d * 4294967296 ^ by_)) r) ?_ fuel 0 by_ _ _ ⟨.nilS, rfl, by omega, by omega, Buf.nil _ _⟩ (by unfold fuel; omega)
  rintro i k w st' ⟨v, rfl, rfl, hi, hb⟩ self ih
  by_cases hlt : i < by_
  · have hlt' : (i : Int) < (by_ : Int) := by omega
    have hw : IntKind.i64.wrap ((i : Int) + 1) = ((i + 1 : Nat) : Int) := by rw [wrap64] <;> omega
    simp only [L_ref02_scaled_2, run_bnd, g_zero, g_succ, cmp_lss, hlt', decide_true, thn_ok, run_if, if_true]
    obtain ⟨st2, v2, e1, e2, e3, _⟩ := hb.push (bytes := 4) (ag := false) (z := .int .u32 0) (x := .int .u32 0) rfl rfl (by omega) (by omega) (by simp [mostBytes]) (by simp [mostLen]; omega)
      (fun t5 => .bnd (binM .add ty_int (I i) (I 1)) fun t6 => .leaf (self [N a, .int .u64 (d : Int), I by_, t5, t6]))
    simp only [run_bnd] at e1
    rw [e1]
    simp only [op_add, hw, thn_ok, run_leaf]
    refine ih (i + 1) (by_ - (i + 1)) _ st2 (by omega) ⟨v2, rfl, rfl, by omega, ?_⟩
    rw [digV_rep] at e2 ⊢
    rw [List.replicate_succ']; exact e2
  · have hi' : i = by_ := by omega
    subst hi'
    have hlt' : ¬ (i : Int) < (i : Int) := by omega
    simp only [L_ref02_scaled_2, run_bnd, g_zero, g_succ, cmp_lss, hlt', decide_false, thn_ok, run_if, Bool.false_eq_true, if_false, run_loop]
    exact scaled_run a d i la hd hby st' v hb

/-- A number that was made, or nil. -/
def NorNil (v : PV) (n : Nat) : Prop := v = N n ∨ (v = .nilS ∧ n = 0)
theorem NorNil.snap {v : PV} {n : Nat} (h : NorNil v n) (H : Nat → Option Blk) (d : Nat) : snapF H (d + 1) v = some (N n) := by
  rcases h with rfl | ⟨rfl, rfl⟩
  · rfl
  · rw [N_zero]; rfl
theorem NorNil.snapD {v : PV} {n : Nat} (h : NorNil v n) (H : Nat → Option Blk) : snapF H depth v = some (N n) := h.snap H 999999
theorem NorNil.noref {v : PV} {n : Nat} (h : NorNil v n) : v.noref = true := by
  rcases h with rfl | ⟨rfl, rfl⟩ <;> rfl

theorem pwB (m n : Nat) (h : m ≤ n) : (4294967296 : Nat) ^ m ≤ 4294967296 ^ n := Nat.pow_le_pow_right (by omega) h
theorem ref02_Product_ok (a b : Nat) (la : (digs a).length ≤ 600) (lb : (digs b).length ≤ 600) : F_ref02_Product [N a, N b] = .ret (N (a * b)) := by
  obtain ⟨k, hk⟩ : ∃ k : Nat, k = 600 := ⟨_, rfl⟩
  rw [← hk] at la lb
  refine runP_of ?_
  have key : ∃ v st, (B_ref02_Product [N a, N b]).run St.empty = .ok v st ∧ NorNil v (a * b) := by
    simp only [B_ref02_Product, run_loop]
    refine loop_ind (α := Nat) _ (fun i m w st' => ∃ v, w = [N a, N b, v, I i] ∧ m = (digs b).length - i ∧ i ≤ (digs b).length ∧ NorNil v (a * dval ((digs b).take i))) (fun r => ∃ v st, r = .ok v st ∧ NorNil v (a * b)) ?_ fuel 0 (digs b).length _ _ ⟨.nilS, rfl, by omega, by omega, .inr ⟨rfl, by simp [dval]⟩⟩ (by unfold fuel; omega)
    rintro i m w st' ⟨v, rfl, rfl, hi, hv⟩ self ih
    by_cases hlt : i < (digs b).length
    · have hlt' : (i : Int) < ((digs b).length : Int) := by omega
      have hw : IntKind.i64.wrap ((i : Int) + 1) = (i : Int) + 1 := wrap64 _ (by omega) (by omega)
      have d1 : idxM 1 (N b) (I i) st' = _ := idx_dig st' (digs b) i hlt
      have hd := (dig_digs b).at hlt
      have t1 : (digs b).take (i + 1) = (digs b).take i ++ [(digs b)[i]] := by rw [List.take_add_one, List.getElem?_eq_getElem hlt]; rfl
      have hlow := dval_lt ((dig_digs b).take i)
      rw [List.length_take, Nat.min_eq_left (by omega)] at hlow
      generalize (digs b)[i] = x at *
      have hsc := ref02_scaled_ok a x i (by omega) hd (by omega)
      have hal : a < 4294967296 ^ k := digs_len.1 la
      have l1 : (digs (a * dval ((digs b).take i))).length ≤ 2000 := digs_len.2 (by
        have h1 : dval ((digs b).take i) < 4294967296 ^ k := Nat.lt_of_lt_of_le hlow (Nat.pow_le_pow_right (by omega) (by omega))
        have h2 : a * dval ((digs b).take i) < 4294967296 ^ k * 4294967296 ^ k := Nat.mul_lt_mul'' hal h1
        rw [← Nat.pow_add] at h2
        exact Nat.lt_of_lt_of_le h2 (pwB (k + k) 2000 (by omega)))
      have l2 : (digs (a * x * 4294967296 ^ i)).length ≤ 2000 := digs_len.2 (by
        have h2 : a * x < 4294967296 ^ k * 4294967296 := Nat.mul_lt_mul'' hal hd
        have h3 : a * x * 4294967296 ^ i < 4294967296 ^ k * 4294967296 * 4294967296 ^ i := Nat.mul_lt_mul_of_pos_right h2 (Nat.pow_pos (by omega))
        rw [← Nat.pow_succ, ← Nat.pow_add] at h3
        exact Nat.lt_of_lt_of_le h3 (pwB (k + 1 + i) 2000 (by omega)))
      have hpl := ref02_Plus_ok (a * dval ((digs b).take i)) (a * x * 4294967296 ^ i) l1 l2
      have hs := hv.snap st'.H 999998
      have hs' : snapF st'.H 999999 v = some (N (a * dval ((digs b).take i))) := hs
      simp [L_ref02_Product_1, hlt', d1, conv_u64 _ _ x (by omega), hsc, hs', hv.noref, hpl, hw]
      have hf : NorNil (N (a * dval ((digs b).take i) + a * x * 4294967296 ^ i)) (a * dval ((digs b).take (i + 1))) := .inl (by
        rw [t1, dval_snoc, List.length_take, Nat.min_eq_left (by omega), Nat.mul_add, Nat.mul_assoc, Nat.mul_comm x])
      obtain ⟨v3, st3, h3, h4⟩ := ih (i + 1) ((digs b).length - (i + 1)) _ st' (by omega) ⟨N (a * dval ((digs b).take i) + a * x * 4294967296 ^ i), rfl, rfl, by omega, hf⟩
      exact ⟨v3, ⟨st3, h3⟩, h4⟩
    · have : i = (digs b).length := by omega
      subst this
      rw [List.take_length, dval_digs] at hv
      simp [L_ref02_Product_1]
      exact hv
  obtain ⟨v, st, h1, h2⟩ := key
  exact ⟨v, st, h1, h2.snapD _⟩

theorem ref02_Same_ok (xs ys : List Nat) (hx : xs.length < 2 ^ 50) : F_ref02_Same [.lst (digV xs), .lst (digV ys)] = .ret (.bool (decide (xs = ys))) := by
  refine runP_rets (v := .bool (decide (xs = ys))) ?_ (fun H => by simp)
  by_cases hl : xs.length = ys.length
  rotate_left
  · have : ¬ (xs.length : Int) = (ys.length : Int) := by omega
    have hne : ¬ xs = ys := fun h => hl (by rw [h])
    simp [B_ref02_Same, this, hne]
  have hl' : (xs.length : Int) = (ys.length : Int) := by omega
  simp [B_ref02_Same, hl']
  refine loop_ind (α := Nat) _ (fun i k w st' => w = [.lst (digV xs), .lst (digV ys), I i] ∧ k = xs.length - i ∧ i ≤ xs.length ∧ xs.take i = ys.take i) (fun r => Rets (.bool (decide (xs = ys))) r) ?_ fuel 0 xs.length _ _ ⟨rfl, by omega, by omega, by simp⟩ (by unfold fuel; omega)
  rintro i k w st' ⟨rfl, rfl, hi, he⟩ self ih
  by_cases hlt : i < xs.length
  · have hlt' : (i : Int) < (xs.length : Int) := by omega
    have hw : IntKind.i64.wrap ((i : Int) + 1) = ((i + 1 : Nat) : Int) := by rw [wrap64] <;> omega
    have d1 := idx_dig st' xs i hlt
    have d2 := idx_dig st' ys i (by omega)
    have t1 : xs.take (i + 1) = xs.take i ++ [xs[i]] := by rw [List.take_add_one, List.getElem?_eq_getElem hlt]; rfl
    have t2 : ys.take (i + 1) = ys.take i ++ [ys[i]'(by omega)] := by rw [List.take_add_one, List.getElem?_eq_getElem (by omega)]; rfl
    by_cases c : xs[i] = ys[i]'(by omega)
    · have c' : ((xs[i] : Nat) : Int) = ((ys[i]'(by omega) : Nat) : Int) := by omega
      simp only [L_ref02_Same_1, run_bnd, g_zero, g_succ, len_lst, digV_length, thn_ok, cmp_lss, hlt', decide_true, run_if, if_true, d1, d2, load_cell, cmp_neq, c', Bool.not_true, Bool.false_eq_true, if_false, op_add, hw, run_leaf]
      exact ih (i + 1) (xs.length - (i + 1)) _ st' (by omega) ⟨rfl, rfl, by omega, by rw [t1, t2, he, c]⟩
    · have c' : ¬ ((xs[i] : Nat) : Int) = ((ys[i]'(by omega) : Nat) : Int) := by omega
      have hne : ¬ xs = ys := fun h => c (by simp [h])
      simp only [L_ref02_Same_1, run_bnd, g_zero, g_succ, len_lst, digV_length, thn_ok, cmp_lss, hlt', decide_true, run_if, if_true, d1, d2, load_cell, cmp_neq, c', decide_false, Bool.not_false, run_leaf, ret_at, hne, rets_ok]
  · have : i = xs.length := by omega
    have heq : xs = ys := by
      rw [this, List.take_length, hl, List.take_length] at he; exact he
    have hlt' : ¬ (i : Int) < (xs.length : Int) := by omega
    simp [L_ref02_Same_1, this, heq]

end Go.Abs
end
/-
  THE REFERENCE's NATURAL NUMBERS: twice, DivMod.
-/
section
set_option linter.unusedSimpArgs false
set_option linter.unusedVariables false
namespace Go.Abs
open Go

theorem pwS (n : Nat) : (4294967296 : Nat) ^ (n + 1) = 4294967296 ^ n * 4294967296 := Nat.pow_succ ..
/-- Longer than what numbers may be. -/
def K3 : Nat := 300
theorem K3_ge : 256 ≤ K3 := by decide
theorem K3_le : K3 + 1 ≤ 2000 := by decide
theorem twice_len {r bit : Nat} (hr : r < 4294967296 ^ K3) (hb : bit < 2) : (digs (r + r)).length ≤ 2000 ∧ (digs bit).length ≤ 2000 ∧ (digs r).length ≤ 2000 := by
  have h1 : (4294967296 : Nat) ^ K3 ≤ 4294967296 ^ 2000 := pwB K3 2000 (by decide)
  refine ⟨digs_len.2 ?_, digs_len.2 ?_, digs_len.2 (by omega)⟩
  · have h2 : (4294967296 : Nat) ^ (K3 + 1) ≤ 4294967296 ^ 2000 := pwB (K3 + 1) 2000 K3_le
    have h3 : (4294967296 : Nat) ^ (K3 + 1) = 4294967296 ^ K3 * 4294967296 := pwS K3
    omega
  · have : 0 < (4294967296 : Nat) ^ K3 := Nat.pow_pos (by omega)
    have h2 : (4294967296 : Nat) ^ 1 ≤ 4294967296 ^ 2000 := pwB 1 2000 (by decide)
    have h3 : (4294967296 : Nat) ^ 1 = 4294967296 := Nat.pow_one _
    omega
theorem ref02_twice_ok (r bit : Nat) (hr : r < 4294967296 ^ K3) (hb : bit < 2) : F_ref02_twice [N r, .int .u64 (bit : Int)] = .ret (N (r + r + bit)) := by
  obtain ⟨l1, l2, l3⟩ := twice_len hr hb
  refine runP_rets (v := N (r + r + bit)) ?_ (fun H => by simp)
  simp [B_ref02_twice, ref02_Plus_ok r r l3 l3, ref02_Of_ok bit (by omega), ref02_Plus_ok (r + r) bit l1 l2]

theorem bit_step (a n x : Nat) (hx : a / 4294967296 ^ (n / 32) % 4294967296 = x) : x / 2 ^ (n % 32) % 2 = a / 2 ^ n % 2 := by
  have e : (2 : Nat) ^ n = 4294967296 ^ (n / 32) * 2 ^ (n % 32) := by
    rw [show (4294967296 : Nat) = 2 ^ 32 from rfl, ← Nat.pow_mul, ← Nat.pow_add]
    congr 1; omega
  rw [e, ← Nat.div_div_eq_div_mul, ← hx]
  generalize a / 4294967296 ^ (n / 32) = b
  have hk : n % 32 < 32 := Nat.mod_lt _ (by omega)
  generalize n % 32 = k at *
  have e2 : (4294967296 : Nat) = 2 ^ k * (2 * 2 ^ (31 - k)) := by
    rw [← Nat.pow_succ', ← Nat.pow_add]
    have : k + (31 - k + 1) = 32 := by omega
    rw [show k + (31 - k).succ = 32 by omega]
  rw [e2, Nat.mod_mul_right_div_self, Nat.mod_mul_right_mod]

theorem digit_div (xs : List Nat) (h : Dig xs) (i : Nat) (hi : i < xs.length) : dval xs / 4294967296 ^ i % 4294967296 = xs[i] := by
  have v := dval_take_drop xs i (by omega)
  rw [List.drop_eq_getElem_cons hi, dval] at v
  have hl := dval_lt (h.take i)
  rw [List.length_take, Nat.min_eq_left (by omega)] at hl
  rw [v, Nat.add_mul_div_left _ _ (Nat.pow_pos (by omega)), Nat.div_eq_of_lt hl, Nat.zero_add, Nat.add_mul_mod_self_left]
  exact Nat.mod_eq_of_lt (h.at hi)

theorem divmod_step {A b q r bit A' : Nat} (hb : 0 < b) (hA : A = q * b + r) (hr : r < b) (hA' : A' = 2 * A + bit) (hbit : bit < 2) :
    (r + r + bit < b → A' = (q + q + 0) * b + (r + r + bit)) ∧ (¬ r + r + bit < b → A' = (q + q + 1) * b + (r + r + bit - b) ∧ r + r + bit - b < b) := by
  have e : (q + q) * b = q * b + q * b := Nat.add_mul ..
  constructor
  · intro h; rw [Nat.add_zero, e]; omega
  · intro h; rw [Nat.add_mul (q + q) 1 b, e, Nat.one_mul]; omega

theorem ref02_DivMod_ok (a b : Nat) (ha : a < 4294967296 ^ 256) (hb : b < 4294967296 ^ 256) (h0 : 0 < b) : F_ref02_DivMod [N a, N b] = .ret (.tup [N (a / b), N (a % b), I 0]) := by
  have la := digs_len.2 ha
  have lb := digs_len.2 hb
  have hne : digs b ≠ [] := digs_ne.2 (by omega)
  have hb0 : ¬ ((digs b).length : Int) = 0 := by have := List.length_pos_iff.2 hne; omega
  have p300 : (4294967296 : Nat) ^ 256 ≤ 4294967296 ^ K3 := pwB 256 K3 K3_ge
  have l2000 : ∀ {x : Nat}, x < 4294967296 ^ K3 + 4294967296 ^ K3 + 2 → (digs x).length ≤ 2000 := fun {x} hx => digs_len.2 (by
    have h2 : (4294967296 : Nat) ^ (K3 + 1) ≤ 4294967296 ^ 2000 := pwB (K3 + 1) 2000 K3_le
    have h3 : (4294967296 : Nat) ^ (K3 + 1) = 4294967296 ^ K3 * 4294967296 := pwS K3
    omega)
  refine runP_of ?_
  have key : ∃ q r st, (B_ref02_DivMod [N a, N b]).run St.empty = .ok (.tup [q, r, I 0]) st ∧ NorNil q (a / b) ∧ NorNil r (a % b) := by
    have w1 : IntKind.i64.wrap (32 * ((digs a).length : Int)) = ((32 * (digs a).length : Nat) : Int) := by rw [wrap64] <;> omega
    have w2 : IntKind.i64.wrap (((32 * (digs a).length : Nat) : Int) - 1) = ((32 * (digs a).length : Nat) : Int) - 1 := wrap64 _ (by omega) (by omega)
    have start : (B_ref02_DivMod [N a, N b]).run St.empty = iter fuel (fun self v => (L_ref02_DivMod_1 self v).run) [N a, N b, .nilS, .nilS, I (((32 * (digs a).length : Nat) : Int) - 1)] St.empty := by
      simp [B_ref02_DivMod, ref02_Right_eq, ha, hb, hne, w1, w2]
      rw [show (32 * ((digs a).length : Int)) = ((32 * (digs a).length : Nat) : Int) by omega, w2]
    rw [start]
    refine loop_ind (α := Nat × Nat) _ (fun x k w st' => ∃ (q r : PV) (Q R n : Nat), x = (Q, R) ∧ w = [N a, N b, q, r, I ((n : Int) - 1)] ∧ k = n ∧ n ≤ 32 * (digs a).length ∧ NorNil q Q ∧ NorNil r R ∧ a / 2 ^ n = Q * b + R ∧ R < b) (fun res => ∃ q r st, res = .ok (.tup [q, r, I 0]) st ∧ NorNil q (a / b) ∧ NorNil r (a % b)) ?_ fuel (0, 0) (32 * (digs a).length) _ _
      ⟨.nilS, .nilS, 0, 0, _, rfl, rfl, rfl, Nat.le_refl _, .inr ⟨rfl, rfl⟩, .inr ⟨rfl, rfl⟩, ?_, h0⟩ (by unfold fuel; omega)
    rotate_left
    · rw [Nat.pow_mul, Nat.div_eq_of_lt (digs_len.1 (Nat.le_refl _)), Nat.zero_mul]
    rintro _ k w st' ⟨q, r, Q, R, n, rfl, rfl, rfl, hn, hq, hr, hA, hR⟩ self ih
    cases k with
    | zero =>
      rw [Nat.pow_zero, Nat.div_one] at hA
      have hd : a / b = Q ∧ a % b = R := by
        rw [hA, Nat.mul_comm Q b]
        exact ⟨by rw [Nat.mul_add_div h0, Nat.div_eq_of_lt hR, Nat.add_zero], by rw [Nat.mul_add_mod, Nat.mod_eq_of_lt hR]⟩
      rw [hd.1, hd.2]
      have h1 : ¬ (0 : Int) ≤ ((0 : Nat) : Int) - 1 := by omega
      refine ⟨q, r, st', ?_, hq, hr⟩
      simp [L_ref02_DivMod_1, h1]
    | succ n =>
      have e1 : (((n + 1 : Nat) : Int) - 1) = (n : Int) := by omega
      rw [e1]
      have h1 : (0 : Int) ≤ (n : Int) := by omega
      have hi : n / 32 < (digs a).length := by omega
      have d1 : idxM 1 (N a) (I (n / 32 : Nat)) st' = _ := idx_dig st' (digs a) (n / 32) hi
      have q1 : IntKind.i64.wrap ((n : Int).tdiv 32) = ((n / 32 : Nat) : Int) := by
        rw [show (n : Int).tdiv 32 = ((n / 32 : Nat) : Int) from Int.ofNat_tdiv _ _, wrap64] <;> omega
      have q2 : (n : Int).tmod 32 = ((n % 32 : Nat) : Int) := Int.ofNat_tmod _ _
      have q3 : IntKind.u64.wrap ((n % 32 : Nat) : Int) = ((n % 32 : Nat) : Int) := by rw [wrapu64] <;> omega
      have hdv := digit_div (digs a) (dig_digs a) (n / 32) hi
      rw [dval_digs] at hdv
      have hd := (dig_digs a).at hi
      generalize (digs a)[n / 32] = x at *
      have q4 : IntKind.u64.wrap (x : Int) = (x : Int) := by rw [wrapu64] <;> omega
      have s1 := shr64 st' ty_uint64 .u64 x (n % 32) (by omega) (by omega)
      have hb1 := bit_step a n x hdv
      have q5 : ((x / 2 ^ (n % 32) : Nat) : Int).tmod 2 = ((x / 2 ^ (n % 32) % 2 : Nat) : Int) := Int.ofNat_tmod _ _
      have hstep : a / 2 ^ n = 2 * (a / 2 ^ (n + 1)) + x / 2 ^ (n % 32) % 2 := by
        rw [hb1, Nat.pow_succ, ← Nat.div_div_eq_div_mul]
        omega
      have hbit : x / 2 ^ (n % 32) % 2 < 2 := Nat.mod_lt _ (by omega)
      obtain ⟨k1, k2⟩ := divmod_step h0 hA hR hstep hbit
      have hwn : IntKind.i64.wrap ((n : Int) - 1) = (n : Int) - 1 := wrap64 _ (by omega) (by omega)
      generalize x / 2 ^ (n % 32) % 2 = bit at *
      have hQ : Q < 4294967296 ^ K3 := by
        have h2 : Q * 1 ≤ Q * b := Nat.mul_le_mul_left _ h0
        have h3 : a / 2 ^ (n + 1) ≤ a := Nat.div_le_self _ _
        omega
      have hR3 : R < 4294967296 ^ K3 := by omega
      have t1 := ref02_twice_ok R bit hR3 hbit
      have t2 := ref02_twice_ok Q 0 hQ (by omega)
      have t3 := ref02_twice_ok Q 1 hQ (by omega)
      have hlr : (digs (R + R + bit)).length ≤ 2000 := l2000 (by omega)
      have hless := ref02_Less_ok (R + R + bit) b (by omega) (by omega)
      have sq := hq.snap st'.H 999998
      have sr := hr.snap st'.H 999998
      have sq' : snapF st'.H 999999 q = some (N Q) := sq
      have sr' : snapF st'.H 999999 r = some (N R) := sr
      simp only [L_ref02_DivMod_1, run_bnd, g_zero, g_succ, cmp_geq, h1, decide_true, thn_ok, run_if, if_true, op_quo _ _ _ _ 32 (by omega), q1, d1, load_cell, conv_at, q4, op_rem _ _ _ _ 32 (by omega), q2, q3, s1, op_rem _ _ _ _ 2 (by omega), q5]
      rw [callP_eq (by simp [sr']) (by simp [hr.noref])]
      simp only [snapDL_cons, snap_cons, snap_nil, snap_int, sr', Option.getD_some, t1, callK_ret, take_N, thn_ok, run_bnd]
      rw [callP_eq (by simp) (by simp)]
      simp only [snapDL_cons, snap_cons, snap_nil, snap_N, Option.getD_some, hless, callK_ret, take_none_bool, thn_ok, run_if]
      by_cases hlt : R + R + bit < b
      · simp only [hlt, decide_true, if_true, run_bnd]
        rw [callP_eq (by simp [sq']) (by simp [hq.noref])]
        simp only [snapDL_cons, snap_cons, snap_nil, snap_int, sq', Option.getD_some]
        rw [show F_ref02_twice [N Q, .int .u64 0] = .ret (N (Q + Q + 0)) from t2]
        simp only [callK_ret, take_N, thn_ok, run_bnd, op_sub, hwn, run_leaf]
        exact ih (Q + Q + 0, R + R + bit) n _ st' (by omega) ⟨_, _, _, _, n, rfl, rfl, rfl, by omega, .inl rfl, .inl rfl, k1 hlt, hlt⟩
      · obtain ⟨k3, k4⟩ := k2 hlt
        have hmin := ref02_Minus_ok (R + R + bit) b hlr (by omega)
        simp only [hlt, decide_false, Bool.false_eq_true, if_false, run_bnd]
        rw [callP_eq (by simp) (by simp)]
        simp only [snapDL_cons, snap_cons, snap_nil, snap_N, Option.getD_some, hmin, callK_ret, take_N, thn_ok, run_bnd]
        rw [callP_eq (by simp [sq']) (by simp [hq.noref])]
        simp only [snapDL_cons, snap_cons, snap_nil, snap_int, sq', Option.getD_some]
        rw [show F_ref02_twice [N Q, .int .u64 1] = .ret (N (Q + Q + 1)) from t3]
        simp only [callK_ret, take_N, thn_ok, run_bnd, op_sub, hwn, run_leaf]
        exact ih (Q + Q + 1, R + R + bit - b) n _ st' (by omega) ⟨_, _, _, _, n, rfl, rfl, rfl, by omega, .inl rfl, .inl rfl, k3, k4⟩
  obtain ⟨q, r, st, h1, hq, hr⟩ := key
  refine ⟨_, st, h1, ?_⟩
  have sq' : snapF st.H 999998 q = some (N (a / b)) := hq.snap st.H 999997
  have sr' : snapF st.H 999997 r = some (N (a % b)) := hr.snap st.H 999996
  simp [sq', sr']

end Go.Abs
end
