/-
  Joined from: L5 L6 L7 L8 L9.
-/
import Derived.Test.YtliomhbmlclmeaaGreatLA
/-
  NATURAL NUMBERS: Sub, Mul.
-/
section
set_option linter.unusedSimpArgs false
set_option linter.unusedVariables false
namespace Go.Abs
open Go

theorem sub_run (xs ys : List Nat) (hl : ys.length ≤ xs.length) (hx : Dig xs) (hy : Dig ys) (hb : xs.length ≤ 1000) (hle : dval ys ≤ dval xs) (hfit : dval xs < 4294967296 ^ 256) (st : St) (id : Nat) (hid : id < st.nx) (h0 : st.H id = some ⟨1, digV []⟩) :
    Rets (.tup [N (dval xs - dval ys), I 0]) (iter fuel (fun self v => (L_nat_Sub_1 self v).run) [.lst (digV ys), .sl id 0 0 0, .int .u32 0, .lst (digV xs), I xs.length, I 0] st) := by
  refine loop_ind (α := Nat × Nat × List Nat) _ (fun a k v st' => ∃ i c out, a = (i, c, out) ∧ v = [.lst (digV ys), .sl id i 0 i, .int .u32 (c : Int), .lst (digV xs), I xs.length, I i] ∧ k = xs.length - i ∧ i ≤ xs.length ∧ c ≤ 1 ∧ Dig out ∧ out.length = i ∧ id < st'.nx ∧
      st'.H id = some ⟨1, digV out⟩ ∧ dval out + 4294967296 ^ i * dval (xs.drop i) + dval ys = dval xs + 4294967296 ^ i * (c + dval (ys.drop i))) (fun r => Rets (.tup [N (dval xs - dval ys), I 0]) r) ?_ fuel (0, 0, []) xs.length _ _
    ⟨0, 0, [], rfl, rfl, by omega, by omega, by omega, Dig.nil, rfl, hid, h0, by simp [dval]⟩ (by unfold fuel; omega)
  rintro _ k v st' ⟨i, c, out, rfl, rfl, rfl, hi, hc, hdo, hlo, hid', hH, hv⟩ self ih
  by_cases hlt : i < xs.length
  · have hlt' : (i : Int) < (xs.length : Int) := by omega
    have d1 := idx_dig st' xs i hlt
    have hxi : xs[i] = xs.getD i 0 := by simp [hlt]
    have bx := dig_getD hx i
    have by' := dig_getD hy i
    have hw : IntKind.i64.wrap ((i : Int) + 1) = ((i + 1 : Nat) : Int) := by rw [wrap64] <;> omega
    have ha := sub32_ok (xs.getD i 0) (ys.getD i 0) c bx by' hc
    have key : ((J_nat_Sub_1 self) [.lst (digV ys), .sl id i 0 i, .int .u32 (c : Int), .int .u32 ((xs.getD i 0 : Nat) : Int), .int .u32 ((ys.getD i 0 : Nat) : Int), .lst (digV xs), I xs.length, I i]).run st' =
        (L_nat_Sub_1 self [.lst (digV ys), .sl id i 0 i, .int .u32 (c : Int), .lst (digV xs), I xs.length, I i]).run st' := by
      by_cases hy1 : i < ys.length
      · have hy1' : (i : Int) < (ys.length : Int) := by omega
        have d2 := idx_dig st' ys i hy1
        have hyi : ys[i] = ys.getD i 0 := by simp [hy1]
        simp [L_nat_Sub_1, hlt', hy1', d1, d2, hxi, hyi]
      · have hy1' : ¬ (i : Int) < (ys.length : Int) := by omega
        have hyi : ys.getD i 0 = 0 := by simp [hy1]
        rw [hyi]
        simp [L_nat_Sub_1, hlt', hy1', d1, hxi]
    rw [← key]
    generalize hd : (xs.getD i 0 + 2 * 4294967296 - ys.getD i 0 - c) % 4294967296 = d at ha
    generalize hc' : (if xs.getD i 0 < ys.getD i 0 + c then 1 else 0 : Nat) = c' at ha
    have hc1 : c' ≤ 1 := by rw [← hc']; split <;> omega
    have hd1 : d < 4294967296 := by omega
    have hdc : d + ys.getD i 0 + c = xs.getD i 0 + 4294967296 * c' := by
      rw [← hd, ← hc']
      split <;> omega
    simp only [J_nat_Sub_1, g_zero, g_succ, run_bnd]
    rw [callP_eq (by simp) (by simp)]
    simp only [snapDL_cons, snap_cons, snap_nil, snap_int, Option.getD_some, ha, callK_ret, take_none_tup, thn_ok, extract_zero, extract_one, run_bnd]
    have hp := push_run st' 1 4 false (.int .u32 0) (.int .u32 (d : Int)) id (digV out) hH hid' rfl rfl (by omega) (by omega) (by simp [mostBytes]) (by simp [mostLen, hlo]; omega)
      (fun t29 => .bnd (binM .add ty_int (I i) (I 1)) fun t30 => .leaf (self [.lst (digV ys), t29, .int .u32 (c' : Int), .lst (digV xs), I xs.length, t30]))
    obtain ⟨st2, e1, e2, e3, e4, e5⟩ := hp
    simp only [digV_length, hlo, run_bnd] at e1
    rw [e1]
    simp only [op_add, hw, thn_ok, run_leaf]
    have hdo' : Dig (out ++ [d]) := hdo.app (Dig.cons hd1 Dig.nil)
    refine ih (i + 1, c', out ++ [d]) (xs.length - (i + 1)) _ st2 (by omega) ⟨i + 1, _, _, rfl, rfl, rfl, by omega, hc1, hdo', by simp [hlo], by omega, ?_, ?_⟩
    · rw [e2, digV_app]; rfl
    · rw [dval_snoc, hlo]
      rw [dval_drop xs i, dval_drop ys i] at hv
      have e : 4294967296 ^ (i + 1) = 4294967296 ^ i * 4294967296 := Nat.pow_succ ..
      rw [e]
      generalize 4294967296 ^ i = p at *
      generalize dval (xs.drop (i + 1)) = X at *
      generalize dval (ys.drop (i + 1)) = Y at *
      have h5 : p * (d + ys.getD i 0 + c) = p * (xs.getD i 0 + 4294967296 * c') := by rw [hdc]
      simp only [Nat.mul_add] at hv h5 ⊢
      simp only [Nat.mul_assoc] at hv h5 ⊢
      omega
  · have hi' : i = xs.length := by omega
    have hlt' : ¬ (i : Int) < (xs.length : Int) := by omega
    simp only [L_nat_Sub_1, run_bnd, g_zero, g_succ, cmp_lss, hlt', decide_false, thn_ok, run_if, Bool.false_eq_true, if_false]
    rw [hi', List.drop_length, List.drop_eq_nil_of_le hl] at hv
    simp only [dval, Nat.mul_zero, Nat.add_zero] at hv
    have hlt2 := dval_lt hdo
    have hc0 : c = 0 := by
      cases c with
      | zero => rfl
      | succ c =>
        have : 4294967296 ^ xs.length * 1 ≤ 4294967296 ^ xs.length * (c + 1) := Nat.mul_le_mul_left _ (by omega)
        rw [hlo, hi'] at hlt2
        omega
    have hvv : dval out = dval xs - dval ys := by rw [hc0] at hv; omega
    have hf := nat_fit_ok out (by omega) hdo
    rw [hvv] at hf
    have hs := snapL_sl_dig (H := st'.H) (id := id) (sz := 1) (xs := out) hH (by omega)
    rw [hlo] at hs
    obtain ⟨st3, hc3⟩ := callP_frz (own := none) (mp := true) (F := F_nat_fit) hs hf
    rw [hc3]
    have hfit' : dval xs - dval ys < 4294967296 ^ 256 := by omega
    simp only [resN, hfit', if_true]
    simp

theorem nat_Sub_ok (a b : Nat) (ha : a < 4294967296 ^ 256) (hle : b ≤ a) : F_nat_Sub [N a, N b] = .ret (.tup [N (a - b), I 0]) := by
  refine runP_rets (v := .tup [N (a - b), I 0]) ?_ (fun H => by simp)
  have hb : b < 4294967296 ^ 256 := by omega
  have la := digs_len.2 ha
  have hl : (digs b).length ≤ (digs a).length := digs_len.2 (by
    have := digs_len.1 (Nat.le_refl (digs a).length); omega)
  have hc : ¬ cmpN a b < 0 := by unfold cmpN; rw [if_neg (by omega)]; split <;> omega
  have := sub_run (digs a) (digs b) hl (dig_digs a) (dig_digs b) (by omega) (by rw [dval_digs, dval_digs]; exact hle) (by rw [dval_digs]; exact ha) ⟨upd St.empty.H St.empty.nx (some ⟨1, []⟩), St.empty.nx + 1, St.empty.dead⟩ 0 (by simp [St.empty]) (by simp [St.empty, digV])
  rw [dval_digs, dval_digs] at this
  simp [B_nat_Sub, ha, hb, nat_order_ok a b (fit_len ha) (fit_len hb), hc]
  rw [make_zero _ _ _ _ _ (by omega) (by omega) (by omega) (by omega)]
  simp only [thn_ok, run_bnd, len_N, run_loop]
  exact this

end Go.Abs
end
/-
  NATURAL NUMBERS: Mul.
-/
section
set_option linter.unusedSimpArgs false
set_option linter.unusedVariables false
namespace Go.Abs
open Go

theorem mul_word {d e c o : Nat} (hd : d < 4294967296) (he : e < 4294967296) (hc : c < 4294967296) (ho : o < 4294967296) : d * e + o + c < 18446744073709551616 := by
  have : d * e ≤ 4294967295 * 4294967295 := Nat.mul_le_mul (by omega) (by omega)
  omega

theorem getD_set (xs : List Nat) (i d j : Nat) (hi : i < xs.length) : (xs.set i d).getD j 0 = if j = i then d else xs.getD j 0 := by
  by_cases h : j = i
  · subst h; simp [hi]
  · have : ¬ i = j := fun e => h e.symm
    simp [h, List.getElem?_set, this]

/-- The inner rounds: one digit times a number, laid over what is there. -/
theorem mul_inner (ys xs : List Nat) (hy : Dig ys) (hx : Dig xs) (hb : xs.length + ys.length ≤ 1000) (i d : Nat) (hi : i < xs.length) (hd : d < 4294967296) (id : Nat) (T : Nat) (me12 : List PV → M) (Q : Res → Prop)
    (next : ∀ st' out, id < st'.nx → st'.H id = some ⟨1, digV out⟩ → Dig out → out.length = xs.length + ys.length → dval out = T → (∀ j, i + 1 + ys.length ≤ j → out.getD j 0 = 0) →
      Q (me12 [.lst (digV ys), .sl id (xs.length + ys.length) 0 (xs.length + ys.length), .lst (digV xs), I xs.length, I ((i + 1 : Nat) : Int)] st'))
    (st : St) (out0 : List Nat) (hid : id < st.nx) (h0 : st.H id = some ⟨1, digV out0⟩) (hd0 : Dig out0) (hl0 : out0.length = xs.length + ys.length) (hT : dval out0 + 4294967296 ^ i * (d * dval ys) = T) (hz : ∀ j, i + ys.length ≤ j → out0.getD j 0 = 0) :
    Q (iter fuel (fun self v => (L_nat_Mul_1 me12 self v).run) [.lst (digV ys), .sl id (xs.length + ys.length) 0 (xs.length + ys.length), I i, .int .u32 (d : Int), .int .u64 0, .lst (digV xs), I xs.length, I i, .lst (digV ys), I ys.length, I 0] st) := by
  refine loop_ind (α := Nat × Nat × List Nat) _ (fun a k v st' => ∃ n c out, a = (n, c, out) ∧ v = [.lst (digV ys), .sl id (xs.length + ys.length) 0 (xs.length + ys.length), I i, .int .u32 (d : Int), .int .u64 (c : Int), .lst (digV xs), I xs.length, I i, .lst (digV ys), I ys.length, I n] ∧ k = ys.length - n ∧ n ≤ ys.length ∧ c < 4294967296 ∧ Dig out ∧ out.length = xs.length + ys.length ∧ id < st'.nx ∧
      st'.H id = some ⟨1, digV out⟩ ∧ dval out + 4294967296 ^ (i + n) * (c + d * dval (ys.drop n)) = T ∧ (∀ j, i + ys.length ≤ j → out.getD j 0 = 0)) Q ?_ fuel (0, 0, out0) ys.length _ _
    ⟨0, 0, out0, rfl, rfl, by omega, by omega, by omega, hd0, hl0, hid, h0, by simpa using hT, hz⟩ (by unfold fuel; omega)
  rintro _ k v st' ⟨n, c, out, rfl, rfl, rfl, hn, hc, hdo, hlo, hid', hH, hv, hzo⟩ self ih
  by_cases hlt : n < ys.length
  · have hlt' : (n : Int) < (ys.length : Int) := by omega
    have d1 := idx_dig st' ys n hlt
    have he := hy.at hlt
    have hio : i + n < out.length := by omega
    have d2 := idx_sl_dig st' hH (i + n) hio
    have d3 := load_sl_dig st' hH (i + n) hio
    have ho := hdo.at hio
    rw [hlo] at d2 d3
    have hw : IntKind.i64.wrap ((n : Int) + 1) = ((n + 1 : Nat) : Int) := by rw [wrap64] <;> omega
    have hw2 : IntKind.i64.wrap ((i : Int) + n) = ((i + n : Nat) : Int) := by rw [wrap64] <;> omega
    generalize ys[n] = e at he d1
    generalize hoe : out[i + n] = o at ho d3
    have hm := mul_word hd he hc ho
    have u1 : IntKind.u64.wrap (d : Int) = d := wrapu64 _ (by omega) (by omega)
    have u2 : IntKind.u64.wrap (e : Int) = e := wrapu64 _ (by omega) (by omega)
    have u3 : IntKind.u64.wrap (o : Int) = o := wrapu64 _ (by omega) (by omega)
    have u4 : IntKind.u64.wrap ((d : Int) * e) = ((d * e : Nat) : Int) := by rw [Int.natCast_mul]; exact wrapu64 _ (by rw [← Int.natCast_mul]; omega) (by rw [← Int.natCast_mul]; omega)
    have u5 : IntKind.u64.wrap (((d * e : Nat) : Int) + o) = ((d * e + o : Nat) : Int) := wrapu64 _ (by omega) (by omega)
    have u6 : IntKind.u64.wrap ((c : Int) + ((d * e + o : Nat) : Int)) = ((d * e + o + c : Nat) : Int) := by rw [wrapu64] <;> omega
    generalize hs : d * e + o + c = s at hm u6
    have u7 : IntKind.u32.wrap (s : Int) = ((s % 4294967296 : Nat) : Int) := by rw [IntKind.wrap_u32]; omega
    have u8 : IntKind.u64.wrap ((s : Int).fdiv (2 ^ (min (32 : Int).toNat IntKind.u64.bits))) = ((s / 4294967296 : Nat) : Int) := by
      show IntKind.u64.wrap ((s : Int).fdiv 4294967296) = _
      rw [Int.fdiv_eq_ediv_of_nonneg _ (by omega), wrapu64] <;> omega
    have u9 : (s : Int).fdiv (2 ^ (min (32 : Int).toNat IntKind.u64.bits)) = ((s / 4294967296 : Nat) : Int) := by
      show ((s : Int).fdiv 4294967296) = _
      rw [Int.fdiv_eq_ediv_of_nonneg _ (by omega)]; omega
    have hst := store_sl_dig st' hH (i + n) (s % 4294967296) hio
    rw [hlo] at hst
    simp only [L_nat_Mul_1, run_bnd, g_zero, g_succ, cmp_lss, hlt', decide_true, thn_ok, run_if, if_true, d1, load_cell, conv_at, u1, u2, op_mul, u4, op_add, hw2, d2, d3, u3, u5, u6, u7, hst, op_shr _ _ _ _ _ 32 (by omega), u9, hw, run_leaf]
    refine ih (n + 1, s / 4294967296, out.set (i + n) (s % 4294967296)) (ys.length - (n + 1)) _ _ (by omega) ⟨n + 1, _, _, rfl, rfl, rfl, by omega, by omega, hdo.set (Nat.mod_lt _ (by omega)), by simp [hlo], hid', by simp, ?_, fun j hj => ?_⟩
    · have h1 := dval_set (xs := out) (d := s % 4294967296) hio
      rw [hoe] at h1
      have h2 := List.drop_eq_getElem_cons hlt
      have h3 : dval (ys.drop n) = e + 4294967296 * dval (ys.drop (n + 1)) := by
        have hde : ys.getD n 0 = e := by
          have := idx_dig st' ys n hlt
          rw [d1] at this
          simp only [Res.ok.injEq, PV.cref.injEq, PV.int.injEq, true_and, and_true] at this
          simp only [List.getD_eq_getElem?_getD, List.getElem?_eq_getElem hlt, Option.getD_some]
          omega
        rw [dval_drop ys n, hde]
      rw [h3] at hv
      have e1 : 4294967296 ^ (i + (n + 1)) = 4294967296 ^ (i + n) * 4294967296 := Nat.pow_succ ..
      rw [e1]
      generalize 4294967296 ^ (i + n) = p at *
      generalize dval (ys.drop (n + 1)) = Y at *
      have h4 : p * s = p * (s % 4294967296) + p * (4294967296 * (s / 4294967296)) := by rw [← Nat.mul_add, Nat.mod_add_div]
      have h5 : p * (d * (e + 4294967296 * Y)) = p * (d * e) + p * (4294967296 * (d * Y)) := by
        rw [Nat.mul_add, Nat.mul_add, Nat.mul_left_comm d 4294967296 Y]
      have h6 : p * s = p * (d * e) + p * o + p * c := by rw [← hs, Nat.mul_add, Nat.mul_add]
      rw [Nat.mul_assoc, Nat.mul_add 4294967296, Nat.mul_add p]
      rw [Nat.mul_add p c, h5] at hv
      omega
    · rw [getD_set _ _ _ _ hio, if_neg (by omega)]; exact hzo j hj
  · have hn' : n = ys.length := by omega
    subst hn'
    have hlt' : ¬ (ys.length : Int) < (ys.length : Int) := by omega
    have hio : i + ys.length < out.length := by omega
    have d2 := idx_sl_dig st' hH (i + ys.length) hio
    have hw : IntKind.i64.wrap ((i : Int) + 1) = ((i + 1 : Nat) : Int) := by rw [wrap64] <;> omega
    have hw2 : IntKind.i64.wrap ((i : Int) + ys.length) = ((i + ys.length : Nat) : Int) := by rw [wrap64] <;> omega
    have u7 : IntKind.u32.wrap (c : Int) = (c : Int) := wrapu32 _ (by omega) (by omega)
    have hst := store_sl_dig st' hH (i + ys.length) c hio
    rw [hlo] at hst d2
    simp only [L_nat_Mul_1, run_bnd, g_zero, g_succ, cmp_lss, hlt', decide_false, thn_ok, run_if, Bool.false_eq_true, if_false, len_lst, digV_length, op_add, hw2, conv_at, u7, d2, hst, hw, run_leaf]
    refine next _ _ hid' (by simp; rfl) (hdo.set hc) (by simp [hlo]) ?_ (fun j hj => ?_)
    · have h1 := dval_set (xs := out) (d := c) hio
      have h2 : out[i + ys.length] = 0 := by
        have := hzo (i + ys.length) (Nat.le_refl _)
        simpa [hio] using this
      rw [h2, Nat.mul_zero, Nat.add_zero] at h1
      rw [h1, ← hv, List.drop_length]; simp [dval]
    · rw [getD_set _ _ _ _ hio, if_neg (by omega)]; exact hzo j (by omega)

theorem mul_run (xs ys : List Nat) (hx : Dig xs) (hy : Dig ys) (hb : xs.length + ys.length ≤ 1000) (st : St) (id : Nat) (hid : id < st.nx) (h0 : st.H id = some ⟨1, digV (List.replicate (xs.length + ys.length) 0)⟩) :
    Rets (resN (dval xs * dval ys)) (iter fuel (fun self v => (L_nat_Mul_2 self v).run) [.lst (digV ys), .sl id (xs.length + ys.length) 0 (xs.length + ys.length), .lst (digV xs), I xs.length, I 0] st) := by
  refine loop_ind (α := Nat × List Nat) _ (fun a k v st' => ∃ i out, a = (i, out) ∧ v = [.lst (digV ys), .sl id (xs.length + ys.length) 0 (xs.length + ys.length), .lst (digV xs), I xs.length, I i] ∧ k = xs.length - i ∧ i ≤ xs.length ∧ Dig out ∧ out.length = xs.length + ys.length ∧ id < st'.nx ∧
      st'.H id = some ⟨1, digV out⟩ ∧ dval out = dval (xs.take i) * dval ys ∧ (∀ j, i + ys.length ≤ j → out.getD j 0 = 0)) (fun r => Rets (resN (dval xs * dval ys)) r) ?_ fuel (0, List.replicate (xs.length + ys.length) 0) xs.length _ _
    ⟨0, _, rfl, rfl, by omega, by omega, Dig.rep _, by simp, hid, h0, by simp [dval_rep, dval], fun j hj => by simp [List.getElem?_replicate]; split <;> rfl⟩ (by unfold fuel; omega)
  rintro _ k v st' ⟨i, out, rfl, rfl, rfl, hi, hdo, hlo, hid', hH, hv, hz⟩ self ih
  by_cases hlt : i < xs.length
  · have hlt' : (i : Int) < (xs.length : Int) := by omega
    have d1 := idx_dig st' xs i hlt
    have hd := hx.at hlt
    simp only [L_nat_Mul_2, run_bnd, g_zero, g_succ, cmp_lss, hlt', decide_true, thn_ok, run_if, if_true, d1, load_cell, len_lst, digV_length, run_loop]
    have t1 : xs.take (i + 1) = xs.take i ++ [xs[i]] := by rw [List.take_add_one, List.getElem?_eq_getElem hlt]; rfl
    refine mul_inner ys xs hy hx hb i xs[i] hlt hd id (dval (xs.take (i + 1)) * dval ys) self (fun r => Rets (resN (dval xs * dval ys)) r) (fun st2 out2 k1 k2 k3 k4 k5 k6 => ?_) st' out hid' hH hdo hlo ?_ hz
    · exact ih (i + 1, out2) (xs.length - (i + 1)) _ st2 (by omega) ⟨i + 1, out2, rfl, rfl, rfl, by omega, k3, k4, k1, k2, k5, k6⟩
    · rw [t1, dval_snoc, List.length_take, Nat.min_eq_left (by omega), hv, Nat.add_mul, Nat.mul_assoc]
  · have hi' : i = xs.length := by omega
    subst hi'
    have hlt' : ¬ (xs.length : Int) < (xs.length : Int) := by omega
    simp only [L_nat_Mul_2, run_bnd, g_zero, g_succ, cmp_lss, hlt', decide_false, thn_ok, run_if, Bool.false_eq_true, if_false]
    rw [List.take_length] at hv
    have hf := nat_fit_ok out (by omega) hdo
    rw [hv] at hf
    have hs := snapL_sl_dig (H := st'.H) (id := id) (sz := 1) (xs := out) hH (by omega)
    rw [hlo] at hs
    obtain ⟨st3, hc3⟩ := callP_frz (own := none) (mp := true) (F := F_nat_fit) hs hf
    rw [hc3]
    simp [resN]

theorem nat_Mul_ok (a b : Nat) (ha : a < 4294967296 ^ 256) (hb : b < 4294967296 ^ 256) : F_nat_Mul [N a, N b] = .ret (resN (a * b)) := by
  refine runP_rets (v := resN (a * b)) ?_ (fun H => by simp only [resN]; split <;> simp)
  have la := digs_len.2 ha
  have lb := digs_len.2 hb
  have hw : IntKind.i64.wrap (((digs a).length : Int) + (digs b).length) = (((digs a).length + (digs b).length : Nat) : Int) := by rw [wrap64] <;> omega
  have := mul_run (digs a) (digs b) (dig_digs a) (dig_digs b) (by omega) ⟨upd St.empty.H St.empty.nx (some ⟨1, List.replicate ((digs a).length + (digs b).length) (.int .u32 0)⟩), St.empty.nx + 1, St.empty.dead⟩ 0 (by simp [St.empty]) (by rw [digV_rep]; simp [St.empty])
  rw [dval_digs, dval_digs] at this
  simp [B_nat_Mul, ha, hb, hw]
  have hm := make_rep St.empty 1 4 (.int .u32 0) ((digs a).length + (digs b).length) (by omega) (by omega) (by omega) rfl
  simp only [Int.natCast_add] at hm
  rw [hm]
  simp only [thn_ok, run_bnd, len_N, run_loop]
  exact this

end Go.Abs
end
/-
  NATURAL NUMBERS: how many bits, division by one digit, shifts.
-/
section
set_option linter.unusedSimpArgs false
set_option linter.unusedVariables false
set_option maxRecDepth 100000
namespace Go.Abs
open Go

/-! ### bits of words -/
theorem or64 (st : St) (ty : TI) (a b : Nat) (ha : a < 18446744073709551616) (hb : b < 18446744073709551616) : binM .or ty (.int .u64 (a : Int)) (.int .u64 (b : Int)) st = .ok (.int .u64 ((a ||| b : Nat) : Int)) st := by
  have e : binM .or ty (.int .u64 (a : Int)) (.int .u64 (b : Int)) st = .ok (.int .u64 (IntKind.u64.wrap ((BitVec.ofInt 64 (a : Int) ||| BitVec.ofInt 64 (b : Int)).toNat : Int))) st := (rfl)
  rw [e, BitVec.ofInt_natCast, BitVec.ofInt_natCast, BitVec.toNat_or, BitVec.toNat_ofNat, BitVec.toNat_ofNat, Nat.mod_eq_of_lt ha, Nat.mod_eq_of_lt hb]
  have : a ||| b < 2 ^ 64 := Nat.or_lt_two_pow ha hb
  rw [wrapu64 _ (by omega) (by omega)]
theorem or32 (st : St) (ty : TI) (a b : Nat) (ha : a < 4294967296) (hb : b < 4294967296) : binM .or ty (.int .u32 (a : Int)) (.int .u32 (b : Int)) st = .ok (.int .u32 ((a ||| b : Nat) : Int)) st := by
  have e : binM .or ty (.int .u32 (a : Int)) (.int .u32 (b : Int)) st = .ok (.int .u32 (IntKind.u32.wrap ((BitVec.ofInt 32 (a : Int) ||| BitVec.ofInt 32 (b : Int)).toNat : Int))) st := (rfl)
  rw [e, BitVec.ofInt_natCast, BitVec.ofInt_natCast, BitVec.toNat_or, BitVec.toNat_ofNat, BitVec.toNat_ofNat, Nat.mod_eq_of_lt ha, Nat.mod_eq_of_lt hb]
  have : a ||| b < 2 ^ 32 := Nat.or_lt_two_pow ha hb
  rw [wrapu32 _ (by omega) (by omega)]
theorem or_add (c k b : Nat) (h : b < 2 ^ k) : c * 2 ^ k ||| b = c * 2 ^ k + b := by
  rw [← Nat.shiftLeft_eq, Nat.shiftLeft_add_eq_or_of_lt h]
theorem or_add' (c k b : Nat) (h : b < 2 ^ k) : b ||| c * 2 ^ k = c * 2 ^ k + b := by rw [Nat.or_comm, or_add c k b h]
theorem shl64 (st : St) (ty : TI) (k' : IntKind) (a b : Nat) (hb : b ≤ 64) (h : a * 2 ^ b < 18446744073709551616) : binM .shl ty (.int .u64 (a : Int)) (.int k' (b : Int)) st = .ok (.int .u64 ((a * 2 ^ b : Nat) : Int)) st := by
  rw [op_shl _ _ _ _ _ _ (by omega)]
  have : min ((b : Int).toNat) IntKind.u64.bits = b := by show min ((b : Int).toNat) 64 = b; omega
  rw [this]
  have e : (a : Int) * 2 ^ b = ((a * 2 ^ b : Nat) : Int) := by rw [Int.natCast_mul, Int.natCast_pow]; rfl
  rw [e, wrapu64 _ (by omega) (by omega)]
theorem shr64 (st : St) (ty : TI) (k' : IntKind) (a b : Nat) (hb : b ≤ 64) (h : a < 18446744073709551616) : binM .shr ty (.int .u64 (a : Int)) (.int k' (b : Int)) st = .ok (.int .u64 ((a / 2 ^ b : Nat) : Int)) st := by
  rw [op_shr _ _ _ _ _ _ (by omega)]
  have : min ((b : Int).toNat) IntKind.u64.bits = b := by show min ((b : Int).toNat) 64 = b; omega
  rw [this]
  have e : (2 : Int) ^ b = ((2 ^ b : Nat) : Int) := by rw [Int.natCast_pow]; rfl
  rw [e, Int.fdiv_eq_ediv_of_nonneg _ (Int.natCast_nonneg _), ← Int.natCast_ediv]
theorem shr32 (st : St) (ty : TI) (k' : IntKind) (a b : Nat) (hb : b ≤ 32) (h : a < 4294967296) : binM .shr ty (.int .u32 (a : Int)) (.int k' (b : Int)) st = .ok (.int .u32 ((a / 2 ^ b : Nat) : Int)) st := by
  rw [op_shr _ _ _ _ _ _ (by omega)]
  have : min ((b : Int).toNat) IntKind.u32.bits = b := by show min ((b : Int).toNat) 32 = b; omega
  rw [this]
  have e : (2 : Int) ^ b = ((2 ^ b : Nat) : Int) := by rw [Int.natCast_pow]; rfl
  rw [e, Int.fdiv_eq_ediv_of_nonneg _ (Int.natCast_nonneg _), ← Int.natCast_ediv]
@[simp] theorem conv_u64 (st : St) (k : IntKind) (n : Nat) (h : n < 18446744073709551616) : convM .u64 (.int k (n : Int)) st = .ok (.int .u64 (n : Int)) st := by
  rw [conv_at, wrapu64 _ (by omega) (by omega)]
theorem conv_u32 (st : St) (k : IntKind) (n : Nat) : convM .u32 (.int k (n : Int)) st = .ok (.int .u32 ((n % 4294967296 : Nat) : Int)) st := by
  rw [conv_at, IntKind.wrap_u32]; congr 2

/-! ### Len32, LeadingZeros32 -/
def len8 : ByteArray := ⟨#[0, 1, 2, 2, 3, 3, 3, 3, 4, 4, 4, 4, 4, 4, 4, 4, 5, 5, 5, 5, 5, 5, 5, 5, 5, 5, 5, 5, 5, 5, 5, 5, 6, 6, 6, 6, 6, 6, 6, 6, 6, 6, 6, 6, 6, 6, 6, 6, 6, 6, 6, 6, 6, 6, 6, 6, 6, 6, 6, 6, 6, 6, 6, 6, 7, 7, 7, 7, 7, 7, 7, 7, 7, 7, 7, 7, 7, 7, 7, 7, 7, 7, 7, 7, 7, 7, 7, 7, 7, 7, 7, 7, 7, 7, 7, 7, 7, 7, 7, 7, 7, 7, 7, 7, 7, 7, 7, 7, 7, 7, 7, 7, 7, 7, 7, 7, 7, 7, 7, 7, 7, 7, 7, 7, 7, 7, 7, 7, 8, 8, 8, 8, 8, 8, 8, 8, 8, 8, 8, 8, 8, 8, 8, 8, 8, 8, 8, 8, 8, 8, 8, 8, 8, 8, 8, 8, 8, 8, 8, 8, 8, 8, 8, 8, 8, 8, 8, 8, 8, 8, 8, 8, 8, 8, 8, 8, 8, 8, 8, 8, 8, 8, 8, 8, 8, 8, 8, 8, 8, 8, 8, 8, 8, 8, 8, 8, 8, 8, 8, 8, 8, 8, 8, 8, 8, 8, 8, 8, 8, 8, 8, 8, 8, 8, 8, 8, 8, 8, 8, 8, 8, 8, 8, 8, 8, 8, 8, 8, 8, 8, 8, 8, 8, 8, 8, 8, 8, 8, 8, 8, 8, 8, 8, 8, 8, 8, 8, 8, 8, 8, 8, 8, 8, 8, 8, 8]⟩
theorem len8_all : (List.range 256).all (fun x => match len8[x]? with | some b => decide (b.toNat ≤ 8) && decide (x < 2 ^ b.toNat) && (decide (x = 0) || decide (0 < b.toNat)) | none => false) = true := by decide +kernel
theorem len8_ok (x : Nat) (h : x < 256) : ∃ b, len8[x]? = some b ∧ b.toNat ≤ 8 ∧ x < 2 ^ b.toNat ∧ (x ≠ 0 → 0 < b.toNat) := by
  have := List.all_eq_true.1 len8_all x (List.mem_range.2 h)
  split at this
  · rename_i b hb
    simp only [Bool.and_eq_true, decide_eq_true_eq, Bool.or_eq_true] at this
    exact ⟨b, hb, this.1.1, this.1.2, fun hx => this.2.resolve_left hx⟩
  · cases this

theorem len_j1 (st : St) (x n : Nat) (hx : x < 256) (hn : n ≤ 24) : ∃ l : Nat, l ≤ 8 ∧ x < 2 ^ l ∧ (x ≠ 0 → 0 < l) ∧ (J_bits_Len32_1 [.int .u32 (x : Int), I n]).run st = .ok (I ((n + l : Nat) : Int)) st := by
  obtain ⟨b, h1, h2, h3, h4⟩ := len8_ok x hx
  refine ⟨b.toNat, h2, h3, h4, ?_⟩
  have e1 : IntKind.u8.wrap (x : Int) = (x : Int) := by simp [IntKind.wrap, IntKind.bits, IntKind.signed]; omega
  have e2 : byteM (.str len8) (.int .u8 (x : Int)) st = .ok (.int .u8 (b.toNat : Int)) st := by
    simp [byteM, h1]
  have e3 : IntKind.i64.wrap ((b.toNat : Nat) : Int) = ((b.toNat : Nat) : Int) := wrap64 _ (by omega) (by omega)
  have e4 : IntKind.i64.wrap ((n : Int) + (b.toNat : Nat)) = ((n + b.toNat : Nat) : Int) := by rw [wrap64] <;> omega
  have key : ∀ a b : PV, J_bits_Len32_1 [a, b] = .bnd (convM .u8 a) fun t8 => .bnd (byteM (.str len8) t8) fun t9 => .bnd (convM .i64 t9) fun t10 => .bnd (binM .add ty_int b t10) fun t11 => .leaf (ret t11) := fun a b => rfl
  rw [key]
  simp only [run_bnd, conv_at, e1, thn_ok, e2, e3, op_add, e4, run_leaf, ret_at]

theorem len_j2 (st : St) (x n : Nat) (hx : x < 65536) (hn : n ≤ 16) : ∃ l : Nat, l ≤ 16 ∧ x < 2 ^ l ∧ (x ≠ 0 → 0 < l) ∧ (J_bits_Len32_2 [.int .u32 (x : Int), I n]).run st = .ok (I ((n + l : Nat) : Int)) st := by
  by_cases h : 256 ≤ x
  · have h' : (256 : Int) ≤ (x : Int) := by omega
    obtain ⟨l, h1, h2, h3, h4⟩ := len_j1 st (x / 2 ^ 8) (n + 8) (by omega) (by omega)
    have e : IntKind.i64.wrap ((n : Int) + 8) = ((n + 8 : Nat) : Int) := by rw [wrap64] <;> omega
    refine ⟨l + 8, by omega, ?_, by omega, ?_⟩
    · rw [Nat.pow_add]; omega
    · have hs : binM .shr ty_uint32 (.int .u32 (x : Int)) (.int .u64 8) st = _ := shr32 st ty_uint32 .u64 x 8 (by omega) (by omega)
      simp only [J_bits_Len32_2, run_bnd, g_zero, g_succ, cmp_geq, h', decide_true, thn_ok, run_join, run_if, if_true, hs, op_add, e, run_leaf]
      rw [h4]; congr 2; omega
  · have h' : ¬ (256 : Int) ≤ (x : Int) := by omega
    obtain ⟨l, h1, h2, h3, h4⟩ := len_j1 st x n (by omega) (by omega)
    refine ⟨l, by omega, h2, h3, ?_⟩
    simp only [J_bits_Len32_2, run_bnd, g_zero, g_succ, cmp_geq, h', decide_false, thn_ok, run_join, run_if, Bool.false_eq_true, if_false, run_leaf]
    exact h4

theorem len32_ok (x : Nat) (hx : x < 4294967296) : ∃ l : Nat, l ≤ 32 ∧ x < 2 ^ l ∧ (x ≠ 0 → 0 < l) ∧ F_bits_Len32 [.int .u32 (x : Int)] = .ret (I (l : Int)) := by
  by_cases h : 65536 ≤ x
  · have h' : (65536 : Int) ≤ (x : Int) := by omega
    obtain ⟨l, h1, h2, h3, h4⟩ := len_j2 St.empty (x / 2 ^ 16) 16 (by omega) (by omega)
    refine ⟨l + 16, by omega, ?_, by omega, runP_ret (v := I ((l + 16 : Nat) : Int)) (st := St.empty) ?_ (snapD_int _ _ _)⟩
    · rw [Nat.pow_add]; omega
    · have hs : binM .shr ty_uint32 (.int .u32 (x : Int)) (.int .u64 16) St.empty = _ := shr32 St.empty ty_uint32 .u64 x 16 (by omega) (by omega)
      have h4 : (J_bits_Len32_2 [.int .u32 ((x / 2 ^ 16 : Nat) : Int), I 16]).run St.empty = _ := h4
      simp only [B_bits_Len32, run_bnd, cmp_geq, h', decide_true, thn_ok, run_join, run_if, if_true, hs, run_leaf, h4]
      congr 2; omega
  · have h' : ¬ (65536 : Int) ≤ (x : Int) := by omega
    obtain ⟨l, h1, h2, h3, h4⟩ := len_j2 St.empty x 0 (by omega) (by omega)
    refine ⟨l, by omega, h2, h3, runP_ret (v := I (l : Int)) (st := St.empty) ?_ (snapD_int _ _ _)⟩
    simp only [Int.natCast_zero, Nat.zero_add] at h4
    simp only [B_bits_Len32, run_bnd, cmp_geq, h', decide_false, thn_ok, run_join, run_if, Bool.false_eq_true, if_false, run_leaf, h4]

theorem leading_ok (x : Nat) (hx : x < 4294967296) (h0 : x ≠ 0) : ∃ k : Nat, k ≤ 31 ∧ x * 2 ^ k < 4294967296 ∧ F_bits_LeadingZeros32 [.int .u32 (x : Int)] = .ret (I (k : Int)) := by
  obtain ⟨l, h1, h2, h3, h4⟩ := len32_ok x hx
  have hl := h3 h0
  refine ⟨32 - l, by omega, ?_, runP_ret (v := I ((32 - l : Nat) : Int)) (st := St.empty) ?_ (snapD_int _ _ _)⟩
  · have : x * 2 ^ (32 - l) < 2 ^ l * 2 ^ (32 - l) := Nat.mul_lt_mul_of_pos_right h2 (Nat.pow_pos (by omega))
    rw [← Nat.pow_add, show l + (32 - l) = 32 by omega] at this
    exact this
  · have e : IntKind.i64.wrap ((32 : Int) - (l : Int)) = ((32 - l : Nat) : Int) := by rw [wrap64] <;> omega
    simp [B_bits_LeadingZeros32, h4, e]

end Go.Abs
end
/-
  NATURAL NUMBERS: division by one digit, shifts.
-/
section
set_option linter.unusedSimpArgs false
set_option linter.unusedVariables false
namespace Go.Abs
open Go

theorem div32_ok (h l d : Nat) (hd : d < 4294967296) (hh : h < d) (hl : l < 4294967296) :
    F_bits_Div32 [.int .u32 (h : Int), .int .u32 (l : Int), .int .u32 (d : Int)] = .ret (.tup [.int .u32 (((h * 4294967296 + l) / d : Nat) : Int), .int .u32 (((h * 4294967296 + l) % d : Nat) : Int)]) := by
  have hq : (h * 4294967296 + l) / d < 4294967296 := by
    rw [Nat.div_lt_iff_lt_mul (by omega)]
    have : (h + 1) * 4294967296 ≤ d * 4294967296 := Nat.mul_le_mul_right _ hh
    omega
  have hr : (h * 4294967296 + l) % d < d := Nat.mod_lt _ (by omega)
  refine runP_ret (v := .tup [.int .u32 (((h * 4294967296 + l) / d : Nat) : Int), .int .u32 (((h * 4294967296 + l) % d : Nat) : Int)]) (st := St.empty) ?_ (by simp)
  have h0 : ¬ (d : Int) = 0 := by omega
  have h1 : ¬ (d : Int) ≤ (h : Int) := by omega
  have s1 : binM .shl ty_uint64 (.int .u64 (h : Int)) (.int .u64 32) St.empty = _ := shl64 St.empty ty_uint64 .u64 h 32 (by omega) (by omega)
  have s2 := or64 St.empty ty_uint64 (h * 2 ^ 32) l (by omega) (by omega)
  rw [or_add h 32 l (by omega)] at s2
  have e1 : ((h * 2 ^ 32 + l : Nat) : Int).tdiv (d : Int) = (((h * 4294967296 + l) / d : Nat) : Int) := by
    rw [show h * 2 ^ 32 + l = h * 4294967296 + l from rfl]; exact Int.ofNat_tdiv _ _
  have e2 : ((h * 2 ^ 32 + l : Nat) : Int).tmod (d : Int) = (((h * 4294967296 + l) % d : Nat) : Int) := by
    rw [show h * 2 ^ 32 + l = h * 4294967296 + l from rfl]; exact Int.ofNat_tmod _ _
  have w1 : ∀ n : Nat, n < 4294967296 → IntKind.u64.wrap (n : Int) = (n : Int) := fun n hn => wrapu64 _ (by omega) (by omega)
  have w2 : ∀ n : Nat, n < 4294967296 → IntKind.u32.wrap (n : Int) = (n : Int) := fun n hn => wrapu32 _ (by omega) (by omega)
  have e3 := w1 _ hq
  have e4 := w2 _ hq
  have e5 := w2 _ (Nat.lt_trans hr hd)
  simp only [B_bits_Div32, J_bits_Div32_1, run_bnd, cmp_neq, h0, decide_false, Bool.not_false, thn_ok, guardM_tt, if_true, ret_at, cmp_leq, h1, pickM_at, run_join, run_if, Bool.false_eq_true, if_false, run_leaf, g_zero, g_succ,
    conv_u64 _ _ h (by omega), conv_u64 _ _ l (by omega), conv_u64 _ _ d (by omega), s1, s2, op_quo _ _ _ _ _ h0, op_rem _ _ _ _ _ h0, e1, e2, e3, conv_at, e4, e5]

theorem small_run (xs : List Nat) (hx : Dig xs) (hb : xs.length ≤ 1000) (d : Nat) (hd : d < 4294967296) (h0 : 0 < d) (st : St) (id : Nat) (hid : id < st.nx) (hH0 : st.H id = some ⟨1, digV (List.replicate xs.length 0)⟩) :
    Rets (.tup [N (dval xs / d), .int .u32 ((dval xs % d : Nat) : Int)]) (iter fuel (fun self v => (L_nat_small_1 self v).run) [.lst (digV xs), .int .u32 (d : Int), .sl id xs.length 0 xs.length, .int .u32 0, I ((xs.length : Int) - 1)] st) := by
  refine loop_ind (α := Nat × Nat × List Nat) _ (fun a k v st' => ∃ i r out, a = (i, r, out) ∧ v = [.lst (digV xs), .int .u32 (d : Int), .sl id xs.length 0 xs.length, .int .u32 (r : Int), I ((i : Int) - 1)] ∧ k = i ∧ i ≤ xs.length ∧ r < d ∧ Dig out ∧ out.length = xs.length ∧ id < st'.nx ∧ st'.H id = some ⟨1, digV out⟩ ∧
      (∀ j, j < i → out.getD j 0 = 0) ∧ dval out * d + 4294967296 ^ i * r + dval (xs.take i) = dval xs) (fun r => Rets (.tup [N (dval xs / d), .int .u32 ((dval xs % d : Nat) : Int)]) r) ?_ fuel (xs.length, 0, List.replicate xs.length 0) xs.length _ _
    ⟨xs.length, 0, _, rfl, rfl, rfl, by omega, h0, Dig.rep _, by simp, hid, hH0, fun j hj => by simp [List.getElem?_replicate]; split <;> rfl, by simp [dval_rep]⟩ (by unfold fuel; omega)
  rintro _ k v st' ⟨i, r, out, rfl, rfl, rfl, hi, hr, hdo, hlo, hid', hH, hz, hv⟩ self ih
  cases k with
  | zero =>
    have h1 : ¬ (0 : Int) ≤ ((0 : Nat) : Int) - 1 := by omega
    have ht := nat_trim_ok out (by omega) hdo
    have hs := snapL_sl_dig hH (by omega)
    rw [hlo] at hs
    obtain ⟨st3, hc3⟩ := callP_frz (own := none) (mp := true) (F := F_nat_trim) hs ht
    simp only [L_nat_small_1, run_bnd, g_zero, g_succ, cmp_geq, h1, decide_false, thn_ok, run_if, Bool.false_eq_true, if_false, hc3]
    simp only [Nat.pow_zero, Nat.one_mul, List.take_zero, dval, Nat.add_zero] at hv
    have e1 : dval xs / d = dval out := by
      rw [← hv, Nat.mul_comm, Nat.mul_add_div h0, Nat.div_eq_of_lt hr]; omega
    have e2 : dval xs % d = r := by
      rw [← hv, Nat.mul_comm, Nat.mul_add_mod, Nat.mod_eq_of_lt hr]
    simp [e1, e2]
  | succ i =>
    have h1 : (0 : Int) ≤ (i : Int) := by omega
    have e1 : (((i + 1 : Nat) : Int) - 1) = (i : Int) := by omega
    have hix : i < xs.length := by omega
    have hio : i < out.length := by omega
    rw [e1]
    have d1 := idx_dig st' xs i hix
    have hxi := hx.at hix
    have t1 : xs.take (i + 1) = xs.take i ++ [xs[i]] := by rw [List.take_add_one, List.getElem?_eq_getElem hix]; rfl
    rw [t1, dval_snoc, List.length_take, Nat.min_eq_left (by omega)] at hv
    generalize xs[i] = x at hxi d1 hv
    have hdv := div32_ok r x d hd hr hxi
    have d2 := idx_sl_dig st' hH i hio
    have hw : IntKind.i64.wrap ((i : Int) - 1) = (i : Int) - 1 := wrap64 _ (by omega) (by omega)
    have hq : (r * 4294967296 + x) / d < 4294967296 := by
      rw [Nat.div_lt_iff_lt_mul (by omega)]
      have : (r + 1) * 4294967296 ≤ d * 4294967296 := Nat.mul_le_mul_right _ hr
      omega
    have hst := store_sl_dig st' hH i ((r * 4294967296 + x) / d) hio
    rw [hlo] at d2 hst
    simp only [L_nat_small_1, run_bnd, g_zero, g_succ, cmp_geq, h1, decide_true, thn_ok, run_if, if_true, d1, load_cell]
    rw [callP_eq (by simp) (by simp)]
    simp only [snapDL_cons, snap_cons, snap_nil, snap_int, Option.getD_some, hdv, callK_ret, take_none_tup, thn_ok, extract_zero, extract_one, run_bnd, d2, hst, op_sub, hw, run_leaf]
    refine ih (i, (r * 4294967296 + x) % d, out.set i ((r * 4294967296 + x) / d)) i _ _ (by omega) ⟨i, _, _, rfl, rfl, rfl, by omega, Nat.mod_lt _ h0, hdo.set hq, by simp [hlo], hid', by simp, fun j hj => ?_, ?_⟩
    · rw [getD_set _ _ _ _ hio, if_neg (by omega)]; exact hz j (by omega)
    · have h2 := dval_set (xs := out) (d := (r * 4294967296 + x) / d) hio
      have h3 : out[i] = 0 := by
        have := hz i (by omega)
        simpa [hio] using this
      rw [h3, Nat.mul_zero, Nat.add_zero] at h2
      rw [h2, ← hv, Nat.pow_succ]
      have h4 := Nat.div_add_mod (r * 4294967296 + x) d
      generalize (r * 4294967296 + x) / d = q at *
      generalize (r * 4294967296 + x) % d = m at *
      generalize 4294967296 ^ i = p at *
      have h5 : p * (d * q + m) = p * (r * 4294967296 + x) := by rw [h4]
      rw [Nat.mul_add, Nat.mul_add] at h5
      rw [Nat.add_mul, Nat.mul_assoc p 4294967296 r, Nat.mul_comm 4294967296 r, Nat.mul_assoc p q d, Nat.mul_comm q d]
      omega

theorem nat_small_ok (a d : Nat) (ha : a < 4294967296 ^ 256) (hd : d < 4294967296) (h0 : 0 < d) : F_nat_small [N a, .int .u32 (d : Int)] = .ret (.tup [N (a / d), .int .u32 ((a % d : Nat) : Int)]) := by
  refine runP_rets (v := .tup [N (a / d), .int .u32 ((a % d : Nat) : Int)]) ?_ (fun H => by simp)
  have la := digs_len.2 ha
  have hw : IntKind.i64.wrap (((digs a).length : Int) - 1) = (digs a).length - 1 := wrap64 _ (by omega) (by omega)
  have := small_run (digs a) (dig_digs a) (by omega) d hd h0 ⟨upd St.empty.H St.empty.nx (some ⟨1, List.replicate (digs a).length (.int .u32 0)⟩), St.empty.nx + 1, St.empty.dead⟩ 0 (by simp [St.empty]) (by rw [digV_rep]; simp [St.empty])
  rw [dval_digs] at this
  simp only [B_nat_small, run_bnd, len_N, thn_ok]
  rw [make_rep _ _ _ _ _ (by omega) (by omega) (by omega) rfl]
  simp only [thn_ok, run_bnd, len_N, op_sub, hw, run_loop]
  exact this

/-! ### shifts -/
theorem shift_run (xs : List Nat) (hx : Dig xs) (hb : xs.length ≤ 1000) (by_ : Nat) (hby : by_ ≤ 31) (st : St) (id : Nat) (hid : id < st.nx) (hH0 : st.H id = some ⟨1, digV (List.replicate (xs.length + 1) 0)⟩) :
    ∃ st' out, iter fuel (fun self v => (L_nat_shift_1 self v).run) [I by_, .sl id (xs.length + 1) 0 (xs.length + 1), .lst (digV xs), I xs.length, I 0] st = .ok (.sl id (xs.length + 1) 0 (xs.length + 1)) st' ∧ st'.H id = some ⟨1, digV out⟩ ∧ Dig out ∧ out.length = xs.length + 1 ∧ dval out = dval xs * 2 ^ by_ := by
  refine loop_ind (α := Nat × List Nat) _ (fun a k v st' => ∃ i out, a = (i, out) ∧ v = [I by_, .sl id (xs.length + 1) 0 (xs.length + 1), .lst (digV xs), I xs.length, I i] ∧ k = xs.length - i ∧ i ≤ xs.length ∧ Dig out ∧ out.length = xs.length + 1 ∧ id < st'.nx ∧ st'.H id = some ⟨1, digV out⟩ ∧
      (∀ j, i < j → out.getD j 0 = 0) ∧ out.getD i 0 < 2 ^ by_ ∧ dval out = dval (xs.take i) * 2 ^ by_) (fun r => ∃ st' out, r = .ok (.sl id (xs.length + 1) 0 (xs.length + 1)) st' ∧ st'.H id = some ⟨1, digV out⟩ ∧ Dig out ∧ out.length = xs.length + 1 ∧ dval out = dval xs * 2 ^ by_) ?_ fuel (0, List.replicate (xs.length + 1) 0) xs.length _ _
    ⟨0, _, rfl, rfl, by omega, by omega, Dig.rep _, by simp, hid, hH0, fun j hj => by simp [List.getElem?_replicate]; split <;> rfl, by simpa using Nat.pow_pos (by omega), by simp [dval_rep, dval]⟩ (by unfold fuel; omega)
  rintro _ k v st' ⟨i, out, rfl, rfl, rfl, hi, hdo, hlo, hid', hH, hz, hlow, hv⟩ self ih
  by_cases hlt : i < xs.length
  · have hlt' : (i : Int) < (xs.length : Int) := by omega
    have d1 := idx_dig st' xs i hlt
    have hxi := hx.at hlt
    have t1 : xs.take (i + 1) = xs.take i ++ [xs[i]] := by rw [List.take_add_one, List.getElem?_eq_getElem hlt]; rfl
    have hio : i < out.length := by omega
    have hio' : i + 1 < out.length := by omega
    have d2 := idx_sl_dig st' hH i hio
    have d3 := load_sl_dig st' hH i hio
    have hoi : out[i] = out.getD i 0 := by simp [hio]
    rw [hoi] at d3
    have hp31 : 2 ^ by_ ≤ 2 ^ 31 := Nat.pow_le_pow_right (by omega) hby
    generalize hx0 : xs[i] = x at hxi d1 t1
    generalize hlo0 : out.getD i 0 = lo at hlow d3
    have hmul : x * 2 ^ by_ < 18446744073709551616 := by
      have h2 : x * 2 ^ by_ ≤ 4294967295 * 2147483648 := Nat.mul_le_mul (by omega) (by omega)
      omega
    have s1 := shl64 st' ty_uint64 .i64 x by_ (by omega) hmul
    have s2 := conv_u32 st' .u64 (x * 2 ^ by_)
    -- the low part is a multiple of so many bits
    have hsplit : 4294967296 = 2 ^ (32 - by_) * 2 ^ by_ := by rw [← Nat.pow_add, show 32 - by_ + by_ = 32 by omega]
    have hmod : x * 2 ^ by_ % 4294967296 = x % 2 ^ (32 - by_) * 2 ^ by_ := by
      conv => lhs; rw [hsplit]
      rw [Nat.mul_mod_mul_right]
    have hlow2 : x % 2 ^ (32 - by_) * 2 ^ by_ + lo < 4294967296 := by
      have h3 : x % 2 ^ (32 - by_) + 1 ≤ 2 ^ (32 - by_) := Nat.mod_lt _ (Nat.pow_pos (by omega))
      have h4 := Nat.mul_le_mul_right (2 ^ by_) h3
      rw [Nat.add_mul, Nat.one_mul, ← hsplit] at h4
      omega
    have s3 := or32 st' ty_uint32 lo (x % 2 ^ (32 - by_) * 2 ^ by_) (by omega) (by omega)
    rw [or_add' _ by_ lo hlow] at s3
    have hst := store_sl_dig st' hH i (x % 2 ^ (32 - by_) * 2 ^ by_ + lo) hio
    have hw : IntKind.i64.wrap ((i : Int) + 1) = ((i + 1 : Nat) : Int) := by rw [wrap64] <;> omega
    have hH1 : (⟨upd st'.H id (some ⟨1, digV (out.set i (x % 2 ^ (32 - by_) * 2 ^ by_ + lo))⟩), st'.nx, st'.dead⟩ : St).H id = some ⟨1, digV (out.set i (x % 2 ^ (32 - by_) * 2 ^ by_ + lo))⟩ := by simp
    have d4 := idx_sl_dig _ hH1 (i + 1) (by simp; omega)
    have hst2 := store_sl_dig _ hH1 (i + 1) (x * 2 ^ by_ / 4294967296) (by simp; omega)
    have s4 : binM .shr ty_uint64 (.int .u64 ((x * 2 ^ by_ : Nat) : Int)) (.int .u64 32) ⟨upd st'.H id (some ⟨1, digV (out.set i (x % 2 ^ (32 - by_) * 2 ^ by_ + lo))⟩), st'.nx, st'.dead⟩ = _ := shr64 _ ty_uint64 .u64 (x * 2 ^ by_) 32 (by omega) hmul
    have hhi : x * 2 ^ by_ / 4294967296 < 2 ^ by_ := by
      rw [Nat.div_lt_iff_lt_mul (by omega), Nat.mul_comm (2 ^ by_)]
      exact Nat.mul_lt_mul_of_pos_right hxi (Nat.pow_pos (by omega))
    have s5 : IntKind.u32.wrap ((x * 2 ^ by_ / 2 ^ 32 : Nat) : Int) = ((x * 2 ^ by_ / 4294967296 : Nat) : Int) := by
      show IntKind.u32.wrap ((x * 2 ^ by_ / 4294967296 : Nat) : Int) = _
      rw [wrapu32] <;> omega
    rw [List.length_set, hlo] at d4 hst2
    rw [hlo] at d2 d3 hst
    simp only [L_nat_shift_1, run_bnd, g_zero, g_succ, cmp_lss, hlt', decide_true, thn_ok, run_if, if_true, d1, load_cell, conv_u64 _ _ x (by omega), s1, d2, d3, s2, hmod, s3, hst, op_add, hw, s4, conv_at, s5, d4, hst2, run_leaf]
    refine ih (i + 1, _) (xs.length - (i + 1)) _ _ (by omega) ⟨i + 1, (out.set i (x % 2 ^ (32 - by_) * 2 ^ by_ + lo)).set (i + 1) (x * 2 ^ by_ / 4294967296), rfl, rfl, rfl, by omega, (hdo.set hlow2).set (by omega), by simp [hlo], hid', by simp, fun j hj => ?_, ?_, ?_⟩
    · rw [getD_set _ _ _ _ (by simp; omega), if_neg (by omega), getD_set _ _ _ _ hio, if_neg (by omega)]; exact hz j (by omega)
    · rw [getD_set _ _ _ _ (by simp; omega), if_pos rfl]; exact hhi
    · have h1 := dval_set (xs := out) (d := x % 2 ^ (32 - by_) * 2 ^ by_ + lo) hio
      have h2 := dval_set (xs := out.set i (x % 2 ^ (32 - by_) * 2 ^ by_ + lo)) (i := i + 1) (d := x * 2 ^ by_ / 4294967296) (by simp; omega)
      have h3 : (out.set i (x % 2 ^ (32 - by_) * 2 ^ by_ + lo))[i + 1]'(by simp; omega) = 0 := by
        have := hz (i + 1) (by omega)
        rw [List.getElem_set_ne (by omega)]
        simpa [hio'] using this
      rw [h3, Nat.mul_zero, Nat.add_zero] at h2
      rw [hoi, hlo0] at h1
      rw [h2, t1, dval_snoc, List.length_take, Nat.min_eq_left (by omega), Nat.add_mul, ← hv, Nat.pow_succ]
      have h4 := Nat.div_add_mod (x * 2 ^ by_) 4294967296
      rw [hmod] at h4
      generalize x * 2 ^ by_ / 4294967296 = q at *
      generalize x % 2 ^ (32 - by_) * 2 ^ by_ = m at *
      generalize 4294967296 ^ i = p at *
      have h5 : p * (4294967296 * q + m) = p * (x * 2 ^ by_) := by rw [h4]
      rw [Nat.mul_add] at h5 h1
      rw [Nat.mul_assoc p 4294967296 q, Nat.mul_assoc p x]
      omega
  · have hi' : i = xs.length := by omega
    subst hi'
    have hlt' : ¬ (xs.length : Int) < (xs.length : Int) := by omega
    simp only [L_nat_shift_1, run_bnd, g_zero, g_succ, cmp_lss, hlt', decide_false, thn_ok, run_if, Bool.false_eq_true, if_false, run_leaf, ret_at]
    rw [List.take_length] at hv
    exact ⟨_, out, rfl, hH, hdo, hlo, hv⟩

/-- Moved up by so many bits: fresh. -/
theorem nat_shift_ok (a k : Nat) (ha : a < 4294967296 ^ 256) (hk : k ≤ 31) : ∃ out, F_nat_shift [N a, I k] = .ret (.fr 1 (digV out)) ∧ Dig out ∧ out.length = (digs a).length + 1 ∧ dval out = a * 2 ^ k := by
  have la := digs_len.2 ha
  have hw : IntKind.i64.wrap (((digs a).length : Int) + 1) = (((digs a).length + 1 : Nat) : Int) := by rw [wrap64] <;> omega
  obtain ⟨st', out, h1, h2, h3, h4, h5⟩ := shift_run (digs a) (dig_digs a) (by omega) k hk ⟨upd St.empty.H St.empty.nx (some ⟨1, List.replicate ((digs a).length + 1) (.int .u32 0)⟩), St.empty.nx + 1, St.empty.dead⟩ 0 (by simp [St.empty]) (by rw [digV_rep]; simp [St.empty])
  rw [dval_digs] at h5
  have hm := make_rep St.empty 1 4 (.int .u32 0) ((digs a).length + 1) (by omega) (by omega) (by omega) rfl
  have hrun : (B_nat_shift [N a, I k]).run St.empty = .ok (.sl 0 ((digs a).length + 1) 0 ((digs a).length + 1)) st' := by
    simp only [B_nat_shift, run_bnd, len_N, thn_ok, op_add, hw]
    rw [hm]
    simp only [thn_ok, run_bnd, len_N, run_loop]
    exact h1
  refine ⟨out, ?_, h3, h4, h5⟩
  have hn : noreL (digV out) = true := by
    clear h1 h2 h3 h4 h5 hrun
    induction out with
    | nil => rfl
    | cons d ds ih => simpa [digV] using ih
  simp [F_nat_shift, runP, hrun, freshV, h2, h4, hn]

end Go.Abs
end
/-
  NATURAL NUMBERS: a digit of a quotient, guessed.
-/
section
set_option linter.unusedSimpArgs false
set_option linter.unusedVariables false
namespace Go.Abs
open Go

section
variable {P v1 v2 Vl u3 top Ul : Nat}

theorem guess_down {q r : Nat} (hVl : Vl < P) (hUl : Ul < P) (ht : top = q * v1 + r) (hB : Ul + P * (u3 + 4294967296 * top) < 4294967296 * (Vl + P * (v2 + 4294967296 * v1)))
    (hc : 4294967296 ≤ q ∨ r * 4294967296 + u3 < q * v2) : Ul + P * (u3 + 4294967296 * top) < q * (Vl + P * (v2 + 4294967296 * v1)) := by
  rcases hc with hc | hc
  · have := Nat.mul_le_mul_right (Vl + P * (v2 + 4294967296 * v1)) hc
    omega
  · have h1 : u3 + 1 + 4294967296 * top ≤ q * (v2 + 4294967296 * v1) := by
      rw [Nat.mul_add, Nat.mul_left_comm q 4294967296 v1, ht]; omega
    have h2 := Nat.mul_le_mul_left P h1
    rw [Nat.mul_add q, Nat.mul_left_comm q P]
    have h3 : P * (u3 + 1 + 4294967296 * top) = P + P * (u3 + 4294967296 * top) := by
      rw [show u3 + 1 + 4294967296 * top = (u3 + 4294967296 * top) + 1 by omega, Nat.mul_add]; omega
    omega

theorem guess_end {q r : Nat} (hVl : Vl < P) (hv1 : 0 < v1) (ht : top = q * v1 + r) (hq : q < 4294967296) (hc : q * v2 ≤ r * 4294967296 + u3) :
    q * (Vl + P * (v2 + 4294967296 * v1)) ≤ Ul + P * (u3 + 4294967296 * top) + (Vl + P * (v2 + 4294967296 * v1)) := by
  have h1 : q * (v2 + 4294967296 * v1) ≤ u3 + 4294967296 * top := by
    rw [Nat.mul_add, Nat.mul_left_comm q 4294967296 v1, ht]; omega
  have h2 := Nat.mul_le_mul_left P h1
  rw [Nat.mul_add q, Nat.mul_left_comm q P]
  have h3 : q * Vl ≤ 4294967296 * P := Nat.mul_le_mul (by omega) (by omega)
  have h4 : 4294967296 * P ≤ P * (v2 + 4294967296 * v1) := by
    rw [Nat.mul_comm 4294967296 P]
    exact Nat.mul_le_mul_left _ (by omega)
  omega

theorem guess_break {q r : Nat} (hVl : Vl < P) (hv1 : 0 < v1) (hv2 : v2 < 4294967296) (ht : top = q * v1 + r) (hr : 4294967296 ≤ r) (hB : Ul + P * (u3 + 4294967296 * top) < 4294967296 * (Vl + P * (v2 + 4294967296 * v1))) :
    q < 4294967296 ∧ q * v2 ≤ r * 4294967296 + u3 := by
  have h1 : top < v2 + 1 + 4294967296 * v1 := by
    refine Nat.lt_of_not_le fun hle => ?_
    have h2 := Nat.mul_le_mul_left (4294967296 * P) hle
    have e1 : 4294967296 * P * top = P * (4294967296 * top) := by rw [Nat.mul_comm 4294967296 P, Nat.mul_assoc]
    have e2 : 4294967296 * P * (v2 + 1 + 4294967296 * v1) = 4294967296 * P + 4294967296 * (P * (v2 + 4294967296 * v1)) := by
      rw [show v2 + 1 + 4294967296 * v1 = (v2 + 4294967296 * v1) + 1 by omega, Nat.mul_add, Nat.mul_assoc]; omega
    rw [e1, e2] at h2
    rw [Nat.mul_add P, Nat.mul_add 4294967296 Vl] at hB
    omega
  have hq : q < 4294967296 := by
    refine Nat.lt_of_not_le fun hle => ?_
    have := Nat.mul_le_mul_right v1 hle
    omega
  refine ⟨hq, ?_⟩
  have h3 : q * v2 ≤ 4294967296 * 4294967296 := Nat.mul_le_mul (by omega) (by omega)
  have h4 := Nat.mul_le_mul_right 4294967296 hr
  omega
end

/-- What a guess is. -/
def Guess (U V q : Nat) : Prop := q < 4294967296 ∧ U < (q + 1) * V ∧ q * V ≤ U + V

theorem last3 {xs : List Nat} {n : Nat} (h : xs.length = n + 3) : dval (xs.drop n) = xs.getD n 0 + 4294967296 * (xs.getD (n + 2) 0 * 4294967296 + xs.getD (n + 1) 0) := by
  rw [dval_drop xs n, dval_drop xs (n + 1), dval_drop xs (n + 2), List.drop_eq_nil_of_le (by omega : xs.length ≤ n + 2 + 1)]
  simp only [dval]; omega
theorem last2 {xs : List Nat} {n : Nat} (h : xs.length = n + 2) : dval (xs.drop n) = xs.getD n 0 + 4294967296 * xs.getD (n + 1) 0 := by
  rw [dval_drop xs n, dval_drop xs (n + 1), List.drop_eq_nil_of_le (by omega : xs.length ≤ n + 1 + 1)]
  simp only [dval]; omega

theorem guess_run (us vs : List Nat) (hu : Dig us) (hv : Dig vs) (n m : Nat) (hn : us.length = n + 3) (hm : vs.length = m + 2) (hnm : m ≤ n) (hb : us.length ≤ 1000) (hb2 : vs.length ≤ 1000) (st : St)
    (hv1 : 0 < vs.getD (m + 1) 0) (hB : dval (us.drop (n - m)) < 4294967296 * dval vs) (q0 r0 : Nat) (hq0 : q0 < 18446744073709551616) (hr0 : r0 < 4294967296) (ht0 : us.getD (n + 2) 0 * 4294967296 + us.getD (n + 1) 0 = q0 * vs.getD (m + 1) 0 + r0)
    (hQ0 : dval (us.drop (n - m)) < (q0 + 1) * dval vs) :
    ∃ q : Nat, iter fuel (fun self v => (L_nat_guess_1 self v).run) [.lst (digV us), .lst (digV vs), I us.length, I vs.length, .int .u64 (q0 : Int), .int .u64 (r0 : Int)] st = .ok (.int .u64 (q : Int)) st ∧ Guess (dval (us.drop (n - m))) (dval vs) q := by
  -- the parts
  have b3 := dig_getD hu n
  have bv1 := dig_getD hv (m + 1)
  have bv2 := dig_getD hv m
  have eV := dval_take_drop vs m (by omega)
  rw [last2 hm] at eV
  have hVl := dval_lt (hv.take m)
  rw [List.length_take, Nat.min_eq_left (by omega)] at hVl
  have eU : dval (us.drop (n - m)) = dval ((us.drop (n - m)).take m) + 4294967296 ^ m * (us.getD n 0 + 4294967296 * (us.getD (n + 2) 0 * 4294967296 + us.getD (n + 1) 0)) := by
    have h1 := dval_take_drop (us.drop (n - m)) m (by simp; omega)
    rw [List.drop_drop, show n - m + m = n by omega, last3 hn] at h1
    exact h1
  have hUl := dval_lt ((hu.drop (n - m)).take m)
  rw [List.length_take, List.length_drop, Nat.min_eq_left (by omega)] at hUl
  have d1 : idxM 1 (.lst (digV us)) (I (n : Int)) st = .ok (.cref (.int .u32 ((us.getD n 0 : Nat) : Int)) 0) st := by
    rw [idx_dig st us n (by omega)]; simp [hn]
  have d2 : idxM 1 (.lst (digV vs)) (I (m : Int)) st = .ok (.cref (.int .u32 ((vs.getD m 0 : Nat) : Int)) 0) st := by
    rw [idx_dig st vs m (by omega)]; simp [hm]
  have d3 : idxM 1 (.lst (digV vs)) (I ((m + 1 : Nat) : Int)) st = .ok (.cref (.int .u32 ((vs.getD (m + 1) 0 : Nat) : Int)) 0) st := by
    rw [idx_dig st vs (m + 1) (by omega)]; simp [hm]
  generalize us.getD n 0 = u3 at *
  generalize us.getD (n + 2) 0 * 4294967296 + us.getD (n + 1) 0 = top at *
  generalize vs.getD (m + 1) 0 = v1 at *
  generalize vs.getD m 0 = v2 at *
  generalize dval ((us.drop (n - m)).take m) = Ul at *
  generalize dval (vs.take m) = Vl at *
  rw [eU, eV] at hB hQ0
  rw [eU, eV]
  generalize 4294967296 ^ m = P at *
  have w1 : IntKind.i64.wrap ((us.length : Int) - 3) = (n : Int) := by rw [wrap64] <;> omega
  have w2 : IntKind.i64.wrap ((vs.length : Int) - 2) = (m : Int) := by rw [wrap64] <;> omega
  have w3 : IntKind.i64.wrap ((vs.length : Int) - 1) = ((m + 1 : Nat) : Int) := by rw [wrap64] <;> omega
  refine loop_ind (α := Nat × Nat) _ (fun a k v st' => ∃ q r, a = (q, r) ∧ v = [.lst (digV us), .lst (digV vs), I us.length, I vs.length, .int .u64 (q : Int), .int .u64 (r : Int)] ∧ k = q ∧ st' = st ∧ q < 18446744073709551616 ∧ r < 4294967296 ∧ top = q * v1 + r ∧ Ul + P * (u3 + 4294967296 * top) < (q + 1) * (Vl + P * (v2 + 4294967296 * v1)))
    (fun r => ∃ q : Nat, r = .ok (.int .u64 (q : Int)) st ∧ Guess (Ul + P * (u3 + 4294967296 * top)) (Vl + P * (v2 + 4294967296 * v1)) q) ?_ fuel (q0, r0) q0 _ _ ⟨q0, r0, rfl, rfl, rfl, rfl, hq0, hr0, ht0, hQ0⟩ (by unfold fuel; omega)
  rintro _ k v st' ⟨q, r, rfl, rfl, rfl, rfl, hq, hr, ht, hQ⟩ self ih
  have s1 : binM .shl ty_uint64 (.int .u64 (r : Int)) (.int .u64 32) st' = _ := shl64 st' ty_uint64 .u64 r 32 (by omega) (by omega)
  have s2 := or64 st' ty_uint64 (r * 2 ^ 32) u3 (by omega) (by omega)
  rw [or_add r 32 u3 (by omega)] at s2
  -- one down
  have down : 4294967296 ≤ k ∨ r * 4294967296 + u3 < k * v2 → Ul + P * (u3 + 4294967296 * top) < k * (Vl + P * (v2 + 4294967296 * v1)) := fun hc => guess_down hVl hUl ht hB hc
  -- what follows once it is too great
  have cont : (4294967296 ≤ k ∨ r * 4294967296 + u3 < k * v2) →
      ∃ q : Nat, (Prog.bnd (binM .sub ty_uint64 (.int .u64 (k : Int)) (.int .u64 1)) fun t45 => .bnd (binM .sub ty_int (I vs.length) (I 1)) fun t46 => .bnd (idxM 1 (.lst (digV vs)) t46) fun t47 => .bnd (loadM none t47) fun t48 => .bnd (convM .u64 t48) fun t49 =>
        .bnd (binM .add ty_uint64 (.int .u64 (r : Int)) t49) fun t50 => .bnd (binM .geq ty_uint64 t50 (.int .u64 4294967296)) fun t51 => .ifP t51 (.leaf (ret t45)) (.leaf (self [.lst (digV us), .lst (digV vs), I us.length, I vs.length, t45, t50]))).run st' = .ok (.int .u64 (q : Int)) st' ∧
        Guess (Ul + P * (u3 + 4294967296 * top)) (Vl + P * (v2 + 4294967296 * v1)) q := by
    intro hc
    have hd := down hc
    have hk : 0 < k := by
      rcases Nat.eq_zero_or_pos k with rfl | h
      · omega
      · exact h
    obtain ⟨k, rfl⟩ : ∃ n, k = n + 1 := ⟨k - 1, by omega⟩
    have ht' : top = k * v1 + (r + v1) := by rw [ht, Nat.add_mul]; omega
    have e1 : IntKind.u64.wrap (((k + 1 : Nat) : Int) - 1) = (k : Int) := by rw [wrapu64] <;> omega
    have e2 : IntKind.u64.wrap ((r : Int) + v1) = ((r + v1 : Nat) : Int) := wrapu64 _ (by omega) (by omega)
    by_cases hr2 : 4294967296 ≤ r + v1
    · have hr2' : (4294967296 : Int) ≤ ((r + v1 : Nat) : Int) := by omega
      obtain ⟨g1, g2⟩ := guess_break hVl hv1 bv2 ht' hr2 hB
      refine ⟨k, ?_, g1, hd, guess_end hVl hv1 ht' g1 g2⟩
      simp only [run_bnd, op_sub, e1, thn_ok, w3, d3, load_cell, conv_u64 _ _ v1 (by omega), op_add, e2, cmp_geq, hr2', decide_true, run_if, if_true, run_leaf, ret_at]
    · have hr2' : ¬ (4294967296 : Int) ≤ ((r + v1 : Nat) : Int) := by omega
      simp only [run_bnd, op_sub, e1, thn_ok, w3, d3, load_cell, conv_u64 _ _ v1 (by omega), op_add, e2, cmp_geq, hr2', decide_false, run_if, Bool.false_eq_true, if_false, run_leaf]
      exact ih (k, r + v1) k _ st' (by omega) ⟨k, r + v1, rfl, rfl, rfl, rfl, by omega, by omega, ht', hd⟩
  by_cases hk : 4294967296 ≤ k
  · have hk' : (4294967296 : Int) ≤ (k : Int) := by omega
    have := cont (.inl hk)
    simpa only [L_nat_guess_1, run_bnd, g_zero, g_succ, cmp_geq, hk', decide_true, thn_ok, guardM_ff, if_true, pickM_at, run_if] using this
  · have hk' : ¬ (4294967296 : Int) ≤ (k : Int) := by omega
    have hm2 : k * v2 < 18446744073709551616 := by
      have : k * v2 ≤ 4294967295 * 4294967295 := Nat.mul_le_mul (by omega) (by omega)
      omega
    have e1 : IntKind.u64.wrap ((k : Int) * v2) = ((k * v2 : Nat) : Int) := by
      rw [← Int.natCast_mul, wrapu64 _ (by omega) (by omega)]
    by_cases hg : r * 4294967296 + u3 < k * v2
    · have hg' : ((r * 2 ^ 32 + u3 : Nat) : Int) < ((k * v2 : Nat) : Int) := by omega
      have := cont (.inr hg)
      simpa only [L_nat_guess_1, run_bnd, g_zero, g_succ, cmp_geq, hk', decide_false, thn_ok, guardM_ff, Bool.false_eq_true, if_false, ret_at, op_sub, w1, w2, d1, d2, load_cell, conv_u64 _ _ v2 (by omega), conv_u64 _ _ u3 (by omega), op_mul, e1, s1, s2, cmp_gtr, hg', decide_true, pickM_at, run_if, if_true] using this
    · have hg' : ¬ ((r * 2 ^ 32 + u3 : Nat) : Int) < ((k * v2 : Nat) : Int) := by omega
      refine ⟨k, ?_, by omega, hQ, guess_end hVl hv1 ht (by omega) (by omega)⟩
      simp only [L_nat_guess_1, run_bnd, g_zero, g_succ, cmp_geq, hk', decide_false, thn_ok, guardM_ff, Bool.false_eq_true, if_false, ret_at, op_sub, w1, w2, d1, d2, load_cell, conv_u64 _ _ v2 (by omega), conv_u64 _ _ u3 (by omega), op_mul, e1, s1, s2, cmp_gtr, hg', pickM_at, run_if, run_leaf]

theorem nat_guess_ok (us vs : List Nat) (hu : Dig us) (hv : Dig vs) (n m : Nat) (hn : us.length = n + 3) (hm : vs.length = m + 2) (hnm : m ≤ n) (hb : us.length ≤ 1000) (hb2 : vs.length ≤ 1000)
    (hv1 : 0 < vs.getD (m + 1) 0) (hB : dval (us.drop (n - m)) < 4294967296 * dval vs) :
    ∃ q : Nat, F_nat_guess [.lst (digV us), .lst (digV vs)] = .ret (.int .u64 (q : Int)) ∧ Guess (dval (us.drop (n - m))) (dval vs) q := by
  have b1 := dig_getD hu (n + 2)
  have b2 := dig_getD hu (n + 1)
  have b3 := dig_getD hu n
  have bv1 := dig_getD hv (m + 1)
  have d1 : idxM 1 (.lst (digV us)) (I ((n + 2 : Nat) : Int)) St.empty = .ok (.cref (.int .u32 ((us.getD (n + 2) 0 : Nat) : Int)) 0) St.empty := by
    rw [idx_dig St.empty us (n + 2) (by omega)]; simp [hn]
  have d2 : idxM 1 (.lst (digV us)) (I ((n + 1 : Nat) : Int)) St.empty = .ok (.cref (.int .u32 ((us.getD (n + 1) 0 : Nat) : Int)) 0) St.empty := by
    rw [idx_dig St.empty us (n + 1) (by omega)]; simp [hn]
  have d3 : idxM 1 (.lst (digV vs)) (I ((m + 1 : Nat) : Int)) St.empty = .ok (.cref (.int .u32 ((vs.getD (m + 1) 0 : Nat) : Int)) 0) St.empty := by
    rw [idx_dig St.empty vs (m + 1) (by omega)]; simp [hm]
  have w1 : IntKind.i64.wrap ((us.length : Int) - 1) = ((n + 2 : Nat) : Int) := by rw [wrap64] <;> omega
  have w2 : IntKind.i64.wrap ((us.length : Int) - 2) = ((n + 1 : Nat) : Int) := by rw [wrap64] <;> omega
  have w3 : IntKind.i64.wrap ((vs.length : Int) - 1) = ((m + 1 : Nat) : Int) := by rw [wrap64] <;> omega
  -- the first guess is not too small
  have hV := dval_take_drop vs m (by omega)
  rw [last2 hm] at hV
  have hVl := dval_lt (hv.take m)
  rw [List.length_take, Nat.min_eq_left (by omega)] at hVl
  have eU : dval (us.drop (n - m)) = dval ((us.drop (n - m)).take m) + 4294967296 ^ m * (us.getD n 0 + 4294967296 * (us.getD (n + 2) 0 * 4294967296 + us.getD (n + 1) 0)) := by
    have h1 := dval_take_drop (us.drop (n - m)) m (by simp; omega)
    rw [List.drop_drop, show n - m + m = n by omega, last3 hn] at h1
    exact h1
  have hUl := dval_lt ((hu.drop (n - m)).take m)
  rw [List.length_take, List.length_drop, Nat.min_eq_left (by omega)] at hUl
  generalize hu1 : us.getD (n + 2) 0 = u1 at *
  generalize hu2 : us.getD (n + 1) 0 = u2 at *
  generalize hv1' : vs.getD (m + 1) 0 = v1 at *
  have s1 : binM .shl ty_uint64 (.int .u64 (u1 : Int)) (.int .u64 32) St.empty = _ := shl64 St.empty ty_uint64 .u64 u1 32 (by omega) (by omega)
  have s2 := or64 St.empty ty_uint64 (u1 * 2 ^ 32) u2 (by omega) (by omega)
  rw [or_add u1 32 u2 (by omega)] at s2
  have ht := Nat.div_add_mod (u1 * 4294967296 + u2) v1
  have hrm := Nat.mod_lt (u1 * 4294967296 + u2) hv1
  have hq : (u1 * 4294967296 + u2) / v1 ≤ u1 * 4294967296 + u2 := Nat.div_le_self _ _
  have h0 : ¬ (v1 : Int) = 0 := by omega
  have e1 : ((u1 * 2 ^ 32 + u2 : Nat) : Int).tdiv (v1 : Int) = (((u1 * 4294967296 + u2) / v1 : Nat) : Int) := Int.ofNat_tdiv _ _
  have e2 : ((u1 * 2 ^ 32 + u2 : Nat) : Int).tmod (v1 : Int) = (((u1 * 4294967296 + u2) % v1 : Nat) : Int) := Int.ofNat_tmod _ _
  generalize hqq : (u1 * 4294967296 + u2) / v1 = q0 at *
  generalize hrr : (u1 * 4294967296 + u2) % v1 = r0 at *
  have e3 : IntKind.u64.wrap (q0 : Int) = (q0 : Int) := wrapu64 _ (by omega) (by omega)
  have hQ0 : dval (us.drop (n - m)) < (q0 + 1) * dval vs := by
    rw [eU, hV]
    have h1 : u1 * 4294967296 + u2 + 1 ≤ (q0 + 1) * v1 := by
      rw [Nat.add_mul, Nat.mul_comm q0 v1]; omega
    have h2 : us.getD n 0 + 1 + 4294967296 * (u1 * 4294967296 + u2) ≤ (q0 + 1) * (vs.getD m 0 + 4294967296 * v1) := by
      rw [Nat.mul_add (q0 + 1), Nat.mul_left_comm (q0 + 1) 4294967296 v1]
      have := Nat.mul_le_mul_left 4294967296 h1
      omega
    have h3 := Nat.mul_le_mul_left (4294967296 ^ m) h2
    rw [Nat.mul_add (q0 + 1), Nat.mul_left_comm (q0 + 1) (4294967296 ^ m)]
    have h4 : 4294967296 ^ m * (us.getD n 0 + 1 + 4294967296 * (u1 * 4294967296 + u2)) = 4294967296 ^ m + 4294967296 ^ m * (us.getD n 0 + 4294967296 * (u1 * 4294967296 + u2)) := by
      rw [show us.getD n 0 + 1 + 4294967296 * (u1 * 4294967296 + u2) = (us.getD n 0 + 4294967296 * (u1 * 4294967296 + u2)) + 1 by omega, Nat.mul_add]; omega
    omega
  obtain ⟨q, h1, h2⟩ := guess_run us vs hu hv n m hn hm hnm hb hb2 St.empty (by rw [hv1']; exact hv1) hB q0 r0 (by omega) (by omega) (by rw [hu1, hu2, hv1', Nat.mul_comm q0]; exact ht.symm) hQ0
  refine ⟨q, runP_ret (v := .int .u64 (q : Int)) (st := St.empty) ?_ (snapD_int _ _ _), h2⟩
  simp only [B_nat_guess, run_bnd, len_lst, digV_length, thn_ok, op_sub, w1, w2, w3, d1, d2, d3, load_cell, conv_u64 _ _ u1 (by omega), conv_u64 _ _ u2 (by omega), conv_u64 _ _ v1 (by omega), s1, s2, op_quo _ _ _ _ _ h0, op_rem _ _ _ _ _ h0, e1, e2, e3, run_loop]
  exact h1

end Go.Abs
end
