/-
  Joined from: L10 L11 L12.
-/
import Derived.Test.YtliomhbmlclmeaaGreatLB
/-
  NATURAL NUMBERS: a multiple is taken away, and one is laid back.
-/
section
set_option linter.unusedSimpArgs false
set_option linter.unusedVariables false
namespace Go.Abs
open Go

theorem idx_sl_at (st : St) {id : Nat} {xs : List Nat} (h : st.H id = some ⟨1, digV xs⟩) (off len i : Nat) (hi : i < len) : idxM 1 (.sl id xs.length off len) (I i) st = .ok (.ptr id xs.length (off + i) 0) st := by
  have h1 : (i : Int) < (len : Int) := by omega
  simp [idxM, h, h1]

/-- What stays as it was. -/
def Rest (id : Nat) (st st' : St) : Prop := (∀ i, i ≠ id → st'.H i = st.H i) ∧ st'.nx = st.nx ∧ st'.dead = st.dead
theorem Rest.refl (id : Nat) (st : St) : Rest id st st := ⟨fun _ _ => rfl, rfl, rfl⟩
theorem Rest.set {id : Nat} {st st' : St} (h : Rest id st st') (b : Option Blk) : Rest id st ⟨upd st'.H id b, st'.nx, st'.dead⟩ :=
  ⟨fun i hi => by simp [hi, h.1 i hi], h.2.1, h.2.2⟩

theorem less_ok (st : St) (id : Nat) (w vs : List Nat) (j q : Nat) (hH : st.H id = some ⟨1, digV w⟩) (hw : Dig w) (hv : Dig vs) (hj : j + vs.length < w.length) (hb : w.length ≤ 1000) (hq : q < 4294967296) :
    ∃ st' w' bo, F_nat_less [.sl id w.length j (w.length - j), .lst (digV vs), .int .u64 (q : Int)] st = .ok (.bool (!decide ((bo : Nat) = 0))) st' ∧ st'.H id = some ⟨1, digV w'⟩ ∧ w'.length = w.length ∧ Dig w' ∧ bo ≤ 1 ∧
      dval w' + 4294967296 ^ j * (q * dval vs) = dval w + 4294967296 ^ (j + vs.length + 1) * bo ∧ (∀ k, k < j ∨ j + vs.length < k → w'.getD k 0 = w.getD k 0) ∧ Rest id st st' := by
  unfold F_nat_less
  simp only [B_nat_less, run_bnd, len_lst, digV_length, thn_ok, run_loop]
  refine loop_ind (α := Nat × Nat × Nat × List Nat) _ (fun a k v st' => ∃ i c b x, a = (i, c, b, x) ∧ v = [.sl id w.length j (w.length - j), .lst (digV vs), .int .u64 (q : Int), .int .u64 (c : Int), .int .u32 (b : Int), .lst (digV vs), I vs.length, I i] ∧ k = vs.length - i ∧ i ≤ vs.length ∧ c < 4294967296 ∧ b ≤ 1 ∧
      Dig x ∧ x.length = w.length ∧ st'.H id = some ⟨1, digV x⟩ ∧ dval x + 4294967296 ^ j * (q * dval (vs.take i)) = dval w + 4294967296 ^ (j + i) * (c + b) ∧ (∀ k, k < j ∨ j + i ≤ k → x.getD k 0 = w.getD k 0) ∧ Rest id st st')
    (fun r => ∃ st' w' bo, r = .ok (.bool (!decide ((bo : Nat) = 0))) st' ∧ st'.H id = some ⟨1, digV w'⟩ ∧ w'.length = w.length ∧ Dig w' ∧ bo ≤ 1 ∧
      dval w' + 4294967296 ^ j * (q * dval vs) = dval w + 4294967296 ^ (j + vs.length + 1) * bo ∧ (∀ k, k < j ∨ j + vs.length < k → w'.getD k 0 = w.getD k 0) ∧ Rest id st st') ?_ fuel (0, 0, 0, w) vs.length _ _
    ⟨0, 0, 0, w, rfl, rfl, by omega, by omega, by omega, by omega, hw, rfl, hH, by simp [dval], fun k _ => rfl, Rest.refl _ _⟩ (by unfold fuel; omega)
  rintro _ k v st' ⟨i, c, b, x, rfl, rfl, rfl, hi, hc, hb1, hx, hxl, hxH, he, hsame, hrest⟩ self ih
  have hjx : j + i < x.length := by omega
  have d2 := idx_sl_at st' hxH j (w.length - j) i (by omega)
  have d3 := load_sl_dig st' hxH (j + i) hjx
  have hxi := hx.at hjx
  have hw1 : IntKind.i64.wrap ((i : Int) + 1) = ((i + 1 : Nat) : Int) := by rw [wrap64] <;> omega
  by_cases hlt : i < vs.length
  · have hlt' : (i : Int) < (vs.length : Int) := by omega
    have d1 := idx_dig st' vs i hlt
    have hvi := hv.at hlt
    have t1 : vs.take (i + 1) = vs.take i ++ [vs[i]] := by rw [List.take_add_one, List.getElem?_eq_getElem hlt]; rfl
    generalize vs[i] = y at hvi d1 t1
    generalize hxo : x[j + i] = o at hxi d3
    have hm := mul_word (o := 0) hq hvi hc (by omega)
    have hm2 : c + q * y < 18446744073709551616 := by omega
    have u4 : IntKind.u64.wrap ((q : Int) * y) = ((q * y : Nat) : Int) := by rw [← Int.natCast_mul]; exact wrapu64 _ (Int.natCast_nonneg _) (by omega)
    have u5 : IntKind.u64.wrap ((c : Int) + ((q * y : Nat) : Int)) = ((c + q * y : Nat) : Int) := by rw [wrapu64] <;> omega
    generalize hp : c + q * y = p at hm2 u5
    have hs := sub32_ok o (p % 4294967296) b hxi (by omega) hb1
    generalize hd : (o + 2 * 4294967296 - p % 4294967296 - b) % 4294967296 = d at hs
    generalize hb' : (if o < p % 4294967296 + b then 1 else 0 : Nat) = b' at hs
    have hb2 : b' ≤ 1 := by rw [← hb']; split <;> omega
    have hd1 : d < 4294967296 := by omega
    have hdc : d + p % 4294967296 + b = o + 4294967296 * b' := by
      rw [← hd, ← hb']; split <;> omega
    have hst := store_sl_dig st' hxH (j + i) d hjx
    have s4 : ∀ st, binM .shr ty_uint64 (.int .u64 (p : Int)) (.int .u64 32) st = .ok (.int .u64 ((p / 4294967296 : Nat) : Int)) st := fun st => shr64 st ty_uint64 .u64 p 32 (by omega) hm2
    rw [hxl] at d2 d3 hst
    simp only [L_nat_less_1, run_bnd, g_zero, g_succ, cmp_lss, hlt', decide_true, thn_ok, run_if, if_true, d1, load_cell, conv_u64 _ _ y (by omega), op_mul, u4, op_add, u5, d2, d3, conv_u32]
    rw [callP_eq (by simp) (by simp)]
    simp only [snapDL_cons, snap_cons, snap_nil, snap_int, Option.getD_some, hs, callK_ret, take_none_tup, thn_ok, extract_zero, extract_one, run_bnd, d2, hst, s4, op_add, hw1, run_leaf]
    refine ih (i + 1, p / 4294967296, b', x.set (j + i) d) (vs.length - (i + 1)) _ _ (by omega) ⟨i + 1, _, _, _, rfl, rfl, rfl, by omega, by omega, hb2, hx.set hd1, by simp [hxl], by simp, ?_, fun k hk => ?_, hrest.set _⟩
    · have h1 := dval_set (xs := x) (d := d) hjx
      rw [hxo] at h1
      rw [t1, dval_snoc, List.length_take, Nat.min_eq_left (by omega), Nat.mul_add q, Nat.mul_add (4294967296 ^ j), Nat.mul_left_comm q, ← Nat.mul_assoc (4294967296 ^ j) (4294967296 ^ i), ← Nat.pow_add,
        show j + (i + 1) = j + i + 1 by omega, Nat.pow_succ]
      generalize 4294967296 ^ (j + i) = P at *
      generalize 4294967296 ^ j * (q * dval (vs.take i)) = Z at *
      have h3 : P * (d + p % 4294967296 + b) = P * (o + 4294967296 * b') := by rw [hdc]
      have h4 : P * p = P * (p % 4294967296) + P * (4294967296 * (p / 4294967296)) := by rw [← Nat.mul_add, Nat.mod_add_div]
      have h5 : P * p = P * c + P * (q * y) := by rw [← hp, Nat.mul_add]
      rw [Nat.mul_assoc P 4294967296, Nat.mul_add 4294967296, Nat.mul_add P]
      simp only [Nat.mul_add] at h3 he
      omega
    · rw [getD_set _ _ _ _ hjx, if_neg (by omega)]; exact hsame k (by omega)
  · have hi' : i = vs.length := by omega
    subst hi'
    have hlt' : ¬ (vs.length : Int) < (vs.length : Int) := by omega
    generalize hxo : x[j + vs.length] = o at hxi d3
    have hs := sub32_ok o c b hxi hc hb1
    generalize hd : (o + 2 * 4294967296 - c - b) % 4294967296 = d at hs
    generalize hb' : (if o < c + b then 1 else 0 : Nat) = b' at hs
    have hb2 : b' ≤ 1 := by rw [← hb']; split <;> omega
    have hd1 : d < 4294967296 := by omega
    have hdc : d + c + b = o + 4294967296 * b' := by
      rw [← hd, ← hb']; split <;> omega
    have hst := store_sl_dig st' hxH (j + vs.length) d hjx
    have u7 : IntKind.u32.wrap (c : Int) = (c : Int) := wrapu32 _ (by omega) (by omega)
    rw [hxl] at d2 d3 hst
    simp only [L_nat_less_1, run_bnd, g_zero, g_succ, cmp_lss, hlt', decide_false, thn_ok, run_if, Bool.false_eq_true, if_false, len_lst, digV_length, d2, d3, conv_at, u7]
    rw [callP_eq (by simp) (by simp)]
    simp only [snapDL_cons, snap_cons, snap_nil, snap_int, Option.getD_some, hs, callK_ret, take_none_tup, thn_ok, extract_zero, extract_one, run_bnd, d2, hst, cmp_neq, run_leaf, ret_at]
    refine ⟨_, x.set (j + vs.length) d, b', ?_, by simp; rfl, by simp [hxl], hx.set hd1, hb2, ?_, fun k hk => ?_, hrest.set _⟩
    · congr 3
      exact decide_eq_decide.2 (by omega)
    · have h1 := dval_set (xs := x) (d := d) hjx
      rw [hxo] at h1
      rw [List.take_length] at he
      rw [Nat.pow_succ]
      generalize 4294967296 ^ (j + vs.length) = P at *
      have h3 : P * (d + c + b) = P * (o + 4294967296 * b') := by rw [hdc]
      rw [Nat.mul_assoc P 4294967296]
      simp only [Nat.mul_add] at h3 he
      omega
    · rw [getD_set _ _ _ _ hjx, if_neg (by omega)]; exact hsame k (by omega)

theorem again_ok (st : St) (id : Nat) (w vs : List Nat) (j : Nat) (hH : st.H id = some ⟨1, digV w⟩) (hw : Dig w) (hv : Dig vs) (hj : j + vs.length < w.length) (hb : w.length ≤ 1000) :
    ∃ st' w' co, F_nat_again [.sl id w.length j (w.length - j), .lst (digV vs)] st = .ok (.tup []) st' ∧ st'.H id = some ⟨1, digV w'⟩ ∧ w'.length = w.length ∧ Dig w' ∧
      dval w' + 4294967296 ^ (j + vs.length + 1) * co = dval w + 4294967296 ^ j * dval vs ∧ (∀ k, k < j ∨ j + vs.length < k → w'.getD k 0 = w.getD k 0) ∧ Rest id st st' := by
  unfold F_nat_again
  simp only [B_nat_again, run_bnd, len_lst, digV_length, thn_ok, run_loop]
  refine loop_ind (α := Nat × Nat × List Nat) _ (fun a k v st' => ∃ i c x, a = (i, c, x) ∧ v = [.sl id w.length j (w.length - j), .lst (digV vs), .int .u32 (c : Int), .lst (digV vs), I vs.length, I i] ∧ k = vs.length - i ∧ i ≤ vs.length ∧ c ≤ 1 ∧
      Dig x ∧ x.length = w.length ∧ st'.H id = some ⟨1, digV x⟩ ∧ dval x + 4294967296 ^ (j + i) * c = dval w + 4294967296 ^ j * dval (vs.take i) ∧ (∀ k, k < j ∨ j + i ≤ k → x.getD k 0 = w.getD k 0) ∧ Rest id st st')
    (fun r => ∃ st' w' co, r = .ok (.tup []) st' ∧ st'.H id = some ⟨1, digV w'⟩ ∧ w'.length = w.length ∧ Dig w' ∧
      dval w' + 4294967296 ^ (j + vs.length + 1) * co = dval w + 4294967296 ^ j * dval vs ∧ (∀ k, k < j ∨ j + vs.length < k → w'.getD k 0 = w.getD k 0) ∧ Rest id st st') ?_ fuel (0, 0, w) vs.length _ _
    ⟨0, 0, w, rfl, rfl, by omega, by omega, by omega, hw, rfl, hH, by simp [dval], fun k _ => rfl, Rest.refl _ _⟩ (by unfold fuel; omega)
  rintro _ k v st' ⟨i, c, x, rfl, rfl, rfl, hi, hc, hx, hxl, hxH, he, hsame, hrest⟩ self ih
  have hjx : j + i < x.length := by omega
  have d2 := idx_sl_at st' hxH j (w.length - j) i (by omega)
  have d3 := load_sl_dig st' hxH (j + i) hjx
  have hxi := hx.at hjx
  have hw1 : IntKind.i64.wrap ((i : Int) + 1) = ((i + 1 : Nat) : Int) := by rw [wrap64] <;> omega
  by_cases hlt : i < vs.length
  · have hlt' : (i : Int) < (vs.length : Int) := by omega
    have d1 := idx_dig st' vs i hlt
    have hvi := hv.at hlt
    have t1 : vs.take (i + 1) = vs.take i ++ [vs[i]] := by rw [List.take_add_one, List.getElem?_eq_getElem hlt]; rfl
    generalize vs[i] = y at hvi d1 t1
    generalize hxo : x[j + i] = o at hxi d3
    have hs := add32_ok o y c hxi hvi hc
    generalize hsum : o + y + c = s at hs
    have hst := store_sl_dig st' hxH (j + i) (s % 4294967296) hjx
    rw [hxl] at d2 d3 hst
    simp only [L_nat_again_1, run_bnd, g_zero, g_succ, cmp_lss, hlt', decide_true, thn_ok, run_if, if_true, d1, load_cell, d2, d3]
    rw [callP_eq (by simp) (by simp)]
    simp only [snapDL_cons, snap_cons, snap_nil, snap_int, Option.getD_some, hs, callK_ret, take_none_tup, thn_ok, extract_zero, extract_one, run_bnd, d2, hst, op_add, hw1, run_leaf]
    refine ih (i + 1, s / 4294967296, x.set (j + i) (s % 4294967296)) (vs.length - (i + 1)) _ _ (by omega) ⟨i + 1, _, _, rfl, rfl, rfl, by omega, by omega, hx.set (by omega), by simp [hxl], by simp, ?_, fun k hk => ?_, hrest.set _⟩
    · have h1 := dval_set (xs := x) (d := s % 4294967296) hjx
      rw [hxo] at h1
      rw [t1, dval_snoc, List.length_take, Nat.min_eq_left (by omega), Nat.mul_add (4294967296 ^ j), ← Nat.mul_assoc (4294967296 ^ j) (4294967296 ^ i), ← Nat.pow_add, show j + (i + 1) = j + i + 1 by omega, Nat.pow_succ]
      generalize 4294967296 ^ (j + i) = P at *
      have h4 : P * s = P * (s % 4294967296) + P * (4294967296 * (s / 4294967296)) := by rw [← Nat.mul_add, Nat.mod_add_div]
      have h5 : P * s = P * o + P * y + P * c := by rw [← hsum, Nat.mul_add, Nat.mul_add]
      rw [Nat.mul_assoc P 4294967296]
      omega
    · rw [getD_set _ _ _ _ hjx, if_neg (by omega)]; exact hsame k (by omega)
  · have hi' : i = vs.length := by omega
    subst hi'
    have hlt' : ¬ (vs.length : Int) < (vs.length : Int) := by omega
    generalize hxo : x[j + vs.length] = o at hxi d3
    have u7 : IntKind.u32.wrap ((o : Int) + c) = (((o + c) % 4294967296 : Nat) : Int) := by rw [IntKind.wrap_u32]; omega
    have hst := store_sl_dig st' hxH (j + vs.length) ((o + c) % 4294967296) hjx
    rw [hxl] at d2 d3 hst
    simp only [L_nat_again_1, run_bnd, g_zero, g_succ, cmp_lss, hlt', decide_false, thn_ok, run_if, Bool.false_eq_true, if_false, len_lst, digV_length, d2, d3, op_add, u7, hst, run_leaf, ret_at]
    refine ⟨_, x.set (j + vs.length) ((o + c) % 4294967296), (o + c) / 4294967296, rfl, by simp, by simp [hxl], hx.set (by omega), ?_, fun k hk => ?_, hrest.set _⟩
    · have h1 := dval_set (xs := x) (d := (o + c) % 4294967296) hjx
      rw [hxo] at h1
      rw [List.take_length] at he
      rw [Nat.pow_succ]
      generalize 4294967296 ^ (j + vs.length) = P at *
      have h4 : P * (o + c) = P * ((o + c) % 4294967296) + P * (4294967296 * ((o + c) / 4294967296)) := by rw [← Nat.mul_add, Nat.mod_add_div]
      rw [Nat.mul_add] at h4
      rw [Nat.mul_assoc P 4294967296]
      omega
    · rw [getD_set _ _ _ _ hjx, if_neg (by omega)]; exact hsame k (by omega)

end Go.Abs
end
/-
  NATURAL NUMBERS: long division.
-/
section
set_option linter.unusedSimpArgs false
set_option linter.unusedVariables false
namespace Go.Abs
open Go

theorem slice_sl_hi (st : St) {id : Nat} {xs : List Nat} (h : st.H id = some ⟨1, digV xs⟩) (k : Nat) (hk : k ≤ xs.length) :
    sliceM 1 (.sl id xs.length 0 xs.length) none (some (I k)) none st = .ok (.sl id xs.length 0 k) st := by
  have h1 : (k : Int) ≤ (xs.length : Int) := by omega
  simp [sliceM, h, bounds, intOf, hiTop, h1]
theorem slice_sl_lo (st : St) {id : Nat} {xs : List Nat} (h : st.H id = some ⟨1, digV xs⟩) (k : Nat) (hk : k < xs.length) :
    sliceM 1 (.sl id xs.length 0 xs.length) (some (I k)) none none st = .ok (.sl id xs.length k (xs.length - k)) st := by
  have h1 : (k : Int) ≤ (xs.length : Int) := by omega
  have h2 : ¬ xs.length ≤ k := by omega
  simp [sliceM, h, bounds, intOf, hiTop, h1, h2]

theorem snap_sl_part {H : Nat → Option Blk} {id sz : Nat} {xs : List Nat} (h : H id = some ⟨sz, digV xs⟩) (k : Nat) (hk : k ≤ xs.length) {d : Nat} (hd : xs.length + 2 < d) : snapF H d (.sl id xs.length 0 k) = some (.lst (digV (xs.take k))) := by
  obtain ⟨d, rfl⟩ : ∃ e, d = e + 1 := ⟨d - 1, by omega⟩
  unfold snapF
  simp only [h, digV_length, Nat.zero_add, hk, and_self, if_true, List.drop_zero]
  rw [digV_take, digV_snap H (xs.take k) d (by simp; omega)]
  rfl

theorem ids_dig (H : Nat → Option Blk) : ∀ (xs : List Nat) (d : Nat), idsL H d (digV xs) = []
  | [], 0 => rfl
  | [], d + 1 => rfl
  | x :: xs, 0 => rfl
  | x :: xs, d + 1 => by
    have e : idsL H (d + 1) (digV (x :: xs)) = idsF H d (.int .u32 (x : Int)) ++ idsL H d (digV xs) := rfl
    rw [e, ids_dig H xs d]
    cases d <;> rfl

/-- A whole buffer of digits is given away. -/
theorem callP_frz_dig {own : Option Nat} {mp : Bool} {F : List PV → PRes} {v : PV} {st : St} {id : Nat} {xs : List Nat} (h : st.H id = some ⟨1, digV xs⟩) (hx : xs.length < 2 ^ 19) (hF : F [.lst (digV xs)] = .ret v) :
    ∃ dd, callP true own mp F [.sl id xs.length 0 xs.length] st = takeM own v ⟨upd st.H id none, st.nx, dd⟩ := by
  have hs := snapL_sl_dig h hx
  have hi : idsL st.H depth [.sl id xs.length 0 xs.length] = [id] := by
    have e : idsL st.H depth [.sl id xs.length 0 xs.length] = idsF st.H 999999 (.sl id xs.length 0 xs.length) ++ [] := rfl
    have e2 : idsF st.H 999999 (.sl id xs.length 0 xs.length) = id :: (match st.H id with | some b => idsL st.H 999998 ((b.xs.drop 0).take xs.length) | none => []) := rfl
    rw [e, e2, h]
    simp only [List.drop_zero]
    rw [List.take_of_length_le (by simp), ids_dig]
    rfl
  unfold callP
  rw [hs]
  simp only [hF, noreL_cons, noref_sl, Bool.false_and, Bool.false_eq_true, if_false, if_true, hi]
  unfold kill
  rw [h]
  exact ⟨_, rfl⟩

theorem guess_digit {U V q W bo L : Nat} (hg : Guess U V q) (hWL : W < L) (he : W + q * V = U + L * bo) (hb : bo ≤ 1) : (bo = 0 → q * V + W = U ∧ W < V) ∧ (bo ≠ 0 → U < q * V ∧ 0 < q) := by
  obtain ⟨g1, g2, g3⟩ := hg
  refine ⟨fun h => ?_, fun h => ?_⟩
  · subst h; rw [Nat.add_mul] at g2; omega
  · have : bo = 1 := by omega
    subst this
    refine ⟨by omega, ?_⟩
    rcases Nat.eq_zero_or_pos q with rfl | h
    · omega
    · exact h

/-- Lists that agree up to there, digit by digit. -/
theorem take_eq_of {xs ys : List Nat} {j : Nat} (hl : xs.length = ys.length) (h : ∀ k, k < j → xs.getD k 0 = ys.getD k 0) : xs.take j = ys.take j := by
  refine List.ext_getElem (by simp [hl]) fun i h1 h2 => ?_
  have hi : i < j ∧ i < xs.length := by simp at h1; omega
  have := h i hi.1
  simp [hi.2, (by omega : i < ys.length)] at this
  simpa using this
theorem drop_eq_of {xs ys : List Nat} {j : Nat} (hl : xs.length = ys.length) (h : ∀ k, j ≤ k → xs.getD k 0 = ys.getD k 0) : xs.drop j = ys.drop j := by
  refine List.ext_getElem (by simp [hl]) fun i h1 h2 => ?_
  have hi : j + i < xs.length := by simp at h1; omega
  have := h (j + i) (by omega)
  simp [hi, (by omega : j + i < ys.length)] at this
  simpa using this

/-- One round: a digit of the quotient, and what is left. -/
theorem long_round (me15 : List PV → M) (k : Nat) (vs : List Nat) (hv : Dig vs) (m : Nat) (hm : vs.length = m + 2) (hv1 : 0 < vs.getD (m + 1) 0) (uid qid : Nat) (hne : uid ≠ qid) (st : St) (w qs : List Nat) (hw : Dig w) (hq : Dig qs)
    (hu : st.H uid = some ⟨1, digV w⟩) (hqq : st.H qid = some ⟨1, digV qs⟩) (hn : w.length = qs.length + vs.length) (hb : w.length ≤ 1000) (jj : Nat) (hj : jj < qs.length) (hlt : dval (w.drop (jj + 1)) < dval vs) (hz : qs.getD jj 0 = 0)
    (Q : Res → Prop)
    (next : ∀ st' w' qs', st'.H uid = some ⟨1, digV w'⟩ → st'.H qid = some ⟨1, digV qs'⟩ → Dig w' → Dig qs' → w'.length = w.length → qs'.length = qs.length → dval (w'.drop jj) < dval vs → dval qs' * dval vs + dval w' = dval qs * dval vs + dval w → (∀ i, i < jj → qs'.getD i 0 = qs.getD i 0) → st.nx ≤ st'.nx →
      Q (me15 [I k, .lst (digV vs), .sl uid w.length 0 w.length, I vs.length, .sl qid qs.length 0 qs.length, I ((jj : Int) - 1)] st')) :
    Q ((L_nat_long_2 me15 [I k, .lst (digV vs), .sl uid w.length 0 w.length, I vs.length, .sl qid qs.length 0 qs.length, I jj]).run st) := by
  have hV := dval_lt hv
  -- the part that is divided
  have hU : dval (w.drop jj) < 4294967296 * dval vs := by
    rw [dval_drop w jj]
    have := dig_getD hw jj
    have := Nat.mul_le_mul_left 4294967296 (show dval (w.drop (jj + 1)) + 1 ≤ dval vs from hlt)
    omega
  have hUL : dval (w.drop jj) < 4294967296 ^ (vs.length + 1) := by
    have : 4294967296 * dval vs ≤ 4294967296 * 4294967296 ^ vs.length := Nat.mul_le_mul_left _ (by omega)
    rw [Nat.pow_succ, Nat.mul_comm]; omega
  have hpart : dval ((w.take (jj + vs.length + 1)).drop jj) = dval (w.drop jj) := by
    rw [List.drop_take, show jj + vs.length + 1 - jj = vs.length + 1 by omega]
    have h1 := dval_take_drop (w.drop jj) (vs.length + 1) (by simp; omega)
    have h2 : dval ((w.drop jj).drop (vs.length + 1)) = 0 := by
      refine Classical.byContradiction fun h => ?_
      have : 4294967296 ^ (vs.length + 1) * 1 ≤ 4294967296 ^ (vs.length + 1) * dval ((w.drop jj).drop (vs.length + 1)) := Nat.mul_le_mul_left _ (by omega)
      omega
    rw [h2] at h1; omega
  obtain ⟨q, hgF, hg⟩ := nat_guess_ok (w.take (jj + vs.length + 1)) vs (hw.take _) hv (jj + m) m (by simp; omega) hm (by omega) (by simp; omega) (by omega) hv1 (by rw [show jj + m - m = jj by omega, hpart]; exact hU)
  rw [show jj + m - m = jj by omega, hpart] at hg
  -- up to the guess
  have h0 : (0 : Int) ≤ (jj : Int) := by omega
  have w1 : IntKind.i64.wrap ((jj : Int) + vs.length) = ((jj + vs.length : Nat) : Int) := by rw [wrap64] <;> omega
  have w2 : IntKind.i64.wrap (((jj + vs.length : Nat) : Int) + 1) = ((jj + vs.length + 1 : Nat) : Int) := by rw [wrap64] <;> omega
  have w3 : IntKind.i64.wrap ((jj : Int) - 1) = (jj : Int) - 1 := wrap64 _ (by omega) (by omega)
  have sh := slice_sl_hi st hu (jj + vs.length + 1) (by omega)
  have slo := slice_sl_lo st hu jj (by omega)
  have hcall : callP false none true F_nat_guess [.sl uid w.length 0 (jj + vs.length + 1), .lst (digV vs)] st = .ok (.int .u64 (q : Int)) st := by
    unfold callP
    rw [snapDL_cons, snap_sl_part hu (jj + vs.length + 1) (by omega) (by omega)]
    simp [hgF, PV.scalar]
  obtain ⟨st1, w', bo, hl1, hl2, hl3, hl4, hl5, hl6, hl7, hl8⟩ := less_ok st uid w vs jj q hu hw hv (by omega) hb hg.1
  have hq1 : st1.H qid = some ⟨1, digV qs⟩ := by rw [hl8.1 qid (Ne.symm hne)]; exact hqq
  -- what is left, in the part alone
  have htake : w'.take jj = w.take jj := take_eq_of hl3 fun i hi => hl7 i (.inl hi)
  have hw'1 := dval_take_drop w' jj (by omega)
  have hw1 := dval_take_drop w jj (by omega)
  rw [htake] at hw'1
  have hpow : 4294967296 ^ (jj + vs.length + 1) = 4294967296 ^ jj * 4294967296 ^ (vs.length + 1) := by rw [← Nat.pow_add]; rfl
  have hpos : 0 < 4294967296 ^ jj := Nat.pow_pos (by omega)
  have heq : dval (w'.drop jj) + q * dval vs = dval (w.drop jj) + 4294967296 ^ (vs.length + 1) * bo := by
    refine Nat.eq_of_mul_eq_mul_left hpos ?_
    rw [hpow] at hl6
    rw [Nat.mul_add, Nat.mul_add, ← Nat.mul_assoc _ (4294967296 ^ (vs.length + 1)) bo]
    omega
  -- beyond the part all is nought
  have hhigh : ∀ (x : List Nat), x.length = w.length → Dig x → (∀ i, jj + vs.length < i → x.getD i 0 = w.getD i 0) → dval (x.drop jj) < 4294967296 ^ (vs.length + 1) := by
    intro x hxl hxd hx
    have h1 := dval_take_drop (x.drop jj) (vs.length + 1) (by simp; omega)
    have h2 : (x.drop jj).drop (vs.length + 1) = (w.drop jj).drop (vs.length + 1) := by
      rw [List.drop_drop, List.drop_drop]
      exact drop_eq_of hxl fun i hi => hx i (by omega)
    have h3 : dval ((w.drop jj).drop (vs.length + 1)) = 0 := by
      have h1 := dval_take_drop (w.drop jj) (vs.length + 1) (by simp; omega)
      refine Classical.byContradiction fun h => ?_
      have : 4294967296 ^ (vs.length + 1) * 1 ≤ 4294967296 ^ (vs.length + 1) * dval ((w.drop jj).drop (vs.length + 1)) := Nat.mul_le_mul_left _ (by omega)
      omega
    have h4 := dval_lt ((hxd.drop jj).take (vs.length + 1))
    rw [List.length_take, List.length_drop, Nat.min_eq_left (by omega)] at h4
    rw [h2, h3] at h1; omega
  have hWL := hhigh w' hl3 hl4 fun i hi => hl7 i (.inr hi)
  have hgd := guess_digit hg hWL heq hl5
  -- behind the join: the digit is kept
  have last : ∀ (qd : Nat) (st2 : St) (x : List Nat), qd < 4294967296 → st2.H uid = some ⟨1, digV x⟩ → st2.H qid = some ⟨1, digV qs⟩ → Dig x → x.length = w.length → x.take jj = w.take jj → qd * dval vs + dval (x.drop jj) = dval (w.drop jj) → dval (x.drop jj) < dval vs → st.nx ≤ st2.nx →
      Q ((J_nat_long_1 me15 [I k, .lst (digV vs), .sl uid w.length 0 w.length, I vs.length, .sl qid qs.length 0 qs.length, I jj, .int .u64 (qd : Int)]).run st2) := by
    intro qd st2 x hqd hxu hxq hxd hxl hxt hxe hxlt hnx
    have u7 : IntKind.u32.wrap (qd : Int) = (qd : Int) := wrapu32 _ (by omega) (by omega)
    have d2 := idx_sl_dig st2 hxq jj hj
    have hst := store_sl_dig st2 hxq jj qd hj
    simp only [J_nat_long_1, run_bnd, g_zero, g_succ, conv_at, u7, thn_ok, d2, hst, op_sub, w3, run_leaf]
    refine next _ x (qs.set jj qd) (by simp [hne, hxu]) (by simp) hxd (hq.set hqd) hxl (by simp) hxlt ?_ (fun i hi => by rw [getD_set _ _ _ _ hj, if_neg (by omega)]) hnx
    have h1 := dval_set (xs := qs) (d := qd) hj
    have h2 : qs[jj] = 0 := by simpa [hj] using hz
    rw [h2, Nat.mul_zero, Nat.add_zero] at h1
    have h3 := dval_take_drop x jj (by omega)
    rw [hxt] at h3
    rw [h1, h3, hw1, Nat.add_mul, Nat.mul_assoc, ← hxe, Nat.mul_add (4294967296 ^ jj)]
    omega
  simp only [L_nat_long_2, run_bnd, g_zero, g_succ, cmp_geq, h0, decide_true, thn_ok, run_if, if_true, op_add, w1, w2, sh, hcall, slo, calm, hl1]
  by_cases hbo : bo = 0
  · subst hbo
    obtain ⟨k1, k2⟩ := hgd.1 rfl
    simp only [decide_true, Bool.not_true, run_join, run_if, Bool.false_eq_true, if_false, run_leaf, thn_ok]
    exact last q st1 w' hg.1 hl2 hq1 hl4 hl3 htake k1 k2 (by rw [hl8.2.1]; exact Nat.le_refl _)
  · obtain ⟨k1, k2⟩ := hgd.2 hbo
    have hbo1 : bo = 1 := by omega
    obtain ⟨q, rfl⟩ : ∃ n, q = n + 1 := ⟨q - 1, by omega⟩
    have e1 : IntKind.u64.wrap (((q + 1 : Nat) : Int) - 1) = (q : Int) := by rw [wrapu64] <;> have := hg.1 <;> omega
    have slo2 := slice_sl_lo st1 hl2 jj (by omega)
    obtain ⟨st2, w2', co, ha1, ha2, ha3, ha4, ha5, ha6, ha7⟩ := again_ok st1 uid w' vs jj hl2 hl4 hv (by omega) (by omega)
    rw [hl3] at slo2 ha1
    simp only [hbo, decide_false, Bool.not_false, run_join, run_if, if_true, run_bnd, op_sub, e1, thn_ok, slo2, calm, ha1, run_leaf]
    have htake2 : w2'.take jj = w'.take jj := take_eq_of ha3 fun i hi => ha6 i (.inl hi)
    have hw2'1 := dval_take_drop w2' jj (by omega)
    rw [htake2, htake] at hw2'1
    have heq2 : dval (w2'.drop jj) + 4294967296 ^ (vs.length + 1) * co = dval (w'.drop jj) + dval vs := by
      refine Nat.eq_of_mul_eq_mul_left hpos ?_
      rw [hpow] at ha5
      rw [Nat.mul_add, Nat.mul_add, ← Nat.mul_assoc _ (4294967296 ^ (vs.length + 1)) co]
      omega
    have hWL2 := hhigh w2' (by omega) ha4 fun i hi => by rw [ha6 i (.inr hi), hl7 i (.inr hi)]
    obtain ⟨g1, g2, g3⟩ := hg
    rw [hbo1, Nat.mul_one] at heq
    have hqV : (q + 1) * dval vs = q * dval vs + dval vs := by rw [Nat.add_mul, Nat.one_mul]
    have hco : co = 1 := by
      have hL : dval vs < 4294967296 ^ (vs.length + 1) := by
        rw [Nat.pow_succ]; omega
      rcases Nat.lt_or_ge co 1 with h | h
      · have : co = 0 := by omega
        subst this; omega
      · rcases Nat.lt_or_ge 1 co with h' | h'
        · have : 4294967296 ^ (vs.length + 1) * 2 ≤ 4294967296 ^ (vs.length + 1) * co := Nat.mul_le_mul_left _ h'
          omega
        · omega
    subst hco
    refine last q st2 w2' (by omega) ha2 (by rw [ha7.1 qid (Ne.symm hne)]; exact hq1) ha4 (by omega) (by rw [htake2, htake]) (by omega) (by omega) (by rw [ha7.2.1, hl8.2.1]; exact Nat.le_refl _)

end Go.Abs
end
/-
  NATURAL NUMBERS: long division, DivMod.
-/
section
set_option linter.unusedSimpArgs false
set_option linter.unusedVariables false
namespace Go.Abs
open Go

/-- A digit of a number moved down, and the rest. -/
theorem down_step (x y Y k : Nat) (hk : k ≤ 31) (hx : x < 4294967296) : (x + 4294967296 * (y + 4294967296 * Y)) / 2 ^ k = (y * 4294967296 + x) / 2 ^ k % 4294967296 + 4294967296 * ((y + 4294967296 * Y) / 2 ^ k) := by
  have hp : 0 < 2 ^ k := Nat.pow_pos (by omega)
  have hB : 4294967296 = 2 ^ k * 2 ^ (32 - k) := by rw [← Nat.pow_add, show k + (32 - k) = 32 by omega]
  have e2 : (x + 4294967296 * (y + 4294967296 * Y)) / 2 ^ k / 4294967296 = (y + 4294967296 * Y) / 2 ^ k := by
    rw [Nat.div_div_eq_div_mul, Nat.mul_comm (2 ^ k), ← Nat.div_div_eq_div_mul]
    congr 1; omega
  have e3 : (x + 4294967296 * (y + 4294967296 * Y)) / 2 ^ k = (y * 4294967296 + x) / 2 ^ k + 4294967296 * (2 ^ (32 - k) * Y) := by
    have : x + 4294967296 * (y + 4294967296 * Y) = (y * 4294967296 + x) + 2 ^ k * (4294967296 * (2 ^ (32 - k) * Y)) := by
      have h1 : 2 ^ k * (4294967296 * (2 ^ (32 - k) * Y)) = 4294967296 * (4294967296 * Y) := by
        rw [Nat.mul_left_comm (2 ^ k), ← Nat.mul_assoc (2 ^ k), ← hB]
      rw [h1]; omega
    rw [this, Nat.add_mul_div_left _ _ hp]
  have e4 : (x + 4294967296 * (y + 4294967296 * Y)) / 2 ^ k % 4294967296 = (y * 4294967296 + x) / 2 ^ k % 4294967296 := by rw [e3]; omega
  have := Nat.mod_add_div ((x + 4294967296 * (y + 4294967296 * Y)) / 2 ^ k) 4294967296
  rw [e4, e2] at this
  exact this.symm

/-- The rest is moved down again, and all is trimmed. -/
theorem long_down (k : Nat) (hk : k ≤ 31) (w qs : List Nat) (hw : Dig w) (hq : Dig qs) (n : Nat) (hn : n < w.length) (hb : w.length ≤ 1000) (hbq : qs.length ≤ 1000) (hlt : dval w < 4294967296 ^ n) (uid qid rid : Nat) (h1 : uid ≠ qid) (h2 : uid ≠ rid) (h3 : qid ≠ rid) (st : St)
    (hu : st.H uid = some ⟨1, digV w⟩) (hqq : st.H qid = some ⟨1, digV qs⟩) (hr : st.H rid = some ⟨1, digV (List.replicate n 0)⟩) :
    Rets (.tup [N (dval qs), N (dval w / 2 ^ k)]) (iter fuel (fun self v => (L_nat_long_1 self v).run) [I k, .sl uid w.length 0 w.length, .sl qid qs.length 0 qs.length, .sl rid n 0 n, I n, I 0] st) := by
  refine loop_ind (α := Nat × List Nat) _ (fun a kk v st' => ∃ i r, a = (i, r) ∧ v = [I k, .sl uid w.length 0 w.length, .sl qid qs.length 0 qs.length, .sl rid n 0 n, I n, I i] ∧ kk = n - i ∧ i ≤ n ∧ Dig r ∧ r.length = n ∧ st'.H uid = some ⟨1, digV w⟩ ∧ st'.H qid = some ⟨1, digV qs⟩ ∧ st'.H rid = some ⟨1, digV r⟩ ∧
      (∀ j, i ≤ j → r.getD j 0 = 0) ∧ dval r + 4294967296 ^ i * (dval (w.drop i) / 2 ^ k) = dval w / 2 ^ k) (fun r => Rets (.tup [N (dval qs), N (dval w / 2 ^ k)]) r) ?_ fuel (0, List.replicate n 0) n _ _
    ⟨0, _, rfl, rfl, by omega, by omega, Dig.rep _, by simp, hu, hqq, hr, fun j _ => by simp [List.getElem?_replicate]; split <;> rfl, by simp [dval_rep]⟩ (by unfold fuel; omega)
  rintro _ kk v st' ⟨i, r, rfl, rfl, rfl, hi, hdr, hlr, hu', hq', hr', hz, he⟩ self ih
  by_cases hlt2 : i < n
  · have hlt' : (i : Int) < (n : Int) := by omega
    have w1 : IntKind.i64.wrap ((i : Int) + 1) = ((i + 1 : Nat) : Int) := by rw [wrap64] <;> omega
    have d1 := idx_sl_dig st' hu' (i + 1) (by omega)
    have d2 := load_sl_dig st' hu' (i + 1) (by omega)
    have d3 := idx_sl_dig st' hu' i (by omega)
    have d4 := load_sl_dig st' hu' i (by omega)
    have hy := hw.at (show i + 1 < w.length by omega)
    have hx := hw.at (show i < w.length by omega)
    have hy' : w.getD (i + 1) 0 = w[i + 1] := by simp [show i + 1 < w.length by omega]
    have hx' : w.getD i 0 = w[i] := by simp [show i < w.length by omega]
    have hs := down_step (w.getD i 0) (w.getD (i + 1) 0) (dval (w.drop (i + 2))) k hk (dig_getD hw i)
    rw [← dval_drop w (i + 1), ← dval_drop w i, hx', hy'] at hs
    generalize w[i + 1] = y at hy d2 hs
    generalize w[i] = x at hx d4 hs
    have s1 : binM .shl ty_uint64 (.int .u64 (y : Int)) (.int .u64 32) st' = _ := shl64 st' ty_uint64 .u64 y 32 (by omega) (by omega)
    have s2 := or64 st' ty_uint64 (y * 2 ^ 32) x (by omega) (by omega)
    rw [or_add y 32 x (by omega)] at s2
    have s3 := shr64 st' ty_uint64 .i64 (y * 2 ^ 32 + x) k (by omega) (by omega)
    have hri : i < r.length := by omega
    have d5 := idx_sl_dig st' hr' i hri
    have hst := store_sl_dig st' hr' i ((y * 2 ^ 32 + x) / 2 ^ k % 4294967296) hri
    rw [hlr] at d5 hst
    simp only [L_nat_long_1, run_bnd, g_zero, g_succ, cmp_lss, hlt', decide_true, thn_ok, run_if, if_true, op_add, w1, d1, d2, conv_u64 _ _ y (by omega), s1, d3, d4, conv_u64 _ _ x (by omega), s2, s3, conv_u32, d5, hst, run_leaf]
    refine ih (i + 1, _) (n - (i + 1)) _ _ (by omega) ⟨i + 1, r.set i ((y * 2 ^ 32 + x) / 2 ^ k % 4294967296), rfl, rfl, rfl, by omega, hdr.set (by omega), by simp [hlr], by simp [h2, hu'], by simp [h3, hq'], by simp, fun j hj => ?_, ?_⟩
    · rw [getD_set _ _ _ _ hri, if_neg (by omega)]; exact hz j (by omega)
    · have g1 := dval_set (xs := r) (d := (y * 2 ^ 32 + x) / 2 ^ k % 4294967296) hri
      have g2 : r[i] = 0 := by
        have := hz i (Nat.le_refl _)
        simpa [hri] using this
      rw [g2, Nat.mul_zero, Nat.add_zero] at g1
      have e32 : y * 2 ^ 32 + x = y * 4294967296 + x := rfl
      have ep : 4294967296 ^ (i + 1) = 4294967296 ^ i * 4294967296 := Nat.pow_succ ..
      rw [g1, ← he, hs, ep, e32, Nat.mul_add (4294967296 ^ i), Nat.mul_assoc (4294967296 ^ i) 4294967296]
      omega
  · have hi' : i = n := by omega
    subst hi'
    have hlt' : ¬ (i : Int) < (i : Int) := by omega
    have hwz : dval (w.drop i) = 0 := by
      have h1 := dval_take_drop w i (by omega)
      refine Classical.byContradiction fun h => ?_
      have : 4294967296 ^ i * 1 ≤ 4294967296 ^ i * dval (w.drop i) := Nat.mul_le_mul_left _ (by omega)
      omega
    rw [hwz, Nat.zero_div, Nat.mul_zero, Nat.add_zero] at he
    obtain ⟨dd, hc1⟩ := callP_frz_dig (own := none) (mp := true) (F := F_nat_trim) hq' (by omega) (nat_trim_ok qs (by omega) hq)
    have hr2 : (⟨upd st'.H qid none, st'.nx, dd⟩ : St).H rid = some ⟨1, digV r⟩ := by
      have : ¬ rid = qid := fun e => h3 e.symm
      simp [this, hr']
    obtain ⟨dd2, hc2⟩ := callP_frz_dig (own := none) (mp := true) (F := F_nat_trim) hr2 (by omega) (nat_trim_ok r (by omega) hdr)
    rw [hlr] at hc2
    simp only [L_nat_long_1, run_bnd, g_zero, g_succ, cmp_lss, hlt', decide_false, thn_ok, run_if, Bool.false_eq_true, if_false, hc1, take_N, hc2, run_leaf, ret_at, he, rets_ok]

theorem long_loop (k : Nat) (hk : k ≤ 31) (vs : List Nat) (hv : Dig vs) (m : Nat) (hm : vs.length = m + 2) (hv1 : 0 < vs.getD (m + 1) 0) (uid qid : Nat) (hne : uid ≠ qid) (st : St) (w qs : List Nat) (hw : Dig w)
    (hu : st.H uid = some ⟨1, digV w⟩) (hqq : st.H qid = some ⟨1, digV (List.replicate (w.length - vs.length) 0)⟩) (hn : vs.length < w.length) (hb : w.length ≤ 1000) (hlt : dval (w.drop (w.length - vs.length)) < dval vs) (hun : uid < st.nx) (hqn : qid < st.nx) :
    Rets (.tup [N (dval w / dval vs), N (dval w % dval vs / 2 ^ k)]) (iter fuel (fun self v => (L_nat_long_2 self v).run) [I k, .lst (digV vs), .sl uid w.length 0 w.length, I vs.length, .sl qid (w.length - vs.length) 0 (w.length - vs.length), I (((w.length - vs.length : Nat) : Int) - 1)] st) := by
  have hV := dval_lt hv
  refine loop_ind (α := Nat × List Nat × List Nat) _ (fun a kk v st' => ∃ j x q, a = (j, x, q) ∧ v = [I k, .lst (digV vs), .sl uid w.length 0 w.length, I vs.length, .sl qid (w.length - vs.length) 0 (w.length - vs.length), I ((j : Int) - 1)] ∧ kk = j ∧ j ≤ w.length - vs.length ∧ Dig x ∧ Dig q ∧ x.length = w.length ∧ q.length = w.length - vs.length ∧
      st'.H uid = some ⟨1, digV x⟩ ∧ st'.H qid = some ⟨1, digV q⟩ ∧ (∀ i, i < j → q.getD i 0 = 0) ∧ dval q * dval vs + dval x = dval w ∧ dval (x.drop j) < dval vs ∧ uid < st'.nx ∧ qid < st'.nx) (fun r => Rets (.tup [N (dval w / dval vs), N (dval w % dval vs / 2 ^ k)]) r) ?_ fuel (w.length - vs.length, w, List.replicate (w.length - vs.length) 0) (w.length - vs.length) _ _
    ⟨_, w, _, rfl, rfl, rfl, by omega, hw, Dig.rep _, rfl, by simp, hu, hqq, fun j _ => by simp [List.getElem?_replicate]; split <;> rfl, by simp [dval_rep], hlt, hun, hqn⟩ (by unfold fuel; omega)
  rintro _ kk v st' ⟨j, x, q, rfl, rfl, rfl, hj, hx, hq, hxl, hql, hu', hq', hz, he, hlt', hun', hqn'⟩ self ih
  cases kk with
  | zero =>
    have h1 : ¬ (0 : Int) ≤ ((0 : Nat) : Int) - 1 := by omega
    rw [List.drop_zero] at hlt'
    have hvpos : 0 < dval vs := by omega
    have e1 : dval w / dval vs = dval q := by
      rw [← he, Nat.mul_comm, Nat.mul_add_div hvpos, Nat.div_eq_of_lt hlt']; omega
    have e2 : dval w % dval vs = dval x := by
      rw [← he, Nat.mul_comm, Nat.mul_add_mod, Nat.mod_eq_of_lt hlt']
    simp only [L_nat_long_2, run_bnd, g_zero, g_succ, cmp_geq, h1, decide_false, thn_ok, run_if, Bool.false_eq_true, if_false]
    rw [make_rep _ _ _ _ _ (by omega) (by omega) (by omega) rfl]
    simp only [thn_ok, len_sl, run_bnd, run_loop, g_zero, g_succ]
    rw [e1, e2]
    have := long_down k hk x q hx hq vs.length (by omega) (by omega) (by omega) (by omega) uid qid st'.nx hne (by omega) (by omega) ⟨upd st'.H st'.nx (some ⟨1, List.replicate vs.length (.int .u32 0)⟩), st'.nx + 1, st'.dead⟩
      (by have : ¬ uid = st'.nx := by omega
          simp [this, hu']) (by have : ¬ qid = st'.nx := by omega
                                simp [this, hq']) (by rw [digV_rep]; simp)
    rw [hxl, hql] at this
    exact this
  | succ jj =>
    have e1 : (((jj + 1 : Nat) : Int) - 1) = (jj : Int) := by omega
    rw [e1]
    have := long_round self k vs hv m hm hv1 uid qid hne st' x q hx hq hu' hq' (by omega) (by omega) jj (by omega) hlt' (hz jj (by omega)) (fun r => Rets (.tup [N (dval w / dval vs), N (dval w % dval vs / 2 ^ k)]) r) (fun st2 x2 q2 k1 k2 k3 k4 k5 k6 k7 k8 k9 k10 => by
      rw [hxl, hql]
      exact ih (jj, x2, q2) jj _ st2 (by omega) ⟨jj, x2, q2, rfl, rfl, rfl, by omega, k3, k4, by omega, by omega, k1, k2, fun i hi => by rw [k9 i hi]; exact hz i (by omega), by rw [k8, he], k7, by omega, by omega⟩)
    rw [hxl, hql] at this
    exact this

theorem nat_long_ok (a b : Nat) (ha : a < 4294967296 ^ 256) (hba : b ≤ a) (hb : 4294967296 ≤ b) : F_nat_long [N a, N b] = .ret (.tup [N (a / b), N (a % b)]) := by
  refine runP_rets (v := .tup [N (a / b), N (a % b)]) ?_ (fun H => by simp)
  have hbf : b < 4294967296 ^ 256 := by omega
  have la := digs_len.2 ha
  have lb := digs_len.2 hbf
  have hl : (digs b).length ≤ (digs a).length := digs_len.2 (by
    have := digs_len.1 (Nat.le_refl (digs a).length); omega)
  obtain ⟨m, hm⟩ : ∃ m, (digs b).length = m + 2 := by
    have : ¬ (digs b).length ≤ 1 := fun h => by
      have := digs_len.1 h; omega
    exact ⟨(digs b).length - 2, by omega⟩
  -- the highest digit
  have hdb := dig_digs b
  have hne : digs b ≠ [] := fun e => by rw [e] at hm; simp at hm
  have hlast := digs_last hne
  have hd0 : (digs b).getD (m + 1) 0 ≠ 0 := by
    rw [List.getLast_eq_getElem] at hlast
    have : (digs b).length - 1 = m + 1 := by omega
    simp only [this] at hlast
    simpa [hm] using hlast
  have hdB := dig_getD hdb (m + 1)
  have i1 : idxM 1 (N b) (I ((m + 1 : Nat) : Int)) St.empty = .ok (.cref (.int .u32 (((digs b).getD (m + 1) 0 : Nat) : Int)) 0) St.empty := by
    rw [N, idx_dig St.empty (digs b) (m + 1) (by omega)]; simp [hm]
  -- b by its highest digit
  have hbv : b = dval ((digs b).take (m + 1)) + 4294967296 ^ (m + 1) * (digs b).getD (m + 1) 0 := by
    have h1 := dval_take_drop (digs b) (m + 1) (by omega)
    rw [dval_digs, dval_drop, List.drop_eq_nil_of_le (by omega)] at h1
    simpa [dval] using h1
  have hblow := dval_lt (hdb.take (m + 1))
  rw [List.length_take, Nat.min_eq_left (by omega)] at hblow
  generalize hdd : (digs b).getD (m + 1) 0 = d at hd0 hdB i1 hbv
  generalize dval ((digs b).take (m + 1)) = blow at hbv hblow
  obtain ⟨k, hk, hdk, hlz⟩ := leading_ok d hdB hd0
  have hp : 0 < 2 ^ k := Nat.pow_pos (by omega)
  -- the divisor, moved up
  have hV1 : b * 2 ^ k < 4294967296 ^ (m + 2) := by
    have hB : 4294967296 = 2 ^ (32 - k) * 2 ^ k := by rw [← Nat.pow_add, show 32 - k + k = 32 by omega]
    have h1 : (d + 1) * 2 ^ k ≤ 4294967296 := by
      have : d < 2 ^ (32 - k) := by
        refine Nat.lt_of_mul_lt_mul_right (a := 2 ^ k) ?_
        rw [← hB]; exact hdk
      calc (d + 1) * 2 ^ k ≤ 2 ^ (32 - k) * 2 ^ k := Nat.mul_le_mul_right _ this
        _ = 4294967296 := hB.symm
    have h2 : b < 4294967296 ^ (m + 1) * (d + 1) := by rw [hbv, Nat.mul_add]; omega
    have h3 := Nat.mul_lt_mul_of_pos_right h2 hp
    rw [Nat.mul_assoc] at h3
    have h4 := Nat.mul_le_mul_left (4294967296 ^ (m + 1)) h1
    rw [Nat.pow_succ]; omega
  have hV2 : 4294967296 ^ (m + 1) * 2 ^ k ≤ b * 2 ^ k := by
    refine Nat.mul_le_mul_right _ ?_
    have : 4294967296 ^ (m + 1) * 1 ≤ 4294967296 ^ (m + 1) * d := Nat.mul_le_mul_left _ (by omega)
    omega
  have hVl : (digs (b * 2 ^ k)).length = m + 2 := by
    have h1 := digs_len.2 hV1
    have h2 : ¬ (digs (b * 2 ^ k)).length ≤ m + 1 := fun h => by
      have h3 := digs_len.1 h
      have : 4294967296 ^ (m + 1) * 1 ≤ 4294967296 ^ (m + 1) * 2 ^ k := Nat.mul_le_mul_left _ hp
      omega
    omega
  have hVne : digs (b * 2 ^ k) ≠ [] := fun e => by rw [e] at hVl; simp at hVl
  have hVlast : 0 < (digs (b * 2 ^ k)).getD (m + 1) 0 := by
    have h1 := digs_last hVne
    rw [List.getLast_eq_getElem] at h1
    have h2 : (digs (b * 2 ^ k)).length - 1 = m + 1 := by omega
    simp only [h2] at h1
    have : (digs (b * 2 ^ k)).getD (m + 1) 0 ≠ 0 := by simpa [hVl] using h1
    omega
  obtain ⟨ob, hsb, hob1, hob2, hob3⟩ := nat_shift_ok b k hbf hk
  obtain ⟨oa, hsa, hoa1, hoa2, hoa3⟩ := nat_shift_ok a k ha hk
  have htr := nat_trim_ok ob (by omega) hob1
  rw [hob3] at htr
  have w0 : IntKind.i64.wrap (((digs b).length : Int) - 1) = ((m + 1 : Nat) : Int) := by rw [wrap64] <;> omega
  have w1 : IntKind.i64.wrap (((oa.length : Nat) : Int) - ((digs (b * 2 ^ k)).length : Int)) = ((oa.length - (digs (b * 2 ^ k)).length : Nat) : Int) := by rw [wrap64] <;> omega
  have w2 : IntKind.i64.wrap (((oa.length - (digs (b * 2 ^ k)).length : Nat) : Int) - 1) = ((oa.length - (digs (b * 2 ^ k)).length : Nat) : Int) - 1 := wrap64 _ (by omega) (by omega)
  have hall : (digV oa).all (fitsE 1) = true := List.all_eq_true.2 (digV_fits oa)
  simp only [B_nat_long, run_bnd, len_N, thn_ok, op_sub, w0, i1, load_cell]
  rw [callP_eq (by simp) (by simp)]
  simp only [snapDL_cons, snap_cons, snap_nil, snap_int, Option.getD_some, hlz, callK_ret, take_none_int, thn_ok, run_bnd]
  rw [callP_eq (by simp) (by simp)]
  simp only [snapDL_cons, snap_cons, snap_nil, snap_int, snap_N, Option.getD_some, hsb, callK_ret, take_none_fr, thn_ok, run_bnd]
  rw [callP_eq (by simp) (by simp)]
  simp only [snapDL_cons, snap_cons, snap_nil, snap_lst, Option.getD_some, htr, callK_ret, take_N, thn_ok, run_bnd]
  rw [callP_eq (by simp) (by simp)]
  simp only [snapDL_cons, snap_cons, snap_nil, snap_int, snap_N, Option.getD_some, hsa, callK_ret]
  have htk : takeM (some 1) (.fr 1 (digV oa)) St.empty = .ok (.sl 0 oa.length 0 oa.length) ⟨upd St.empty.H 0 (some ⟨1, digV oa⟩), 1, St.empty.dead⟩ := by
    simp only [takeM, hall, and_self, if_true, withId, digV_length]; rfl
  rw [htk]
  simp only [thn_ok, run_bnd, len_N, len_sl, op_sub, w1]
  rw [make_rep _ _ _ _ _ (by omega) (by omega) (by omega) rfl]
  simp only [thn_ok, run_bnd, len_sl, op_sub, w2, run_loop]
  have hA : dval oa = a * 2 ^ k := hoa3
  have := long_loop k hk (digs (b * 2 ^ k)) (dig_digs _) m hVl hVlast 0 1 (by omega) ⟨upd (upd St.empty.H 0 (some ⟨1, digV oa⟩)) 1 (some ⟨1, List.replicate (oa.length - (digs (b * 2 ^ k)).length) (.int .u32 0)⟩), 2, St.empty.dead⟩ oa [] hoa1
    (by simp) (by rw [digV_rep]; simp) (by omega) (by omega) ?_ (by simp) (by simp)
  · rw [dval_digs, hA, Nat.mul_div_mul_right _ _ hp, Nat.mul_mod_mul_right, Nat.mul_div_cancel _ hp] at this
    exact this
  · -- the highest digits are less than the divisor
    rw [dval_digs]
    have h1 := dval_take_drop oa (oa.length - (digs (b * 2 ^ k)).length) (by omega)
    rw [hA] at h1
    have h2 : a < 4294967296 ^ (digs a).length := digs_len.1 (Nat.le_refl _)
    have h3 := Nat.mul_lt_mul_of_pos_right h2 hp
    refine Nat.lt_of_not_le fun hge => ?_
    have h4 := Nat.mul_le_mul_left (4294967296 ^ (oa.length - (digs (b * 2 ^ k)).length)) (Nat.le_trans hV2 hge)
    rw [← Nat.mul_assoc, ← Nat.pow_add, show oa.length - (digs (b * 2 ^ k)).length + (m + 1) = (digs a).length by omega] at h4
    omega

theorem clone_ok (xs : List Nat) (hx : xs.length ≤ 1000) : F_slices_Clone_uint32 [.lst (digV xs)] = .ret (.fr 1 (digV xs)) := by
  cases xs with
  | nil => rfl
  | cons x xs =>
    have hn : noreL (digV (x :: xs)) = true := by
      generalize x :: xs = l
      induction l with
      | nil => rfl
      | cons d ds ih => simpa [digV] using ih
    have e1 : binM .eql ty_sl_uint32 (.lst (digV (x :: xs))) .nilS St.empty = .ok (.bool false) St.empty := rfl
    have e2 : buildSliceM none 1 false (.int .u32 0) 0 [] St.empty = .ok (.sl 0 0 0 0) ⟨upd St.empty.H 0 (some ⟨1, []⟩), 1, St.empty.dead⟩ := rfl
    have e3 : appendM 1 4 (.sl 0 0 0 0) (.lst (digV (x :: xs))) ⟨upd St.empty.H 0 (some ⟨1, []⟩), 1, St.empty.dead⟩ = .ok (.sl 0 (x :: xs).length 0 (x :: xs).length) ⟨upd St.empty.H 0 (some ⟨1, digV (x :: xs)⟩), 1, St.empty.dead⟩ := by
      have hf := digV_fitsA (x :: xs)
      have hl : (digV (x :: xs)).length ≤ mostLen := by rw [digV_length]; unfold mostLen; omega
      have hl2 : ¬ (0 + (digV (x :: xs)).length ≤ 0) := by rw [digV_length]; simp
      simp only [appendM, elems, hf, hl, and_self, if_true, upd_at, Nat.zero_lt_one, show 4 ≤ mostBytes by simp [mostBytes], List.length_nil, Nat.le_refl, Nat.zero_le, hl2, if_false, List.take_nil, List.nil_append, upd_upd]
      simp
    have hrun : (B_slices_Clone_uint32 [.lst (digV (x :: xs))]).run St.empty = .ok (.sl 0 (x :: xs).length 0 (x :: xs).length) ⟨upd St.empty.H 0 (some ⟨1, digV (x :: xs)⟩), 1, St.empty.dead⟩ := by
      simp only [B_slices_Clone_uint32, run_bnd, e1, thn_ok, run_if, Bool.false_eq_true, if_false, e2, e3, run_leaf, ret_at]
    have : F_slices_Clone_uint32 [.lst (digV (x :: xs))] = F0_slices_Clone_uint32 [.lst (digV (x :: xs))] := rfl
    rw [this]
    simp [F0_slices_Clone_uint32, runP, hrun, freshV, hn]

theorem nat_DivMod_ok (a b : Nat) (ha : a < 4294967296 ^ 256) (hb : b < 4294967296 ^ 256) (h0 : 0 < b) : F_nat_DivMod [N a, N b] = .ret (.tup [N (a / b), N (a % b), I 0]) := by
  have la := digs_len.2 ha
  have lb := digs_len.2 hb
  have hne : digs b ≠ [] := digs_ne.2 (by omega)
  have hb0 : ¬ ((digs b).length : Int) = 0 := by have := List.length_pos_iff.2 hne; omega
  by_cases hlt : a < b
  · have hc : cmpN a b < 0 := by simp [cmpN, hlt]
    refine runP_rets (v := .tup [.nilS, .lst (digV (digs a)), I 0]) ?_ (fun H => by simp [Nat.div_eq_of_lt hlt, Nat.mod_eq_of_lt hlt, N, digs_zero, digV])
    have hcl := clone_ok (digs a) (by omega)
    have : F_slices_Clone_uint32 [N a] = .ret (.fr 1 (digV (digs a))) := hcl
    simp [B_nat_DivMod, ha, hb, hne, nat_order_ok a b (fit_len ha) (fit_len hb), hc, this]
  · have hc : ¬ cmpN a b < 0 := by unfold cmpN; rw [if_neg hlt]; split <;> omega
    refine runP_rets (v := .tup [N (a / b), N (a % b), I 0]) ?_ (fun H => by simp)
    by_cases h1 : b < 4294967296
    · have hd := digs_small (by omega : b ≠ 0) h1
      have hl : ((digs b).length : Int) = 1 := by rw [hd]; rfl
      have i1 : idxM 1 (N b) (I 0) St.empty = .ok (.cref (.int .u32 (b : Int)) 0) St.empty := by rw [N, hd]; rfl
      have hm := Nat.mod_lt a h0
      have hof := nat_Of_ok (a % b) (by omega)
      have hw := wrapu64 ((a % b : Nat) : Int) (Int.natCast_nonneg _) (by omega)
      rw [Int.natCast_emod] at hof hw
      simp [B_nat_DivMod, ha, hb, hne, nat_order_ok a b (fit_len ha) (fit_len hb), hc, hl, i1, nat_small_ok a b ha h1 h0, hw, hof]
    · have hl : ¬ ((digs b).length : Int) = 1 := fun e => by
        have := digs_len.1 (show (digs b).length ≤ 1 by omega)
        omega
      simp [B_nat_DivMod, ha, hb, hne, nat_order_ok a b (fit_len ha) (fit_len hb), hc, hl, nat_long_ok a b ha (by omega) (by omega)]

end Go.Abs
end
