/-
  Joined from: R1 R2 R3.
-/
import Derived.Test.YtliomhbmlclmeaaGreatLD
/-
  LINEAR PROGRAMS: sums of fractions, which may be too big.
-/
section
set_option linter.unusedSimpArgs false
set_option linter.unusedVariables false
namespace Go.Abs
open Go

/-- A fraction, if it has not too many digits. -/
def ck (q : Rat) : Option Rat := if fit64 q then some q else none
theorem ck_some {q r : Rat} (h : ck q = some r) : r = q ∧ fit64 q := by
  unfold ck at h; split at h
  · rename_i hf; cases h; exact ⟨rfl, hf⟩
  · cases h
/-- What is thrown where a fraction has too many digits. -/
def bigV : PV := .iface tid_plex_tooBig (.agg [])
@[simp] theorem noref_bigV : bigV.noref = true := (rfl)
@[simp] theorem snapD_bigV (H : Nat → Option Blk) : snapF H depth bigV = some bigV := (rfl)
/-- A fraction, or it is thrown. -/
def pq (o : Option Rat) : PRes := match o with | some q => .ret (QV q) | none => .panic bigV
@[simp] theorem callK_pq_some (mp : Bool) (q : Rat) (st : St) : callK none mp (pq (some q)) st = .ok (QV q) st := (rfl)
@[simp] theorem callK_pq_none (st : St) : callK none true (pq none) st = .panic bigV st := (rfl)

theorem must_ok (s : Bool) (k : Nat) (s' : Bool) (k' : Nat) : F_plex_must [Qz s k s' k', I 0] = .ret (Qz s k s' k') := by
  refine runP_rets (v := Qz s k s' k') ?_ (fun H => by simp)
  simp [B_plex_must, Qz_def]
theorem must_err (v : PV) (hv : fitsE 4 v = true) (e : Int) (he : e ≠ 0) : F_plex_must [v, I e] = .panic bigV := by
  have : ∃ st, (B_plex_must [v, I e]).run St.empty = .panic bigV st := by
    have hb : buildM [] [] = ret (.agg []) := rfl
    simp [B_plex_must, hv, he, hb, panicM]
    exact rfl
  obtain ⟨st, h⟩ := this
  exact runP_panic h (snapD_bigV _)
theorem must_res (q : Rat) : ∃ v e, resQ q = .tup [v, I e] ∧ F_plex_must [v, I e] = pq (ck q) ∧ fitsE 4 v = true ∧ v.noref = true ∧ (∀ H d, 9 < d → snapF H d v = some v) := by
  have hs : ∀ (s : Bool) (k : Nat) (s' : Bool) (k' : Nat) (H : Nat → Option Blk) (d : Nat), 9 < d → snapF H d (Qz s k s' k') = some (Qz s k s' k') := fun s k s' k' H d hd => by
    obtain ⟨e, rfl⟩ : ∃ e, d = e + 6 := ⟨d - 6, by omega⟩
    simp
  by_cases h : fit64 q
  · refine ⟨QV q, 0, by simp [resQ, h], ?_, by simp, rfl, hs _ _ _ _⟩
    have := must_ok (qs q) (qm q) false q.den
    simp only [ck, h, if_true]; exact this
  · refine ⟨Q0, 3, by simp [resQ, h], ?_, by simp [Q0], rfl, hs _ _ _ _⟩
    rw [must_err _ (by simp [Q0]) 3 (by omega)]
    simp only [ck, h, if_false]; rfl

/-- What goes through 'must'. -/
theorem plex_pq {B : List PV → Prog} {args : List PV} {o : Option Rat} (h : match o with | some q => Rets (QV q) ((B args).run .empty) | none => ∃ st, (B args).run .empty = .panic bigV st) : runP false (fun a => (B a).run) args = pq o := by
  cases o with
  | some q => exact runP_rets (v := QV q) h (fun H => by simp)
  | none => obtain ⟨st, h⟩ := h; exact runP_panic h (snapD_bigV _)

theorem plex_add_ok {a b : Rat} (ha : fit64 a) (hb : fit64 b) : F_plex_add [QV a, QV b] = pq (ck (a + b)) := by
  obtain ⟨v, e, h1, h2, h3, h4, h5⟩ := must_res (a + b)
  have hr := ratio_Add_ok ha hb
  rw [h1] at hr
  refine plex_pq ?_
  cases hc : ck (a + b) with
  | some q =>
    rw [hc] at h2
    simp [B_plex_add, QV_def, hr, h4, h5, h2]
  | none =>
    rw [hc] at h2
    simp [B_plex_add, QV_def, hr, h4, h5, h2]
theorem plex_mul_ok {a b : Rat} (ha : fit64 a) (hb : fit64 b) : F_plex_mul [QV a, QV b] = pq (ck (a * b)) := by
  obtain ⟨v, e, h1, h2, h3, h4, h5⟩ := must_res (a * b)
  have hr := ratio_Mul_ok ha hb
  rw [h1] at hr
  refine plex_pq ?_
  cases hc : ck (a * b) with
  | some q =>
    rw [hc] at h2
    simp [B_plex_mul, QV_def, hr, h4, h5, h2]
  | none =>
    rw [hc] at h2
    simp [B_plex_mul, QV_def, hr, h4, h5, h2]
theorem plex_div_ok {a b : Rat} (ha : fit64 a) (hb : fit64 b) (h0 : b ≠ 0) : F_plex_div [QV a, QV b] = pq (ck (a / b)) := by
  obtain ⟨v, e, h1, h2, h3, h4, h5⟩ := must_res (a / b)
  have hr := ratio_Div_ok ha hb h0
  rw [h1] at hr
  refine plex_pq ?_
  cases hc : ck (a / b) with
  | some q =>
    rw [hc] at h2
    simp [B_plex_div, QV_def, hr, h4, h5, h2]
  | none =>
    rw [hc] at h2
    simp [B_plex_div, QV_def, hr, h4, h5, h2]
theorem plex_neg_ok {a : Rat} (ha : fit64 a) : F_plex_neg [QV a] = .ret (QV (-a)) := by
  have hr := ratio_Neg_ok ha
  have hm : F_plex_must [QV (-a), I 0] = .ret (QV (-a)) := must_ok _ _ _ _
  refine runP_rets (v := QV (-a)) ?_ (fun H => by simp)
  simp [B_plex_neg, QV_def, hr, hm]
  rfl
theorem plex_sub_ok {a b : Rat} (ha : fit64 a) (hb : fit64 b) : F_plex_sub [QV a, QV b] = pq (ck (a - b)) := by
  have h1 := plex_neg_ok hb
  have h2 := plex_add_ok ha (fit64_neg hb)
  rw [← Rat.sub_eq_add_neg] at h2
  refine plex_pq ?_
  cases hc : ck (a - b) with
  | some q =>
    rw [hc] at h2
    simp [B_plex_sub, QV_def, h1, h2]
  | none =>
    rw [hc] at h2
    simp [B_plex_sub, QV_def, h1, h2]
/-- Below nought, nought, or above. -/
def sgnQ (q : Rat) : Int := if q < 0 then -1 else if q = 0 then 0 else 1
theorem plex_sign_ok (a : Rat) : F_plex_sign [QV a] = .ret (I (sgnQ a)) := by
  refine runP_rets (v := I (sgnQ a)) ?_ (fun H => by simp)
  have h0 : qm a = 0 ↔ a = 0 := by unfold qm; rw [Int.natAbs_eq_zero, Rat.num_eq_zero]
  have h1 : qs a = decide (a < 0) := by
    unfold qs
    refine decide_eq_decide.2 ?_
    have : a < 0 ↔ a.num * (0 : Rat).den < (0 : Rat).num * a.den := Rat.lt_iff a 0
    rw [this]; simp
  unfold sgnQ
  by_cases c0 : a = 0
  · subst c0
    have : qm 0 = 0 := rfl
    have h2 : ¬ (0 : Rat) < 0 := Rat.lt_irrefl
    simp [B_plex_sign, this, digs_zero, h2]
  · have hne : ¬ qm a = 0 := fun h => c0 (h0.1 h)
    by_cases c1 : a < 0
    · simp [B_plex_sign, hne, h1, c1]
    · simp [B_plex_sign, hne, h1, c1, c0]

/-! ### calls that read, closures -/
/-- Below what was there all is as it was. -/
def Low (st st' : St) : Prop := st.nx ≤ st'.nx ∧ ∀ i, i < st.nx → st'.H i = st.H i
theorem Low.refl (st : St) : Low st st := ⟨Nat.le_refl _, fun _ _ => rfl⟩
theorem Low.trans {a b c : St} (h : Low a b) (k : Low b c) : Low a c := ⟨Nat.le_trans h.1 k.1, fun i hi => by rw [k.2 i (by have := h.1; omega), h.2 i hi]⟩
def outQ (o : Option Rat) (st : St) : Res := match o with | some q => .ok (QV q) st | none => .panic bigV st
@[simp] theorem outQ_some (q : Rat) (st : St) : outQ (some q) st = .ok (QV q) st := (rfl)
@[simp] theorem outQ_none (st : St) : outQ none st = .panic bigV st := (rfl)
/-- A fraction, or it is thrown; below what was there all is as it was. -/
def GivesQ (o : Option Rat) (st : St) (r : Res) : Prop := ∃ st', Low st st' ∧ r = outQ o st'

theorem callR_of {F : List PV → M} {args : List PV} {st st' : St} {v : PV} (h : F args st = .ok v st') (hl : Low st st') (hv : v.noref = true) : callR F args st = .ok v st := by
  unfold callR
  rw [h]
  simp only [hv, and_true]
  rw [if_pos (sameTo_iff.2 fun i hi => hl.2 i hi)]
theorem callR_panic {F : List PV → M} {args : List PV} {st st' : St} {v : PV} (h : F args st = .panic v st') (hl : Low st st') (hv : v.noref = true) : callR F args st = .panic v st := by
  unfold callR
  rw [h]
  simp only [hv, and_true]
  rw [if_pos (sameTo_iff.2 fun i hi => hl.2 i hi)]
@[simp] theorem calm_ok' {mp : Bool} {m : M} {st st' : St} {v : PV} (h : m st = .ok v st') : calm mp m st = .ok v st' := by unfold calm; rw [h]
theorem calm_panic {m : M} {st st' : St} {v : PV} (h : m st = .panic v st') : calm true m st = .panic v st' := by unfold calm; rw [h]; rfl
theorem gives_calm {o : Option Rat} {F : List PV → M} {args : List PV} {st : St} (h : GivesQ o st (F args st)) : calm true (callR F args) st = outQ o st := by
  obtain ⟨st', h1, h2⟩ := h
  cases o with
  | some q => exact calm_ok' (callR_of h2 h1 rfl)
  | none => exact calm_panic (callR_panic h2 h1 rfl)
theorem dynC_at (D : FuncId → List PV → M) (mp : Bool) (gf : FuncId) (first cap args : List PV) : dynC D true mp (.func gf first cap) args = calm mp (callR (D gf) (first ++ args ++ cap)) := rfl

/-! ### lists -/
theorem idx_lst (st : St) (esz : Nat) (xs : List PV) (i : Nat) (h : i < xs.length) (hf : fitsE esz xs[i] = true) : idxM esz (.lst xs) (I i) st = .ok (.cref xs[i] 0) st := by
  unfold idxM
  simp [h, hf]
/-- Whole numbers, fractions, rows as values. -/
def intsV (l : List Int) : PV := .lst (l.map fun n => I n)
def ratsV (l : List Rat) : PV := .lst (l.map QV)
def rowsV (l : List (List Int)) : PV := .lst (l.map intsV)
@[simp] theorem len_ints (st : St) (l : List Int) : lenM (intsV l) st = .ok (I l.length) st := by simp [intsV]
@[simp] theorem len_rats (st : St) (l : List Rat) : lenM (ratsV l) st = .ok (I l.length) st := by simp [ratsV]
@[simp] theorem len_rows (st : St) (l : List (List Int)) : lenM (rowsV l) st = .ok (I l.length) st := by simp [rowsV]
@[simp] theorem noref_ints (l : List Int) : (intsV l).noref = true := (rfl)
@[simp] theorem noref_rats (l : List Rat) : (ratsV l).noref = true := (rfl)
@[simp] theorem noref_rows (l : List (List Int)) : (rowsV l).noref = true := (rfl)
@[simp] theorem fits_ints (n : Nat) (l : List Int) : fitsE n (intsV l) = (1 == n) := fits_lst n _
@[simp] theorem fits_rats (n : Nat) (l : List Rat) : fitsE n (ratsV l) = (1 == n) := fits_lst n _
@[simp] theorem fits_rows (n : Nat) (l : List (List Int)) : fitsE n (rowsV l) = (1 == n) := fits_lst n _
@[simp] theorem cells_ints (l : List Int) : (intsV l).cells = [intsV l] := (rfl)
@[simp] theorem cells_rats (l : List Rat) : (ratsV l).cells = [ratsV l] := (rfl)
@[simp] theorem cells_rows (l : List (List Int)) : (rowsV l).cells = [rowsV l] := (rfl)
@[simp] theorem snap_ints (H : Nat → Option Blk) (d : Nat) (l : List Int) : snapF H (d + 1) (intsV l) = some (intsV l) := (rfl)
@[simp] theorem snap_rats (H : Nat → Option Blk) (d : Nat) (l : List Rat) : snapF H (d + 1) (ratsV l) = some (ratsV l) := (rfl)
@[simp] theorem snap_rows (H : Nat → Option Blk) (d : Nat) (l : List (List Int)) : snapF H (d + 1) (rowsV l) = some (rowsV l) := (rfl)
theorem idx_ints (st : St) (l : List Int) (i : Nat) (h : i < l.length) : idxM 1 (intsV l) (I i) st = .ok (.cref (I l[i]) 0) st := by
  have := idx_lst st 1 (l.map fun n => I n) i (by simpa using h) (by simp)
  simpa [intsV] using this
theorem idx_rats (st : St) (l : List Rat) (i : Nat) (h : i < l.length) : idxM 4 (ratsV l) (I i) st = .ok (.cref (QV l[i]) 0) st := by
  have := idx_lst st 4 (l.map QV) i (by simpa using h) (by simp)
  simpa [ratsV] using this
theorem idx_rows (st : St) (l : List (List Int)) (i : Nat) (h : i < l.length) : idxM 1 (rowsV l) (I i) st = .ok (.cref (intsV l[i]) 0) st := by
  have := idx_lst st 1 (l.map intsV) i (by simpa using h) (by simp)
  simpa [rowsV] using this

/-- The sum of fractions times numbers, from there on. -/
def dotR (n : Nat → Int) : List Rat → Nat → Rat → Option Rat
  | [], _, s => some s
  | y :: ys, i, s => (ck (y * (n i : Rat))).bind fun p => (ck (s + p)).bind fun s' => dotR n ys (i + 1) s'

theorem fit64_zero : fit64 0 := fit64_int 0 (by omega) (by omega)

theorem dot_ok (st : St) (ys : List Rat) (hy : ∀ y ∈ ys, fit64 y) (hl : ys.length < 2 ^ 50) (f : PV) (n : Nat → Int) (hn : ∀ i, i < ys.length → -9223372036854775808 ≤ n i ∧ n i ≤ 9223372036854775807)
    (hf : ∀ st', Low st st' → ∀ i, i < ys.length → dynC D_plex_dot true true f [I i] st' = .ok (I (n i)) st') : GivesQ (dotR n ys 0 0) st (F_plex_dot [ratsV ys, f] st) := by
  have h0 := ratio_Of_ok 0 (by omega) (by omega)
  unfold F_plex_dot
  have hne : ¬ st.nx = st.nx + 1 := by omega
  simp [B_plex_dot, h0]
  refine loop_ind (α := Nat × Rat) _ (fun a k v st' => ∃ i s z, a = (i, s) ∧ v = [f, .ptr st.nx 1 0 0, .ptr (st.nx + 1) 1 0 0, ratsV ys, I ys.length, I i] ∧ k = ys.length - i ∧ i ≤ ys.length ∧ fit64 s ∧ Low st st' ∧ st.nx + 2 ≤ st'.nx ∧ st'.H (st.nx + 1) = some ⟨4, [QV s]⟩ ∧ st'.H st.nx = some ⟨4, [.agg z]⟩ ∧ z.length = 4 ∧
      dotR n (ys.drop i) i s = dotR n ys 0 0) (fun r => GivesQ (dotR n ys 0 0) st r) ?_ fuel (0, 0) ys.length _ _
    ⟨0, 0, [.bool false, .nilS, .bool false, .nilS], rfl, by simp, by omega, by omega, fit64_zero, ⟨by simp; omega, fun i hi => by
      have h1 : ¬ i = st.nx := by omega
      have h2 : ¬ i = st.nx + 1 := by omega
      simp [h1, h2]⟩, by simp, by simp; rfl, by simp [hne], rfl, rfl⟩ (by unfold fuel; omega)
  rintro _ k v st' ⟨i, s, z, rfl, rfl, rfl, hi, hs, hlow, hnx, h3, h1, hz, he⟩ self ih
  have n1 : ¬ st.nx + 1 = st'.nx := by omega
  have n2 : ¬ st'.nx = st.nx + 1 := by omega
  have n3 : ¬ st.nx = st'.nx := by omega
  by_cases hlt : i < ys.length
  · have hlt' : (i : Int) < (ys.length : Int) := by omega
    have d1 := idx_rats st' ys i hlt
    have hyi := hy ys[i] (List.getElem_mem _)
    have hw : IntKind.i64.wrap ((i : Int) + 1) = ((i + 1 : Nat) : Int) := by rw [wrap64] <;> omega
    have hdyn := hf ⟨upd st'.H st'.nx (some ⟨4, [QV ys[i]]⟩), st'.nx + 1, st'.dead⟩ ⟨by have := hlow.1; simp; omega, fun j hj => by
      have : ¬ j = st'.nx := by omega
      simp [this, hlow.2 j hj]⟩ i hlt
    have hof := ratio_Of_ok (n i) (hn i hlt).1 (hn i hlt).2
    have hmul := plex_mul_ok hyi (fit64_int (n i) (hn i hlt).1 (hn i hlt).2)
    rw [List.drop_eq_getElem_cons hlt, dotR] at he
    generalize ys[i] = y at *
    cases hp : ck (y * (n i : Rat)) with
    | none =>
      rw [hp] at hmul he
      simp [L_plex_dot_1, hlt', d1, n1, n2, h3, QV_def, hdyn, hof, hmul]
      refine ⟨_, ?_, by rw [← he]; rfl⟩
      exact hlow.trans ⟨by simp, fun j hj => by
        have : ¬ j = st'.nx := by omega
        simp [this]⟩
    | some p =>
      rw [hp] at hmul he
      obtain ⟨rfl, hpf⟩ := ck_some hp
      have hadd := plex_add_ok hs hpf
      simp only [Option.bind_some] at he
      cases hq : ck (s + y * (n i : Rat)) with
      | none =>
        rw [hq] at hadd he
        simp [L_plex_dot_1, hlt', d1, n1, n2, h3, QV_def, hdyn, hof, hmul, hadd]
        refine ⟨_, ?_, by rw [← he]; rfl⟩
        exact hlow.trans ⟨by simp, fun j hj => by
          have : ¬ j = st'.nx := by omega
          simp [this]⟩
      | some s' =>
        rw [hq] at hadd he
        obtain ⟨rfl, hsf⟩ := ck_some hq
        simp [L_plex_dot_1, hlt', d1, n1, n2, h3, QV_def, hdyn, hof, hmul, hadd, hw]
        refine ih (i + 1, s + y * (n i : Rat)) (ys.length - (i + 1)) _ _ (by omega) ⟨i + 1, _, z, rfl, by simp, rfl, by omega, hsf, ?_, by simp; omega, by simp, by simp [n3, h1], hz, he⟩
        exact ⟨by have := hlow.1; simp; omega, fun j hj => by
          have m1 : ¬ j = st'.nx := by omega
          have m2 : ¬ j = st.nx + 1 := by omega
          simp [m1, m2, hlow.2 j hj]⟩
  · have hi' : i = ys.length := by omega
    subst hi'
    have hlt' : ¬ (ys.length : Int) < (ys.length : Int) := by omega
    rw [List.drop_length, dotR] at he
    have hsp : setPart (.agg z) 0 (QV s) = some (QV s) := by
      simp [hz, QV, Qz, List.drop_eq_nil_of_le]
    simp [L_plex_dot_1, h3, h1, QV_def, hsp]
    refine ⟨_, ?_, by rw [← he]; rfl⟩
    exact ⟨by have := hlow.1; simp; omega, fun j hj => by
      have m1 : ¬ j = st.nx := by omega
      simp [m1, hlow.2 j hj]⟩

end Go.Abs
end
/-
  LINEAR PROGRAMS: the least that rows by numbers say.
-/
section
set_option linter.unusedSimpArgs false
set_option linter.unusedVariables false
namespace Go.Abs
open Go

/-- A linear program. -/
structure LP where
  lo : List Int
  hi : List Int
  a : List (List Int)
  b : List Int
  c : List Int
def progV (p : LP) : PV := .agg [intsV p.lo, intsV p.hi, rowsV p.a, intsV p.b, intsV p.c]
def within (m : Int) (l : List Int) : Prop := ∀ n ∈ l, -m ≤ n ∧ n ≤ m
instance (m : Int) (l : List Int) : Decidable (within m l) := by unfold within; exact inferInstance
/-- What may be a linear program. -/
structure LP.ok (p : LP) : Prop where
  n : p.lo.length ≤ 64
  hi : p.hi.length = p.lo.length
  c : p.c.length = p.lo.length
  b : p.a.length = p.b.length
  m : p.a.length ≤ 160
  wlo : within 1048576 p.lo
  whi : within 1048576 p.hi
  wc : within 1048576 p.c
  wb : within 1099511627776 p.b
  ends : ∀ j, j < p.lo.length → p.lo.getD j 0 ≤ p.hi.getD j 0
  rows : ∀ r ∈ p.a, r.length = p.lo.length ∧ within 1048576 r

@[simp] theorem cells_prog (p : LP) : (progV p).cells = [intsV p.lo, intsV p.hi, rowsV p.a, intsV p.b, intsV p.c] := (rfl)
@[simp] theorem fits_prog (k : Nat) (p : LP) : fitsE k (progV p) = (5 == k) := fits_agg k _
@[simp] theorem noref_prog (p : LP) : (progV p).noref = true := (rfl)
@[simp] theorem snap_prog (H : Nat → Option Blk) (d : Nat) (p : LP) : snapF H (d + 7) (progV p) = some (progV p) := by simp [progV]
@[simp] theorem snapD_prog (H : Nat → Option Blk) (p : LP) : snapF H depth (progV p) = some (progV p) := by simp [progV]
theorem prog_def (p : LP) : PV.agg [intsV p.lo, intsV p.hi, rowsV p.a, intsV p.b, intsV p.c] = progV p := rfl

def at2 (a : List (List Int)) (i j : Nat) : Int := (a.getD i []).getD j 0

theorem within_getD {m : Int} {l : List Int} (h : within m l) (hm : 0 ≤ m) (i : Nat) : -m ≤ l.getD i 0 ∧ l.getD i 0 ≤ m := by
  by_cases hi : i < l.length
  · have := h l[i] (List.getElem_mem _)
    simpa [hi] using this
  · simp [hi]; omega

/-- One variable's part. -/
def termR (p : LP) (y : List Rat) (c : Option (List Int)) (j : Nat) (s : Rat) : Option Rat :=
  (dotR (fun i => at2 p.a i j) y 0 0).bind fun d => (match c with | some c => ck (d + (c.getD j 0 : Rat)) | none => some d).bind fun d' =>
    (ck (d' * ((if d' < 0 then p.hi.getD j 0 else p.lo.getD j 0 : Int) : Rat))).bind fun q => ck (s + q)
/-- So many variables' parts, from there on. -/
def leastR (p : LP) (y : List Rat) (c : Option (List Int)) : Nat → Nat → Rat → Option Rat
  | 0, _, s => some s
  | k + 1, j, s => (termR p y c j s).bind fun s' => leastR p y c k (j + 1) s'
/-- What the rows by numbers, and c, say, less what the rows leave. -/
def least (p : LP) (y : List Rat) (c : Option (List Int)) : Option Rat :=
  (leastR p y c p.lo.length 0 0).bind fun s => (dotR (fun i => p.b.getD i 0) y 0 0).bind fun t => ck (s - t)

theorem dotR_fit (n : Nat → Int) : ∀ (ys : List Rat) (i : Nat) (s q : Rat), fit64 s → dotR n ys i s = some q → fit64 q
  | [], i, s, q, hs, h => by cases h; exact hs
  | y :: ys, i, s, q, hs, h => by
    simp only [dotR, Option.bind_eq_some_iff] at h
    obtain ⟨p, h1, s', h2, h3⟩ := h
    exact dotR_fit n ys (i + 1) s' q ((ck_some h2).1 ▸ (ck_some h2).2) h3

theorem ne_nil (st : St) (xs : List PV) (h : xs ≠ []) : binM .neq ty_sl_int64 (.lst xs) .nilS st = .ok (.bool true) st := by
  cases xs with
  | nil => exact absurd rfl h
  | cons x xs => rfl
theorem ne_nil_nil (st : St) : binM .neq ty_sl_int64 .nilS .nilS st = .ok (.bool false) st := rfl

/-- How c comes. -/
def cV (c : Option (List Int)) : PV := match c with | some c => intsV c | none => .nilS

theorem c1_run (st : St) (p : LP) (hp : p.ok) (P1 P2 : Nat) (i j : Nat) (h1 : st.H P1 = some ⟨5, [progV p]⟩) (h2 : st.H P2 = some ⟨1, [I (j : Int)]⟩) (hi : i < p.a.length) (hj : j < p.lo.length) :
    F_plex_least_c1 [I i, .ptr P1 1 0 0, .ptr P2 1 0 0] st = .ok (I (at2 p.a i j)) st := by
  have d1 := idx_rows st p.a i hi
  have hr := (hp.rows p.a[i] (List.getElem_mem _)).1
  have d2 := idx_ints st p.a[i] j (by omega)
  have e : (p.a[i])[j]'(by omega) = at2 p.a i j := by unfold at2; simp [hi, show j < (p.a[i]).length by omega]
  rw [e] at d2
  simp [F_plex_least_c1, B_plex_least_c1, h1, h2, d1, d2]
theorem c2_run (st : St) (p : LP) (P1 : Nat) (i : Nat) (h1 : st.H P1 = some ⟨5, [progV p]⟩) (hi : i < p.b.length) : F_plex_least_c2 [I i, .ptr P1 1 0 0] st = .ok (I (p.b.getD i 0)) st := by
  have d1 := idx_ints st p.b i hi
  have e : p.b[i] = p.b.getD i 0 := by simp [hi]
  rw [e] at d1
  simp [F_plex_least_c2, B_plex_least_c2, h1, d1]

theorem least_ok (st : St) (p : LP) (hp : p.ok) (y : List Rat) (hy : ∀ q ∈ y, fit64 q) (hl : y.length = p.a.length) (c : Option (List Int)) (hc : ∀ cs, c = some cs → cs.length = p.lo.length ∧ within 1048576 cs) : GivesQ (least p y c) st (F_plex_least [progV p, ratsV y, cV c] st) := by
  have h0 := ratio_Of_ok 0 (by omega) (by omega)
  have hn := hp.n
  have hm := hp.m
  unfold F_plex_least
  have n0 : ¬ st.nx = st.nx + 1 + 1 := by omega
  have e1 : PV.agg [.bool (qs 0), N (qm 0), .bool false, N 1] = QV 0 := rfl
  simp [B_plex_least, h0, n0, e1]
  refine loop_ind (α := Nat × Rat) _ (fun a k v st' => ∃ j s z, a = (j, s) ∧ v = [ratsV y, cV c, .ptr st.nx 1 0 0, .ptr (st.nx + 1) 1 0 0, .ptr (st.nx + 1 + 1) 1 0 0, I p.lo.length, I j] ∧ k = p.lo.length - j ∧ j ≤ p.lo.length ∧ fit64 s ∧ Low st st' ∧ st.nx + 3 ≤ st'.nx ∧
      st'.H st.nx = some ⟨5, [progV p]⟩ ∧ st'.H (st.nx + 1) = some ⟨4, [.agg z]⟩ ∧ z.length = 4 ∧ st'.H (st.nx + 1 + 1) = some ⟨4, [QV s]⟩ ∧
      ((leastR p y c (p.lo.length - j) j s).bind fun s => (dotR (fun i => p.b.getD i 0) y 0 0).bind fun t => ck (s - t)) = least p y c) (fun r => GivesQ (least p y c) st r) ?step fuel (0, 0) p.lo.length _ _ ?start (by unfold fuel; omega)
  case start =>
    exact ⟨0, 0, [.bool false, .nilS, .bool false, .nilS], rfl, by simp, by omega, by omega, fit64_zero, ⟨by simp; omega, fun i hi => by
      have h1 : ¬ i = st.nx := by omega
      have h2 : ¬ i = st.nx + 1 := by omega
      have h3 : ¬ i = st.nx + 1 + 1 := by omega
      simp [h1, h2, h3]⟩, by simp, by
        have h1 : ¬ st.nx = st.nx + 1 := by omega
        have h2 : ¬ st.nx = st.nx + 1 + 1 := by omega
        simp [h1, h2], by
        have h2 : ¬ st.nx + 1 = st.nx + 1 + 1 := by omega
        simp [h2], rfl, by simp, rfl⟩
  rintro _ k v st' ⟨j, s, z, rfl, rfl, rfl, hj, hs, hlow, hnx, hP, hR, hz, hS, he⟩ self ih
  have n1 : ¬ st.nx = st'.nx := by omega
  have n2 : ¬ st.nx + 1 + 1 = st'.nx := by omega
  have n2' : ¬ st.nx + 1 = st'.nx := by omega
  have n3 : ¬ st.nx = st'.nx + 1 := by omega
  have n4 : ¬ st.nx + 1 + 1 = st'.nx + 1 := by omega
  have n5 : ¬ st.nx + 1 = st'.nx + 1 := by omega
  have n6 : ¬ st'.nx = st'.nx + 1 := by omega
  have n7 : ¬ st.nx = st.nx + 1 + 1 := by omega
  have n8 : ¬ st.nx + 1 = st.nx + 1 + 1 := by omega
  have n9 : ¬ st'.nx = st.nx + 1 + 1 := by omega
  have n10 : ¬ st'.nx + 1 = st.nx + 1 + 1 := by omega
  by_cases hlt : j < p.lo.length
  · have hlt' : (j : Int) < (p.lo.length : Int) := by omega
    have hw : IntKind.i64.wrap ((j : Int) + 1) = ((j + 1 : Nat) : Int) := by rw [wrap64] <;> omega
    -- the column's sum
    have hdot := gives_calm (dot_ok ⟨upd st'.H st'.nx (some ⟨1, [I (j : Int)]⟩), st'.nx + 1, st'.dead⟩ y hy (by omega) (.func fid_plex_least_c1 [] [.ptr st.nx 1 0 0, .ptr st'.nx 1 0 0]) (fun i => at2 p.a i j)
      (fun i hi => by
        have : within 1048576 (p.a.getD i []) := by
          by_cases h : i < p.a.length
          · have := (hp.rows p.a[i] (List.getElem_mem _)).2
            simpa [h] using this
          · simp [h]; intro n hn; cases hn
        have := within_getD this (by omega) j
        unfold at2; omega) (fun st'' hl'' i hi => by
        rw [dynC_at, D_plex_dot_plex_least_c1]
        refine calm_ok' (callR_of (c1_run st'' p hp st.nx st'.nx i j ?_ ?_ (by omega) hlt) (Low.refl _) rfl)
        · rw [hl''.2 st.nx (by simp; omega)]; simp [n1, hP]
        · rw [hl''.2 st'.nx (by simp)]; simp))
    have hk : p.lo.length - j = (p.lo.length - (j + 1)) + 1 := by omega
    rw [hk, leastR, termR] at he
    -- thrown
    have thrown : ∀ st2, Low st st2 → (none : Option Rat) = least p y c → GivesQ (least p y c) st (.panic bigV st2) := fun st2 h2 h3 => ⟨st2, h2, by rw [← h3]; rfl⟩
    have low1 : ∀ (x : Option Blk), Low st ⟨upd st'.H st'.nx x, st'.nx + 1, st'.dead⟩ := fun x => ⟨by have := hlow.1; simp; omega, fun i hi => by
      have m1 : ¬ i = st'.nx := by omega
      simp [m1, hlow.2 i hi]⟩
    have low2 : ∀ (x y : Option Blk), Low st ⟨upd (upd st'.H st'.nx x) (st'.nx + 1) y, st'.nx + 1 + 1, st'.dead⟩ := fun x y => ⟨by have := hlow.1; simp; omega, fun i hi => by
      have m1 : ¬ i = st'.nx := by omega
      have m2 : ¬ i = st'.nx + 1 := by omega
      simp [m1, m2, hlow.2 i hi]⟩
    cases hd : dotR (fun i => at2 p.a i j) y 0 0 with
    | none =>
      rw [hd] at hdot he
      simp [L_plex_least_1, hlt', hdot]
      exact thrown _ (low1 _) he
    | some d =>
      rw [hd] at hdot he
      simp only [Option.bind_some, outQ_some] at hdot he
      have hdf := dotR_fit _ _ _ _ _ fit64_zero hd
      -- behind the cost
      have rest : ∀ (d' : Rat), fit64 d' → ((((ck (d' * ((if d' < 0 then p.hi.getD j 0 else p.lo.getD j 0 : Int) : Rat))).bind fun q => ck (s + q)).bind (fun s' => leastR p y c (p.lo.length - (j + 1)) (j + 1) s')).bind (fun s => (dotR (fun i => p.b.getD i 0) y 0 0).bind fun t => ck (s - t))) = least p y c →
          GivesQ (least p y c) st ((J_plex_least_2 self [ratsV y, cV c, .ptr st.nx 1 0 0, .ptr (st.nx + 1) 1 0 0, .ptr (st.nx + 1 + 1) 1 0 0, .ptr st'.nx 1 0 0, .ptr (st'.nx + 1) 1 0 0, I p.lo.length, I j]).run ⟨upd (upd st'.H st'.nx (some ⟨1, [I (j : Int)]⟩)) (st'.nx + 1) (some ⟨4, [QV d']⟩), st'.nx + 1 + 1, st'.dead⟩) := by
        intro d' hd' he
        have d1 := idx_ints ⟨upd (upd st'.H st'.nx (some ⟨1, [I (j : Int)]⟩)) (st'.nx + 1) (some ⟨4, [QV d']⟩), st'.nx + 1 + 1, st'.dead⟩ p.lo j hlt
        have d2 := idx_ints ⟨upd (upd st'.H st'.nx (some ⟨1, [I (j : Int)]⟩)) (st'.nx + 1) (some ⟨4, [QV d']⟩), st'.nx + 1 + 1, st'.dead⟩ p.hi j (by rw [hp.hi]; exact hlt)
        have e1 : p.lo[j] = p.lo.getD j 0 := by simp [hlt]
        have e2 : p.hi[j]'(by rw [hp.hi]; exact hlt) = p.hi.getD j 0 := by simp [show j < p.hi.length by rw [hp.hi]; exact hlt]
        rw [e1] at d1
        rw [e2] at d2
        have hsg := plex_sign_ok d'
        have b1 := within_getD hp.wlo (by omega) j
        have b2 := within_getD hp.whi (by omega) j
        generalize p.lo.getD j 0 = lo at *
        generalize p.hi.getD j 0 = hi at *
        -- the end that is taken
        have key : ∀ e : Int, -1048576 ≤ e → e ≤ 1048576 → ((((ck (d' * (e : Rat))).bind fun q => ck (s + q)).bind (fun s' => leastR p y c (p.lo.length - (j + 1)) (j + 1) s')).bind (fun s => (dotR (fun i => p.b.getD i 0) y 0 0).bind fun t => ck (s - t))) = least p y c →
            GivesQ (least p y c) st ((J_plex_least_1 self [ratsV y, cV c, .ptr st.nx 1 0 0, .ptr (st.nx + 1) 1 0 0, .ptr (st.nx + 1 + 1) 1 0 0, .ptr (st'.nx + 1) 1 0 0, I e, I p.lo.length, I j]).run ⟨upd (upd st'.H st'.nx (some ⟨1, [I (j : Int)]⟩)) (st'.nx + 1) (some ⟨4, [QV d']⟩), st'.nx + 1 + 1, st'.dead⟩) := by
          intro e he1 he2 hee
          have hof := ratio_Of_ok e (by omega) (by omega)
          have hmul := plex_mul_ok hd' (fit64_int e (by omega) (by omega))
          cases hq : ck (d' * (e : Rat)) with
          | none =>
            rw [hq] at hmul hee
            simp [J_plex_least_1, n1, n2, n2', n3, n4, n5, n6, n7, n8, n9, n10, hS, QV_def, hof, hmul]
            exact thrown _ (low2 _ _) hee
          | some q =>
            rw [hq] at hmul hee
            have hqf := (ck_some hq).2
            have hqe := (ck_some hq).1
            subst hqe
            have hadd := plex_add_ok hs hqf
            simp only [Option.bind_some] at hee
            cases hs2 : ck (s + d' * (e : Rat)) with
            | none =>
              rw [hs2] at hadd hee
              simp [J_plex_least_1, n1, n2, n2', n3, n4, n5, n6, n7, n8, n9, n10, hS, QV_def, hof, hmul, hadd]
              exact thrown _ (low2 _ _) hee
            | some s2 =>
              rw [hs2] at hadd hee
              have hsf := (ck_some hs2).2
              have hse := (ck_some hs2).1
              subst hse
              simp only [Option.bind_some] at hee
              simp [J_plex_least_1, n1, n2, n2', n3, n4, n5, n6, n7, n8, n9, n10, hS, QV_def, hof, hmul, hadd, hw]
              refine ih (j + 1, s + d' * (e : Rat)) (p.lo.length - (j + 1)) _ _ (by omega) ⟨j + 1, _, z, rfl, by simp, rfl, by omega, hsf, ⟨by have := hlow.1; simp; omega, fun i hi => ?_⟩, by simp; omega, ?_, ?_, hz, by simp, hee⟩
              · have m1 : ¬ i = st'.nx := by omega
                have m2 : ¬ i = st'.nx + 1 := by omega
                have m3 : ¬ i = st.nx + 1 + 1 := by omega
                simp [m1, m2, m3, hlow.2 i hi]
              · simp [n1, n2, n2', n3, n4, n5, n6, n7, n8, n9, n10, hP]
              · simp [n1, n2, n2', n3, n4, n5, n6, n7, n8, n9, n10, hR]
        by_cases hneg : d' < 0
        · have hsn : sgnQ d' = -1 := by simp [sgnQ, hneg]
          rw [hsn] at hsg
          simp only [hneg, if_true] at he
          simp [J_plex_least_2, n1, n2, n2', n3, n4, n5, n6, n7, n8, n9, n10, hP, d1, d2, QV_def, hsg]
          exact key hi b2.1 b2.2 he
        · have hsn : ¬ sgnQ d' < 0 := by unfold sgnQ; rw [if_neg hneg]; split <;> omega
          simp only [hneg, if_false] at he
          simp [J_plex_least_2, n1, n2, n2', n3, n4, n5, n6, n7, n8, n9, n10, hP, d1, d2, QV_def, hsg, hsn]
          exact key lo b1.1 b1.2 he
      cases c with
      | none =>
        simp only [Option.bind_some] at he
        simp [L_plex_least_1, hlt', hdot, cV, ne_nil_nil, QV_def]
        exact rest d hdf he
      | some cs =>
        obtain ⟨hcl, hcw⟩ := hc cs rfl
        have hne : binM .neq ty_sl_int64 (intsV cs) .nilS = fun st => .ok (.bool true) st := by
          funext st
          exact ne_nil st _ (by intro h; have : cs.length = 0 := by simpa using h
                                omega)
        have d3 := idx_ints ⟨upd (upd st'.H st'.nx (some ⟨1, [I (j : Int)]⟩)) (st'.nx + 1) (some ⟨4, [QV d]⟩), st'.nx + 1 + 1, st'.dead⟩ cs j (by omega)
        have e3 : cs[j]'(by omega) = cs.getD j 0 := by simp [show j < cs.length by omega]
        rw [e3] at d3
        have b3 := within_getD hcw (by omega) j
        have hof := ratio_Of_ok (cs.getD j 0) (by omega) (by omega)
        have hadd := plex_add_ok hdf (fit64_int (cs.getD j 0) (by omega) (by omega))
        dsimp only at he
        generalize cs.getD j 0 = cj at *
        cases hq : ck (d + (cj : Rat)) with
        | none =>
          simp only [hq] at hadd he
          simp [L_plex_least_1, hlt', hdot, cV, hne, QV_def, n6, d3, hof, hadd]
          exact thrown _ (low2 _ _) he
        | some d' =>
          simp only [hq] at hadd he
          simp only [Option.bind_some] at he
          have hqf := (ck_some hq).2
          have hqe := (ck_some hq).1
          rw [← hqe] at hqf
          have := rest d' hqf he
          simp [L_plex_least_1, hlt', hdot, cV, hne, QV_def, n6, d3, hof, hadd]
          exact this
  · have hj' : j = p.lo.length := by omega
    subst hj'
    have hlt' : ¬ (p.lo.length : Int) < (p.lo.length : Int) := by omega
    rw [Nat.sub_self, leastR, Option.bind_some] at he
    have hdot := gives_calm (dot_ok st' y hy (by omega) (.func fid_plex_least_c2 [] [.ptr st.nx 1 0 0]) (fun i => p.b.getD i 0)
      (fun i hi => by have := within_getD hp.wb (by omega) i; omega) (fun st'' hl'' i hi => by
        rw [dynC_at, D_plex_dot_plex_least_c2]
        exact calm_ok' (callR_of (c2_run st'' p st.nx i (by rw [hl''.2 st.nx (by omega)]; exact hP) (by rw [← hp.b]; omega)) (Low.refl _) rfl)))
    cases hd : dotR (fun i => p.b.getD i 0) y 0 0 with
    | none =>
      rw [hd] at hdot he
      simp [L_plex_least_1, hS, QV_def, hdot]
      exact ⟨_, hlow, by rw [← he]; rfl⟩
    | some t =>
      rw [hd] at hdot he
      simp only [Option.bind_some, outQ_some] at hdot he
      have htf := dotR_fit _ _ _ _ _ fit64_zero hd
      have hsub := plex_sub_ok hs htf
      have hsp : setPart (.agg z) 0 (QV (s - t)) = some (QV (s - t)) := by simp [hz, QV, Qz, List.drop_eq_nil_of_le]
      cases hq : ck (s - t) with
      | none =>
        rw [hq] at hsub he
        simp [L_plex_least_1, hS, QV_def, hdot, hsub]
        exact ⟨_, hlow, by rw [← he]; rfl⟩
      | some r =>
        rw [hq] at hsub he
        have hqe := (ck_some hq).1
        subst hqe
        simp [L_plex_least_1, hS, QV_def, hdot, hsub, hR, hsp]
        refine ⟨⟨upd st'.H (st.nx + 1) (some ⟨4, [QV (s - t)]⟩), st'.nx, st'.dead⟩, ⟨by have := hlow.1; simp; omega, fun i hi => ?_⟩, by rw [← he]; rfl⟩
        have m1 : ¬ i = st.nx + 1 := by omega
        simp [m1, hlow.2 i hi]

end Go.Abs
end
/-
  LINEAR PROGRAMS: which may be, numbers for the rows, the bound.
-/
section
set_option linter.unusedSimpArgs false
set_option linter.unusedVariables false
namespace Go.Abs
open Go

theorem within_run (l : List Int) (m : Int) (hm : 0 ≤ m) (hm2 : m ≤ 9223372036854775807) (hl : l.length < 2 ^ 62) : F_plex_within [intsV l, I m] = .ret (.bool (decide (within m l))) := by
  refine runP_rets (v := .bool (decide (within m l))) ?_ (fun H => by simp)
  simp [B_plex_within]
  refine loop_ind (α := Nat) _ (fun i k v st' => v = [I m, intsV l, I l.length, I i] ∧ k = l.length - i ∧ i ≤ l.length ∧ (within m (l.drop i) ↔ within m l)) (fun r => Rets (.bool (decide (within m l))) r) ?_ fuel 0 l.length _ _ ⟨by simp, by omega, by omega, by simp⟩ (by unfold fuel; omega)
  rintro i k v st' ⟨rfl, rfl, hi, he⟩ self ih
  by_cases hlt : i < l.length
  · have hlt' : (i : Int) < (l.length : Int) := by omega
    have d1 := idx_ints st' l i hlt
    have hw : IntKind.i64.wrap ((i : Int) + 1) = ((i + 1 : Nat) : Int) := by rw [wrap64] <;> omega
    have hw2 : IntKind.i64.wrap (0 - m) = -m := by rw [wrap64] <;> omega
    simp only [Int.zero_sub] at hw2
    rw [List.drop_eq_getElem_cons hlt] at he
    have hcons : within m (l[i] :: l.drop (i + 1)) ↔ (-m ≤ l[i] ∧ l[i] ≤ m) ∧ within m (l.drop (i + 1)) := by unfold within; exact List.forall_mem_cons
    rw [hcons] at he
    generalize l[i] = x at *
    by_cases c1 : x < -m
    · have : ¬ within m l := fun h => by have := (he.2 h).1; omega
      simp [L_plex_within_1, hlt', d1, hw2, c1, this]
    · by_cases c2 : m < x
      · have : ¬ within m l := fun h => by have := (he.2 h).1; omega
        simp [L_plex_within_1, hlt', d1, hw2, c1, c2, this]
      · simp [L_plex_within_1, hlt', d1, hw2, c1, c2, hw]
        refine ih (i + 1) (l.length - (i + 1)) _ st' (by omega) ⟨by simp, rfl, by omega, ?_⟩
        rw [← he]
        exact ⟨fun h => ⟨⟨by omega, by omega⟩, h⟩, fun h => h.2⟩
  · have : i = l.length := by omega
    subst this
    have : within m l := he.1 (by simp [within])
    simp [L_plex_within_1, this]

/-- May it be a linear program? -/
def LP.okB (p : LP) : Bool :=
  decide (p.lo.length ≤ 64) && decide (p.hi.length = p.lo.length) && decide (p.c.length = p.lo.length) && decide (p.a.length = p.b.length) && decide (p.a.length ≤ 160) &&
  decide (within 1048576 p.lo) && decide (within 1048576 p.hi) && decide (within 1048576 p.c) && decide (within 1099511627776 p.b) &&
  decide (∀ j, j < p.lo.length → p.lo.getD j 0 ≤ p.hi.getD j 0) && decide (∀ r ∈ p.a, r.length = p.lo.length ∧ within 1048576 r)
theorem LP.ok_of {p : LP} (h : p.okB = true) : p.ok := by
  simp only [LP.okB, Bool.and_eq_true, decide_eq_true_eq] at h
  obtain ⟨⟨⟨⟨⟨⟨⟨⟨⟨⟨h1, h2⟩, h3⟩, h4⟩, h5⟩, h6⟩, h7⟩, h8⟩, h9⟩, h10⟩, h11⟩ := h
  exact ⟨h1, h2, h3, h4, h5, h6, h7, h8, h9, h10, h11⟩
theorem LP.okB_of {p : LP} (h : p.ok) : p.okB = true := by
  simp only [LP.okB, Bool.and_eq_true, decide_eq_true_eq]
  exact ⟨⟨⟨⟨⟨⟨⟨⟨⟨⟨h.n, h.hi⟩, h.c⟩, h.b⟩, h.m⟩, h.wlo⟩, h.whi⟩, h.wc⟩, h.wb⟩, h.ends⟩, h.rows⟩

/-- The rows, one after the other. -/
theorem rows_run (p : LP) (P : List Int → Prop) [DecidablePred P] (hP : ∀ r, P r ↔ r.length = p.lo.length ∧ within 1048576 r) (hl : p.a.length < 2 ^ 62) (hn : p.lo.length ≤ 64) (hr : ∀ r ∈ p.a, r.length < 2 ^ 62) (st : St) :
    Rets (.bool (decide (∀ r ∈ p.a, P r))) (iter fuel (fun self v => (L_plex_Right_1 self v).run) [I p.lo.length, rowsV p.a, I p.a.length, I 0] st) := by
  refine loop_ind (α := Nat) _ (fun i k v st' => v = [I p.lo.length, rowsV p.a, I p.a.length, I i] ∧ k = p.a.length - i ∧ i ≤ p.a.length ∧ ((∀ r ∈ p.a.drop i, P r) ↔ ∀ r ∈ p.a, P r)) (fun r => Rets (.bool (decide (∀ r ∈ p.a, P r))) r) ?_ fuel 0 p.a.length _ _ ⟨by simp, by omega, by omega, by simp⟩ (by unfold fuel; omega)
  rintro i k v st' ⟨rfl, rfl, hi, he⟩ self ih
  by_cases hlt : i < p.a.length
  · have hlt' : (i : Int) < (p.a.length : Int) := by omega
    have d1 := idx_rows st' p.a i hlt
    have hw : IntKind.i64.wrap ((i : Int) + 1) = ((i + 1 : Nat) : Int) := by rw [wrap64] <;> omega
    rw [List.drop_eq_getElem_cons hlt, List.forall_mem_cons] at he
    have hrl := hr p.a[i] (List.getElem_mem _)
    generalize p.a[i] = r at *
    by_cases c1 : r.length = p.lo.length
    · have c1' : ((r.length : Int) = (p.lo.length : Int)) := by omega
      have hwi := within_run r 1048576 (by omega) (by omega) hrl
      by_cases c2 : within 1048576 r
      · have hPr : P r := (hP r).2 ⟨c1, c2⟩
        simp [L_plex_Right_1, hlt', d1, c1', hwi, c2, hw]
        refine ih (i + 1) (p.a.length - (i + 1)) _ st' (by omega) ⟨by simp, rfl, by omega, ?_⟩
        rw [← he]
        exact ⟨fun h => ⟨hPr, h⟩, fun h => h.2⟩
      · have : ¬ ∀ r ∈ p.a, P r := fun h => c2 ((hP r).1 (he.2 h).1).2
        simp [L_plex_Right_1, hlt', d1, c1', hwi, c2, this]
    · have c1' : ¬ ((r.length : Int) = (p.lo.length : Int)) := by omega
      have : ¬ ∀ r ∈ p.a, P r := fun h => c1 ((hP r).1 (he.2 h).1).1
      simp [L_plex_Right_1, hlt', d1, c1', this]
  · have : i = p.a.length := by omega
    subst this
    have : ∀ r ∈ p.a, P r := he.1 (by simp)
    rw [decide_eq_true this]
    simp [L_plex_Right_1]

theorem plex_Right_ok (p : LP) (h1 : p.lo.length < 2 ^ 62) (h2 : p.hi.length < 2 ^ 62) (h3 : p.c.length < 2 ^ 62) (h4 : p.b.length < 2 ^ 62) (h5 : p.a.length < 2 ^ 62) (h6 : ∀ r ∈ p.a, r.length < 2 ^ 62) : F_plex_Right [progV p] = .ret (.bool p.okB) := by
  refine runP_rets (v := .bool p.okB) ?_ (fun H => by simp)
  by_cases c1 : p.lo.length ≤ 64
  rotate_left
  · have : (64 : Int) < (p.lo.length : Int) := by omega
    simp [B_plex_Right, LP.okB, c1, this]
  have c1' : ¬ (64 : Int) < (p.lo.length : Int) := by omega
  by_cases c2 : p.hi.length = p.lo.length
  rotate_left
  · have : ¬ (p.hi.length : Int) = (p.lo.length : Int) := by omega
    simp [B_plex_Right, LP.okB, c1', c2, this]
  have c2' : (p.hi.length : Int) = (p.lo.length : Int) := by omega
  by_cases c3 : p.c.length = p.lo.length
  rotate_left
  · have : ¬ (p.c.length : Int) = (p.lo.length : Int) := by omega
    simp [B_plex_Right, LP.okB, c1', c2', c3, this]
  have c3' : (p.c.length : Int) = (p.lo.length : Int) := by omega
  by_cases c4 : p.a.length = p.b.length
  rotate_left
  · have : ¬ (p.a.length : Int) = (p.b.length : Int) := by omega
    simp [B_plex_Right, LP.okB, c1', c2', c3', c4, this]
  have c4' : (p.a.length : Int) = (p.b.length : Int) := by omega
  by_cases c5 : p.a.length ≤ 160
  rotate_left
  · have : (160 : Int) < (p.a.length : Int) := by omega
    have this' : (160 : Int) < (p.b.length : Int) := by omega
    have hb : ¬ p.b.length ≤ 160 := by omega
    simp [B_plex_Right, LP.okB, c1', c2', c3', c4', c5, this, this', hb]
  have c5' : ¬ (160 : Int) < (p.a.length : Int) := by omega
  have c5'' : ¬ (160 : Int) < (p.b.length : Int) := by omega
  have w1 := within_run p.lo 1048576 (by omega) (by omega) h1
  have w2 := within_run p.hi 1048576 (by omega) (by omega) h2
  have w3 := within_run p.c 1048576 (by omega) (by omega) h3
  have w4 := within_run p.b 1099511627776 (by omega) (by omega) h4
  by_cases d1 : within 1048576 p.lo
  rotate_left
  · simp [B_plex_Right, LP.okB, c1', c2', c3', c4', c5', c5'', w1, d1]
  by_cases d2 : within 1048576 p.hi
  rotate_left
  · simp [B_plex_Right, LP.okB, c1', c2', c3', c4', c5', c5'', w1, w2, d1, d2]
  by_cases d3 : within 1048576 p.c
  rotate_left
  · simp [B_plex_Right, LP.okB, c1', c2', c3', c4', c5', c5'', w1, w2, w3, d1, d2, d3]
  by_cases d4 : within 1099511627776 p.b
  rotate_left
  · simp [B_plex_Right, LP.okB, c1', c2', c3', c4', c5', c5'', w1, w2, w3, w4, d1, d2, d3, d4]
  have hB : p.okB = (decide (∀ j, j < p.lo.length → p.lo.getD j 0 ≤ p.hi.getD j 0) && decide (∀ r ∈ p.a, r.length = p.lo.length ∧ within 1048576 r)) := by
    have c5b : p.b.length ≤ 160 := by omega
    simp only [LP.okB, c1, c2, c3, c4, c5b, d1, d2, d3, d4, decide_true, Bool.true_and]
  rw [hB]
  simp [B_plex_Right, c1', c2', c3', c4', c5', c5'', w1, w2, w3, w4, d1, d2, d3, d4]
  refine loop_ind (α := Nat) _ (fun j k v st' => v = [.ptr 0 1 0 0, I p.lo.length, I p.lo.length, I j] ∧ k = p.lo.length - j ∧ j ≤ p.lo.length ∧ st'.H 0 = some ⟨5, [progV p]⟩ ∧ (∀ i, i < j → p.lo.getD i 0 ≤ p.hi.getD i 0))
    (fun r => Rets (.bool (decide (∀ j, j < p.lo.length → p.lo.getD j 0 ≤ p.hi.getD j 0) && decide (∀ r ∈ p.a, r.length = p.lo.length ∧ within 1048576 r))) r) ?_ fuel 0 p.lo.length _ _ ⟨by simp, by omega, by omega, by simp, fun i hi => by omega⟩ (by unfold fuel; omega)
  rintro j k v st' ⟨rfl, rfl, hj, hP, he⟩ self ih
  by_cases hlt : j < p.lo.length
  · have hlt' : (j : Int) < (p.lo.length : Int) := by omega
    have i1 := idx_ints st' p.lo j hlt
    have i2 := idx_ints st' p.hi j (by omega)
    have e1 : p.lo[j] = p.lo.getD j 0 := by simp [hlt]
    have e2 : p.hi[j]'(by omega) = p.hi.getD j 0 := by simp [show j < p.hi.length by omega]
    rw [e1] at i1
    rw [e2] at i2
    have hw : IntKind.i64.wrap ((j : Int) + 1) = ((j + 1 : Nat) : Int) := by rw [wrap64] <;> omega
    by_cases c : p.lo.getD j 0 ≤ p.hi.getD j 0
    · have c' : ¬ p.hi.getD j 0 < p.lo.getD j 0 := by omega
      generalize hx : p.lo.getD j 0 = x at *
      generalize hy : p.hi.getD j 0 = y at *
      simp [L_plex_Right_2, hlt', hP, i1, i2, c', hw]
      refine ih (j + 1) (p.lo.length - (j + 1)) _ st' (by omega) ⟨by simp, rfl, by omega, hP, fun i hi => ?_⟩
      rcases Nat.lt_or_ge i j with h | h
      · exact he i h
      · have : i = j := by omega
        subst this; rw [hx, hy]; exact c
    · have c' : p.hi.getD j 0 < p.lo.getD j 0 := by omega
      have hno : ¬ ∀ j, j < p.lo.length → p.lo.getD j 0 ≤ p.hi.getD j 0 := fun h => c (h j hlt)
      rw [decide_eq_false hno, Bool.false_and]
      generalize p.lo.getD j 0 = x at *
      generalize p.hi.getD j 0 = y at *
      simp [L_plex_Right_2, hlt', hP, i1, i2, c']
  · have hj' : j = p.lo.length := by omega
    subst hj'
    have hlt' : ¬ (p.lo.length : Int) < (p.lo.length : Int) := by omega
    have hr := rows_run p (fun r => r.length = p.lo.length ∧ within 1048576 r) (fun r => Iff.rfl) h5 c1 h6 st'
    rw [decide_eq_true he, Bool.true_and]
    simp only [L_plex_Right_2, run_bnd, g_zero, g_succ, cmp_lss, hlt', decide_false, thn_ok, run_if, Bool.false_eq_true, if_false, addM_ptr, load_ptr, hP, List.length_singleton, if_true, part_none, cells_prog, len_rows, run_loop]
    simpa using hr

/-! ### numbers for the rows -/
/-- A fraction's digits, whether it may be one or not. -/
structure Raw where
  a : Bool
  m : List Nat
  b : Bool
  n : List Nat
def rawV (r : Raw) : PV := .agg [.bool r.a, .lst (digV r.m), .bool r.b, .lst (digV r.n)]
def Raw.dig (r : Raw) : Prop := Dig r.m ∧ Dig r.n
def Raw.right (r : Raw) : Bool := rightQ r.a r.m r.b r.n
@[simp] theorem fits_raw (k : Nat) (r : Raw) : fitsE k (rawV r) = (4 == k) := fits_agg k _
@[simp] theorem known_raw (r : Raw) : (rawV r).known = true := (rfl)
@[simp] theorem noref_raw (r : Raw) : (rawV r).noref = true := (rfl)
@[simp] theorem cells_raw (r : Raw) : (rawV r).cells = [.bool r.a, .lst (digV r.m), .bool r.b, .lst (digV r.n)] := (rfl)
@[simp] theorem snap_raw (H : Nat → Option Blk) (d : Nat) (r : Raw) : snapF H (d + 6) (rawV r) = some (rawV r) := by simp [rawV]
theorem raw_def (r : Raw) : PV.agg [.bool r.a, .lst (digV r.m), .bool r.b, .lst (digV r.n)] = rawV r := rfl
def rawsV (l : List Raw) : PV := .lst (l.map rawV)
@[simp] theorem len_raws (st : St) (l : List Raw) : lenM (rawsV l) st = .ok (I l.length) st := by simp [rawsV]
@[simp] theorem noref_raws (l : List Raw) : (rawsV l).noref = true := (rfl)
@[simp] theorem fits_raws (n : Nat) (l : List Raw) : fitsE n (rawsV l) = (1 == n) := fits_lst n _
@[simp] theorem cells_raws (l : List Raw) : (rawsV l).cells = [rawsV l] := (rfl)
@[simp] theorem snap_raws (H : Nat → Option Blk) (d : Nat) (l : List Raw) : snapF H (d + 1) (rawsV l) = some (rawsV l) := (rfl)
theorem idx_raws (st : St) (l : List Raw) (i : Nat) (h : i < l.length) : idxM 4 (rawsV l) (I i) st = .ok (.cref (rawV l[i]) 0) st := by
  have := idx_lst st 4 (l.map rawV) i (by simpa using h) (by simp)
  simpa [rawsV] using this
theorem raw_right (r : Raw) (h : r.dig) : F_ratio_Right [rawV r] = .ret (.bool r.right) := ratio_Right_raw r.a r.m r.b r.n h.1 h.2
theorem raw_spec {r : Raw} (h : r.dig) (hr : r.right = true) : ∃ q : Rat, fit64 q ∧ rawV r = QV q ∧ r.a = qs q := rightQ_spec h.1 h.2 hr
theorem qs_lt (q : Rat) : qs q = true ↔ q < 0 := by
  unfold qs
  rw [decide_eq_true_eq]
  have : q < 0 ↔ q.num * (0 : Rat).den < (0 : Rat).num * q.den := Rat.lt_iff q 0
  rw [this]; simp
/-- Is it a number for a row? -/
def Raw.num (r : Raw) : Bool := r.right && !r.a

theorem plex_numbers_ok (p : LP) (ys : List Raw) (hd : ∀ r ∈ ys, r.dig) (hl : ys.length < 2 ^ 62) (h5 : p.a.length < 2 ^ 62) : F_plex_numbers [progV p, rawsV ys] = .ret (.bool (decide (ys.length = p.a.length) && ys.all Raw.num)) := by
  refine runP_rets (v := .bool (decide (ys.length = p.a.length) && ys.all Raw.num)) ?_ (fun H => by simp)
  by_cases c : ys.length = p.a.length
  rotate_left
  · have : ¬ (ys.length : Int) = (p.a.length : Int) := by omega
    simp [B_plex_numbers, c, this]
  have c' : (ys.length : Int) = (p.a.length : Int) := by omega
  rw [decide_eq_true c, Bool.true_and]
  simp [B_plex_numbers, c']
  rw [← c']
  refine loop_ind (α := Nat) _ (fun i k v st' => v = [rawsV ys, I ys.length, I i] ∧ k = ys.length - i ∧ i ≤ ys.length ∧ (ys.drop i).all Raw.num = ys.all Raw.num) (fun r => Rets (.bool (ys.all Raw.num)) r) ?_ fuel 0 ys.length _ _ ⟨by simp, by omega, by omega, by simp⟩ (by unfold fuel; omega)
  rintro i k v st' ⟨rfl, rfl, hi, he⟩ self ih
  by_cases hlt : i < ys.length
  · have hlt' : (i : Int) < (ys.length : Int) := by omega
    have d1 := idx_raws st' ys i hlt
    have hdi := hd ys[i] (List.getElem_mem _)
    have hw : IntKind.i64.wrap ((i : Int) + 1) = ((i + 1 : Nat) : Int) := by rw [wrap64] <;> omega
    rw [List.drop_eq_getElem_cons hlt, List.all_cons] at he
    generalize ys[i] = r at *
    have hr := raw_right r hdi
    by_cases c1 : r.right = true
    · obtain ⟨q, hq1, hq2, hq3⟩ := raw_spec hdi c1
      rw [c1] at hr
      have hs := plex_sign_ok q
      rw [← hq2] at hs
      by_cases c2 : r.a = true
      · have hlt : q < 0 := (qs_lt q).1 (by rw [← hq3]; exact c2)
        have hsg : sgnQ q = -1 := by simp [sgnQ, hlt]
        rw [hsg] at hs
        have hv : r.num = false := by unfold Raw.num; rw [c2]; simp
        rw [hv, Bool.false_and] at he
        rw [← he]
        simp [L_plex_numbers_1, hlt', d1, raw_def, hr, hs]
      · have hlt : ¬ q < 0 := fun h => c2 (by rw [hq3]; exact (qs_lt q).2 h)
        have hsg : ¬ sgnQ q < 0 := by unfold sgnQ; rw [if_neg hlt]; split <;> omega
        have c2' : r.a = false := by simpa using c2
        have hv : r.num = true := by unfold Raw.num; rw [c1, c2']; rfl
        rw [hv, Bool.true_and] at he
        simp [L_plex_numbers_1, hlt', d1, raw_def, hr, hs, hsg, hw]
        exact ih (i + 1) (ys.length - (i + 1)) _ _ (by omega) ⟨rfl, rfl, by omega, he⟩
    · have c1' : r.right = false := by simpa using c1
      rw [c1'] at hr
      have hv : r.num = false := by unfold Raw.num; rw [c1']; rfl
      rw [hv, Bool.false_and] at he
      rw [← he]
      simp [L_plex_numbers_1, hlt', d1, raw_def, hr]
  · have : i = ys.length := by omega
    subst this
    rw [List.drop_length] at he
    rw [← he]
    simp [L_plex_numbers_1]

/-- The fractions of digits that may be some. -/
theorem raws_rats : ∀ (ys : List Raw), (∀ r ∈ ys, r.dig) → ys.all Raw.num = true → ∃ qs : List Rat, (∀ q ∈ qs, fit64 q ∧ 0 ≤ q) ∧ rawsV ys = ratsV qs ∧ qs.length = ys.length
  | [], _, _ => ⟨[], by simp, rfl, rfl⟩
  | r :: ys, hd, h => by
    simp only [List.all_cons, Bool.and_eq_true] at h
    obtain ⟨l, h1, h2, h3⟩ := raws_rats ys (fun r hr => hd r (by simp [hr])) h.2
    have hn := h.1
    unfold Raw.num at hn
    simp only [Bool.and_eq_true, Bool.not_eq_true'] at hn
    obtain ⟨q, k1, k2, k3⟩ := raw_spec (hd r (by simp)) hn.1
    have hq : 0 ≤ q := Rat.not_lt.1 fun hh => by
      have := (qs_lt q).2 hh
      rw [← k3, hn.2] at this; cases this
    refine ⟨q :: l, fun x hx => ?_, ?_, by simp [h3]⟩
    · rcases List.mem_cons.1 hx with rfl | hx
      · exact ⟨k1, hq⟩
      · exact h1 x hx
    · simp only [rawsV, ratsV, PV.lst.injEq] at h2 ⊢
      simp only [List.map_cons, k2, h2]

/-- What Bound answers. -/
def boundV (p : LP) (l : List Rat) : PV := match least p l (some p.c) with | some q => .tup [QV q, I 0] | none => .tup [Q0, I 3]

theorem plex_Bound_bad (p : LP) (ys : List Raw) (hd : ∀ r ∈ ys, r.dig) (hl : ys.length < 2 ^ 62) (h1 : p.lo.length < 2 ^ 62) (h2 : p.hi.length < 2 ^ 62) (h3 : p.c.length < 2 ^ 62) (h4 : p.b.length < 2 ^ 62) (h5 : p.a.length < 2 ^ 62) (h6 : ∀ r ∈ p.a, r.length < 2 ^ 62)
    (h : (p.okB && (decide (ys.length = p.a.length) && ys.all Raw.num)) = false) : F_plex_Bound [progV p, rawsV ys] = .ret (.tup [Q0, I 2]) := by
  have hr := plex_Right_ok p h1 h2 h3 h4 h5 h6
  have hn := plex_numbers_ok p ys hd hl h5
  generalize (decide (ys.length = p.a.length) && ys.all Raw.num) = nb at *
  refine runP_rets (v := .tup [.agg [.bool false, .nilS, .bool false, .nilS], I 2]) ?_ (fun H => by simp [Q0, Qz, N_zero])
  cases hk : p.okB with
  | false =>
    rw [hk] at hr
    simp [B_plex_Bound, prog_def, hr]
  | true =>
    rw [hk] at hr h
    have : nb = false := by simpa using h
    rw [this] at hn
    simp [B_plex_Bound, prog_def, hr, hn]

theorem plex_Bound_ok (p : LP) (hp : p.ok) (l : List Rat) (hl : l.length = p.a.length) (hf : ∀ q ∈ l, fit64 q) (hr : F_plex_Right [progV p] = .ret (.bool true)) (hn : F_plex_numbers [progV p, ratsV l] = .ret (.bool true)) : F_plex_Bound [progV p, ratsV l] = .ret (boundV p l) := by
  -- what is guarded
  have hleast := gives_calm (least_ok ⟨upd (upd (upd (upd (upd St.empty.H 0 (some ⟨5, [progV p]⟩)) 1 (some ⟨1, [ratsV l]⟩)) 2 (some ⟨4, [.agg [.bool false, .nilS, .bool false, .nilS]]⟩)) 3 (some ⟨4, [.agg [.bool false, .nilS, .bool false, .nilS]]⟩)) 4 (some ⟨1, [.bool false]⟩), 5, St.empty.dead⟩ p hp l hf hl (some p.c) (fun cs h => by cases h; exact ⟨hp.c, hp.wc⟩))
  unfold boundV
  cases ho : least p l (some p.c) with
  | none =>
    rw [ho] at hleast
    simp only [cV, outQ_none] at hleast
    have hg : ∃ st', F_plex_guarded [.func fid_plex_Bound_c1 [] [.ptr 0 1 0 0, .ptr 1 1 0 0, .ptr 3 1 0 0]] ⟨upd (upd (upd (upd St.empty.H 0 (some ⟨5, [progV p]⟩)) 1 (some ⟨1, [ratsV l]⟩)) 2 (some ⟨4, [.agg [.bool false, .nilS, .bool false, .nilS]]⟩)) 3 (some ⟨4, [.agg [.bool false, .nilS, .bool false, .nilS]]⟩), 4, St.empty.dead⟩ = .ok (.bool false) st' ∧ st'.H 2 = some ⟨4, [.agg [.bool false, .nilS, .bool false, .nilS]]⟩ := by
      unfold F_plex_guarded guardedF guardedM
      simp only [List.nil_append]
      rw [D_plex_guarded_plex_Bound_c1]
      unfold F_plex_Bound_c1
      simp [B_plex_Bound_c1, prog_def, hleast, bigV]
    obtain ⟨st', hg, h2⟩ := hg
    have hc := calm_ok' (mp := true) hg
    refine runP_rets (v := .tup [.agg [.bool false, .nilS, .bool false, .nilS], I 3]) ?_ (fun H => by simp [Q0, Qz, N_zero])
    simp [B_plex_Bound, prog_def, hr, hn, hc, h2]
  | some q =>
    rw [ho] at hleast
    simp only [cV, outQ_some] at hleast
    have hg : ∃ st', F_plex_guarded [.func fid_plex_Bound_c1 [] [.ptr 0 1 0 0, .ptr 1 1 0 0, .ptr 3 1 0 0]] ⟨upd (upd (upd (upd St.empty.H 0 (some ⟨5, [progV p]⟩)) 1 (some ⟨1, [ratsV l]⟩)) 2 (some ⟨4, [.agg [.bool false, .nilS, .bool false, .nilS]]⟩)) 3 (some ⟨4, [.agg [.bool false, .nilS, .bool false, .nilS]]⟩), 4, St.empty.dead⟩ = .ok (.bool true) st' ∧ st'.H 2 = some ⟨4, [.agg [.bool false, .nilS, .bool false, .nilS]]⟩ ∧ st'.H 3 = some ⟨4, [QV q]⟩ := by
      unfold F_plex_guarded guardedF guardedM
      simp only [List.nil_append]
      rw [D_plex_guarded_plex_Bound_c1]
      unfold F_plex_Bound_c1
      simp [B_plex_Bound_c1, prog_def, hleast, QV_def]
    obtain ⟨st', hg, h2, h3⟩ := hg
    have hc := calm_ok' (mp := true) hg
    refine runP_rets (v := .tup [QV q, I 0]) ?_ (fun H => by simp)
    simp [B_plex_Bound, prog_def, hr, hn, hc, h2, h3, QV_def]

end Go.Abs
end
