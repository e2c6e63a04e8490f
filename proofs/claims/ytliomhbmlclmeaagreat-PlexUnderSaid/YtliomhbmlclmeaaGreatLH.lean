/-
  Joined from: S7 S8 S9.
-/
import Derived.Test.YtliomhbmlclmeaaGreatLG
import Derived.Test.YtliomhbmlclmeaaGreatLE
/-
  THE REFERENCE's LINEAR PROGRAMS: a value with its flag, plus, minus, dot, column.
-/
section
set_option linter.unusedSimpArgs false
set_option linter.unusedVariables false
namespace Go.Abs
open Go

@[simp] theorem boxM_own (st : St) (id n : Nat) (v : PV) : boxM (some id) n v st = if fitsE n v = true then .ok (.ptr id 1 0 0) ⟨upd st.H id (some ⟨n, [v]⟩), st.nx, st.dead⟩ else .fail := by
  by_cases h : fitsE n v = true
  · rw [if_pos h]; simp only [boxM, withId, newAt, List.all_cons, h, List.all_nil, Bool.and_self, if_true]
  · rw [if_neg h]; simp only [boxM, withId, newAt, List.all_cons, List.all_nil, Bool.and_true, h, Bool.false_eq_true, if_false]

/-! ### a value, or none -/
def os : Option Rat → Bool | some q => qs q | none => false
def om : Option Rat → Nat | some q => qm q | none => 0
def od : Option Rat → Nat | some q => q.den | none => 0
def OV (o : Option Rat) : PV := Qz (os o) (om o) false (od o)
theorem OV_some (q : Rat) : OV (some q) = QV q := rfl
theorem OV_none : OV none = Q0 := rfl
def BV (o : Option Rat) : PV := .agg [.bool (os o), N (om o), .bool false, N (od o), .bool o.isNone]
@[simp] theorem fits_BV (k : Nat) (o : Option Rat) : fitsE k (BV o) = (5 == k) := fits_agg k _
@[simp] theorem cells_BV (o : Option Rat) : (BV o).cells = [.bool (os o), N (om o), .bool false, N (od o), .bool o.isNone] := (rfl)
@[simp] theorem known_BV (o : Option Rat) : (BV o).known = true := (rfl)
@[simp] theorem noref_BV (o : Option Rat) : (BV o).noref = true := (rfl)
@[simp] theorem snap_BV (H : Nat → Option Blk) (d : Nat) (o : Option Rat) : snapF H (d + 7) (BV o) = some (BV o) := by simp [BV]
@[simp] theorem snapD_BV (H : Nat → Option Blk) (o : Option Rat) : snapF H depth (BV o) = some (BV o) := by simp [BV]
@[simp] theorem setPart_BV (o r : Option Rat) : setPart (BV o) 0 (BV r) = some (BV r) := (rfl)
@[simp] theorem take_BV (o : Option Rat) (st : St) : takeM none (BV o) st = .ok (BV o) st := (rfl)
theorem BV_def (o : Option Rat) : PV.agg [.bool (os o), N (om o), .bool false, N (od o), .bool o.isNone] = BV o := rfl
theorem OV_def (o : Option Rat) : Qz (os o) (om o) false (od o) = OV o := rfl

def fitO (o : Option Rat) : Prop := ∀ q, o = some q → fit64 q
theorem fitO_none : fitO none := fun q h => by cases h
theorem fitO_some {q : Rat} (h : fit64 q) : fitO (some q) := fun r e => by cases e; exact h
theorem fitO_ck (q : Rat) : fitO (ck q) := fun r e => by rw [(ck_some e).1]; exact (ck_some e).2
theorem fitO_bind {o : Option Rat} {f : Rat → Option Rat} (h : ∀ q, fitO (f q)) : fitO (o.bind f) := fun r e => by
  obtain ⟨q, _, h2⟩ := Option.bind_eq_some_iff.1 e
  exact h q r h2

theorem res_ck (q : Rat) : ∃ e : Int, resQ q = .tup [OV (ck q), I e] ∧ (!decide (e = 0)) = (ck q).isNone := by
  unfold ck resQ
  by_cases h : fit64 q
  · exact ⟨0, by simp [h, OV_some], by simp [h]⟩
  · exact ⟨3, by simp [h, OV_none], by simp [h]⟩

def addO (a b : Option Rat) : Option Rat := a.bind fun a => b.bind fun b => ck (a + b)
def mulO (a : Option Rat) (n : Int) : Option Rat := a.bind fun a => ck (a * (n : Rat))
theorem fitO_add (a b : Option Rat) : fitO (addO a b) := fitO_bind fun q => fitO_bind fun r => fitO_ck _
theorem fitO_mul (a : Option Rat) (n : Int) : fitO (mulO a n) := fitO_bind fun q => fitO_ck _
theorem add_opt {a b : Option Rat} (ha : fitO a) (hb : fitO b) : ∃ e : Int, F_ref04_Add [OV a, OV b] = .ret (.tup [OV (addO a b), I e]) ∧ (a.isNone || b.isNone || !decide (e = 0)) = (addO a b).isNone := by
  cases a with
  | none => exact ⟨2, ref04_Add_Q0l _ _ _ _, rfl⟩
  | some a =>
    cases b with
    | none => exact ⟨2, ref04_Add_Q0r (ha a rfl), rfl⟩
    | some b =>
      obtain ⟨e, h1, h2⟩ := res_ck (a + b)
      have h3 := ref04_Add_ok (ha a rfl) (hb b rfl)
      rw [h1] at h3
      exact ⟨e, h3, by simpa [addO] using h2⟩
theorem mul_opt {a : Option Rat} (ha : fitO a) (n : Int) (h1 : -9223372036854775808 ≤ n) (h2 : n ≤ 9223372036854775807) : ∃ e : Int, F_ref04_Mul [OV a, QV (n : Rat)] = .ret (.tup [OV (mulO a n), I e]) ∧ (!decide (e = 0)) = (mulO a n).isNone := by
  cases a with
  | none => exact ⟨2, ref04_Mul_Q0 _ (by simp) _ _ _ _ rfl, rfl⟩
  | some a =>
    obtain ⟨e, h3, h4⟩ := res_ck (a * (n : Rat))
    have h5 := ref04_Mul_ok (ha a rfl) (fit64_int n h1 h2)
    rw [h3] at h5
    exact ⟨e, h5, by simpa [mulO] using h4⟩

theorem isNone_add {a b : Option Rat} (h : (addO a b).isNone = false) : a.isNone = false ∧ b.isNone = false := by
  cases a <;> cases b <;> simp_all [addO]

theorem ref20_plus_ok {s x : Option Rat} (hs : fitO s) (hx : fitO x) (n : Int) (h1 : -9223372036854775808 ≤ n) (h2 : n ≤ 9223372036854775807) : F_ref20_plus [BV s, OV x, I n] = .ret (BV (addO s (mulO x n))) := by
  have o := ref04_Of_ok n h1 h2
  obtain ⟨e1, m1, m2⟩ := mul_opt hx n h1 h2
  obtain ⟨e2, a1, a2⟩ := add_opt hs (fitO_mul x n)
  have key : (s.isNone || !decide (e1 = 0) || !decide (e2 = 0)) = (addO s (mulO x n)).isNone := by rw [← a2, m2]
  have hq : QV (n : Rat) = Qz (qs (n : Rat)) (qm (n : Rat)) false (n : Rat).den := rfl
  rw [hq] at o m1
  generalize mulO x n = p at *
  generalize hr : addO s p = r at *
  unfold OV at *
  unfold BV
  generalize qs (n : Rat) = ns at *
  generalize qm (n : Rat) = nm at *
  generalize (n : Rat).den = nd at *
  generalize os s = ss at *
  generalize om s = sm at *
  generalize od s = sd at *
  generalize os x = xs at *
  generalize om x = xm at *
  generalize od x = xd at *
  generalize os p = ps at *
  generalize om p = pm at *
  generalize od p = pd at *
  generalize os r = rs at *
  generalize om r = rm at *
  generalize od r = rd at *
  rw [← key]
  generalize s.isNone = sb at *
  refine runP_rets (v := .agg [.bool rs, N rm, .bool false, N rd, .bool (sb || !decide (e1 = 0) || !decide (e2 = 0))]) ?_ (fun H => by simp)
  cases sb
  · by_cases c1 : e1 = 0
    · by_cases c2 : e2 = 0 <;> simp [B_ref20_plus, Qz_def, o, m1, a1, c1, c2]
    · simp [B_ref20_plus, Qz_def, o, m1, a1, c1]
  · simp [B_ref20_plus, Qz_def, o, m1, a1]

theorem ref20_dot_ok (y : List Rat) (n : List Int) (hy : ∀ q ∈ y, fit64 q) (hl : y.length ≤ n.length) (hb : y.length < 2 ^ 50) (hn : within 9223372036854775807 n) : F_ref20_dot [ratsV y, intsV n] = .ret (BV (dotR (fun i => n.getD i 0) y 0 0)) := by
  have o := ref04_Of_ok 0 (by omega) (by omega)
  have hO : QV ((0 : Int) : Rat) = Qz (os (some 0)) (om (some 0)) false (od (some 0)) := rfl
  rw [hO] at o
  have hB : PV.agg [.bool (os (some 0)), N (om (some 0)), .bool false, N (od (some 0)), .bool false] = BV (some 0) := rfl
  generalize hW : dotR (fun i => n.getD i 0) y 0 0 = W
  refine runP_rets (v := BV W) ?_ (fun H => by simp)
  simp [B_ref20_dot, o, hB]
  refine loop_ind (α := Nat × Option Rat) _ (fun a k v st' => ∃ i s, a = (i, s) ∧ v = [ratsV y, intsV n, .ptr 0 1 0 0, .ptr 1 1 0 0, I i] ∧ k = y.length - i ∧ i ≤ y.length ∧ fitO s ∧ st'.H 0 = some ⟨5, [.agg [.bool false, .nilS, .bool false, .nilS, .bool false]]⟩ ∧ st'.H 1 = some ⟨5, [BV s]⟩ ∧
      s.bind (fun s => dotR (fun i => n.getD i 0) (y.drop i) i s) = W) (fun r => Rets (BV W) r) ?_ fuel (0, some 0) y.length _ _
    ⟨0, some 0, rfl, by simp, by omega, by omega, fitO_some fit64_zero, by simp, by simp, hW⟩ (by unfold fuel; omega)
  rintro _ k v st' ⟨i, s, rfl, rfl, rfl, hi, hs, h0, h1, he⟩ self ih
  by_cases hlt : i < y.length
  · have hlt' : (i : Int) < (y.length : Int) := by omega
    have hw : IntKind.i64.wrap ((i : Int) + 1) = (i : Int) + 1 := wrap64 _ (by omega) (by omega)
    have d1 := idx_rats st' y i hlt
    have d2 := idx_ints st' n i (by omega)
    have hg : n.getD i 0 = n[i]'(by omega) := by rw [List.getD_eq_getElem?_getD, List.getElem?_eq_getElem (by omega)]; rfl
    have hni := within_getD hn (by omega) i
    rw [List.drop_eq_getElem_cons hlt] at he
    have hfy : fitO (some y[i]) := fitO_some (hy _ (List.getElem_mem _))
    have hp := ref20_plus_ok hs hfy (n.getD i 0) (by omega) (by omega)
    rw [← hg] at d2
    have hstep : s.bind (fun s => dotR (fun i => n.getD i 0) (y[i] :: y.drop (i + 1)) i s) = (addO s (mulO (some y[i]) (n.getD i 0))).bind fun s => dotR (fun i => n.getD i 0) (y.drop (i + 1)) (i + 1) s := by
      cases s with
      | none => rfl
      | some s =>
        simp only [addO, mulO, Option.bind_some, dotR]
        rw [Option.bind_assoc]
    rw [hstep] at he
    generalize y[i] = yi at *
    generalize n.getD i 0 = ni at *
    have hfs := fitO_add s (mulO (some yi) ni)
    generalize addO s (mulO (some yi) ni) = s2 at *
    have hp' : F_ref20_plus [BV s, Qz (qs yi) (qm yi) false yi.den, I ni] = .ret (BV s2) := hp
    simp [L_ref20_dot_1, hlt', h1, d1, d2, BV_def, Qz_def, hp', hw]
    refine ih (i + 1, s2) (y.length - (i + 1)) _ _ (by omega) ⟨i + 1, s2, rfl, rfl, rfl, by omega, hfs, ?_, ?_, he⟩
    · simp [h0]
    · simp
  · have hi' : i = y.length := by omega
    subst hi'
    rw [List.drop_length] at he
    simp only [dotR] at he
    have he' : s = W := by rw [← he]; cases s <;> rfl
    rw [← he']
    simp [L_ref20_dot_1, h0, h1, BV_def]

end Go.Abs
end
/-
  THE REFERENCE's LINEAR PROGRAMS: minus, column, below, least.
-/
section
set_option linter.unusedSimpArgs false
set_option linter.unusedVariables false
namespace Go.Abs
open Go

def negO (b : Option Rat) : Option Rat := b.map (- ·)
theorem neg_opt {b : Option Rat} (hb : fitO b) : fitO (negO b) ∧ ∃ e : Int, F_ref04_Neg [OV b] = .ret (.tup [OV (negO b), I e]) ∧ (!decide (e = 0)) = b.isNone := by
  cases b with
  | none => exact ⟨fitO_none, 2, ref04_Neg_Q0, rfl⟩
  | some b => exact ⟨fitO_some (fit64_neg (hb b rfl)), 0, ref04_Neg_ok (hb b rfl), rfl⟩
def subO (a b : Option Rat) : Option Rat := a.bind fun a => b.bind fun b => ck (a - b)
theorem subO_eq (a b : Option Rat) : addO a (negO b) = subO a b := by
  cases a <;> cases b <;> simp [addO, negO, subO, Rat.sub_eq_add_neg]

theorem ref20_minus_ok {a b : Option Rat} (ha : fitO a) (hb : fitO b) : F_ref20_minus [BV a, BV b] = .ret (BV (subO a b)) := by
  obtain ⟨hn, e1, m1, m2⟩ := neg_opt hb
  obtain ⟨e2, a1, a2⟩ := add_opt ha hn
  rw [← subO_eq]
  have hnn : (negO b).isNone = b.isNone := by cases b <;> rfl
  have key : (a.isNone || b.isNone || !decide (e1 = 0) || !decide (e2 = 0)) = (addO a (negO b)).isNone := by
    rw [← a2, m2, hnn]
    cases a.isNone <;> cases b.isNone <;> rfl
  generalize negO b = p at *
  generalize hr : addO a p = r at *
  unfold OV at *
  unfold BV
  generalize os a = ss at *
  generalize om a = sm at *
  generalize od a = sd at *
  generalize os b = xs at *
  generalize om b = xm at *
  generalize od b = xd at *
  generalize os p = ps at *
  generalize om p = pm at *
  generalize od p = pd at *
  generalize os r = rs at *
  generalize om r = rm at *
  generalize od r = rd at *
  rw [← key]
  clear key a2 m2 hnn ha hb hn
  generalize a.isNone = sb at *
  generalize b.isNone = xb at *
  refine runP_rets (v := .agg [.bool rs, N rm, .bool false, N rd, .bool (sb || xb || !decide (e1 = 0) || !decide (e2 = 0))]) ?_ (fun H => by simp)
  cases sb
  · cases xb
    · by_cases c1 : e1 = 0
      · by_cases c2 : e2 = 0 <;> simp [B_ref20_minus, Qz_def, m1, a1, c1, c2]
      · simp [B_ref20_minus, Qz_def, m1, a1, c1]
    · simp [B_ref20_minus, Qz_def, m1, a1]
  · simp [B_ref20_minus, Qz_def, m1, a1]

theorem ref20_below_ok (a : Bool) (m n : PV) (b : PV) : F_ref20_below [.agg [.bool a, m, b, n]] = .ret (.bool a) := by
  refine runP_rets (v := .bool a) ?_ (fun H => by simp)
  simp [B_ref20_below]

theorem ref20_column_ok (p : LP) (hp : p.ok) (j : Nat) (hj : j < p.lo.length) : F_ref20_column [progV p, I j] = .ret (intsV (p.a.map fun r => r.getD j 0)) := by
  refine runP_of ?_
  have key : ∃ v st, (B_ref20_column [progV p, I j]).run St.empty = .ok v st ∧ Buf 1 st v ((p.a.map fun r => r.getD j 0).map fun n => I n) := by
    generalize hL : ((p.a.map fun r => r.getD j 0).map fun n => I n) = L
    simp [B_ref20_column]
    have hm := hp.m
    refine loop_ind (α := Nat) _ (fun i k w st' => ∃ v, w = [I j, .ptr 0 1 0 0, v, I i] ∧ k = p.a.length - i ∧ i ≤ p.a.length ∧ st'.H 0 = some ⟨5, [progV p]⟩ ∧ 1 ≤ st'.nx ∧ (∀ n, v ≠ .sl 0 n 0 n) ∧ Buf 1 st' v (((p.a.take i).map fun r => r.getD j 0).map fun n => I n))
      (fun r => ∃ v st', r = .ok v st' ∧ Buf 1 st' v L) ?step fuel 0 p.a.length _ _ ?start (by unfold fuel; omega)
    case start => exact ⟨.nilS, rfl, by omega, by omega, by simp, by simp, by simp, by simpa using Buf.nil 1 _⟩
    rintro i k w st' ⟨v, rfl, rfl, hi, h0, hnx, hv0, hb⟩ self ih
    by_cases hlt : i < p.a.length
    · have hlt' : (i : Int) < (p.a.length : Int) := by omega
      have hw : IntKind.i64.wrap ((i : Int) + 1) = ((i + 1 : Nat) : Int) := by rw [wrap64] <;> omega
      have d1 := idx_rows st' p.a i hlt
      have hrow := hp.rows p.a[i] (List.getElem_mem _)
      have d2 := idx_ints st' p.a[i] j (by omega)
      have hg : p.a[i].getD j 0 = p.a[i][j]'(by omega) := by rw [List.getD_eq_getElem?_getD, List.getElem?_eq_getElem (by omega)]; rfl
      have t1 : p.a.take (i + 1) = p.a.take i ++ [p.a[i]] := by rw [List.take_add_one, List.getElem?_eq_getElem hlt]; rfl
      rw [← hg] at d2
      have hlen : (((p.a.take i).map fun r => r.getD j 0).map fun n => I n).length = i := by simp; omega
      obtain ⟨st2, v2, e1, e2, e3, e4, e5, e6⟩ := hb.push (bytes := 8) (ag := false) (z := .int .i64 0) (x := I (p.a[i].getD j 0)) rfl rfl (by omega) (by omega) (by simp [mostBytes]) (by rw [hlen]; simp [mostLen]; omega)
        (fun t15 => .bnd (binM .add ty_int (I i) (I 1)) fun t16 => .leaf (self [I j, .ptr 0 1 0 0, t15, t16]))
      simp only [run_bnd] at e1
      simp only [L_ref20_column_1, run_bnd, g_zero, g_succ, addM_ptr, load_ptr, h0, List.length_cons, List.length_nil, Nat.zero_add, if_true, List.getElem?_cons_zero, part_none, cells_prog, List.getElem?_cons_succ, opt_some, thn_ok, len_rows, cmp_lss, hlt', decide_true, run_if, d1, load_cref', cells_ints, d2, cells_int]
      rw [e1]
      simp only [op_add, hw, thn_ok, run_leaf]
      refine ih (i + 1) (p.a.length - (i + 1)) _ st2 (by omega) ⟨v2, rfl, rfl, by omega, ?_, by omega, ?_, ?_⟩
      · rw [e4 0 (by omega) (hv0 _)]; exact h0
      · intro n hn
        have := e6 0 n hn (hv0 _)
        omega
      · rw [t1, List.map_append, List.map_append]; exact e2
    · have hi' : i = p.a.length := by omega
      subst hi'
      have hlt' : ¬ (p.a.length : Int) < (p.a.length : Int) := by omega
      rw [List.take_length, hL] at hb
      simp only [L_ref20_column_1, run_bnd, g_zero, g_succ, addM_ptr, load_ptr, h0, List.length_cons, List.length_nil, Nat.zero_add, if_true, List.getElem?_cons_zero, part_none, cells_prog, List.getElem?_cons_succ, opt_some, thn_ok, len_rows, cmp_lss, hlt', decide_false, Bool.false_eq_true, if_false, run_if, run_leaf, ret_at]
      exact ⟨v, st', rfl, hb⟩
  obtain ⟨v, st, h1, h2⟩ := key
  refine ⟨v, st, h1, ?_⟩
  refine h2.snap (d := 999999) (snapL_self _ _ ?_ ?_)
  · have := hp.m
    simp; omega
  · intro x hx e he
    obtain ⟨n, _, rfl⟩ := List.mem_map.1 hx
    obtain ⟨d, rfl⟩ : ∃ d, e = d + 1 := ⟨e - 1, by omega⟩
    rfl

end Go.Abs
end
/-
  THE REFERENCE's LINEAR PROGRAMS: least.
-/
section
set_option linter.unusedSimpArgs false
set_option linter.unusedVariables false
namespace Go.Abs
open Go

@[simp] theorem take_ints (l : List Int) (st : St) : takeM none (intsV l) st = .ok (intsV l) st := (rfl)
@[simp] theorem take_rats (l : List Rat) (st : St) : takeM none (ratsV l) st = .ok (ratsV l) st := (rfl)
@[simp] theorem setPart_BV4 (o : Option Rat) (b : Bool) : setPart (BV o) 4 (.bool b) = some (.agg [.bool (os o), N (om o), .bool false, N (od o), .bool b]) := (rfl)

theorem os_lt (o : Option Rat) (d : Rat) (h : o = some d) : os o = decide (d < 0) := by
  subst h
  show qs d = _
  have := qs_lt d
  cases hq : qs d
  · have : ¬ d < 0 := fun h => by rw [this.2 h] at hq; cases hq
    simp [this]
  · have : d < 0 := this.1 hq
    simp [this]

/-- Which end is taken. -/
def endO (p : LP) (D : Option Rat) (j : Nat) : Int := if os D = true then p.hi.getD j 0 else p.lo.getD j 0

theorem dotR_col (p : LP) (y : List Rat) (j : Nat) : dotR (fun i => (p.a.map fun r => r.getD j 0).getD i 0) y 0 0 = dotR (fun i => at2 p.a i j) y 0 0 := by
  congr 1
  funext i
  unfold at2
  simp only [List.getD_eq_getElem?_getD, List.getElem?_map]
  cases p.a[i]? <;> simp

theorem fitO_dot (n : Nat → Int) (y : List Rat) : fitO (dotR n y 0 0) := fun q h => dotR_fit _ _ _ _ _ fit64_zero h

theorem termR_eq (p : LP) (y : List Rat) (c : Option (List Int)) (j : Nat) (s : Option Rat) (D D' : Option Rat) (hD : D = dotR (fun i => at2 p.a i j) y 0 0)
    (hD' : D' = match c with | some c => addO D (some (c.getD j 0 : Rat)) | none => D) : addO s (mulO D' (endO p D' j)) = s.bind fun s => termR p y c j s := by
  subst hD
  unfold termR
  cases hd : dotR (fun i => at2 p.a i j) y 0 0 with
  | none =>
    have : D' = none := by rw [hD', hd]; cases c <;> rfl
    rw [this]
    cases s <;> rfl
  | some d =>
    have fin : ∀ X : Option Rat, D' = X → addO s (mulO D' (endO p D' j)) = s.bind fun s => X.bind fun d' => (ck (d' * ((if d' < 0 then p.hi.getD j 0 else p.lo.getD j 0 : Int) : Rat))).bind fun q => ck (s + q) := by
      intro X hX
      subst hX
      cases D' with
      | none => cases s <;> rfl
      | some d' =>
        have := os_lt (some d') d' rfl
        unfold endO
        rw [this]
        cases s with
        | none => rfl
        | some s => simp [addO, mulO]
    simp only [Option.bind_some]
    cases c with
    | none => exact fin (some d) (by rw [hD', hd])
    | some c => exact fin (ck (d + (c.getD j 0 : Rat))) (by rw [hD', hd]; rfl)

theorem ref20_least_ok (p : LP) (hp : p.ok) (y : List Rat) (hy : ∀ q ∈ y, fit64 q) (hl : y.length = p.a.length) (wc : Bool) :
    F_ref20_least [progV p, ratsV y, .bool wc] = .ret (BV (leastR p y (if wc = true then some p.c else none) p.lo.length 0 0)) := by
  have o := ref04_Of_ok 0 (by omega) (by omega)
  have hO : QV ((0 : Int) : Rat) = Qz (os (some 0)) (om (some 0)) false (od (some 0)) := rfl
  rw [hO] at o
  have hB : PV.agg [.bool (os (some 0)), N (om (some 0)), .bool false, N (od (some 0)), .bool false] = BV (some 0) := rfl
  generalize hc : (if wc = true then some p.c else none) = c
  generalize hW : leastR p y c p.lo.length 0 0 = W
  have hpm := hp.m
  have hpn := hp.n
  refine runP_rets (v := BV W) ?_ (fun H => by simp)
  simp [B_ref20_least, o, hB]
  refine loop_ind (α := Nat × Option Rat) _ (fun a k v st' => ∃ j s, a = (j, s) ∧ v = [ratsV y, .bool wc, .ptr 0 1 0 0, .ptr 1 1 0 0, .ptr 2 1 0 0, I j] ∧ k = p.lo.length - j ∧ j ≤ p.lo.length ∧ fitO s ∧ 3 ≤ st'.nx ∧ st'.H 0 = some ⟨5, [progV p]⟩ ∧ st'.H 1 = some ⟨5, [.agg [.bool false, .nilS, .bool false, .nilS, .bool false]]⟩ ∧ st'.H 2 = some ⟨5, [BV s]⟩ ∧
      s.bind (fun s => leastR p y c (p.lo.length - j) j s) = W) (fun r => Rets (BV W) r) ?step fuel (0, some 0) p.lo.length _ _ ?start (by unfold fuel; omega)
  case start => exact ⟨0, some 0, rfl, by simp, by omega, by omega, fitO_some fit64_zero, by simp, by simp, by simp, by simp, by simpa using hW⟩
  rintro _ k v st' ⟨j, s, rfl, rfl, rfl, hj, hs, hnx, h0, h1, h2, he⟩ self ih
  by_cases hlt : j < p.lo.length
  · have hlt' : (j : Int) < (p.lo.length : Int) := by omega
    have hw : IntKind.i64.wrap ((j : Int) + 1) = (j : Int) + 1 := wrap64 _ (by omega) (by omega)
    have hcol := ref20_column_ok p hp j hlt
    have hdot := ref20_dot_ok y (p.a.map fun r => r.getD j 0) hy (by simp; omega) (by omega) (by
      intro n hn
      obtain ⟨r, hr, rfl⟩ := List.mem_map.1 hn
      have := within_getD (hp.rows r hr).2 (by omega) j
      omega)
    rw [dotR_col] at hdot
    generalize (p.a.map fun r => r.getD j 0) = col at hcol hdot
    have hDf := fitO_dot (fun i => at2 p.a i j) y
    have b1 := within_getD hp.wlo (by omega) j
    have b2 := within_getD hp.whi (by omega) j
    have b3 := within_getD hp.wc (by omega) j
    have d1 : ∀ st, idxM 1 (intsV p.lo) (I j) st = .ok (.cref (I (p.lo.getD j 0)) 0) st := fun st => by
      rw [idx_ints st p.lo j hlt]; simp [hlt]
    have d2 : ∀ st, idxM 1 (intsV p.hi) (I j) st = .ok (.cref (I (p.hi.getD j 0)) 0) st := fun st => by
      rw [idx_ints st p.hi j (by rw [hp.hi]; exact hlt)]; simp [show j < p.hi.length by rw [hp.hi]; exact hlt]
    have d3 : ∀ st, idxM 1 (intsV p.c) (I j) st = .ok (.cref (I (p.c.getD j 0)) 0) st := fun st => by
      rw [idx_ints st p.c j (by rw [hp.c]; exact hlt)]; simp [show j < p.c.length by rw [hp.c]; exact hlt]
    have hk : p.lo.length - j = (p.lo.length - (j + 1)) + 1 := by omega
    have hstep : s.bind (fun s => leastR p y c (p.lo.length - j) j s) = (s.bind fun s => termR p y c j s).bind fun s' => leastR p y c (p.lo.length - (j + 1)) (j + 1) s' := by
      rw [hk, Option.bind_assoc]; rfl
    rw [hstep] at he
    -- behind the cost
    have rest : ∀ (D' : Option Rat) (st2 : St) (X : Nat), fitO D' → 3 ≤ X → 3 ≤ st2.nx → st2.H 0 = st'.H 0 → st2.H 1 = st'.H 1 → st2.H 2 = st'.H 2 → st2.H X = some ⟨5, [BV D']⟩ →
        addO s (mulO D' (endO p D' j)) = (s.bind fun s => termR p y c j s) → Rets (BV W) ((J_ref20_least_2 self [ratsV y, .bool wc, .ptr 0 1 0 0, .ptr 1 1 0 0, .ptr 2 1 0 0, I j, .ptr X 1 0 0]).run st2) := by
      intro D' st2 X hf hX hn2 e0 e1 e2 eX ht
      rw [h0] at e0
      rw [h1] at e1
      rw [h2] at e2
      have hbel : F_ref20_below [Qz (os D') (om D') false (od D')] = .ret (.bool (os D')) := ref20_below_ok _ _ _ _
      have hplus := ref20_plus_ok hs hf (endO p D' j) (by unfold endO; split <;> omega) (by unfold endO; split <;> omega)
      have hplus' : F_ref20_plus [BV s, Qz (os D') (om D') false (od D'), I (endO p D' j)] = _ := hplus
      have hfS := fitO_add s (mulO D' (endO p D' j))
      have hnone : D'.isNone = true → (addO s (mulO D' (endO p D' j))).isNone = true := fun h => by
        cases D' with
        | none => cases s <;> rfl
        | some d => cases h
      rw [← ht] at he
      generalize addO s (mulO D' (endO p D' j)) = S' at *
      have x0 : ¬ (0 : Nat) = X := by omega
      have x1 : ¬ (1 : Nat) = X := by omega
      have x2 : ¬ X = 2 := by omega
      have x2' : ¬ 2 = X := by omega
      have hfl : (if S'.isNone = true then true else D'.isNone) = S'.isNone := by
        cases hS : S'.isNone
        · cases hD : D'.isNone
          · rfl
          · rw [hnone hD] at hS; cases hS
        · rfl
      have fin : ∀ st3 : St, 3 ≤ st3.nx → st3.H 0 = some ⟨5, [progV p]⟩ → st3.H 1 = some ⟨5, [.agg [.bool false, .nilS, .bool false, .nilS, .bool false]]⟩ → st3.H 2 = some ⟨5, [BV S']⟩ → Rets (BV W) (self [ratsV y, .bool wc, .ptr 0 1 0 0, .ptr 1 1 0 0, .ptr 2 1 0 0, I ((j : Int) + 1)] st3) := fun st3 k0 k1 k2 k3 =>
        ih (j + 1, S') (p.lo.length - (j + 1)) _ st3 (by omega) ⟨j + 1, S', rfl, rfl, rfl, by omega, hfS, k0, k1, k2, k3, he⟩
      unfold endO at hplus'
      generalize p.lo.getD j 0 = lo at *
      generalize p.hi.getD j 0 = hi at *
      cases hos : os D'
      · rw [hos] at hplus' hbel
        simp only [Bool.false_eq_true, if_false] at hplus'
        cases hS : S'.isNone
        · rw [hS] at hfl
          simp only [Bool.false_eq_true, if_false] at hfl
          simp [J_ref20_least_2, J_ref20_least_1, e0, e1, e2, eX, d1, hbel, hos, Qz_def, BV_def, hplus', x0, x1, x2, x2', hS, hfl, hw]
          refine fin _ (by simpa using hn2) (by simp [x0, e0]) (by simp [x1, e1]) ?_
          simp [BV, hS]
        · simp [J_ref20_least_2, J_ref20_least_1, e0, e1, e2, eX, d1, hbel, hos, Qz_def, BV_def, hplus', x0, x1, x2, x2', hS, hw]
          refine fin _ (by simpa using hn2) (by simp [x0, e0]) (by simp [x1, e1]) ?_
          simp [BV, hS]
      · rw [hos] at hplus' hbel
        simp only [if_true] at hplus'
        cases hS : S'.isNone
        · rw [hS] at hfl
          simp only [Bool.false_eq_true, if_false] at hfl
          simp [J_ref20_least_2, J_ref20_least_1, e0, e1, e2, eX, d1, d2, hbel, hos, Qz_def, BV_def, hplus', x0, x1, x2, x2', hS, hfl, hw]
          refine fin _ (by simpa using hn2) (by simp [x0, e0]) (by simp [x1, e1]) ?_
          simp [BV, hS]
        · simp [J_ref20_least_2, J_ref20_least_1, e0, e1, e2, eX, d1, d2, hbel, hos, Qz_def, BV_def, hplus', x0, x1, x2, x2', hS, hw]
          refine fin _ (by simpa using hn2) (by simp [x0, e0]) (by simp [x1, e1]) ?_
          simp [BV, hS]
    have y0 : ¬ (0 : Nat) = st'.nx := by omega
    have y1 : ¬ (1 : Nat) = st'.nx := by omega
    have y2 : ¬ (2 : Nat) = st'.nx := by omega
    generalize hD : dotR (fun i => at2 p.a i j) y 0 0 = D at *
    cases wc
    · simp at hc
      subst hc
      simp [L_ref20_least_1, h0, hlt', hcol, hdot, prog_def]
      refine rest D _ st'.nx hDf hnx ?_ ?_ ?_ ?_ ?_ (termR_eq p y none j s D D hD.symm rfl)
      · simp; omega
      · simp [y0]
      · simp [y1]
      · simp [y2]
      · simp [BV_def]
    · simp only [if_true] at hc
      subst hc
      have o2 := ref04_Of_ok (p.c.getD j 0) (by omega) (by omega)
      have hfc : fitO (some ((p.c.getD j 0 : Int) : Rat)) := fitO_some (fit64_int _ (by omega) (by omega))
      have hpl := ref20_plus_ok hDf hfc 1 (by omega) (by omega)
      have hm1 : mulO (some ((p.c.getD j 0 : Int) : Rat)) 1 = some ((p.c.getD j 0 : Int) : Rat) := by
        have h1 : ((1 : Int) : Rat) = 1 := rfl
        show ck (((p.c.getD j 0 : Int) : Rat) * ((1 : Int) : Rat)) = _
        rw [h1, Rat.mul_one, ck, if_pos (fit64_int _ (by omega) (by omega))]
      rw [hm1] at hpl
      rw [OV_some] at hpl
      have hfD := fitO_add D (some ((p.c.getD j 0 : Int) : Rat))
      have hte := termR_eq p y (some p.c) j s D _ hD.symm rfl
      simp only at hte
      generalize addO D (some ((p.c.getD j 0 : Int) : Rat)) = D' at *
      generalize p.c.getD j 0 = cj at *
      simp [L_ref20_least_1, h0, hlt', hcol, hdot, prog_def, y0, d3, o2, BV_def, hpl]
      refine rest D' _ st'.nx hfD hnx ?_ ?_ ?_ ?_ ?_ hte
      · simp; omega
      · simp [y0]
      · simp [y1]
      · simp [y2]
      · simp [BV_def]
  · have hj' : j = p.lo.length := by omega
    subst hj'
    have hs' : s = W := by
      rw [Nat.sub_self] at he
      rw [← he]
      cases s <;> rfl
    rw [← hs']
    simp [L_ref20_least_1, h0, h1, h2, BV_def]

end Go.Abs
end
