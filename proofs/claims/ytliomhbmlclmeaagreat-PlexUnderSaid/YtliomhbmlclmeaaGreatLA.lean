/-
  Joined from: L0 M1 L1 L2 L3 L4.
-/
import Derived.Test.YtliomhbmlclmeaaGreatGA
import Derived.Laws.BitsLemmas
import Derived.Laws.Bits64
import Derived.Test.YtliomhbmlclmeaaGreatPD0
/-
  LAWS OF RUNNING: how the abstract operations come out, for the plain proofs.
-/
section
set_option linter.unusedSimpArgs false
set_option linter.unusedVariables false
namespace Go.Abs
open Go

/-! ### runs -/
@[congr] theorem thn_congr {r r' : Res} (k : PV → M) (h : r = r') : r.thn k = r'.thn k := by rw [h]

section
variable (st : St)
@[simp] theorem run_bnd (m : M) (k : PV → Prog) : (Prog.bnd m k).run st = (m st).thn fun v => (k v).run := (rfl)
@[simp] theorem run_leaf (m : M) : (Prog.leaf m).run st = m st := (rfl)
@[simp] theorem run_if (t : Bool) (a b : Prog) : (Prog.ifP (.bool t) a b).run st = if t = true then a.run st else b.run st := by cases t <;> rfl
@[simp] theorem run_join (body : List PV → Prog) (use : (List PV → M) → Prog) : (Prog.join body use).run st = (use fun v => (body v).run).run st := (rfl)
@[simp] theorem run_loop (F : (List PV → M) → List PV → Prog) (v : List PV) : (Prog.loop F v).run st = iter fuel (fun self v => (F self v).run) v st := (rfl)
@[simp] theorem run_base (n : Nat) (k : Nat → Prog) : (Prog.base n k).run st = (k st.nx).run { st with nx := st.nx + n } := (rfl)
@[simp] theorem thn_ok (v : PV) (st : St) (k : PV → M) : (Res.ok v st).thn k = k v st := (rfl)
@[simp] theorem thn_panic (v : PV) (st : St) (k : PV → M) : (Res.panic v st).thn k = .panic v st := (rfl)
@[simp] theorem thn_fail (k : PV → M) : Res.fail.thn k = .fail := (rfl)
@[simp] theorem b_at (m : M) (k : PV → M) : (M.b m k) st = (m st).thn k := (rfl)
@[simp] theorem ret_at (v : PV) : ret v st = .ok v st := (rfl)
@[simp] theorem opt_some (v : PV) : opt (some v) st = .ok v st := (rfl)
@[simp] theorem failM_at : failM st = .fail := (rfl)

/-! ### slots -/
@[simp] theorem g_zero (x : PV) (xs : List PV) : g (x :: xs) 0 = x := (rfl)
@[simp] theorem g_succ (x : PV) (xs : List PV) (n : Nat) : g (x :: xs) (n + 1) = g xs n := (rfl)

/-! ### guards -/
@[simp] theorem guardM_tt (b : Bool) (m : M) : guardM (.bool b) true m st = if b = true then m st else .ok (.tup []) st := by cases b <;> rfl
@[simp] theorem guardM_ff (b : Bool) (m : M) : guardM (.bool b) false m st = if b = true then .ok (.tup []) st else m st := by cases b <;> rfl
@[simp] theorem guardM_none (want : Bool) (m : M) : guardM (.tup []) want m st = .ok (.tup []) st := (rfl)
@[simp] theorem pickM_at (t : Bool) (a b : PV) : pickM (.bool t) a b st = .ok (if t = true then a else b) st := by cases t <;> rfl

/-! ### lengths -/
@[simp] theorem len_lst (xs : List PV) : lenM (.lst xs) st = .ok (I xs.length) st := (rfl)
@[simp] theorem len_sl (id n off len : Nat) : lenM (.sl id n off len) st = .ok (I len) st := (rfl)
@[simp] theorem len_nilS : lenM .nilS st = .ok (I 0) st := (rfl)
@[simp] theorem len_z0 : lenM .z0 st = .ok (I 0) st := (rfl)
@[simp] theorem lenStr_at (s : ByteArray) : lenStr (.str s) st = .ok (I s.size) st := (rfl)

/-! ### numbers -/
@[simp] theorem un_not (b : Bool) : unM .not (.bool b) st = .ok (.bool !b) st := (rfl)
@[simp] theorem un_neg (k : IntKind) (n : Int) : unM .neg (.int k n) st = .ok (.int k (k.wrap (0 - n))) st := (rfl)
@[simp] theorem cmp_gtr (ty : TI) (k : IntKind) (a b : Int) : binM .gtr ty (.int k a) (.int k b) st = .ok (.bool (decide (b < a))) st := by simp [binM, binV, binI, opt, ret]
@[simp] theorem cmp_lss (ty : TI) (k : IntKind) (a b : Int) : binM .lss ty (.int k a) (.int k b) st = .ok (.bool (decide (a < b))) st := by simp [binM, binV, binI, opt, ret]
@[simp] theorem cmp_leq (ty : TI) (k : IntKind) (a b : Int) : binM .leq ty (.int k a) (.int k b) st = .ok (.bool (decide (a ≤ b))) st := by simp [binM, binV, binI, opt, ret]
@[simp] theorem cmp_geq (ty : TI) (k : IntKind) (a b : Int) : binM .geq ty (.int k a) (.int k b) st = .ok (.bool (decide (b ≤ a))) st := by simp [binM, binV, binI, opt, ret]
@[simp] theorem cmp_eql (ty : TI) (k : IntKind) (a b : Int) : binM .eql ty (.int k a) (.int k b) st = .ok (.bool (decide (a = b))) st := by
  simp only [binM, binV, binI, opt, ret, if_true]; congr 2
@[simp] theorem cmp_neq (ty : TI) (k : IntKind) (a b : Int) : binM .neq ty (.int k a) (.int k b) st = .ok (.bool (!decide (a = b))) st := by
  simp only [binM, binV, binI, opt, ret, if_true]; congr 2
@[simp] theorem op_add (ty : TI) (k : IntKind) (a b : Int) : binM .add ty (.int k a) (.int k b) st = .ok (.int k (k.wrap (a + b))) st := by simp [binM, binV, binI, opt, ret]
@[simp] theorem op_sub (ty : TI) (k : IntKind) (a b : Int) : binM .sub ty (.int k a) (.int k b) st = .ok (.int k (k.wrap (a - b))) st := by simp [binM, binV, binI, opt, ret]
@[simp] theorem op_mul (ty : TI) (k : IntKind) (a b : Int) : binM .mul ty (.int k a) (.int k b) st = .ok (.int k (k.wrap (a * b))) st := by simp [binM, binV, binI, opt, ret]
theorem op_quo (ty : TI) (k : IntKind) (a b : Int) (h : b ≠ 0) : binM .quo ty (.int k a) (.int k b) st = .ok (.int k (k.wrap (a.tdiv b))) st := by simp [binM, binV, binI, opt, ret, h]
theorem op_rem (ty : TI) (k : IntKind) (a b : Int) (h : b ≠ 0) : binM .rem ty (.int k a) (.int k b) st = .ok (.int k (a.tmod b)) st := by simp [binM, binV, binI, opt, ret, h]
theorem op_shl (ty : TI) (k k' : IntKind) (a b : Int) (h : 0 ≤ b) : binM .shl ty (.int k a) (.int k' b) st = .ok (.int k (k.wrap (a * 2 ^ (min b.toNat k.bits)))) st := by
  simp [binM, binV, opt, ret, Int.not_lt.2 h]
theorem op_shr (ty : TI) (k k' : IntKind) (a b : Int) (h : 0 ≤ b) : binM .shr ty (.int k a) (.int k' b) st = .ok (.int k (a.fdiv (2 ^ (min b.toNat k.bits)))) st := by
  simp [binM, binV, opt, ret, Int.not_lt.2 h]
@[simp] theorem conv_at (k k' : IntKind) (n : Int) : convM k (.int k' n) st = .ok (.int k (k.wrap n)) st := (rfl)
@[simp] theorem eq_str (ty : TI) (a b : ByteArray) : binM .eql ty (.str a) (.str b) st = .ok (.bool (a.toList == b.toList)) st := by
  simp [binM, binV, opt, ret]

/-! ### values -/
@[simp] theorem extract_zero (x : PV) (xs : List PV) : extractM (.tup (x :: xs)) 0 st = .ok x st := (rfl)
@[simp] theorem extract_one (x y : PV) (xs : List PV) : extractM (.tup (x :: y :: xs)) 1 st = .ok y st := (rfl)
@[simp] theorem extract_two (x y z : PV) (xs : List PV) : extractM (.tup (x :: y :: z :: xs)) 2 st = .ok z st := (rfl)
@[simp] theorem load_cell (k : IntKind) (n : Int) : loadM none (.cref (.int k n) 0) st = .ok (.int k n) st := (rfl)
@[simp] theorem load_lst (xs : List PV) : loadM none (.cref (.lst xs) 0) st = .ok (.lst xs) st := (rfl)
theorem load_cref_old (t : Option Nat) (x : PV) (off : Nat) : loadM t (.cref x off) st = opt (part t x off) st := (rfl)
end

/-! ### memory -/
@[simp] theorem upd_at (H : Nat → Option Blk) (i : Nat) (b : Option Blk) (j : Nat) : upd H i b j = if j = i then b else H j := (rfl)
@[simp] theorem upd_upd (H : Nat → Option Blk) (i : Nat) (a b : Option Blk) : upd (upd H i a) i b = upd H i b := by
  funext j; simp only [upd_at]; split <;> rfl

@[simp] theorem empty_nx : St.empty.nx = 0 := (rfl)
@[simp] theorem empty_H (i : Nat) : St.empty.H i = none := (rfl)
@[simp] theorem fits_agg (n : Nat) (cs : List PV) : fitsE n (.agg cs) = (cs.length == n) := by simp [fitsE, PV.known, PV.cells]
@[simp] theorem fits_int (n : Nat) (k : IntKind) (x : Int) : fitsE n (.int k x) = (1 == n) := by simp [fitsE, PV.known, PV.cells]
@[simp] theorem fits_bool (n : Nat) (x : Bool) : fitsE n (.bool x) = (1 == n) := by simp [fitsE, PV.known, PV.cells]
@[simp] theorem fits_str (n : Nat) (x : ByteArray) : fitsE n (.str x) = (1 == n) := by simp [fitsE, PV.known, PV.cells]
@[simp] theorem fits_lst (n : Nat) (x : List PV) : fitsE n (.lst x) = (1 == n) := by simp [fitsE, PV.known, PV.cells]
@[simp] theorem fits_nilS (n : Nat) : fitsE n .nilS = (1 == n) := by simp [fitsE, PV.known, PV.cells]
@[simp] theorem fits_sl (n : Nat) (a b c d : Nat) : fitsE n (.sl a b c d) = (1 == n) := by simp [fitsE, PV.known, PV.cells]
@[simp] theorem fits_ptr (n : Nat) (a b c d : Nat) : fitsE n (.ptr a b c d) = (1 == n) := by simp [fitsE, PV.known, PV.cells]
@[simp] theorem simple_int (k : IntKind) (x : Int) : (PV.int k x).simple = true := (rfl)
@[simp] theorem simple_bool (x : Bool) : (PV.bool x).simple = true := (rfl)
@[simp] theorem simple_str (x : ByteArray) : (PV.str x).simple = true := (rfl)
@[simp] theorem simple_lst (x : List PV) : (PV.lst x).simple = true := (rfl)
@[simp] theorem simple_nilS : PV.nilS.simple = true := (rfl)
@[simp] theorem simple_sl (a b c d : Nat) : (PV.sl a b c d).simple = true := (rfl)
@[simp] theorem simple_ptr (a b c d : Nat) : (PV.ptr a b c d).simple = true := (rfl)
@[simp] theorem known_int (k : IntKind) (x : Int) : (PV.int k x).known = true := (rfl)
@[simp] theorem known_bool (x : Bool) : (PV.bool x).known = true := (rfl)
@[simp] theorem known_str (x : ByteArray) : (PV.str x).known = true := (rfl)
@[simp] theorem known_lst (x : List PV) : (PV.lst x).known = true := (rfl)
@[simp] theorem known_nilS : PV.nilS.known = true := (rfl)
@[simp] theorem known_agg (x : List PV) : (PV.agg x).known = true := (rfl)
@[simp] theorem known_sl (a b c d : Nat) : (PV.sl a b c d).known = true := (rfl)
@[simp] theorem known_ptr (a b c d : Nat) : (PV.ptr a b c d).known = true := (rfl)
@[simp] theorem cells_int (k : IntKind) (x : Int) : (PV.int k x).cells = [.int k x] := (rfl)
@[simp] theorem cells_bool (x : Bool) : (PV.bool x).cells = [.bool x] := (rfl)
@[simp] theorem cells_str (x : ByteArray) : (PV.str x).cells = [.str x] := (rfl)
@[simp] theorem cells_lst (x : List PV) : (PV.lst x).cells = [.lst x] := (rfl)
@[simp] theorem cells_nilS : PV.nilS.cells = [.nilS] := (rfl)
@[simp] theorem cells_agg (x : List PV) : (PV.agg x).cells = x := (rfl)
@[simp] theorem cells_sl (a b c d : Nat) : (PV.sl a b c d).cells = [.sl a b c d] := (rfl)
@[simp] theorem cells_ptr (a b c d : Nat) : (PV.ptr a b c d).cells = [.ptr a b c d] := (rfl)

@[simp] theorem boxM_at (st : St) (n : Nat) (v : PV) : boxM none n v st = if fitsE n v = true then .ok (.ptr st.nx 1 0 0) ⟨upd st.H st.nx (some ⟨n, [v]⟩), st.nx + 1, st.dead⟩ else .fail := by
  by_cases h : fitsE n v = true
  · rw [if_pos h]; simp only [boxM, withId, newAt, List.all_cons, h, List.all_nil, Bool.and_self, if_true]
  · rw [if_neg h]; simp only [boxM, withId, newAt, List.all_cons, List.all_nil, Bool.and_true, h, Bool.false_eq_true, if_false]
@[simp] theorem part_some (n : Nat) (x : PV) (off : Nat) : part (some n) x off = if off + n ≤ x.cells.length then some (.agg ((x.cells.drop off).take n)) else none := (rfl)
@[simp] theorem part_none (x : PV) (off : Nat) : part none x off = x.cells[off]? := (rfl)
@[simp] theorem load_ptr (t : Option Nat) (id n idx off : Nat) (st : St) : loadM t (.ptr id n idx off) st = (match st.H id with | some b => if b.xs.length = n then (match b.xs[idx]? with | some x => opt (part t x off) st | none => .fail) else .fail | none => .fail) := (rfl)
@[simp] theorem store_ptr (size : Nat) (id n idx off : Nat) (v : PV) (st : St) : storeM size (.ptr id n idx off) v st =
    (match st.H id with
     | some b => if b.xs.length = n ∧ v.cells.length = size then (match b.xs[idx]? with | some x => (match setPart x off v with | some y => .ok (.tup []) { st with H := upd st.H id (some ⟨b.sz, b.xs.set idx y⟩) } | none => .fail) | none => .fail) else .fail
     | none => .fail) := (rfl)
@[simp] theorem addM_ptr (o id n idx off : Nat) (st : St) : addM o (.ptr id n idx off) st = .ok (.ptr id n idx (off + o)) st := (rfl)
@[simp] theorem addM_cref (o : Nat) (x : PV) (off : Nat) (st : St) : addM o (.cref x off) st = .ok (.cref x (off + o)) st := (rfl)
@[simp] theorem load_cref' (t : Option Nat) (x : PV) (off : Nat) (st : St) : loadM t (.cref x off) st = opt (part t x off) st := (rfl)
@[simp] theorem fieldM_agg (t : Option Nat) (o : Nat) (cs : List PV) (st : St) : fieldM t o (.agg cs) st = opt (part t (.agg cs) o) st := (rfl)
@[simp] theorem setPart_agg (cs : List PV) (off : Nat) (v : PV) : setPart (.agg cs) off v = if v.known = true ∧ v.cells.all (·.simple) = true ∧ off + v.cells.length ≤ cs.length then some (.agg (splice cs off v.cells)) else none := by
  unfold setPart
  by_cases h1 : v.known = true <;> by_cases h2 : v.cells.all (·.simple) = true <;> by_cases h3 : off + v.cells.length ≤ cs.length <;> simp [h1, h2, h3]
@[simp] theorem setPart_int (k k' : IntKind) (x y : Int) : setPart (.int k x) 0 (.int k' y) = some (.int k' y) := by simp [setPart]
@[simp] theorem setPart_bool (x y : Bool) : setPart (.bool x) 0 (.bool y) = some (.bool y) := by simp [setPart]
@[simp] theorem setPart_simple (x v : PV) (h : isAggV x = false) (hv : v.simple = true) : setPart x 0 v = some v := by
  have h1 : v.known = true := by cases v <;> simp_all [PV.simple, PV.known]
  have h2 : v.cells = [v] := by cases v <;> simp_all [PV.simple, PV.cells]
  cases x <;> simp_all [setPart, isAggV]
@[simp] theorem splice_at (cs : List PV) (off : Nat) (vs : List PV) : splice cs off vs = cs.take off ++ vs ++ cs.drop (off + vs.length) := (rfl)
@[simp] theorem buildM_at (zs : List PV) (ps : List (Nat × Nat × PV)) (st : St) : buildM zs ps st = (match fillS zs ps with | some cs => .ok (.agg cs) st | none => .fail) := by
  unfold buildM; cases fillS zs ps <;> rfl
@[simp] theorem fillS_nil (cs : List PV) : fillS cs [] = some cs := (rfl)
@[simp] theorem fillS_cons (cs : List PV) (off n : Nat) (v : PV) (ps : List (Nat × Nat × PV)) : fillS cs ((off, n, v) :: ps) = if v.known = true ∧ v.cells.length = n ∧ off + n ≤ cs.length then fillS (splice cs off v.cells) ps else none := (rfl)

/-! ### loops -/
/-- A loop: what holds of its start at every measure, holds of its outcome. -/
theorem loop_ind {α : Type} (F : (List PV → M) → List PV → M) (I : α → Nat → List PV → St → Prop) (Q : Res → Prop)
    (step : ∀ a k v st, I a k v st → ∀ self : List PV → M, (∀ a' k' v' st', k' < k → I a' k' v' st' → Q (self v' st')) → Q (F self v st)) :
    ∀ n a k v st, I a k v st → k < n → Q (iter n F v st) := by
  intro n
  induction n with
  | zero => intro a k v st h hk; omega
  | succ n ih =>
    intro a k v st h hk
    exact step a k v st h _ fun a' k' v' st' hk' h' => ih a' k' v' st' h' (by omega)

/-- The same, of an outcome that depends on the start. -/
theorem iter_ind {α : Type} (F : (List PV → M) → List PV → M) (I : α → Nat → List PV → St → Prop) (R : α → Res → Prop)
    (step : ∀ a k v st, I a k v st → ∀ self : List PV → M, (∀ a' k' v' st', k' < k → I a' k' v' st' → (∀ r, R a' r → R a r) → R a (self v' st')) → R a (F self v st)) :
    ∀ n a k v st, I a k v st → k < n → R a (iter n F v st) := by
  intro n
  induction n with
  | zero => intro a k v st h hk; omega
  | succ n ih =>
    intro a k v st h hk
    exact step a k v st h _ fun a' k' v' st' hk' h' hr => hr _ (ih a' k' v' st' h' (by omega))

theorem fuel_gt {k : Nat} (h : k < 2 ^ 64) : k < fuel := h

/-! ### calls -/
/-- Values as they come into a function. -/
@[simp] theorem snap_int (H : Nat → Option Blk) (d : Nat) (k : IntKind) (n : Int) : snapF H (d + 1) (.int k n) = some (.int k n) := (rfl)
@[simp] theorem snap_bool (H : Nat → Option Blk) (d : Nat) (b : Bool) : snapF H (d + 1) (.bool b) = some (.bool b) := (rfl)
@[simp] theorem snap_str (H : Nat → Option Blk) (d : Nat) (s : ByteArray) : snapF H (d + 1) (.str s) = some (.str s) := (rfl)
@[simp] theorem snap_lst (H : Nat → Option Blk) (d : Nat) (xs : List PV) : snapF H (d + 1) (.lst xs) = some (.lst xs) := (rfl)
@[simp] theorem snap_nilS (H : Nat → Option Blk) (d : Nat) : snapF H (d + 1) .nilS = some (.lst []) := (rfl)
@[simp] theorem snap_z0 (H : Nat → Option Blk) (d : Nat) : snapF H (d + 1) .z0 = some (.lst []) := (rfl)
@[simp] theorem snap_agg (H : Nat → Option Blk) (d : Nat) (cs : List PV) : snapF H (d + 1) (.agg cs) = (snapL H d cs).map .agg := (rfl)
@[simp] theorem snap_tup (H : Nat → Option Blk) (d : Nat) (cs : List PV) : snapF H (d + 1) (.tup cs) = (snapL H d cs).map .tup := (rfl)
@[simp] theorem snap_nil (H : Nat → Option Blk) (d : Nat) : snapL H (d + 1) [] = some [] := (rfl)
@[simp] theorem snap_cons (H : Nat → Option Blk) (d : Nat) (x : PV) (xs : List PV) : snapL H (d + 1) (x :: xs) = match snapF H d x, snapL H d xs with | some y, some ys => some (y :: ys) | _, _ => none := (rfl)
@[simp] theorem snapD_int (H : Nat → Option Blk) (k : IntKind) (n : Int) : snapF H depth (.int k n) = some (.int k n) := (snap_int H 999999 k n)
@[simp] theorem snapD_bool (H : Nat → Option Blk) (b : Bool) : snapF H depth (.bool b) = some (.bool b) := (snap_bool H 999999 b)
@[simp] theorem snapD_str (H : Nat → Option Blk) (s : ByteArray) : snapF H depth (.str s) = some (.str s) := (snap_str H 999999 s)
@[simp] theorem snapD_lst (H : Nat → Option Blk) (xs : List PV) : snapF H depth (.lst xs) = some (.lst xs) := (snap_lst H 999999 xs)
@[simp] theorem snapD_nilS (H : Nat → Option Blk) : snapF H depth .nilS = some (.lst []) := (snap_nilS H 999999)
@[simp] theorem snapD_z0 (H : Nat → Option Blk) : snapF H depth .z0 = some (.lst []) := (snap_z0 H 999999)
@[simp] theorem snapD_agg (H : Nat → Option Blk) (cs : List PV) : snapF H depth (.agg cs) = (snapL H 999999 cs).map .agg := (snap_agg H 999999 cs)
@[simp] theorem snapD_tup (H : Nat → Option Blk) (cs : List PV) : snapF H depth (.tup cs) = (snapL H 999999 cs).map .tup := (snap_tup H 999999 cs)
@[simp] theorem snapDL_nil (H : Nat → Option Blk) : snapL H depth [] = some [] := (snap_nil H 999999)
@[simp] theorem snapDL_cons (H : Nat → Option Blk) (x : PV) (xs : List PV) : snapL H depth (x :: xs) = match snapF H 999999 x, snapL H 999999 xs with | some y, some ys => some (y :: ys) | _, _ => none := (snap_cons H 999999 x xs)
/-- Digits and the like: lists whose elements, one by one, are themselves. -/
theorem snapL_self {H : Nat → Option Blk} : ∀ (xs : List PV) (d : Nat), xs.length + 1 < d → (∀ x ∈ xs, ∀ e, 0 < e → snapF H e x = some x) → snapL H d xs = some xs
  | [], d + 1, _, _ => rfl
  | x :: xs, d + 1, h, hx => by
    simp only [List.length_cons] at h
    rw [snap_cons, hx x (by simp) d (by omega), snapL_self xs d (by omega) (fun y hy => hx y (by simp [hy]))]
  | _, 0, h, _ => by omega

/-- A call of a function without references, of arguments without any. -/
theorem callP_of {frz : Bool} {own : Option Nat} {mp : Bool} {F : List PV → PRes} {args as_ : List PV} {st : St} (h1 : snapL st.H depth args = some as_) (h2 : noreL args = true) :
    callP frz own mp F args st = match F as_ with | .ret v => takeM own v st | .panic p => if mp = true then .panic p st else .fail | .fail => .fail := by
  unfold callP
  rw [h1]
  simp only []
  cases F as_ with
  | ret v => simp [h2]
  | panic p => cases mp <;> simp [h2]
  | fail => rfl

/-- The same, where it gives something back. -/
theorem callP_ret {frz : Bool} {own : Option Nat} {mp : Bool} {F : List PV → PRes} {args as_ : List PV} {v : PV} {st : St} (h1 : snapL st.H depth args = some as_) (h2 : noreL args = true) (h3 : F as_ = .ret v) :
    callP frz own mp F args st = takeM own v st := by rw [callP_of h1 h2, h3]

/-- What a call makes of its callee's answer. -/
def callK (own : Option Nat) (mp : Bool) (r : PRes) : M := fun st =>
  match r with
  | .ret v => takeM own v st
  | .panic p => if mp = true then .panic p st else .fail
  | .fail => .fail
@[simp] theorem callK_ret (own : Option Nat) (mp : Bool) (v : PV) (st : St) : callK own mp (.ret v) st = takeM own v st := (rfl)
@[simp] theorem callK_panic (own : Option Nat) (mp : Bool) (v : PV) (st : St) : callK own mp (.panic v) st = if mp = true then .panic v st else .fail := (rfl)
@[simp] theorem callP_eq {frz : Bool} {own : Option Nat} {mp : Bool} {F : List PV → PRes} {args : List PV} {st : St} (h1 : (snapL st.H depth args).isSome = true) (h2 : noreL args = true) :
    callP frz own mp F args st = callK own mp (F ((snapL st.H depth args).getD [])) st := by
  obtain ⟨as_, h⟩ := Option.isSome_iff_exists.1 h1
  rw [callP_of h h2, h]
  unfold callK
  rfl

@[simp] theorem take_none_int (k : IntKind) (n : Int) (st : St) : takeM none (.int k n) st = .ok (.int k n) st := (rfl)
@[simp] theorem take_none_bool (b : Bool) (st : St) : takeM none (.bool b) st = .ok (.bool b) st := (rfl)
@[simp] theorem take_none_str (b : ByteArray) (st : St) : takeM none (.str b) st = .ok (.str b) st := (rfl)
@[simp] theorem take_none_tup (xs : List PV) (st : St) : takeM none (.tup xs) st = .ok (.tup xs) st := (rfl)
@[simp] theorem take_none_agg (xs : List PV) (st : St) : takeM none (.agg xs) st = .ok (.agg xs) st := (rfl)
@[simp] theorem take_none_lst (xs : List PV) (st : St) : takeM none (.lst xs) st = .ok (.lst xs) st := (rfl)
@[simp] theorem take_none_fr (n : Nat) (xs : List PV) (st : St) : takeM none (.fr n xs) st = .ok (.lst xs) st := (rfl)

@[simp] theorem noreL_nil : noreL [] = true := (rfl)
@[simp] theorem noreL_cons (x : PV) (xs : List PV) : noreL (x :: xs) = (x.noref && noreL xs) := (rfl)
@[simp] theorem noref_int (k : IntKind) (n : Int) : (PV.int k n).noref = true := (rfl)
@[simp] theorem noref_bool (b : Bool) : (PV.bool b).noref = true := (rfl)
@[simp] theorem noref_str (b : ByteArray) : (PV.str b).noref = true := (rfl)
@[simp] theorem noref_lst (xs : List PV) : (PV.lst xs).noref = true := (rfl)
@[simp] theorem noref_nilS : PV.nilS.noref = true := (rfl)
@[simp] theorem noref_agg (xs : List PV) : (PV.agg xs).noref = noreL xs := (rfl)
@[simp] theorem noref_tup (xs : List PV) : (PV.tup xs).noref = noreL xs := (rfl)
@[simp] theorem noref_sl (a b c d : Nat) : (PV.sl a b c d).noref = false := (rfl)

/-- What a function without references gives. -/
theorem runP_ret {body : List PV → M} {args : List PV} {v w : PV} {st : St} (h : body args .empty = .ok v st) (hs : snapF st.H depth v = some w) : runP false body args = .ret w := by
  simp [runP, h, hs]
theorem runP_panic {body : List PV → M} {args : List PV} {v w : PV} {st : St} {fr : Bool} (h : body args .empty = .panic v st) (hs : snapF st.H depth v = some w) : runP fr body args = .panic w := by
  simp [runP, h, hs]
theorem runP_of {body : List PV → M} {args : List PV} {w : PV} (h : ∃ v st, body args .empty = .ok v st ∧ snapF st.H depth v = some w) : runP false body args = .ret w := by
  obtain ⟨v, st, h1, h2⟩ := h; exact runP_ret h1 h2

/-- It gives back this. -/
def Rets (v : PV) (r : Res) : Prop := ∃ st, r = .ok v st
theorem runP_rets {body : List PV → M} {args : List PV} {v w : PV} (h : Rets v (body args .empty)) (hs : ∀ H, snapF H depth v = some w) : runP false body args = .ret w := by
  obtain ⟨st, h⟩ := h; exact runP_ret h (hs _)
theorem Rets.of {v : PV} {st : St} : Rets v (.ok v st) := ⟨st, rfl⟩
@[simp] theorem rets_ok (v w : PV) (st : St) : Rets v (.ok w st) ↔ w = v := ⟨fun ⟨_, h⟩ => by cases h; rfl, fun h => ⟨st, by rw [h]⟩⟩
@[simp] theorem rets_panic (v w : PV) (st : St) : ¬ Rets v (.panic w st) := fun ⟨_, h⟩ => by cases h
@[simp] theorem rets_fail (v : PV) : ¬ Rets v .fail := fun ⟨_, h⟩ => by cases h

/-- A call of a function without references that takes its arguments' memory away. -/
theorem callP_frz {own : Option Nat} {mp : Bool} {F : List PV → PRes} {args as_ : List PV} {v : PV} {st : St} (h1 : snapL st.H depth args = some as_) (h2 : F as_ = .ret v) :
    ∃ st', callP true own mp F args st = takeM own v st' := by
  unfold callP
  rw [h1]
  simp only [h2]
  cases noreL args with
  | true => exact ⟨st, rfl⟩
  | false => exact ⟨_, rfl⟩

/-! ### buffers of our own -/
theorem build_one (st : St) (esz : Nat) (ag : Bool) (z v : PV) (h : fitsE esz v = true) (ha : ag = isAggV v) (hs : esz ≤ 2 ^ 24) :
    buildSliceM none esz ag z 1 [(0, v)] st = .ok (.sl st.nx 1 0 1) ⟨upd st.H st.nx (some ⟨esz, [v]⟩), st.nx + 1, st.dead⟩ := by
  have h2 : ([v].all (fitsE esz)) = true := by simp [h]
  simp only [buildSliceM, fillE, List.replicate, List.length_singleton, h, ha, Nat.one_mul, hs, List.set, Nat.zero_lt_one, and_self, if_true, withId, newAt, h2]
theorem append_sl (st : St) (esz bytes id j : Nat) (xs ys : List PV) (h1 : st.H id = some ⟨esz, xs⟩) (h2 : st.H j = some ⟨esz, ys⟩) (he : 0 < esz) (hb : bytes ≤ mostBytes) (hy : ys.length ≤ mostLen)
    (hx : xs.length ≤ mostLen) (hf : ys.all (fitsA esz) = true) (hne : ys ≠ []) :
    appendM esz bytes (.sl id xs.length 0 xs.length) (.sl j ys.length 0 ys.length) st = .ok (.sl id (xs.length + ys.length) 0 (xs.length + ys.length)) ⟨upd st.H id (some ⟨esz, xs ++ ys⟩), st.nx, st.dead⟩ := by
  have h0 : ¬ (xs.length + ys.length ≤ xs.length) := by have := List.length_pos_iff.2 hne; omega
  simp only [appendM, elems, h2, h1, Nat.zero_add, Nat.le_refl, and_true, if_true, true_and, he, hb, hy, hx, hf, List.drop_zero, List.take_length, h0, if_false]
/-- One element more. -/
theorem push_run (st : St) (esz bytes : Nat) (ag : Bool) (z v : PV) (id : Nat) (xs : List PV) (h1 : st.H id = some ⟨esz, xs⟩) (hid : id < st.nx) (h : fitsA esz v = true) (ha : ag = isAggV v) (hs : esz ≤ 2 ^ 24) (he : 0 < esz) (hb : bytes ≤ mostBytes) (hx : xs.length ≤ mostLen)
    (k : PV → Prog) : ∃ st', (Prog.bnd (buildSliceM none esz ag z 1 [(0, v)]) fun t => Prog.bnd (appendM esz bytes (.sl id xs.length 0 xs.length) t) k).run st = (k (.sl id (xs.length + 1) 0 (xs.length + 1))).run st' ∧
      st'.H id = some ⟨esz, xs ++ [v]⟩ ∧ st'.nx = st.nx + 1 ∧ (∀ j, j < st.nx → j ≠ id → st'.H j = st.H j) ∧ st'.dead = st.dead := by
  have hfit : fitsE esz v = true := by
    simp only [fitsA, Bool.and_eq_true] at h; simp only [fitsE, Bool.and_eq_true]; exact h.1
  have hne : ¬ id = st.nx := by omega
  rw [run_bnd, build_one st esz ag z v hfit ha hs, thn_ok, run_bnd]
  have := append_sl ⟨upd st.H st.nx (some ⟨esz, [v]⟩), st.nx + 1, st.dead⟩ esz bytes id st.nx xs [v] (by simp [hne, h1]) (by simp) he hb (by simp [mostLen]) hx (by simp [h]) (by simp)
  simp only [List.length_singleton] at this
  rw [this, thn_ok]
  exact ⟨_, rfl, by simp, rfl, fun j hj hjne => by have : ¬ j = st.nx := by omega
                                                   simp [hjne, this], rfl⟩

theorem make_zero (st : St) (esz bytes : Nat) (z : PV) (c : Int) (hc : 0 ≤ c) (hc2 : c ≤ 2 ^ 30) (hb : bytes ≤ 2 ^ 12) (he : 0 < esz) :
    makeSliceM none esz bytes z (I 0) (I c) st = .ok (.sl st.nx 0 0 0) ⟨upd st.H st.nx (some ⟨esz, []⟩), st.nx + 1, st.dead⟩ := by
  simp only [makeSliceM, Int.le_refl, hc, hc2, hb, he, and_self, if_true, withId, newAt, Int.toNat_zero, List.replicate, List.all_nil]
theorem make_rep (st : St) (esz bytes : Nat) (z : PV) (n : Nat) (hc2 : n ≤ 2 ^ 30) (hb : bytes ≤ 2 ^ 12) (he : 0 < esz) (hz : fitsE esz z = true) :
    makeSliceM none esz bytes z (I n) (I n) st = .ok (.sl st.nx n 0 n) ⟨upd st.H st.nx (some ⟨esz, List.replicate n z⟩), st.nx + 1, st.dead⟩ := by
  have h1 : (n : Int) ≤ 2 ^ 30 := by omega
  have h2 : (List.replicate n z).all (fitsE esz) = true := by simp [hz]
  simp only [makeSliceM, Int.natCast_nonneg, Int.le_refl, h1, hb, he, and_self, if_true, withId, newAt, Int.toNat_natCast, h2]

/-! ### numbers of so many bits -/
@[simp] theorem wrap64 (n : Int) (h : -9223372036854775808 ≤ n) (h' : n < 9223372036854775808) : IntKind.i64.wrap n = n := by rw [IntKind.wrap_i64]; omega
@[simp] theorem wrapu64 (n : Int) (h : 0 ≤ n) (h' : n < 18446744073709551616) : IntKind.u64.wrap n = n := by rw [IntKind.wrap_u64]; omega
@[simp] theorem wrapu32 (n : Int) (h : 0 ≤ n) (h' : n < 4294967296) : IntKind.u32.wrap n = n := by rw [IntKind.wrap_u32]; omega

end Go.Abs
end
/-
  DIGITS: numbers as lists of digits, the lowest first.
-/
section
set_option linter.unusedSimpArgs false
set_option linter.unusedVariables false
namespace Go.Abs
open Go

def dval : List Nat → Nat
  | [] => 0
  | d :: ds => d + 4294967296 * dval ds
def Dig (xs : List Nat) : Prop := ∀ d ∈ xs, d < 4294967296

def digs (n : Nat) : List Nat := if h : n = 0 then [] else n % 4294967296 :: digs (n / 4294967296)
termination_by n
decreasing_by omega

theorem digs_zero : digs 0 = [] := by unfold digs; simp
theorem digs_pos {n : Nat} (h : n ≠ 0) : digs n = n % 4294967296 :: digs (n / 4294967296) := by rw [digs]; simp [h]

theorem dval_digs (n : Nat) : dval (digs n) = n := by
  induction n using Nat.strongRecOn with
  | _ n ih =>
    by_cases h : n = 0
    · subst h; simp [digs_zero, dval]
    · rw [digs_pos h, dval, ih _ (by omega)]; omega

theorem Dig.nil : Dig [] := fun d h => by cases h
theorem Dig.cons {d : Nat} {xs : List Nat} (h : d < 4294967296) (k : Dig xs) : Dig (d :: xs) := fun e he => by
  rcases List.mem_cons.1 he with rfl | he
  · exact h
  · exact k e he
theorem Dig.head {d : Nat} {xs : List Nat} (h : Dig (d :: xs)) : d < 4294967296 := h d (by simp)
theorem Dig.tail {d : Nat} {xs : List Nat} (h : Dig (d :: xs)) : Dig xs := fun e he => h e (by simp [he])
theorem Dig.app {xs ys : List Nat} (h : Dig xs) (k : Dig ys) : Dig (xs ++ ys) := fun e he => by
  rcases List.mem_append.1 he with he | he
  · exact h e he
  · exact k e he
theorem Dig.left {xs ys : List Nat} (h : Dig (xs ++ ys)) : Dig xs := fun e he => h e (by simp [he])
theorem Dig.right {xs ys : List Nat} (h : Dig (xs ++ ys)) : Dig ys := fun e he => h e (by simp [he])
theorem Dig.at {xs : List Nat} (h : Dig xs) {i : Nat} (hi : i < xs.length) : xs[i] < 4294967296 := h _ (List.getElem_mem _)
theorem Dig.set {xs : List Nat} (h : Dig xs) {i d : Nat} (hd : d < 4294967296) : Dig (xs.set i d) := fun e he => by
  rcases List.mem_or_eq_of_mem_set he with he | rfl
  · exact h e he
  · exact hd
theorem Dig.take {xs : List Nat} (h : Dig xs) (n : Nat) : Dig (xs.take n) := fun e he => h e (List.mem_of_mem_take he)
theorem Dig.drop {xs : List Nat} (h : Dig xs) (n : Nat) : Dig (xs.drop n) := fun e he => h e (List.mem_of_mem_drop he)
theorem Dig.rep (n : Nat) : Dig (List.replicate n 0) := fun e he => by rw [(List.mem_replicate.1 he).2]; decide

theorem dig_digs (n : Nat) : Dig (digs n) := by
  induction n using Nat.strongRecOn with
  | _ n ih =>
    by_cases h : n = 0
    · subst h; rw [digs_zero]; exact Dig.nil
    · rw [digs_pos h]; exact Dig.cons (Nat.mod_lt _ (by decide)) (ih _ (by omega))

theorem dval_app (xs ys : List Nat) : dval (xs ++ ys) = dval xs + 4294967296 ^ xs.length * dval ys := by
  induction xs with
  | nil => simp [dval]
  | cons d xs ih =>
    simp only [List.cons_append, dval, ih, List.length_cons, Nat.pow_succ]
    rw [Nat.mul_add, Nat.mul_comm (4294967296 ^ xs.length) 4294967296, Nat.mul_assoc]; omega
theorem dval_rep (n : Nat) : dval (List.replicate n 0) = 0 := by
  induction n with
  | zero => rfl
  | succ n ih => rw [List.replicate_succ, dval, ih]
theorem dval_snoc (xs : List Nat) (d : Nat) : dval (xs ++ [d]) = dval xs + 4294967296 ^ xs.length * d := by rw [dval_app]; simp [dval]
theorem dval_lt {xs : List Nat} (h : Dig xs) : dval xs < 4294967296 ^ xs.length := by
  induction xs with
  | nil => simp [dval]
  | cons d xs ih =>
    have h1 := ih h.tail
    have h2 := h.head
    simp only [dval, List.length_cons, Nat.pow_succ]
    have : 4294967296 * dval xs + 4294967296 ≤ 4294967296 ^ xs.length * 4294967296 := by
      rw [Nat.mul_comm (4294967296 ^ xs.length) 4294967296, ← Nat.mul_succ]; exact Nat.mul_le_mul_left _ h1
    omega
theorem dval_set {xs : List Nat} {i d : Nat} (hi : i < xs.length) : dval (xs.set i d) + 4294967296 ^ i * xs[i] = dval xs + 4294967296 ^ i * d := by
  induction xs generalizing i with
  | nil => simp at hi
  | cons x xs ih =>
    cases i with
    | zero => simp [dval]; omega
    | succ i =>
      have := ih (i := i) (by simpa using hi)
      simp only [List.set_cons_succ, dval, List.getElem_cons_succ, Nat.pow_succ]
      have e : 4294967296 * (dval (xs.set i d) + 4294967296 ^ i * xs[i]'(by simpa using hi)) = 4294967296 * (dval xs + 4294967296 ^ i * d) := by rw [this]
      rw [Nat.mul_add, Nat.mul_add] at e
      rw [Nat.mul_comm (4294967296 ^ i) 4294967296, Nat.mul_assoc, Nat.mul_assoc]; omega
theorem dval_take_drop (xs : List Nat) (n : Nat) (h : n ≤ xs.length) : dval xs = dval (xs.take n) + 4294967296 ^ n * dval (xs.drop n) := by
  have := dval_app (xs.take n) (xs.drop n)
  rw [List.take_append_drop, List.length_take, Nat.min_eq_left h] at this
  exact this

/-- Without noughts at the end. -/
def trimL (xs : List Nat) : List Nat := digs (dval xs)

theorem digs_dval_nz : ∀ {xs : List Nat}, Dig xs → (∀ h : xs ≠ [], xs.getLast h ≠ 0) → digs (dval xs) = xs
  | [], _, _ => by simp [dval, digs_zero]
  | d :: xs, hd, hl => by
    have hnz : dval (d :: xs) ≠ 0 := by
      intro e
      simp only [dval] at e
      have hd0 : d = 0 := by omega
      have hx0 : dval xs = 0 := by
        have : 4294967296 * dval xs = 0 := by omega
        rcases Nat.mul_eq_zero.1 this with h | h
        · exact absurd h (by decide)
        · exact h
      cases xs with
      | nil => exact hl (by simp) (by simpa using hd0)
      | cons y ys =>
        have ih := digs_dval_nz (xs := y :: ys) hd.tail (fun h => by have := hl (by simp); simpa using this)
        rw [hx0, digs_zero] at ih; cases ih
    have h1 := hd.head
    rw [digs_pos hnz]
    have ih := digs_dval_nz (xs := xs) hd.tail (fun h => by
      have := hl (by simp)
      rw [List.getLast_cons h] at this; exact this)
    have e1 : (dval (d :: xs)) % 4294967296 = d := by simp only [dval]; omega
    have e2 : (dval (d :: xs)) / 4294967296 = dval xs := by simp only [dval]; omega
    rw [e1, e2, ih]

theorem trimL_nil : trimL [] = [] := by simp [trimL, dval, digs_zero]
theorem trimL_snoc {xs : List Nat} {d : Nat} (h : Dig (xs ++ [d])) : trimL (xs ++ [d]) = if d = 0 then trimL xs else xs ++ [d] := by
  by_cases hd : d = 0
  · subst hd; simp [trimL, dval_snoc]
  · rw [if_neg hd]
    exact digs_dval_nz h (fun _ => by simpa using hd)

/-- Of the digits of a number there are at most so many. -/
theorem digs_len {n k : Nat} : (digs n).length ≤ k ↔ n < 4294967296 ^ k := by
  induction k generalizing n with
  | zero =>
    simp only [Nat.pow_zero, Nat.lt_one_iff, Nat.le_zero]
    constructor
    · intro h
      have := dval_digs n
      rw [List.eq_nil_of_length_eq_zero h] at this
      simpa [dval] using this.symm
    · rintro rfl; simp [digs_zero]
  | succ k ih =>
    by_cases h : n = 0
    · subst h; simp [digs_zero]; exact Nat.pow_pos (by decide)
    · rw [digs_pos h, List.length_cons, Nat.add_le_add_iff_right, ih, Nat.pow_succ, Nat.div_lt_iff_lt_mul (by decide)]
theorem digs_ne {n : Nat} : digs n ≠ [] ↔ n ≠ 0 := by
  constructor
  · rintro h rfl; exact h digs_zero
  · intro h; rw [digs_pos h]; simp
theorem digs_last {n : Nat} (h : digs n ≠ []) : (digs n).getLast h ≠ 0 := by
  induction n using Nat.strongRecOn with
  | _ n ih =>
    have hn : n ≠ 0 := digs_ne.1 h
    have e := digs_pos hn
    by_cases h2 : digs (n / 4294967296) = []
    · have : n / 4294967296 = 0 := Classical.byContradiction fun hh => digs_ne.2 hh h2
      simp only [e, h2, List.getLast_singleton]
      omega
    · simp only [e]
      rw [List.getLast_cons h2]
      exact ih _ (by omega) h2
theorem digs_small {n : Nat} (h : n ≠ 0) (h' : n < 4294967296) : digs n = [n] := by
  rw [digs_pos h, show n / 4294967296 = 0 by omega, digs_zero, Nat.mod_eq_of_lt h']
theorem digs_inj {m n : Nat} (h : digs m = digs n) : m = n := by rw [← dval_digs m, h, dval_digs]

/-- Digits that may be a number's. -/
def canonL (xs : List Nat) : Prop := ∀ h : xs ≠ [], xs.getLast h ≠ 0
theorem canon_digs (n : Nat) : canonL (digs n) := fun h => digs_last h
theorem digs_of_canon {xs : List Nat} (h : Dig xs) (hc : canonL xs) : digs (dval xs) = xs := digs_dval_nz h hc
instance (xs : List Nat) : Decidable (canonL xs) := by unfold canonL; exact inferInstance

/-! ### as values -/
def digV (xs : List Nat) : List PV := xs.map fun (d : Nat) => PV.int .u32 d
/-- A number as a value. -/
def N (n : Nat) : PV := .lst (digV (digs n))

@[simp] theorem digV_length (xs : List Nat) : (digV xs).length = xs.length := by simp [digV]
theorem digV_app (xs ys : List Nat) : digV (xs ++ ys) = digV xs ++ digV ys := by simp [digV]
theorem digV_take (xs : List Nat) (n : Nat) : (digV xs).take n = digV (xs.take n) := by simp [digV]
theorem digV_drop (xs : List Nat) (n : Nat) : (digV xs).drop n = digV (xs.drop n) := by simp [digV]
theorem digV_set (xs : List Nat) (i d : Nat) : (digV xs).set i (.int .u32 (d : Int)) = digV (xs.set i d) := by simp [digV, List.map_set]
theorem digV_get (xs : List Nat) (i : Nat) (h : i < xs.length) : (digV xs)[i]? = some (.int .u32 ((xs[i] : Nat) : Int)) := by simp [digV, h]
theorem digV_rep (n : Nat) : digV (List.replicate n 0) = List.replicate n (.int .u32 0) := by simp [digV]
theorem digV_inj {xs ys : List Nat} (h : digV xs = digV ys) : xs = ys := by
  induction xs generalizing ys with
  | nil => cases ys <;> simp [digV] at h ⊢
  | cons x xs ih =>
    cases ys with
    | nil => simp [digV] at h
    | cons y ys =>
      simp only [digV, List.map_cons, List.cons.injEq, PV.int.injEq, true_and] at h
      rw [Int.ofNat.inj h.1, ih h.2]
theorem digV_fits (xs : List Nat) : ∀ x ∈ digV xs, fitsE 1 x = true := by
  intro x hx
  simp only [digV, List.mem_map] at hx
  obtain ⟨d, _, rfl⟩ := hx
  rfl
theorem digV_fitsA (xs : List Nat) : (digV xs).all (fitsA 1) = true := by
  simp only [List.all_eq_true, digV, List.mem_map]
  rintro x ⟨d, _, rfl⟩
  rfl
@[simp] theorem digV_hd (xs : List Nat) : fitsHd 1 (digV xs) = true := by cases xs <;> rfl
theorem digV_snap (H : Nat → Option Blk) (xs : List Nat) (d : Nat) (hd : xs.length + 1 < d) : snapL H d (digV xs) = some (digV xs) :=
  snapL_self _ _ (by simpa using hd) fun x hx e he => by
    simp only [digV, List.mem_map] at hx
    obtain ⟨n, _, rfl⟩ := hx
    cases e with
    | zero => omega
    | succ e => rfl
@[simp] theorem snap_N (H : Nat → Option Blk) (d n : Nat) : snapF H (d + 1) (N n) = some (N n) := (rfl)
@[simp] theorem noref_N (n : Nat) : (N n).noref = true := (rfl)
@[simp] theorem simple_N (n : Nat) : (N n).simple = true := (rfl)
@[simp] theorem known_N (n : Nat) : (N n).known = true := (rfl)
@[simp] theorem cells_N (n : Nat) : (N n).cells = [N n] := (rfl)
@[simp] theorem fits_N (m n : Nat) : fitsE m (N n) = (1 == m) := fits_lst m _
@[simp] theorem snapD_N (H : Nat → Option Blk) (n : Nat) : snapF H depth (N n) = some (N n) := (snapD_lst H _)
@[simp] theorem take_N (n : Nat) (st : St) : takeM none (N n) st = .ok (N n) st := (rfl)
@[simp] theorem len_N (st : St) (n : Nat) : lenM (N n) st = .ok (I (digs n).length) st := by simp [N]

theorem snap_sl_dig {H : Nat → Option Blk} {id sz : Nat} {xs : List Nat} (h : H id = some ⟨sz, digV xs⟩) {d : Nat} (hd : xs.length + 2 < d) : snapF H d (.sl id xs.length 0 xs.length) = some (.lst (digV xs)) := by
  obtain ⟨d, rfl⟩ : ∃ e, d = e + 1 := ⟨d - 1, by omega⟩
  unfold snapF
  simp only [h, digV_length, Nat.zero_add, Nat.le_refl, and_self, if_true, List.drop_zero]
  rw [List.take_of_length_le (by simp), digV_snap H xs d (by omega)]
  rfl
theorem snapL_sl_dig {H : Nat → Option Blk} {id sz : Nat} {xs : List Nat} (h : H id = some ⟨sz, digV xs⟩) (hd : xs.length < 2 ^ 19) : snapL H depth [.sl id xs.length 0 xs.length] = some [.lst (digV xs)] := by
  rw [snapDL_cons, snap_sl_dig h (by omega)]
  simp
theorem idx_sl_dig (st : St) {id : Nat} {xs : List Nat} (h : st.H id = some ⟨1, digV xs⟩) (i : Nat) (hi : i < xs.length) : idxM 1 (.sl id xs.length 0 xs.length) (I i) st = .ok (.ptr id xs.length i 0) st := by
  have h1 : (i : Int) < (xs.length : Int) := by omega
  simp [idxM, h, h1]
theorem load_sl_dig (st : St) {id : Nat} {xs : List Nat} (h : st.H id = some ⟨1, digV xs⟩) (i : Nat) (hi : i < xs.length) : loadM none (.ptr id xs.length i 0) st = .ok (.int .u32 ((xs[i] : Nat) : Int)) st := by
  simp only [loadM, h, digV_length, if_true, digV_get xs i hi]
  simp [part, PV.cells]
theorem store_sl_dig (st : St) {id : Nat} {xs : List Nat} (h : st.H id = some ⟨1, digV xs⟩) (i d : Nat) (hi : i < xs.length) :
    storeM 1 (.ptr id xs.length i 0) (.int .u32 (d : Int)) st = .ok (.tup []) ⟨upd st.H id (some ⟨1, digV (xs.set i d)⟩), st.nx, st.dead⟩ := by
  simp only [storeM, h, digV_length, PV.cells, List.length_singleton, and_self, if_true, digV_get xs i hi]
  simp [setPart, PV.known, PV.cells, PV.simple, digV_set]
theorem idx_dig (st : St) (xs : List Nat) (i : Nat) (h : i < xs.length) : idxM 1 (.lst (digV xs)) (I i) st = .ok (.cref (.int .u32 ((xs[i] : Nat) : Int)) 0) st := by
  unfold idxM
  simp [digV, h, fitsE, PV.known, PV.cells]
theorem slice_hi (st : St) (esz : Nat) (xs : List PV) (hf : fitsHd esz xs = true) (n : Nat) (h : n ≤ xs.length) : sliceM esz (.lst xs) none (some (I n)) none st = .ok (.lst (xs.take n)) st := by
  unfold sliceM
  simp only [bounds, intOf]
  rw [if_pos (by omega)]
  simp [hf]
theorem slice_lo (st : St) (esz : Nat) (xs : List PV) (hf : fitsHd esz xs = true) (n : Nat) (h : n ≤ xs.length) : sliceM esz (.lst xs) (some (I n)) none none st = .ok (.lst (xs.drop n)) st := by
  unfold sliceM
  simp only [bounds, intOf]
  rw [if_pos (by omega)]
  simp [hf]

end Go.Abs
end
/-
  NATURAL NUMBERS: Right, trim, fit, order, Cmp, Of.
-/
section
set_option linter.unusedSimpArgs false
set_option linter.unusedVariables false
namespace Go.Abs
open Go

/-- Digits that may be a number's, and are not too many. -/
def okL (xs : List Nat) : Bool := decide (xs.length ≤ 256) && decide (canonL xs)

@[simp] theorem nat_Right_ok (xs : List Nat) : F_nat_Right [.lst (digV xs)] = .ret (.bool (okL xs)) := by
  refine runP_ret (v := .bool (okL xs)) (st := St.empty) ?_ (snapD_bool _ _)
  by_cases h1 : xs.length ≤ 256
  · rcases List.eq_nil_or_concat xs with rfl | ⟨ys, d, rfl⟩
    · simp [B_nat_Right, okL, canonL]
    · have hle : (ys ++ [d]).length = ys.length + 1 := by simp
      simp only [List.concat_eq_append] at h1 ⊢
      have hw : IntKind.i64.wrap (((ys ++ [d]).length : Int) - 1) = (ys.length : Nat) := by rw [hle, wrap64] <;> omega
      have hi := idx_dig St.empty (ys ++ [d]) ys.length (by simp)
      have h1' : ((ys ++ [d]).length : Int) ≤ 256 := by omega
      have h0 : ¬ ((ys ++ [d]).length : Int) = 0 := by omega
      simp only [B_nat_Right, run_bnd, len_lst, thn_ok, cmp_leq, guardM_tt, digV_length, h1', decide_true, if_true, ret_at, cmp_eql, h0, decide_false, guardM_ff, Bool.false_eq_true, if_false, op_sub, hw, hi, load_cell, cmp_neq, pickM_at, run_leaf]
      simp only [List.getElem_concat_length, okL]
      rw [decide_eq_true (by omega : (ys ++ [d]).length ≤ 256)]
      simp [canonL]
  · have h1' : ¬ (xs.length : Int) ≤ 256 := by omega
    simp [B_nat_Right, okL, h1, h1']


theorem okL_digs (n : Nat) : okL (digs n) = decide (n < 4294967296 ^ 256) := by
  unfold okL
  rw [decide_eq_true (canon_digs n), Bool.and_true]
  exact decide_eq_decide.2 digs_len
theorem okL_canon {xs : List Nat} (hd : Dig xs) (h : okL xs = true) : xs = digs (dval xs) ∧ dval xs < 4294967296 ^ 256 := by
  unfold okL at h
  simp only [Bool.and_eq_true, decide_eq_true_eq] at h
  have h1 := digs_of_canon hd h.2
  refine ⟨h1.symm, ?_⟩
  rw [← digs_len, h1]; exact h.1
@[simp] theorem nat_Right_N (n : Nat) : F_nat_Right [N n] = .ret (.bool (decide (n < 4294967296 ^ 256))) := by rw [N, nat_Right_ok, okL_digs]

theorem trim_run (xs : List Nat) (st : St) (hx : xs.length < 2 ^ 50) (hd : Dig xs) : (B_nat_trim [.lst (digV xs)]).run st = .ok (N (dval xs)) st := by
  unfold B_nat_trim
  rw [run_loop]
  refine iter_ind _ (fun (xs : List Nat) k v st' => v = [.lst (digV xs)] ∧ st' = st ∧ k = xs.length ∧ xs.length < 2 ^ 50 ∧ Dig xs) (fun xs r => r = .ok (N (dval xs)) st) ?_ fuel xs xs.length _ _ ⟨rfl, rfl, rfl, hx, hd⟩ (by unfold fuel; omega)
  rintro xs k v st' ⟨rfl, rfl, rfl, hx, hd⟩ self ih
  rcases List.eq_nil_or_concat xs with rfl | ⟨ys, d, rfl⟩
  · simp [L_nat_trim_1, N, digV, dval, digs_zero]
  · have hle : (ys ++ [d]).length = ys.length + 1 := by simp
    simp only [List.concat_eq_append] at hx ih hd ⊢
    rw [hle] at hx
    have hw : IntKind.i64.wrap (((ys ++ [d]).length : Int) - 1) = (ys.length : Nat) := by rw [hle, wrap64] <;> omega
    have hi := idx_dig st' (ys ++ [d]) ys.length (by simp)
    have hgt : (0 : Int) < ((ys ++ [d]).length : Int) := by rw [hle]; omega
    simp only [L_nat_trim_1, run_bnd, g_zero, len_lst, thn_ok, digV_length, cmp_gtr, hgt, decide_true, guardM_tt, if_true, ret_at, op_sub, hw, hi, load_cell, cmp_eql, pickM_at, run_if, List.getElem_concat_length, run_leaf]
    by_cases h0 : d = 0
    · subst h0
      simp only [Int.natCast_zero, decide_true, if_true]
      rw [slice_hi _ _ _ (digV_hd _) _ (by simp)]
      simp only [thn_ok]
      have ht : (digV (ys ++ [0])).take ys.length = digV ys := by simp [digV]
      rw [ht]
      exact ih ys ys.length _ st' (by rw [hle]; omega) ⟨rfl, rfl, rfl, by omega, hd.left⟩ (fun r hr => by rw [hr, dval_snoc]; simp)
    · have hb : ¬ ((d : Nat) : Int) = 0 := by omega
      simp only [hb, decide_false, Bool.false_eq_true, if_false, N]
      rw [digs_of_canon hd (fun _ => by simpa using h0)]

theorem nat_trim_ok (xs : List Nat) (hx : xs.length < 2 ^ 50) (hd : Dig xs) : F_nat_trim [.lst (digV xs)] = .ret (N (dval xs)) :=
  runP_ret (trim_run xs _ hx hd) (snapD_lst _ _)

/-- What a result with its error is. -/
def resN (n : Nat) : PV := .tup [if n < 4294967296 ^ 256 then N n else .lst [], I (if n < 4294967296 ^ 256 then 0 else 3)]

theorem nat_fit_ok (xs : List Nat) (hx : xs.length < 2 ^ 50) (hd : Dig xs) : F_nat_fit [.lst (digV xs)] = .ret (resN (dval xs)) := by
  by_cases h : dval xs < 4294967296 ^ 256
  · refine runP_ret (v := .tup [N (dval xs), I 0]) (st := St.empty) ?_ ?_
    · have h1 : ¬ (256 : Int) < ((digs (dval xs)).length : Int) := by have := digs_len.2 h; omega
      simp only [B_nat_fit, run_bnd]
      rw [callP_ret (as_ := [.lst (digV xs)]) (by simp) (by simp) (nat_trim_ok xs hx hd)]
      simp [h1]
    · simp [resN, h]
  · refine runP_ret (v := .tup [.nilS, I 3]) (st := St.empty) ?_ ?_
    · have h1 : (256 : Int) < ((digs (dval xs)).length : Int) := by
        have : ¬ (digs (dval xs)).length ≤ 256 := fun hh => h (digs_len.1 hh)
        omega
      simp only [B_nat_fit, run_bnd]
      rw [callP_ret (as_ := [.lst (digV xs)]) (by simp) (by simp) (nat_trim_ok xs hx hd)]
      simp [h1]
    · simp [resN, h]

end Go.Abs
end
/-
  NATURAL NUMBERS: order, Cmp, Of; words of 32 bits.
-/
section
set_option linter.unusedSimpArgs false
set_option linter.unusedVariables false
namespace Go.Abs
open Go

/-- How two numbers follow each other. -/
def cmpN (a b : Nat) : Int := if a < b then -1 else if b < a then 1 else 0

theorem dval_lt_of_len {xs ys : List Nat} (hx : Dig xs) (hy : canonL ys) (hyd : Dig ys) (h : xs.length < ys.length) : dval xs < dval ys := by
  have h1 := dval_lt hx
  have h2 : ¬ dval ys < 4294967296 ^ xs.length := fun hh => by
    have := digs_len.2 hh
    rw [digs_of_canon hyd hy] at this; omega
  omega

theorem order_run (xs ys : List Nat) (st : St) (hl : xs.length = ys.length) (hx : Dig xs) (hy : Dig ys) (hb : xs.length < 2 ^ 50) :
    ∀ (i : Nat), i ≤ xs.length → xs.drop i = ys.drop i → iter fuel (fun self v => (L_nat_order_1 self v).run) [.lst (digV xs), .lst (digV ys), I ((i : Int) - 1)] st = .ok (I (cmpN (dval xs) (dval ys))) st := by
  intro i hi hd
  refine loop_ind (α := Nat) _ (fun i k v st' => v = [.lst (digV xs), .lst (digV ys), I ((i : Int) - 1)] ∧ st' = st ∧ k = i ∧ i ≤ xs.length ∧ xs.drop i = ys.drop i) (fun r => r = .ok (I (cmpN (dval xs) (dval ys))) st) ?_ fuel i i _ _ ⟨rfl, rfl, rfl, hi, hd⟩ (by unfold fuel; omega)
  rintro i k v st' ⟨rfl, rfl, rfl, hi, hd⟩ self ih
  cases k with
  | zero =>
    have he : xs = ys := by simpa using hd
    subst he
    have h1 : ¬ (0 : Int) ≤ ((0 : Nat) : Int) - 1 := by omega
    simp [L_nat_order_1, h1, cmpN]
  | succ i =>
    have h1 : (0 : Int) ≤ (i : Int) := by omega
    have e1 : (((i + 1 : Nat) : Int) - 1) = (i : Int) := by omega
    have hix : i < xs.length := by omega
    have hiy : i < ys.length := by omega
    rw [e1]
    have d1 := idx_dig st' xs i hix
    have d2 := idx_dig st' ys i hiy
    -- the value by the digit and what is above
    have v1 := dval_take_drop xs (i + 1) (by omega)
    have v2 := dval_take_drop ys (i + 1) (by omega)
    have t1 : xs.take (i + 1) = xs.take i ++ [xs[i]] := by rw [List.take_add_one, List.getElem?_eq_getElem hix]; rfl
    have t2 : ys.take (i + 1) = ys.take i ++ [ys[i]] := by rw [List.take_add_one, List.getElem?_eq_getElem hiy]; rfl
    rw [t1, dval_snoc, List.length_take, Nat.min_eq_left (by omega)] at v1
    rw [t2, dval_snoc, List.length_take, Nat.min_eq_left (by omega), ← hd] at v2
    have b1 := dval_lt (hx.take i)
    have b2 := dval_lt (hy.take i)
    rw [List.length_take, Nat.min_eq_left (by omega)] at b1 b2
    have step : ∀ a b : Nat, a < b → 4294967296 ^ i * a + 4294967296 ^ i ≤ 4294967296 ^ i * b := fun a b h => by
      rw [← Nat.mul_succ]; exact Nat.mul_le_mul_left _ h
    by_cases hlt : xs[i] < ys[i]
    · have hlt' : ((xs[i] : Nat) : Int) < ((ys[i] : Nat) : Int) := by omega
      have := step _ _ hlt
      have hc : dval xs < dval ys := by omega
      simp [L_nat_order_1, h1, d1, d2, hlt', cmpN, hc]
    · have hlt' : ¬ ((xs[i] : Nat) : Int) < ((ys[i] : Nat) : Int) := by omega
      by_cases hgt : ys[i] < xs[i]
      · have hgt' : ((ys[i] : Nat) : Int) < ((xs[i] : Nat) : Int) := by omega
        have := step _ _ hgt
        have hc : dval ys < dval xs := by omega
        have hc' : ¬ dval xs < dval ys := by omega
        simp [L_nat_order_1, h1, d1, d2, hlt', hgt', cmpN, hc, hc']
      · have hgt' : ¬ ((ys[i] : Nat) : Int) < ((xs[i] : Nat) : Int) := by omega
        have heq : xs[i] = ys[i] := by omega
        have hw : IntKind.i64.wrap ((i : Int) - 1) = (i : Int) - 1 := wrap64 _ (by omega) (by omega)
        simp only [L_nat_order_1, run_bnd, g_zero, g_succ, cmp_geq, h1, decide_true, thn_ok, run_if, if_true, d1, d2, load_cell, cmp_lss, hlt', decide_false, Bool.false_eq_true, if_false, cmp_gtr, hgt', op_sub, hw, run_leaf]
        refine ih i i _ st' (by omega) ⟨rfl, rfl, rfl, by omega, ?_⟩
        rw [List.drop_eq_getElem_cons hix, List.drop_eq_getElem_cons hiy, heq, hd]

theorem nat_order_ok (a b : Nat) (ha : (digs a).length < 2 ^ 50) (hb : (digs b).length < 2 ^ 50) : F_nat_order [N a, N b] = .ret (I (cmpN a b)) := by
  refine runP_ret (v := I (cmpN a b)) (st := St.empty) ?_ (snapD_int _ _ _)
  by_cases h : (digs a).length = (digs b).length
  · have h' : ((digs a).length : Int) = ((digs b).length : Int) := by omega
    have hw : IntKind.i64.wrap (((digs b).length : Int) - 1) = ((digs a).length : Int) - 1 := by rw [h']; exact wrap64 _ (by omega) (by omega)
    have := order_run (digs a) (digs b) St.empty h (dig_digs a) (dig_digs b) ha (digs a).length (Nat.le_refl _) (by rw [List.drop_length, h, List.drop_length])
    rw [dval_digs, dval_digs] at this
    rw [← this]
    simp [B_nat_order, h', hw, N]
  · have h' : ¬ ((digs a).length : Int) = ((digs b).length : Int) := by omega
    have hw : IntKind.i64.wrap (((digs a).length : Int) - ((digs b).length : Int)) = ((digs a).length : Int) - ((digs b).length : Int) := wrap64 _ (by omega) (by omega)
    rcases Nat.lt_or_gt_of_ne h with hlt | hgt
    · have hc := dval_lt_of_len (dig_digs a) (canon_digs b) (dig_digs b) hlt
      rw [dval_digs, dval_digs] at hc
      have e : (-1 : Int) > ((digs a).length : Int) - ((digs b).length : Int) ∨ (-1 : Int) = ((digs a).length : Int) - ((digs b).length : Int) := by omega
      rcases e with e | e
      · simp [B_nat_order, h', hw, N, maxI, maxStep, intOnly, minI, minStep, e, cmpN, hc]
      · simp [B_nat_order, h', hw, N, maxI, maxStep, intOnly, minI, minStep, ← e, cmpN, hc]
    · have hc := dval_lt_of_len (dig_digs b) (canon_digs a) (dig_digs a) hgt
      rw [dval_digs, dval_digs] at hc
      have hc' : ¬ a < b := by omega
      have e1 : ¬ (-1 : Int) > ((digs a).length : Int) - ((digs b).length : Int) := by omega
      have e2 : (1 : Int) < ((digs a).length : Int) - ((digs b).length : Int) ∨ 1 = ((digs a).length : Int) - ((digs b).length : Int) := by omega
      rcases e2 with e2 | e2
      · simp [B_nat_order, h', hw, N, maxI, maxStep, intOnly, minI, minStep, e1, e2, cmpN, hc, hc']
      · simp [B_nat_order, h', hw, N, maxI, maxStep, intOnly, minI, minStep, e1, ← e2, cmpN, hc, hc']

theorem fit_len {a : Nat} (ha : a < 4294967296 ^ 256) : (digs a).length < 2 ^ 50 := by have := digs_len.2 ha; omega

theorem nat_Cmp_ok (a b : Nat) (ha : a < 4294967296 ^ 256) (hb : b < 4294967296 ^ 256) : F_nat_Cmp [N a, N b] = .ret (.tup [I (cmpN a b), I 0]) := by
  refine runP_ret (v := .tup [I (cmpN a b), I 0]) (st := St.empty) ?_ (by simp)
  simp [B_nat_Cmp, ha, hb, nat_order_ok a b (fit_len ha) (fit_len hb)]

end Go.Abs
end
/-
  NATURAL NUMBERS: Of, Add, Sub; words of 32 bits.
-/
section
set_option linter.unusedSimpArgs false
set_option linter.unusedVariables false
namespace Go.Abs
open Go

theorem build_two (st : St) (esz : Nat) (ag : Bool) (z v w : PV) (h : fitsE esz v = true) (ha : ag = isAggV v) (h' : fitsE esz w = true) (ha' : ag = isAggV w) (hs : esz ≤ 2 ^ 23) :
    buildSliceM none esz ag z 2 [(0, v), (1, w)] st = .ok (.sl st.nx 2 0 2) ⟨upd st.H st.nx (some ⟨esz, [v, w]⟩), st.nx + 1, st.dead⟩ := by
  have h2 : ([v, w].all (fitsE esz)) = true := by simp [h, h']
  have h3 : 2 * esz ≤ 2 ^ 24 := by omega
  have e1 : fillE esz ag (List.replicate 2 z) [(0, v), (1, w)] = some [v, w] := by
    have : ag = isAggV w := ha'
    simp only [fillE, List.replicate, List.length_cons, List.length_nil, h, h', List.set]
    simp [← ha, ← ha']
  simp only [buildSliceM, e1, h3, if_true, withId, newAt, h2]

theorem add32_ok (x y c : Nat) (hx : x < 4294967296) (hy : y < 4294967296) (hc : c ≤ 1) :
    F_bits_Add32 [.int .u32 x, .int .u32 y, .int .u32 c] = .ret (.tup [.int .u32 (((x + y + c) % 4294967296 : Nat) : Int), .int .u32 (((x + y + c) / 4294967296 : Nat) : Int)]) := by
  refine runP_ret (v := .tup [.int .u32 (((x + y + c) % 4294967296 : Nat) : Int), .int .u32 (((x + y + c) / 4294967296 : Nat) : Int)]) (st := St.empty) ?_ (by simp)
  have e1 : IntKind.u64.wrap (x : Int) = x := wrapu64 _ (by omega) (by omega)
  have e2 : IntKind.u64.wrap (y : Int) = y := wrapu64 _ (by omega) (by omega)
  have e3 : IntKind.u64.wrap (c : Int) = c := wrapu64 _ (by omega) (by omega)
  have e4 : IntKind.u64.wrap ((x : Int) + y) = x + y := wrapu64 _ (by omega) (by omega)
  have e5 : IntKind.u64.wrap ((x : Int) + y + c) = x + y + c := wrapu64 _ (by omega) (by omega)
  have e6 : ((x : Int) + y + c).fdiv (2 ^ (min (32 : Int).toNat IntKind.u64.bits)) = ((x : Int) + y + c) / 4294967296 := by
    show ((x : Int) + y + c).fdiv 4294967296 = _
    rw [Int.fdiv_eq_ediv_of_nonneg _ (by omega)]
  have e7 : IntKind.u32.wrap (((x : Int) + y + c) / 4294967296) = ((x : Int) + y + c) / 4294967296 := wrapu32 _ (by omega) (by omega)
  simp only [B_bits_Add32, run_bnd, conv_at, thn_ok, op_add, e1, e2, e3, e4, e5, op_shr _ _ _ _ _ 32 (by omega), e6, e7, IntKind.wrap_u32, run_leaf, ret_at]
  have e8 : ((x : Int) + y + c) / 4294967296 = (((x + y + c) / 4294967296 : Nat) : Int) := by omega
  have e9 : ((x : Int) + y + c) % 4294967296 = (((x + y + c) % 4294967296 : Nat) : Int) := by omega
  rw [e8, e9]

/-! ### the borrow of a difference, by bits -/
theorem msb_nat (x : BitVec 32) : (x.toNat / 2147483648 : Nat) = if x.msb = true then 1 else 0 := by
  have h := BitVec.msb_eq_decide x
  have hx := x.isLt
  by_cases hb : 2147483648 ≤ x.toNat
  · rw [if_pos (by rw [h]; simpa using hb)]; omega
  · rw [if_neg (by rw [h]; simpa using hb)]; omega

theorem borrow_bits (x y : BitVec 32) (b : Nat) (hb : b ≤ 1) (d : BitVec 32) (hd : d.toNat = (x.toNat + 2 * 4294967296 - y.toNat - b) % 4294967296) :
    ((~~~x &&& y) ||| (~~~(x ^^^ y) &&& d)).toNat / 2147483648 = if x.toNat < y.toNat + b then 1 else 0 := by
  rw [msb_nat]
  have hx := x.isLt
  have hy := y.isLt
  have m1 := BitVec.msb_eq_decide x
  have m2 := BitVec.msb_eq_decide y
  have m3 := BitVec.msb_eq_decide d
  have e : ((~~~x &&& y) ||| (~~~(x ^^^ y) &&& d)).msb = ((!x.msb && y.msb) || (!(x.msb ^^ y.msb) && d.msb)) := by
    rw [BitVec.msb_or, BitVec.msb_and, BitVec.msb_and, BitVec.msb_not, BitVec.msb_not, BitVec.msb_xor]
    simp
  rw [e, m1, m2, m3]
  by_cases hx1 : 2147483648 ≤ x.toNat <;> by_cases hy1 : 2147483648 ≤ y.toNat <;> by_cases hd1 : 2147483648 ≤ d.toNat <;>
    simp [hx1, hy1, hd1] <;> omega

theorem wrap_toNat (x : BitVec 32) : IntKind.u32.wrap (x.toNat : Int) = x.toNat := wrapu32 _ (by omega) (by have := x.isLt; omega)
theorem bit_and (st : St) (ty : TI) (x y : BitVec 32) : binM .and ty (.int .u32 x.toNat) (.int .u32 y.toNat) st = .ok (.int .u32 (x &&& y).toNat) st := by
  simp only [binM, binV, binI, if_true, opt, ret, IntKind.bits, BitVec.ofInt_natCast, BitVec.ofNat_toNat, BitVec.setWidth_eq, wrap_toNat]
  rfl
theorem bit_or (st : St) (ty : TI) (x y : BitVec 32) : binM .or ty (.int .u32 x.toNat) (.int .u32 y.toNat) st = .ok (.int .u32 (x ||| y).toNat) st := by
  simp only [binM, binV, binI, if_true, opt, ret, IntKind.bits, BitVec.ofInt_natCast, BitVec.ofNat_toNat, BitVec.setWidth_eq, wrap_toNat]
  rfl
theorem bit_xor (st : St) (ty : TI) (x y : BitVec 32) : binM .xor ty (.int .u32 x.toNat) (.int .u32 y.toNat) st = .ok (.int .u32 (x ^^^ y).toNat) st := by
  simp only [binM, binV, binI, if_true, opt, ret, IntKind.bits, BitVec.ofInt_natCast, BitVec.ofNat_toNat, BitVec.setWidth_eq, wrap_toNat]
  rfl
theorem bit_not (st : St) (x : BitVec 32) : unM .xor (.int .u32 x.toNat) st = .ok (.int .u32 (~~~x).toNat) st := by
  have e : BitVec.ofInt 32 (if IntKind.u32.signed = true then -1 else IntKind.u32.max) ^^^ x = ~~~x := by
    have : BitVec.ofInt 32 (if IntKind.u32.signed = true then -1 else IntKind.u32.max) = BitVec.allOnes 32 := by decide
    rw [this, BitVec.allOnes_xor]
  have e2 : unM .xor (.int .u32 x.toNat) st = .ok (.int .u32 (IntKind.u32.wrap ((BitVec.ofInt 32 (if IntKind.u32.signed = true then -1 else IntKind.u32.max) ^^^ BitVec.ofInt 32 (x.toNat : Int)).toNat : Int))) st := (rfl)
  rw [e2, BitVec.ofInt_natCast, BitVec.ofNat_toNat, BitVec.setWidth_eq, e, wrap_toNat]

theorem sub32_ok (x y b : Nat) (hx : x < 4294967296) (hy : y < 4294967296) (hb : b ≤ 1) :
    F_bits_Sub32 [.int .u32 x, .int .u32 y, .int .u32 b] = .ret (.tup [.int .u32 (((x + 2 * 4294967296 - y - b) % 4294967296 : Nat) : Int), .int .u32 ((if x < y + b then 1 else 0 : Nat) : Int)]) := by
  refine runP_ret (v := .tup [.int .u32 (((x + 2 * 4294967296 - y - b) % 4294967296 : Nat) : Int), .int .u32 ((if x < y + b then 1 else 0 : Nat) : Int)]) (st := St.empty) ?_ (by simp)
  obtain ⟨X, rfl⟩ : ∃ X : BitVec 32, X.toNat = x := ⟨BitVec.ofNat 32 x, by simp; omega⟩
  obtain ⟨Y, rfl⟩ : ∃ Y : BitVec 32, Y.toNat = y := ⟨BitVec.ofNat 32 y, by simp; omega⟩
  obtain ⟨D, hD⟩ : ∃ D : BitVec 32, D.toNat = (X.toNat + 2 * 4294967296 - Y.toNat - b) % 4294967296 := ⟨BitVec.ofNat 32 ((X.toNat + 2 * 4294967296 - Y.toNat - b) % 4294967296), by simp⟩
  have e1 : IntKind.u32.wrap (IntKind.u32.wrap ((X.toNat : Int) - Y.toNat) - b) = D.toNat := by
    rw [hD, IntKind.wrap_u32, IntKind.wrap_u32]; omega
  have e2 : (((~~~X &&& Y) ||| (~~~(X ^^^ Y) &&& D)).toNat : Int).fdiv (2 ^ (min (31 : Int).toNat IntKind.u32.bits)) = ((if X.toNat < Y.toNat + b then 1 else 0 : Nat) : Int) := by
    show (((~~~X &&& Y) ||| (~~~(X ^^^ Y) &&& D)).toNat : Int).fdiv 2147483648 = _
    rw [Int.fdiv_eq_ediv_of_nonneg _ (by omega), ← borrow_bits X Y b hb D hD]
    omega
  have e3 : IntKind.u32.wrap ((if X.toNat < Y.toNat + b then 1 else 0 : Nat) : Int) = ((if X.toNat < Y.toNat + b then 1 else 0 : Nat) : Int) := by
    split <;> rfl
  rw [← hD]
  simp only [B_bits_Sub32, run_bnd, op_sub, thn_ok, e1, bit_not, bit_and, bit_or, bit_xor, op_shr _ _ _ _ _ 31 (by omega), e2, e3, run_leaf, ret_at]

/-! ### Of -/
theorem nat_Of_ok (n : Nat) (h : n < 18446744073709551616) : F_nat_Of [.int .u64 n] = .ret (N n) := by
  refine runP_rets (v := N n) ?_ (fun H => snapD_lst _ _)
  have e1 : IntKind.u32.wrap (n : Int) = ((n % 4294967296 : Nat) : Int) := by rw [IntKind.wrap_u32]; omega
  have e2 : (n : Int).fdiv (2 ^ (min (32 : Int).toNat IntKind.u64.bits)) = ((n / 4294967296 : Nat) : Int) := by
    show (n : Int).fdiv 4294967296 = _
    rw [Int.fdiv_eq_ediv_of_nonneg _ (by omega)]; omega
  have e3 : IntKind.u64.wrap ((n / 4294967296 : Nat) : Int) = ((n / 4294967296 : Nat) : Int) := wrapu64 _ (by omega) (by omega)
  have e4 : IntKind.u32.wrap ((n / 4294967296 : Nat) : Int) = ((n / 4294967296 : Nat) : Int) := wrapu32 _ (by omega) (by omega)
  simp only [B_nat_Of, run_bnd, conv_at, thn_ok, op_shr _ _ _ _ _ 32 (by omega), e1, e2, e3, e4]
  rw [build_two St.empty 1 false (.int .u32 0) (.int .u32 ((n % 4294967296 : Nat) : Int)) (.int .u32 ((n / 4294967296 : Nat) : Int)) rfl rfl rfl rfl (by omega)]
  simp only [thn_ok, run_bnd]
  have hd : Dig [n % 4294967296, n / 4294967296] := Dig.cons (by omega) (Dig.cons (by omega) Dig.nil)
  have hv : dval [n % 4294967296, n / 4294967296] = n := by simp only [dval]; omega
  have ht := nat_trim_ok [n % 4294967296, n / 4294967296] (by simp) hd
  rw [hv] at ht
  obtain ⟨st', hc⟩ := callP_frz (own := none) (mp := true) (args := [PV.sl 0 2 0 2]) (st := ⟨upd St.empty.H 0 (some ⟨1, digV [n % 4294967296, n / 4294967296]⟩), 1, St.empty.dead⟩)
    (snapL_sl_dig (xs := [n % 4294967296, n / 4294967296]) (id := 0) (sz := 1) (by simp) (by simp)) ht
  have hc' : callP true none true F_nat_trim [PV.sl St.empty.nx 2 0 2] ⟨upd St.empty.H St.empty.nx (some ⟨1, [PV.int .u32 ((n % 4294967296 : Nat) : Int), PV.int .u32 ((n / 4294967296 : Nat) : Int)]⟩), St.empty.nx + 1, St.empty.dead⟩ = takeM none (N n) st' := hc
  rw [hc']
  simp

end Go.Abs
end
/-
  NATURAL NUMBERS: Add, Sub.
-/
section
set_option linter.unusedSimpArgs false
set_option linter.unusedVariables false
namespace Go.Abs
open Go

theorem dval_drop (xs : List Nat) (i : Nat) : dval (xs.drop i) = xs.getD i 0 + 4294967296 * dval (xs.drop (i + 1)) := by
  by_cases h : i < xs.length
  · rw [List.drop_eq_getElem_cons h, dval]; simp [h]
  · rw [List.drop_eq_nil_of_le (by omega), List.drop_eq_nil_of_le (by omega)]; simp [dval, h]
theorem dig_getD {xs : List Nat} (h : Dig xs) (i : Nat) : xs.getD i 0 < 4294967296 := by
  by_cases hi : i < xs.length
  · simp [hi]; exact h.at hi
  · simp [hi]

/-- The rest of a sum: digits that are done, a carry, and digits to come. -/
theorem add_run (xs ys : List Nat) (hl : ys.length ≤ xs.length) (hx : Dig xs) (hy : Dig ys) (hb : xs.length ≤ 1000) (st : St) (id : Nat) (hid : id < st.nx) (h0 : st.H id = some ⟨1, digV []⟩) :
    Rets (resN (dval xs + dval ys)) (iter fuel (fun self v => (L_nat_Add_1 self v).run) [.lst (digV ys), .sl id 0 0 0, .int .u32 0, .lst (digV xs), I xs.length, I 0] st) := by
  refine loop_ind (α := Nat × Nat × List Nat) _ (fun a k v st' => ∃ i c out, a = (i, c, out) ∧ v = [.lst (digV ys), .sl id i 0 i, .int .u32 (c : Int), .lst (digV xs), I xs.length, I i] ∧ k = xs.length - i ∧ i ≤ xs.length ∧ c ≤ 1 ∧ Dig out ∧ out.length = i ∧ id < st'.nx ∧
      st'.H id = some ⟨1, digV out⟩ ∧ dval out + 4294967296 ^ i * (c + (dval (xs.drop i) + dval (ys.drop i))) = dval xs + dval ys) (fun r => Rets (resN (dval xs + dval ys)) r) ?_ fuel (0, 0, []) xs.length _ _
    ⟨0, 0, [], rfl, rfl, by omega, by omega, by omega, Dig.nil, rfl, hid, h0, by simp [dval]⟩ (by unfold fuel; omega)
  rintro _ k v st' ⟨i, c, out, rfl, rfl, rfl, hi, hc, hdo, hlo, hid', hH, hv⟩ self ih
  by_cases hlt : i < xs.length
  · have hlt' : (i : Int) < (xs.length : Int) := by omega
    have d1 := idx_dig st' xs i hlt
    have hxi : xs[i] = xs.getD i 0 := by simp [hlt]
    have bx := dig_getD hx i
    have by' := dig_getD hy i
    have hw : IntKind.i64.wrap ((i : Int) + 1) = ((i + 1 : Nat) : Int) := by rw [wrap64] <;> omega
    have ha := add32_ok (xs.getD i 0) (ys.getD i 0) c bx by' hc
    -- the same, whichever way the second digit came
    have key : ((J_nat_Add_1 self) [.lst (digV ys), .sl id i 0 i, .int .u32 (c : Int), .int .u32 ((xs.getD i 0 : Nat) : Int), .int .u32 ((ys.getD i 0 : Nat) : Int), .lst (digV xs), I xs.length, I i]).run st' =
        (L_nat_Add_1 self [.lst (digV ys), .sl id i 0 i, .int .u32 (c : Int), .lst (digV xs), I xs.length, I i]).run st' := by
      by_cases hy1 : i < ys.length
      · have hy1' : (i : Int) < (ys.length : Int) := by omega
        have d2 := idx_dig st' ys i hy1
        have hyi : ys[i] = ys.getD i 0 := by simp [hy1]
        simp [L_nat_Add_1, hlt', hy1', d1, d2, hxi, hyi]
      · have hy1' : ¬ (i : Int) < (ys.length : Int) := by omega
        have hyi : ys.getD i 0 = 0 := by simp [hy1]
        rw [hyi]
        simp [L_nat_Add_1, hlt', hy1', d1, hxi]
    rw [← key]
    simp only [J_nat_Add_1, g_zero, g_succ, run_bnd]
    rw [callP_eq (by simp) (by simp)]
    simp only [snapDL_cons, snap_cons, snap_nil, snap_int, Option.getD_some, ha, callK_ret, take_none_tup, thn_ok, extract_zero, extract_one, run_bnd]
    have hp := push_run st' 1 4 false (.int .u32 0) (.int .u32 (((xs.getD i 0 + ys.getD i 0 + c) % 4294967296 : Nat) : Int)) id (digV out) hH hid' rfl rfl (by omega) (by omega) (by simp [mostBytes]) (by simp [mostLen, hlo]; omega)
      (fun t29 => .bnd (binM .add ty_int (I i) (I 1)) fun t30 => .leaf (self [.lst (digV ys), t29, .int .u32 (((xs.getD i 0 + ys.getD i 0 + c) / 4294967296 : Nat) : Int), .lst (digV xs), I xs.length, t30]))
    obtain ⟨st2, e1, e2, e3, e4, e5⟩ := hp
    simp only [digV_length, hlo, run_bnd] at e1
    rw [e1]
    simp only [op_add, hw, thn_ok, run_leaf]
    have hdo' : Dig (out ++ [(xs.getD i 0 + ys.getD i 0 + c) % 4294967296]) := hdo.app (Dig.cons (Nat.mod_lt _ (by omega)) Dig.nil)
    refine ih (i + 1, (xs.getD i 0 + ys.getD i 0 + c) / 4294967296, out ++ [(xs.getD i 0 + ys.getD i 0 + c) % 4294967296]) (xs.length - (i + 1)) _ st2 (by omega) ⟨i + 1, _, _, rfl, rfl, rfl, by omega, by omega, hdo', by simp [hlo], by omega, ?_, ?_⟩
    · rw [e2, digV_app]; rfl
    · rw [dval_snoc, hlo]
      rw [dval_drop xs i, dval_drop ys i] at hv
      rw [← hv, Nat.pow_succ, Nat.mul_assoc, Nat.add_assoc, ← Nat.mul_add]
      congr 2
      have := Nat.mod_add_div (xs.getD i 0 + ys.getD i 0 + c) 4294967296
      omega
  · have hi' : i = xs.length := by omega
    have hlt' : ¬ (i : Int) < (xs.length : Int) := by omega
    simp only [L_nat_Add_1, run_bnd, g_zero, g_succ, cmp_lss, hlt', decide_false, thn_ok, run_if, Bool.false_eq_true, if_false]
    have hp := push_run st' 1 4 false (.int .u32 0) (.int .u32 (c : Int)) id (digV out) hH hid' rfl rfl (by omega) (by omega) (by simp [mostBytes]) (by simp [mostLen, hlo]; omega)
      (fun t34 => .bnd (callP true none true F_nat_fit [t34]) fun t35 => .bnd (extractM t35 0) fun t36 => .bnd (extractM t35 1) fun t37 => .leaf (ret (.tup [t36, t37])))
    obtain ⟨st2, e1, e2, e3, e4, e5⟩ := hp
    simp only [digV_length, hlo, run_bnd] at e1
    rw [e1]
    have hdo' : Dig (out ++ [c]) := hdo.app (Dig.cons (by omega) Dig.nil)
    have hf := nat_fit_ok (out ++ [c]) (by simp; omega) hdo'
    have hvv : dval (out ++ [c]) = dval xs + dval ys := by
      rw [dval_snoc, hlo, ← hv, hi', List.drop_length, List.drop_eq_nil_of_le hl]; simp [dval]
    rw [hvv] at hf
    have hs := snapL_sl_dig (H := st2.H) (id := id) (sz := 1) (xs := out ++ [c]) (by rw [e2, digV_app]; rfl) (by simp; omega)
    rw [List.length_append, hlo] at hs
    obtain ⟨st3, hc3⟩ := callP_frz (own := none) (mp := true) (F := F_nat_fit) hs hf
    simp only [List.length_singleton] at hc3
    rw [hc3]
    simp [resN]

theorem nat_Add_ok (a b : Nat) (ha : a < 4294967296 ^ 256) (hb : b < 4294967296 ^ 256) : F_nat_Add [N a, N b] = .ret (resN (a + b)) := by
  refine runP_rets (v := resN (a + b)) ?_ (fun H => by simp only [resN]; split <;> simp)
  have la := digs_len.2 ha
  have lb := digs_len.2 hb
  -- the loop, with the longer one first
  have go : ∀ x y : Nat, x < 4294967296 ^ 256 → y < 4294967296 ^ 256 → (digs y).length ≤ (digs x).length → x + y = a + b → Rets (resN (a + b)) ((J_nat_Add_2 [N x, N y]).run St.empty) := fun x y hx hy hl he => by
    have lx := digs_len.2 hx
    have hw : IntKind.i64.wrap (((digs x).length : Int) + 1) = (digs x).length + 1 := by rw [wrap64] <;> omega
    simp only [J_nat_Add_2, run_bnd, g_zero, g_succ, len_N, thn_ok, op_add, hw]
    rw [make_zero _ _ _ _ _ (by omega) (by omega) (by omega) (by omega)]
    simp only [thn_ok, run_bnd, len_N, run_loop]
    have := add_run (digs x) (digs y) hl (dig_digs x) (dig_digs y) (by omega) ⟨upd St.empty.H St.empty.nx (some ⟨1, []⟩), St.empty.nx + 1, St.empty.dead⟩ 0 (by simp [St.empty]) (by simp [St.empty, digV])
    rw [dval_digs, dval_digs, he] at this
    exact this
  by_cases hlt : (digs a).length < (digs b).length
  · have hlt' : ((digs a).length : Int) < ((digs b).length : Int) := by omega
    simp [B_nat_Add, ha, hb, hlt']
    exact go b a hb ha (by omega) (by omega)
  · have hlt' : ¬ ((digs a).length : Int) < ((digs b).length : Int) := by omega
    simp [B_nat_Add, ha, hb, hlt']
    exact go a b ha hb (by omega) rfl

end Go.Abs
end
