/-
  THE FORMS of the law's arguments.
-/
import Derived.Test.YtliomhbmlclmeaaGreatGR
import Derived.Test.YtliomhbmlclmeaaGreatLI
set_option linter.unusedSimpArgs false
set_option linter.unusedVariables false
namespace Go.Abs
open Go

def tyInt : Ty := .struct (.cons .bool (.cons (.slice (.int .u32)) .nil))
def tyRat : Ty := .struct (.cons tyInt (.cons tyInt .nil))
def tyI64s : Ty := .slice (.int .i64)
def tyProgram : Ty := .struct (.cons tyI64s (.cons tyI64s (.cons (.slice tyI64s) (.cons tyI64s (.cons tyI64s .nil)))))

theorem u32s_of : ∀ {xs : List PV}, (∀ x ∈ xs, ∃ n : Int, [x] = [PV.int .u32 n] ∧ IntKind.u32.min ≤ n ∧ n ≤ IntKind.u32.max) → ∃ ds, xs = digV ds ∧ Dig ds
  | [], _ => ⟨[], rfl, Dig.nil⟩
  | x :: xs, h => by
    obtain ⟨ds, h1, h2⟩ := u32s_of (xs := xs) fun y hy => h y (by simp [hy])
    obtain ⟨n, e, k1, k2⟩ := h x (by simp)
    have m1 : IntKind.u32.min = 0 := rfl
    have m2 : IntKind.u32.max = 4294967295 := rfl
    refine ⟨n.toNat :: ds, ?_, Dig.cons (by omega) h2⟩
    have : ((n.toNat : Nat) : Int) = n := by omega
    simp only [List.cons.injEq, and_true] at e
    rw [e, h1]
    simp [digV, this]
def in64 (l : List Int) : Prop := ∀ n ∈ l, -9223372036854775808 ≤ n ∧ n ≤ 9223372036854775807
theorem i64s_of : ∀ {xs : List PV}, (∀ x ∈ xs, ∃ n : Int, [x] = [PV.int .i64 n] ∧ IntKind.i64.min ≤ n ∧ n ≤ IntKind.i64.max) → ∃ l : List Int, xs = l.map (fun n => I n) ∧ in64 l
  | [], _ => ⟨[], rfl, fun n h => by cases h⟩
  | x :: xs, h => by
    obtain ⟨l, h1, h2⟩ := i64s_of (xs := xs) fun y hy => h y (by simp [hy])
    obtain ⟨n, e, k1, k2⟩ := h x (by simp)
    have m1 : IntKind.i64.min = -9223372036854775808 := rfl
    have m2 : IntKind.i64.max = 9223372036854775807 := rfl
    simp only [List.cons.injEq, and_true] at e
    refine ⟨n :: l, by rw [e, h1]; rfl, fun m hm => ?_⟩
    rcases List.mem_cons.1 hm with rfl | hm
    · omega
    · exact h2 m hm
theorem sh_i64s {x : PV} (h : tyI64s.sh [x]) : ∃ l, x = intsV l ∧ in64 l := by
  unfold tyI64s at h
  simp only [Ty.sh] at h
  obtain ⟨xs, e, _, hx⟩ := h
  obtain ⟨l, h1, h2⟩ := i64s_of fun y hy => (hx y hy).2 rfl
  simp only [List.cons.injEq, and_true] at e
  exact ⟨l, by rw [e, h1]; rfl, h2⟩
theorem rows_of : ∀ {xs : List PV}, (∀ x ∈ xs, tyI64s.sh [x]) → ∃ l : List (List Int), xs = l.map intsV ∧ ∀ r ∈ l, in64 r
  | [], _ => ⟨[], rfl, fun n h => by cases h⟩
  | x :: xs, h => by
    obtain ⟨l, h1, h2⟩ := rows_of (xs := xs) fun y hy => h y (by simp [hy])
    obtain ⟨r, e, k⟩ := sh_i64s (h x (by simp))
    refine ⟨r :: l, by rw [e, h1]; rfl, fun m hm => ?_⟩
    rcases List.mem_cons.1 hm with rfl | hm
    · exact k
    · exact h2 m hm
theorem sh_cons {f fs : Ty} {ps : List PV} (h : (Ty.cons f fs).sh ps) : ∃ a b, ps = a ++ b ∧ a.length = f.size ∧ f.sh a ∧ fs.sh b := by
  simpa only [Ty.sh] using h
theorem sh_one {f fs : Ty} {ps : List PV} (h : (Ty.cons f fs).sh ps) (hs : f.size = 1) : ∃ x b, ps = x :: b ∧ f.sh [x] ∧ fs.sh b := by
  obtain ⟨a, b, e, hl, h1, h2⟩ := sh_cons h
  rw [hs] at hl
  match a, hl with
  | [x], _ => exact ⟨x, b, e, h1, h2⟩
theorem sh_nil {ps : List PV} (h : Ty.nil.sh ps) : ps = [] := by simpa only [Ty.sh] using h
theorem sh_struct {fs : Ty} {ps : List PV} (h : (Ty.struct fs).sh ps) : fs.sh ps := by simpa only [Ty.sh] using h
theorem sh_program {x : PV} (h : tyProgram.shV x) : ∃ p : LP, x = progV p ∧ in64 p.lo ∧ in64 p.hi ∧ in64 p.b ∧ in64 p.c ∧ ∀ r ∈ p.a, in64 r := by
  obtain ⟨cs, rfl, hs⟩ := h.1 rfl
  unfold tyProgram at hs
  obtain ⟨x1, b1, rfl, k1, hs⟩ := sh_one (sh_struct hs) rfl
  obtain ⟨x2, b2, rfl, k2, hs⟩ := sh_one hs rfl
  obtain ⟨x3, b3, rfl, k3, hs⟩ := sh_one hs rfl
  obtain ⟨x4, b4, rfl, k4, hs⟩ := sh_one hs rfl
  obtain ⟨x5, b5, rfl, k5, hs⟩ := sh_one hs rfl
  have := sh_nil hs
  subst this
  obtain ⟨lo, rfl, m1⟩ := sh_i64s k1
  obtain ⟨hi, rfl, m2⟩ := sh_i64s k2
  obtain ⟨bb, rfl, m4⟩ := sh_i64s k4
  obtain ⟨c, rfl, m5⟩ := sh_i64s k5
  simp only [Ty.sh] at k3
  obtain ⟨xs, e, _, hx⟩ := k3
  obtain ⟨a, rfl, m3⟩ := rows_of fun y hy => (hx y hy).2 rfl
  simp only [List.cons.injEq, and_true] at e
  subst e
  exact ⟨⟨lo, hi, a, bb, c⟩, rfl, m1, m2, m4, m5, m3⟩
theorem sh_int {ps : List PV} (h : tyInt.sh ps) : ∃ a ds, ps = [.bool a, .lst (digV ds)] ∧ Dig ds := by
  unfold tyInt at h
  obtain ⟨x1, b1, rfl, k1, hs⟩ := sh_one (sh_struct h) rfl
  obtain ⟨x2, b2, rfl, k2, hs⟩ := sh_one hs rfl
  have := sh_nil hs
  subst this
  simp only [Ty.sh] at k1 k2
  obtain ⟨a, e1⟩ := k1
  obtain ⟨xs, e2, _, hx⟩ := k2
  obtain ⟨ds, rfl, hd⟩ := u32s_of fun y hy => by simpa only [Ty.sh] using (hx y hy).2 rfl
  simp only [List.cons.injEq, and_true] at e1 e2
  subst e1 e2
  exact ⟨a, ds, rfl, hd⟩
theorem sh_rat {x : PV} (h : tyRat.shV x) : ∃ r : Raw, x = rawV r ∧ r.dig := by
  obtain ⟨cs, rfl, hs⟩ := h.1 rfl
  unfold tyRat at hs
  obtain ⟨a1, b1, rfl, _, k1, hs⟩ := sh_cons (sh_struct hs)
  obtain ⟨a2, b2, rfl, _, k2, hs⟩ := sh_cons hs
  have := sh_nil hs
  subst this
  obtain ⟨a, m, rfl, d1⟩ := sh_int k1
  obtain ⟨b, n, rfl, d2⟩ := sh_int k2
  exact ⟨⟨a, m, b, n⟩, rfl, d1, d2⟩
theorem rats_of : ∀ {xs : List PV}, (∀ x ∈ xs, tyRat.shV x) → ∃ l : List Raw, xs = l.map rawV ∧ ∀ r ∈ l, r.dig
  | [], _ => ⟨[], rfl, fun n h => by cases h⟩
  | x :: xs, h => by
    obtain ⟨l, h1, h2⟩ := rats_of (xs := xs) fun y hy => h y (by simp [hy])
    obtain ⟨r, e, k⟩ := sh_rat (h x (by simp))
    refine ⟨r :: l, by rw [e, h1]; rfl, fun m hm => ?_⟩
    rcases List.mem_cons.1 hm with rfl | hm
    · exact k
    · exact h2 m hm
theorem sh_rats {x : PV} (h : (Ty.slice tyRat).shV x) : ∃ l : List Raw, x = rawsV l ∧ ∀ r ∈ l, r.dig := by
  have h := h.2 rfl
  simp only [Ty.sh] at h
  obtain ⟨xs, e, _, hx⟩ := h
  obtain ⟨l, rfl, hd⟩ := rats_of hx
  simp only [List.cons.injEq, and_true] at e
  subst e
  exact ⟨l, rfl, hd⟩
theorem sh_ints {x : PV} (h : tyI64s.shV x) : ∃ l, x = intsV l ∧ in64 l := sh_i64s (h.2 rfl)

end Go.Abs
