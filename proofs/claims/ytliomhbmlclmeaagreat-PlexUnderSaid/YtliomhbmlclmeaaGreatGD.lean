/-
  Joined from: AbsS10 AbsS11 AbsS12 AbsS13 AbsS14.
-/
import Derived.Test.YtliomhbmlclmeaaGreatGC
import Derived.Laws.MakeOwn
/-
  THE ABSTRACT OPERATIONS ARE THE MODEL's: slices of slices, greatest and least, making.
-/
section
set_option linter.unusedSimpArgs false
set_option linter.unusedVariables false
namespace Go.Abs
open Go

/-- What may be there, or not. -/
inductive OptR (c : Cfg) : Option PV → Option Value → Prop where
  | none : OptR c none none
  | some (p : PV) (v : Value) (h : Rep c p v) : OptR c (some p) (some v)

theorem bounds_none {P : Program} {c : Cfg} {isS : Bool} {len cap : Nat} {lo : Option PV} {vlo : Option Value} (hlo : OptR c lo vlo) {l h : Nat} (hb : bounds lo none len = some (l, h)) :
    (Instr.sliceBounds isS len cap vlo none none).run P c.w = .ok (l, h, cap) c.w ∧ l ≤ h ∧ h ≤ len ∧ h = len := by
  unfold bounds at hb
  simp only at hb
  cases hlo with
  | none =>
    simp only at hb
    split at hb
    · cases hb
      refine ⟨by simp [Instr.sliceBounds], by omega, by omega, by omega⟩
    · cases hb
  | some p v hp =>
    simp only at hb
    cases hp with
    | int k n =>
      simp only [intOf] at hb
      split at hb
      · cases hb
        rename_i hc
        refine ⟨?_, by omega, by omega, by omega⟩
        simp [Instr.sliceBounds, run_sliceBound (P := P) c.w k n len _ (by omega) (by omega)]
      · cases hb
    | _ => simp [intOf] at hb

theorem bounds_some {P : Program} {c : Cfg} {isS : Bool} {len cap n : Nat} {lo : Option PV} {vlo : Option Value} (hlo : OptR c lo vlo) {hi : PV} {vhi : Value} (hhi : Rep c hi vhi) {l h : Nat} (hb : bounds lo (some hi) n = some (l, h)) (hn : n ≤ cap) :
    (Instr.sliceBounds isS len cap vlo (some vhi) none).run P c.w = .ok (l, h, cap) c.w ∧ l ≤ h ∧ h ≤ n := by
  unfold bounds at hb
  simp only at hb
  cases hhi with
  | int kh nh =>
    simp only [intOf] at hb
    cases hlo with
    | none =>
      simp only at hb
      split at hb
      · cases hb
        rename_i hc
        refine ⟨?_, by omega, by omega⟩
        simp [Instr.sliceBounds, run_sliceBound (P := P) c.w kh nh cap _ (by omega) (by omega)]
      · cases hb
    | some p v hp =>
      simp only at hb
      cases hp with
      | int k nl =>
        simp only [intOf] at hb
        split at hb
        · cases hb
          rename_i hc
          refine ⟨?_, by omega, by omega⟩
          simp [Instr.sliceBounds, run_sliceBound (P := P) c.w kh nh cap _ (by omega) (by omega), run_sliceBound (P := P) c.w k nl nh.toNat _ (by omega) (by omega)]
        · cases hb
      | _ => simp [intOf] at hb
  | _ => simp [intOf] at hb

theorem bounds_zero {P : Program} {c : Cfg} {len cap : Nat} {lo : Option PV} {vlo : Option Value} (hlo : OptR c lo vlo) {hi : PV} {vhi : Value} (hhi : Rep c hi vhi) (km : IntKind) {r : Nat × Nat} (hb : bounds lo (some hi) 0 = some r) :
    (Instr.sliceBounds true len cap vlo (some vhi) (some (.int km 0))).run P c.w = .ok (0, 0, 0) c.w := by
  unfold bounds at hb
  simp only at hb
  cases hhi with
  | int kh nh =>
    simp only [intOf] at hb
    cases hlo with
    | none =>
      simp only at hb
      split at hb
      · rename_i hc
        have : nh = 0 := by omega
        subst this
        simp [Instr.sliceBounds, Instr.sliceBound, asIntOf]
      · cases hb
    | some p v hp =>
      simp only at hb
      cases hp with
      | int k nl =>
        simp only [intOf] at hb
        split at hb
        · rename_i hc
          have : nh = 0 := by omega
          subst this
          have : nl = 0 := by omega
          subst this
          simp [Instr.sliceBounds, Instr.sliceBound, asIntOf]
        · cases hb
      | _ => simp [intOf] at hb
  | _ => simp [intOf] at hb

theorem bounds_any {P : Program} {c : Cfg} {isS : Bool} {len cap n : Nat} {lo hi : Option PV} {vlo vhi : Option Value} (hlo : OptR c lo vlo) (hhi : OptR c hi vhi) {l h : Nat} (hb : bounds lo hi n = some (l, h)) (h1 : hi = none → n = len) (h2 : hi ≠ none → n ≤ cap) :
    (Instr.sliceBounds isS len cap vlo vhi none).run P c.w = .ok (l, h, cap) c.w ∧ l ≤ h ∧ h ≤ n := by
  cases hhi with
  | none =>
    have := h1 rfl
    subst this
    obtain ⟨a, b, c, d⟩ := bounds_none (P := P) (isS := isS) (cap := cap) hlo hb
    exact ⟨a, b, c⟩
  | some p v hp => exact bounds_some hlo hp hb (h2 (by simp))

section
variable {P : Program} {c : Cfg} (g : Good c)
include g

theorem sliceStr_ok {t : TypeId} (hts : P.underlying t = some .string) {x : PV} {u : Value} (hx : Rep c x u) {lo hi : Option PV} {vlo vhi : Option Value} (hlo : OptR c lo vlo) (hhi : OptR c hi vhi) :
    VOk P c (sliceStr x lo hi c.st) (Instr.sliceAt t u vlo vhi none) := by
  unfold sliceStr
  cases hx with
  | str s =>
    show VOk P c ((match bounds lo hi s.size with | some (l, h) => ret (PV.str (s.extract l h)) | none => Abs.failM) c.st) _
    cases hb : bounds lo hi s.size with
    | none => trivial
    | some lh =>
      obtain ⟨l, h⟩ := lh
      obtain ⟨hr, h1, h2⟩ := bounds_any (P := P) (isS := false) (len := s.size) (cap := s.size) hlo hhi hb (fun _ => rfl) (fun _ => Nat.le_refl _)
      refine VOk.ret g (v := .string (s.extract l h)) ?_ (.str _)
      rw [run_sliceAt_string _ _ _ _ _ _ hts]
      simp only [Instr.slice, Sem.run_bind, run_underlying hts, Result.andThen, Option.isSome_none, Bool.false_eq_true, if_false, Sem.run_pure, hr]
  | _ => trivial

theorem slice_ok {t e : TypeId} (hts : P.underlying t = some (.slice e)) {ti : TI} (ht : TypeOk P e ti) {x : PV} {u : Value} (hx : Rep c x u) {lo hi mx : Option PV} {vlo vhi vmx : Option Value} (hlo : OptR c lo vlo) (hhi : OptR c hi vhi) (hmx : OptR c mx vmx) :
    VOk P c (sliceM ti.size x lo hi mx c.st) (Instr.sliceAt t u vlo vhi vmx) := by
  have hsz := run_sizeOf_of ht c.w
  have hel : P.elem t = e := by simp [Program.elem, hts]
  have hts' : P.underlying t = some (.slice (P.elem t)) := by rw [hel]; exact hts
  -- what the model does, once the bounds are known
  have hrun : ∀ (a : Option Addr) (len cap l h m : Nat), (Instr.sliceBounds true len cap vlo vhi vmx).run P c.w = .ok (l, h, m) c.w →
      (Instr.sliceAt t (.slice a len cap) vlo vhi vmx).run P c.w = .ok (sliced a l h m ti.size) c.w := fun a len cap l h m hb => by
    rw [run_sliceAt_slice _ _ _ _ _ _ hts', run_slice_any _ _ _ _ _ hts', hb]
    simp [Result.andThen, hel, hsz]
  unfold sliceM
  cases hmx with
  | none =>
    cases hx with
    | lst0 a cap =>
      simp only [List.length_nil]
      cases hb : bounds lo hi 0 with
      | none => simp only []; trivial
      | some lh =>
        obtain ⟨l, h⟩ := lh
        simp only []
        split
        case isFalse => trivial
        obtain ⟨hr, h1, h2⟩ := bounds_any (P := P) (isS := true) (len := 0) (cap := cap) hlo hhi hb (fun _ => rfl) (fun _ => Nat.zero_le _)
        have e1 : h = 0 := by omega
        have e2 : l = 0 := by omega
        subst e1; subst e2
        refine VOk.same g (hrun _ _ _ _ _ _ hr) ?_
        simp only [sliced, Nat.sub_self, List.take_nil, List.drop_nil]
        exact .lst0 _ _
    | lst xs sz b o cap us hs hn hc hr ho hcap =>
      simp only []
      cases hb : bounds lo hi xs.length with
      | none => simp only []; trivial
      | some lh =>
        obtain ⟨l, h⟩ := lh
        simp only []
        split
        case isFalse => trivial
        rename_i hfh
        obtain ⟨hr', h1, h2⟩ := bounds_any (P := P) (isS := true) (len := xs.length) (cap := cap) hlo hhi hb (fun _ => rfl) (fun _ => hcap)
        refine VOk.same g (hrun _ _ _ _ _ _ hr') ?_
        by_cases hlh : l = h
        · subst hlh
          have e0 : (xs.take l).drop l = [] := List.drop_eq_nil_iff.2 (by rw [List.length_take]; omega)
          rw [e0]
          simp only [sliced, Nat.sub_self]
          exact .lst0 _ _
        · have hne : ¬ cap = l := by omega
          have hszz : sz = ti.size := by
            cases xs with
            | nil => simp at h2; omega
            | cons y ys =>
              simp only [fitsHd] at hfh
              rw [← fitsE_len (hs y (by simp)), fitsE_len hfh]
          subst hszz
          simp only [sliced, hne, if_false, Option.map_some, add_addr]
          have hfl := flat_length hs
          have f1 : (flat (xs.take l)).length = l * ti.size := by
            rw [flat_length (fun x hx => hs x (List.mem_of_mem_take hx)), List.length_take, Nat.min_eq_left (by omega)]
          have hsub : ∀ x ∈ (xs.take h).drop l, x ∈ xs := fun x hx => List.mem_of_mem_take (List.mem_of_mem_drop hx)
          have hlen : ((xs.take h).drop l).length = h - l := by rw [List.length_drop, List.length_take]; omega
          have f2 := flat_length (sz := ti.size) (xs := (xs.take h).drop l) (fun x hx => hs x (hsub x hx))
          have hsplit : flat xs = flat (xs.take l) ++ (flat ((xs.take h).drop l) ++ flat (xs.drop h)) := by
            rw [← flat_append, ← flat_append]
            congr 1
            have e1 : xs.take l = (xs.take h).take l := by rw [List.take_take, Nat.min_eq_left h1]
            rw [e1, ← List.append_assoc, List.take_append_drop, List.take_append_drop]
          have hget : ∀ j (hj : j < (flat ((xs.take h).drop l)).length), ∃ hj' : l * ti.size + j < (flat xs).length, (flat xs)[l * ti.size + j] = (flat ((xs.take h).drop l))[j] := fun j hj => by
            have hj' : l * ti.size + j < (flat xs).length := by rw [hsplit, List.length_append, List.length_append, f1]; omega
            refine ⟨hj', ?_⟩
            have : (flat xs)[l * ti.size + j]? = (flat ((xs.take h).drop l))[j]? := by
              rw [hsplit, List.getElem?_append_right (by omega), f1, List.getElem?_append_left (by omega)]
              congr 1; omega
            rw [List.getElem?_eq_getElem hj', List.getElem?_eq_getElem hj] at this
            exact Option.some.inj this
          have := Rep.lst (c := c) ((xs.take h).drop l) ti.size b (o + l * ti.size) (cap - l) (fun j => us (l * ti.size + j)) (fun x hx => hs x (hsub x hx)) ?_ (fun j hj => by
            obtain ⟨hj', _⟩ := hget j hj
            have := hc _ hj'
            rw [Nat.add_assoc]; exact this) (fun j hj => by
            obtain ⟨hj', he⟩ := hget j hj
            rw [← he]; exact hr _ hj') (fun hne => ho (fun e => by
              have : 0 < (flat ((xs.take h).drop l)).length := List.length_pos_iff.2 hne
              obtain ⟨hj', _⟩ := hget 0 this
              rw [e] at hj'; simp at hj')) (by rw [hlen]; omega)
          · rw [hlen] at this; exact this
          · have : ∀ ys : List PV, (∀ y ∈ ys, y.noref = true) → noreL ys = true := by
              intro ys
              induction ys with
              | nil => intro _; rfl
              | cons y ys ih => intro hy; simp only [noreL, Bool.and_eq_true]; exact ⟨hy y (by simp), ih fun z hz => hy z (by simp [hz])⟩
            exact this _ fun y hy => noreL_mem hn y (hsub y hy)
    | nilS =>
      simp only []
      cases hb : bounds lo hi 0 with
      | none => simp only []; trivial
      | some lh =>
        obtain ⟨l, h⟩ := lh
        simp only []
        obtain ⟨hr, h1, h2⟩ := bounds_any (P := P) (isS := true) (len := 0) (cap := 0) hlo hhi hb (fun _ => rfl) (fun _ => Nat.zero_le _)
        have e1 : h = 0 := by omega
        have e2 : l = 0 := by omega
        subst e1; subst e2
        refine VOk.same g (hrun _ _ _ _ _ _ hr) ?_
        simp only [sliced, Nat.sub_self, if_true]
        exact .nilS
    | sl id n off len bl b cap m e' hi' hb' hn hm hsh h1 h2 h3 h4 =>
      simp only [hb']
      split
      case isFalse => trivial
      rename_i hc
      obtain ⟨hbs, _, hoff⟩ := hc
      cases hb : bounds lo hi (hiTop hi len (n - off)) with
      | none => trivial
      | some lh =>
        obtain ⟨l, h⟩ := lh
        show VOk P c (if 0 < l ∧ n ≤ off + l then .ok (.lst []) c.st else .ok (.sl id n (off + l) (h - l)) c.st) _
        obtain ⟨hr, g1, g2⟩ := bounds_any (P := P) (isS := true) (len := len) (cap := cap) hlo hhi hb (fun e => by subst e; rfl) (fun e => by cases hi with
          | none => exact (e rfl).elim
          | some _ => simp only [hiTop]; omega)
        have g3 : h ≤ n - off := by
          cases hi with
          | none => simp only [hiTop] at g2; omega
          | some _ => exact g2
        split
        · rename_i hl
          have : h - l = 0 := by omega
          refine VOk.same g (hrun _ _ _ _ _ _ hr) ?_
          simp only [sliced, this]
          exact .lst0 _ _
        · rename_i hl
          refine VOk.same g (hrun _ _ _ _ _ _ hr) ?_
          have hadr : (if cap = l then some (⟨b, off * bl.sz, none⟩ : Addr) else (some (⟨b, off * bl.sz, none⟩ : Addr)).map (·.add (l * ti.size))) = some ⟨b, (off + l) * bl.sz, none⟩ := by
            split
            · have : l = 0 := by omega
              subst this; simp
            · simp only [Option.map_some, add_addr, ← hbs, Nat.add_mul]
          simp only [sliced, hadr]
          exact .sl id n (off + l) (h - l) bl b (cap - l) m e' hi' hb' hn hm hsh (by
            have : off + l + (cap - l) = off + cap := by
              have : l ≤ cap := by omega
              omega
            rw [this]; exact h1) (by omega) (by omega) (by omega)
    | sl0 id bl hi' hb' hn hm =>
      simp only [hb']
      split
      case isFalse => trivial
      rename_i hc
      cases hb : bounds lo hi (hiTop hi 0 (0 - 0)) with
      | none => trivial
      | some lh =>
        obtain ⟨l, h⟩ := lh
        show VOk P c (if 0 < l ∧ 0 ≤ 0 + l then .ok (.lst []) c.st else .ok (.sl id 0 (0 + l) (h - l)) c.st) _
        obtain ⟨hr, g1, g2⟩ := bounds_any (P := P) (isS := true) (len := 0) (cap := 0) hlo hhi hb (fun e => by subst e; rfl) (fun e => by cases hi <;> simp [hiTop])
        have g3 : h = 0 := by cases hi <;> simp [hiTop] at g2 <;> omega
        have e2 : l = 0 := by omega
        subst g3; subst e2
        rw [if_neg (by omega)]
        refine VOk.same g (hrun _ _ _ _ _ _ hr) ?_
        simp only [sliced, Nat.sub_self, if_true]
        exact .sl0 id bl hi' hb' hn hm
    | slx id n off len a k hst =>
      rcases hst with hd | ⟨bl, hb, hlt⟩
      · simp only [g.dead id hd]; trivial
      · simp only [hb]; rw [if_neg (by omega)]; trivial
    | _ => trivial
  | some pm vm hpm =>
    have key : ∀ (a : Option Addr) (len cap : Nat) (km : IntKind), vm = .int km 0 → hi.isSome = true → ∀ r, bounds lo hi 0 = some r →
        (Instr.sliceAt t (.slice a len cap) vlo vhi (some vm)).run P c.w = .ok (.slice a 0 0) c.w := fun a len cap km hv hs r hb => by
      subst hv
      cases hhi with
      | none => simp at hs
      | some p v hp =>
        rw [hrun a len cap 0 0 0 (bounds_zero hlo hp km hb)]
        simp [sliced]
    cases hpm with
    | int km n =>
      by_cases hn0 : n = 0
      · subst hn0
        cases hx with
        | lst0 a cap =>
          simp only []
          split
          case isFalse => trivial
          rename_i hs
          cases hb : bounds lo hi 0 with
          | none => simp only []; trivial
          | some lh => exact VOk.same g (key _ _ _ km rfl hs _ hb) (.z0 _)
        | lst xs sz b o cap us hs hn hc hr ho hcap =>
          simp only []
          split
          case isFalse => trivial
          rename_i hs
          cases hb : bounds lo hi 0 with
          | none => simp only []; trivial
          | some lh => exact VOk.same g (key _ _ _ km rfl hs _ hb) (.z0 _)
        | nilS =>
          simp only []
          split
          case isFalse => trivial
          rename_i hs
          cases hb : bounds lo hi 0 with
          | none => simp only []; trivial
          | some lh => exact VOk.same g (key _ _ _ km rfl hs _ hb) (.z0 _)
        | _ => trivial
      · cases hx <;> (split <;> first | trivial | simp_all)
    | _ => cases hx <;> trivial

end
end Go.Abs
end
/-
  THE ABSTRACT OPERATIONS ARE THE MODEL's: greatest and least, making; operands; an operation as a whole, but for calls.
-/
section
set_option linter.unusedSimpArgs false
set_option linter.unusedVariables false
namespace Go.Abs
open Go

theorem max_dead : ∀ zs : List PV, zs.foldl maxStep none = none
  | [] => rfl
  | z :: zs => by simp only [List.foldl_cons]; exact max_dead zs

theorem max_fold {P : Program} {c : Cfg} : ∀ (xs : List PV) (vs : List Value), RepL c xs vs → ∀ (x : Option PV) (v : Value) (p : PV), (∀ q, x = some q → Rep c q v) →
    xs.foldl maxStep x = some p → (∀ q, x = some q → ∃ k n, q = .int k n) → ∃ u, (vs.foldlM Builtin.max2 v).run P c.w = .ok u c.w ∧ Rep c p u
  | [], vs, hl, x, v, p, hx, h, _ => by
    have : vs = [] := List.eq_nil_of_length_eq_zero hl.1.symm
    subst this
    simp only [List.foldl_nil] at h
    exact ⟨v, by simp, hx p h⟩
  | y :: ys, [], hl, _, _, _, _, _, _ => by have := hl.1; simp at this
  | y :: ys, u :: us, hl, x, v, p, hx, h, hi => by
    have hy := hl.2 0 (by simp) (by simp)
    simp only [List.getElem_cons_zero] at hy
    have hr : RepL c ys us := ⟨by have := hl.1; simpa using this, fun j h1 h2 => by have := hl.2 (j + 1) (by simpa using h1) (by simpa using h2); simpa using this⟩
    rw [List.foldl_cons] at h
    cases hs : maxStep x y with
    | none => rw [hs, max_dead] at h; cases h
    | some q =>
      rw [hs] at h
      unfold maxStep at hs
      split at hs
      · rename_i k m k' n
        split at hs
        · rename_i hk; subst hk; cases hs
          have hq := hx _ rfl
          cases hq; cases hy
          obtain ⟨w, h1, h2⟩ := max_fold ys us hr _ _ p (fun q hq => by cases hq; exact .int _ _) h (fun q hq => by cases hq; exact ⟨_, _, rfl⟩)
          exact ⟨w, by simp only [List.foldlM_cons, Builtin.max2, Sem.run_bind, Sem.run_pure, Result.andThen]; exact h1, h2⟩
        · cases hs
      · cases hs

theorem min_dead : ∀ zs : List PV, zs.foldl minStep none = none
  | [] => rfl
  | z :: zs => by simp only [List.foldl_cons]; exact min_dead zs

theorem min_fold {P : Program} {c : Cfg} : ∀ (xs : List PV) (vs : List Value), RepL c xs vs → ∀ (x : Option PV) (v : Value) (p : PV), (∀ q, x = some q → Rep c q v) →
    xs.foldl minStep x = some p → (∀ q, x = some q → ∃ k n, q = .int k n) → ∃ u, (vs.foldlM Builtin.min2 v).run P c.w = .ok u c.w ∧ Rep c p u
  | [], vs, hl, x, v, p, hx, h, _ => by
    have : vs = [] := List.eq_nil_of_length_eq_zero hl.1.symm
    subst this
    simp only [List.foldl_nil] at h
    exact ⟨v, by simp, hx p h⟩
  | y :: ys, [], hl, _, _, _, _, _, _ => by have := hl.1; simp at this
  | y :: ys, u :: us, hl, x, v, p, hx, h, hi => by
    have hy := hl.2 0 (by simp) (by simp)
    simp only [List.getElem_cons_zero] at hy
    have hr : RepL c ys us := ⟨by have := hl.1; simpa using this, fun j h1 h2 => by have := hl.2 (j + 1) (by simpa using h1) (by simpa using h2); simpa using this⟩
    rw [List.foldl_cons] at h
    cases hs : minStep x y with
    | none => rw [hs, min_dead] at h; cases h
    | some q =>
      rw [hs] at h
      unfold minStep at hs
      split at hs
      · rename_i k m k' n
        split at hs
        · rename_i hk; subst hk; cases hs
          have hq := hx _ rfl
          cases hq; cases hy
          obtain ⟨w, h1, h2⟩ := min_fold ys us hr _ _ p (fun q hq => by cases hq; exact .int _ _) h (fun q hq => by cases hq; exact ⟨_, _, rfl⟩)
          exact ⟨w, by simp only [List.foldlM_cons, Builtin.min2, Sem.run_bind, Sem.run_pure, Result.andThen]; exact h1, h2⟩
        · cases hs
      · cases hs

section
variable {P : Program} {c : Cfg} (g : Good c)
include g

theorem max_ok (tys : Array TypeId) (ty : TypeId) {xs : List PV} {vs : List Value} (h : RepL c xs vs) : VOk P c (opt (maxI xs) c.st) (Builtin.max_ tys ty vs.toArray) := by
  refine VOk.opt g fun p hp => ?_
  unfold maxI at hp
  cases xs with
  | nil => cases hp
  | cons x xs =>
    cases vs with
    | nil => have := h.1; simp at this
    | cons v vs =>
      have hx := h.2 0 (by simp) (by simp)
      simp only [List.getElem_cons_zero] at hx
      have hr : RepL c xs vs := ⟨by have := h.1; simpa using this, fun j h1 h2 => by have := h.2 (j + 1) (by simpa using h1) (by simpa using h2); simpa using this⟩
      obtain ⟨u, h1, h2⟩ := max_fold (P := P) xs vs hr _ v p (fun q hq => by unfold intOnly at hq; split at hq <;> cases hq; exact hx) hp (fun q hq => by unfold intOnly at hq; split at hq <;> cases hq; exact ⟨_, _, rfl⟩)
      exact ⟨u, by simp only [Builtin.max_]; exact h1, h2⟩

theorem min_ok (tys : Array TypeId) (ty : TypeId) {xs : List PV} {vs : List Value} (h : RepL c xs vs) : VOk P c (opt (minI xs) c.st) (Builtin.min_ tys ty vs.toArray) := by
  refine VOk.opt g fun p hp => ?_
  unfold minI at hp
  cases xs with
  | nil => cases hp
  | cons x xs =>
    cases vs with
    | nil => have := h.1; simp at this
    | cons v vs =>
      have hx := h.2 0 (by simp) (by simp)
      simp only [List.getElem_cons_zero] at hx
      have hr : RepL c xs vs := ⟨by have := h.1; simpa using this, fun j h1 h2 => by have := h.2 (j + 1) (by simpa using h1) (by simpa using h2); simpa using this⟩
      obtain ⟨u, h1, h2⟩ := min_fold (P := P) xs vs hr _ v p (fun q hq => by unfold intOnly at hq; split at hq <;> cases hq; exact hx) hp (fun q hq => by unfold intOnly at hq; split at hq <;> cases hq; exact ⟨_, _, rfl⟩)
      exact ⟨u, by simp only [Builtin.min_]; exact h1, h2⟩

theorem makeSlice_ok {at_ : Option Nat} (hf : FreeId c at_) {t e : TypeId} (hts : P.underlying t = some (.slice e)) {ti : TI} (ht : TypeOk P e ti) {x y : PV} {u v : Value} (hx : Rep c x u) (hy : Rep c y v) :
    VOk P c (makeSliceM at_ ti.size ti.bytes ti.zero x y c.st) (Instr.makeSlice t u v) := by
  unfold makeSliceM
  cases hx with
  | int kl l =>
    cases hy with
    | int kc n =>
      simp only []
      split
      case isFalse => trivial
      rename_i hc
      obtain ⟨h0, hle, hn, hb, hpos⟩ := hc
      obtain ⟨i, z, hi, hs, hib, hz, hzr, hzf, hza⟩ := ht.info
      have hzz := hzr c
      have hrun := run_make (P := P) c.w t e i z hts hi hz kl kc l n h0 hle (by
        rw [hib]
        have h1 : (ti.bytes : Int) ≤ 2 ^ 12 := by exact_mod_cast hb
        have h3 : (ti.bytes : Int) * n ≤ 2 ^ 12 * n := Int.mul_le_mul_of_nonneg_right h1 (by omega)
        omega) (by omega)
      refine VOk.made g hf fun hfit => ?_
      refine ⟨madeCells z.cells (n.toNat * i.size), e, c.w, .slice (some ⟨c.w.heap.size, 0, none⟩) l.toNat n.toNat, hrun, .refl _, ?_, ?_, fun id c' h0' h1' h2' h3' => ?_⟩
      · rw [size_madeCells, hs, List.length_replicate, Nat.mul_comm]
        exact Nat.mul_le_mul_right _ (by omega)
      · have := RepSeq.replicate (c := c) hzf hzz l.toNat n.toNat (by omega)
        unfold madeCells; rw [hs]; exact this
      · have := Rep.sl (c := c') id l.toNat 0 l.toNat ⟨ti.size, List.replicate l.toNat ti.zero⟩ c.w.heap.size n.toNat (n.toNat * ti.size) e h0' h1' (by simp) h2' (by
          rw [h3']; simp only [World.shape?, heap_alloc_new]; simp [size_madeCells, hs]) (by simp) (by omega) (by omega) (by omega)
        simpa using this
    | _ => trivial
  | _ => trivial

end

/-! ### operands -/
theorem Rep.ofConst (c : Cfg) (v : Value) : Rep c (ofConst v) v := by
  unfold Abs.ofConst
  split <;> first | exact .junk _ | constructor

theorem getD_rep {c : Cfg} {s : List PV} {vs : List Value} (h : RepL c s vs) (t : Nat) (u : Value) : Rep c (s.getD t .junk) (vs.getD t u) := by
  by_cases ht : t < s.length
  · have ht' : t < vs.length := h.1 ▸ ht
    have := h.2 t ht ht'
    simpa [List.getD, ht, ht'] using this
  · have : s.getD t .junk = .junk := by simp [List.getD, List.getElem?_eq_none (Nat.le_of_not_lt ht)]
    rw [this]; exact .junk _

theorem opd_rep {c : Cfg} {s : List PV} {a : Act} (h : Slots c s a.tmps) (x : Operand) : Rep c (opd s x) (a.eval x) := by
  cases x with
  | tmp t =>
    have := getD_rep h t undef
    simp only [Act.eval, opd]
    have e : a.tmps.getD t undef = a.tmps.toList.getD t undef := by simp [List.getD, Array.getD_eq_getD_getElem?]
    rw [e]; exact this
  | const v => exact .ofConst c v
  | global g => exact .junk _
  | func f => exact Rep.func f [] [] [] [] rfl (fun j h => by simp at h) rfl (fun j h => by simp at h)

theorem opds_rep {c : Cfg} {s : List PV} {a : Act} (h : Slots c s a.tmps) (xs : List Operand) : RepL c (xs.map (opd s)) (xs.map a.eval) :=
  ⟨by simp, fun j h1 h2 => by simp only [List.getElem_map]; exact opd_rep h _⟩

theorem opt_rep {c : Cfg} {s : List PV} {a : Act} (h : Slots c s a.tmps) (x : Option Operand) : OptR c (x.map (opd s)) (x.map a.eval) := by
  cases x with
  | none => exact .none
  | some x => exact .some _ _ (opd_rep h x)

theorem Slots.put {c : Cfg} {s : List PV} {a : Act} (h : Slots c s a.tmps) (d : Option Tmp) {p : PV} {v : Value} (hv : Rep c p v) : Slots c (putS s d p) (a.put d v).tmps := by
  cases d with
  | none => exact h
  | some d =>
    refine ⟨by simp [putS, Act.put, h.1], fun j h1 h2 => ?_⟩
    simp only [putS, Act.put, Array.toList_setIfInBounds]
    rw [List.getElem_set, List.getElem_set]
    split
    · exact hv
    · exact h.2 j _ _

theorem Slots.evo {c c' : Cfg} (e : Evo c c') {s : List PV} {tmps : Array Value} (h : Slots c s tmps) : Slots c' s tmps := RepL.evo e h

/-! ### an operation as a whole -/
/-- What an operation comes to, abstractly and in the model. -/
def OpOk (P : Program) (c : Cfg) (res : Res) (o : Oper) (a : Act) (r : Result Next) : Prop :=
  match res with
  | .fail => True
  | .ok p st' => ∀ next Q, (∀ μ' w' v, Good ⟨st', μ', w', c.hid⟩ → Evo c ⟨st', μ', w', c.hid⟩ → Rep ⟨st', μ', w', c.hid⟩ p v → next (a.put o.dst v) w') → o.upon P a next Q r
  | .panic p st' => ∀ next Q, (∀ μ' w' v, Good ⟨st', μ', w', c.hid⟩ → Evo c ⟨st', μ', w', c.hid⟩ → Rep ⟨st', μ', w', c.hid⟩ p v → Q (.panic [{ v := v, recovered := false }]) a w') → o.upon P a next Q r

theorem NOk.op {P : Program} {c : Cfg} {res : Res} {r : Result Next} (h : NOk P c res r) (o : Oper) (a : Act) : OpOk P c res o a r := by
  unfold NOk at h
  unfold OpOk
  split
  · trivial
  · rename_i p st'
    intro next Q hn
    obtain ⟨μ', w', v, hr, g', ev, hrep⟩ := h
    rcases hr with rfl | ⟨rfl, rfl⟩
    · exact hn _ _ _ g' ev hrep
    · exact hn _ _ _ g' ev hrep
  · exact h.elim

theorem VOk.op {P : Program} {c : Cfg} {res : Res} {s : Sem Value} (h : VOk P c res s) (o : Oper) (a : Act) {r : Result Next} (hr : r = (do pure (Next.value (← s)) : Sem Next).run P c.w) : OpOk P c res o a r := by
  subst hr; exact h.next.op o a

theorem OpOk.fail {P : Program} {c : Cfg} {o : Oper} {a : Act} {r : Result Next} : OpOk P c .fail o a r := trivial

theorem store_ok {P : Program} {c : Cfg} (g : Good c) {t : TypeId} {ti : TI} (ht : TypeOk P t ti) {p v : PV} {u x : Value} (hp : Rep c p u) (hv : Rep c v x) :
    NOk P c (storeM ti.size p v c.st) ((do Instr.storeAt t u x; pure Next.skip : Sem Next).run P c.w) := by
  unfold storeM
  cases hp with
  | ptr id n idx off bl b hi hb hn hm =>
    simp only [hb]
    split
    case isFalse => trivial
    rename_i hc
    cases hx : bl.xs[idx]? with
    | none => trivial
    | some y =>
      simp only []
      cases hset : setPart y off v with
      | none => trivial
      | some z =>
        simp only []
        obtain ⟨w', hrun, g', ev⟩ := store_run g ht hb hm hx hc.2 hset hv
        refine ⟨c.μ, w', undef, .inr ⟨?_, rfl⟩, g', ev, ?_⟩
        · simp [Instr.storeAt, Instr.sureAddr, hrun]
        · exact Rep.tup [] [] rfl (fun j h => by simp at h)
  | ptrx id n idx off a hs =>
    rcases hs with hd | ⟨bl, hb, hlt⟩
    · simp only [g.dead id hd]; trivial
    · simp only [hb]; rw [if_neg (by omega)]; trivial
  | _ => trivial

end Go.Abs
end
/-
  THE ABSTRACT OPERATIONS ARE THE MODEL's: what leaves a function without references, and what comes into one.
-/
section
set_option linter.unusedSimpArgs false
set_option linter.unusedVariables false
namespace Go.Abs
open Go

theorem noreL_of {xs : List PV} (h : ∀ x ∈ xs, x.noref = true) : noreL xs = true := by
  induction xs with
  | nil => rfl
  | cons x xs ih => simp only [noreL, Bool.and_eq_true]; exact ⟨h x (by simp), ih fun y hy => h y (by simp [hy])⟩

theorem noref_cells {x : PV} (h : x.noref = true) : ∀ y ∈ x.cells, y.noref = true := by
  cases x <;> simp only [PV.cells, List.mem_singleton, forall_eq] <;> (try exact h)
  simp only [PV.noref] at h
  exact noreL_mem h

theorem noref_flat {xs : List PV} (h : noreL xs = true) : ∀ y ∈ flat xs, y.noref = true := by
  intro y hy
  simp only [flat, List.mem_flatMap] at hy
  obtain ⟨x, hx, hy⟩ := hy
  exact noref_cells (noreL_mem h x hx) y hy

/-- What refers to nothing of ours stands for the same whatever is ours. -/
theorem Rep.move {c c' : Cfg} (hw : c'.w = c.w) (ho : ∀ b, c'.own b → c.own b) {p : PV} {v : Value} (h : Rep c p v) (hn : p.noref = true) : Rep c' p v := by
  induction h with
  | junk v => simp [PV.noref] at hn
  | int k n => exact .int k n
  | bool b => exact .bool b
  | str s => exact .str s
  | agg cs vs hl _ ih => exact .agg cs vs hl fun j h1 h2 => ih j h1 h2 (noreL_mem (by simpa [PV.noref] using hn) _ (List.getElem_mem _))
  | tup cs vs hl _ ih => exact .tup cs vs hl fun j h1 h2 => ih j h1 h2 (noreL_mem (by simpa [PV.noref] using hn) _ (List.getElem_mem _))
  | lst0 a cap => exact .lst0 a cap
  | lst xs sz b o cap us hs hn' hc hr ho' hcap ih =>
    exact .lst xs sz b o cap us hs hn' (fun j hj => by rw [hw]; exact hc j hj) (fun j hj => ih j hj (noref_flat hn' _ (List.getElem_mem _))) (fun hne hb => ho' hne (ho b hb)) hcap
  | nilS => exact .nilS
  | z0 a => simp [PV.noref] at hn
  | sl id n off len bl b cap m e hi hb hn' hm hsh h1 h2 h3 h4 => simp [PV.noref] at hn
  | sl0 id bl hi hb hn' hm => simp [PV.noref] at hn
  | slx id n off len a k hs => simp [PV.noref] at hn
  | ptr id n idx off bl b hi hb hn' hm => simp [PV.noref] at hn
  | ptrx id n idx off a hs => simp [PV.noref] at hn
  | cref x off b o us hk hn' hc hr ho' ih => simp [PV.noref] at hn
  | nilP => exact .nilP
  | func f first cap us vs hl _ hl' _ ih ih' =>
    simp only [PV.noref, Bool.and_eq_true] at hn
    exact .func f first cap us vs hl (fun j h1 h2 => ih j h1 h2 (noreL_mem hn.1 _ (List.getElem_mem _))) hl' (fun j h1 h2 => ih' j h1 h2 (noreL_mem hn.2 _ (List.getElem_mem _)))
  | nilF => exact .nilF
  | iface t x v _ ih => exact .iface t x v (ih (by simpa [PV.noref] using hn))
  | nilI => exact .nilI

theorem snapL_get {H : Nat → Option Blk} : ∀ {d : Nat} {xs ys : List PV}, snapL H d xs = some ys → ys.length = xs.length ∧ ∀ (j : Nat) y, ys[j]? = some y → ∃ x d', xs[j]? = some x ∧ d' < d ∧ snapF H d' x = some y ∧ ∀ id ∈ idsF H d' x, id ∈ idsL H d xs
  | 0, xs, ys, h => by simp [snapL] at h
  | d + 1, [], ys, h => by simp [snapL] at h; subst h; exact ⟨rfl, fun j y hy => by simp at hy⟩
  | d + 1, x :: xs, ys, h => by
    unfold snapL at h
    cases h1 : snapF H d x with
    | none => simp [h1] at h
    | some y =>
      cases h2 : snapL H d xs with
      | none => simp [h1, h2] at h
      | some zs =>
        simp [h1, h2] at h
        subst h
        obtain ⟨l, k⟩ := snapL_get h2
        have hid : idsL H (d + 1) (x :: xs) = idsF H d x ++ idsL H d xs := by rw [idsL]
        refine ⟨by simp [l], fun j z hz => ?_⟩
        rw [hid]
        cases j with
        | zero => simp at hz; subst hz; exact ⟨x, d, by simp, by omega, h1, fun id hi => List.mem_append_left _ hi⟩
        | succ j => obtain ⟨x', d', e1, e2, e3, e4⟩ := k j z (by simpa using hz); exact ⟨x', d', by simpa using e1, by omega, e3, fun id hi => List.mem_append_right _ (e4 id hi)⟩

theorem snapF_cells {H : Nat → Option Blk} {d : Nat} {x y : PV} (h : snapF H d x = some y) : y.cells.length = x.cells.length ∧ (x.known = true → y.known = true) ∧
    ∀ (j : Nat) q, y.cells[j]? = some q → ∃ p d', x.cells[j]? = some p ∧ d' ≤ d ∧ snapF H d' p = some q ∧ ∀ id ∈ idsF H d' p, id ∈ idsF H d x := by
  have one : ∀ (x y : PV), snapF H d x = some y → x.cells = [x] → y.cells = [y] → y.cells.length = x.cells.length ∧ ∀ (j : Nat) q, y.cells[j]? = some q → ∃ p d', x.cells[j]? = some p ∧ d' ≤ d ∧ snapF H d' p = some q ∧ ∀ id ∈ idsF H d' p, id ∈ idsF H d x := by
    intro x y h hx hy
    rw [hx, hy]
    refine ⟨rfl, fun j q hq => ?_⟩
    rw [List.getElem?_singleton] at hq
    split at hq
    · cases hq; rename_i hj; subst hj; exact ⟨x, d, by simp, Nat.le_refl _, h, fun id hi => hi⟩
    · cases hq
  cases d with
  | zero => simp [snapF] at h
  | succ d =>
    have h0 := h
    unfold snapF at h
    have two : ∀ (x y : PV), snapF H (d + 1) x = some y → x.cells = [x] → y.cells = [y] → (x.known = true → y.known = true) → y.cells.length = x.cells.length ∧ (x.known = true → y.known = true) ∧
      ∀ (j : Nat) q, y.cells[j]? = some q → ∃ p d', x.cells[j]? = some p ∧ d' ≤ d + 1 ∧ snapF H d' p = some q ∧ ∀ id ∈ idsF H d' p, id ∈ idsF H (d + 1) x := fun x y h hx hy hk => ⟨(one x y h hx hy).1, hk, (one x y h hx hy).2⟩
    split at h
    all_goals first
      | (cases h; exact two _ _ h0 rfl rfl (fun h => h))
      | (cases h; exact two _ _ h0 rfl rfl (fun _ => rfl))
      | (cases h; done)
      | skip
    · split at h
      · split at h
        · simp only [Option.map_eq_some_iff] at h
          obtain ⟨a, _, rfl⟩ := h
          exact two _ _ h0 rfl rfl (fun _ => rfl)
        · cases h
      · cases h
    · simp only [Option.map_eq_some_iff] at h
      obtain ⟨a, ha, rfl⟩ := h
      obtain ⟨h1, h2⟩ := snapL_get ha
      refine ⟨h1, fun _ => rfl, fun j q hq => ?_⟩
      obtain ⟨x, d', e1, e2, e3, e4⟩ := h2 j q hq
      exact ⟨x, d', e1, by omega, e3, fun id hi => by rw [idsF]; exact e4 id hi⟩
    · simp only [Option.map_eq_some_iff] at h
      obtain ⟨a, _, rfl⟩ := h
      exact two _ _ h0 rfl rfl (fun h => h)
    · simp only [Option.map_eq_some_iff] at h
      obtain ⟨a, _, rfl⟩ := h
      exact two _ _ h0 rfl rfl (fun _ => rfl)

theorem snapL_flat {H : Nat → Option Blk} {d : Nat} {xs ys : List PV} (h : snapL H d xs = some ys) : (flat ys).length = (flat xs).length ∧ ∀ (j : Nat) q, (flat ys)[j]? = some q → ∃ p d', (flat xs)[j]? = some p ∧ d' < d ∧ snapF H d' p = some q ∧ ∀ id ∈ idsF H d' p, id ∈ idsL H d xs := by
  obtain ⟨hl, hg⟩ := snapL_get h
  clear h
  generalize hS : idsL H d xs = S at hg ⊢
  clear hS
  induction xs generalizing ys with
  | nil =>
    have : ys = [] := List.eq_nil_of_length_eq_zero hl
    subst this
    exact ⟨rfl, fun j q hq => by simp [flat] at hq⟩
  | cons x xs ih =>
    cases ys with
    | nil => simp at hl
    | cons y ys =>
      obtain ⟨x', d', e1, e2, e3, e4⟩ := hg 0 y (by simp)
      simp at e1; subst e1
      obtain ⟨c1, _, c3⟩ := snapF_cells e3
      obtain ⟨i1, i2⟩ := ih (ys := ys) (by simpa using hl) (fun j z hz => by
        obtain ⟨x', d', a, b, c⟩ := hg (j + 1) z (by simpa using hz)
        exact ⟨x', d', by simpa using a, b, c⟩)
      refine ⟨by rw [flat_cons, flat_cons, List.length_append, List.length_append, c1, i1], fun j q hq => ?_⟩
      rw [flat_cons] at hq ⊢
      by_cases hj : j < y.cells.length
      · rw [List.getElem?_append_left hj] at hq
        obtain ⟨p, d2, a, b, c, c'⟩ := c3 j q hq
        exact ⟨p, d2, by rw [List.getElem?_append_left (by omega)]; exact a, by omega, c, fun id hi => e4 id (c' id hi)⟩
      · rw [List.getElem?_append_right (by omega)] at hq
        obtain ⟨p, d2, a, b, c⟩ := i2 _ q hq
        exact ⟨p, d2, by rw [List.getElem?_append_right (by omega), ← c1]; exact a, b, c⟩

/-- A list's elements, once they are known to fit and to refer to nothing. -/
theorem Rep.lst_of {c : Cfg} {xs : List PV} {sz b o cap : Nat} (hs : ∀ x ∈ xs, fitsE sz x = true) (hn : noreL xs = true) (h : ∀ (j : Nat) q, (flat xs)[j]? = some q → ∃ u, c.w.cell? ⟨b, o + j, none⟩ = some u ∧ Rep c q u)
    (ho : flat xs ≠ [] → ¬ c.own b) (hcap : xs.length ≤ cap) : Rep c (.lst xs) (.slice (some ⟨b, o, none⟩) xs.length cap) := by
  have hex : ∀ j, ∃ u, ∀ (hj : j < (flat xs).length), c.w.cell? ⟨b, o + j, none⟩ = some u ∧ Rep c (flat xs)[j] u := fun j => by
    by_cases hj : j < (flat xs).length
    · obtain ⟨u, h1, h2⟩ := h j _ (List.getElem?_eq_getElem hj)
      exact ⟨u, fun _ => ⟨h1, h2⟩⟩
    · exact ⟨undef, fun h => (hj h).elim⟩
  exact .lst xs sz b o cap (fun j => Classical.choose (hex j)) hs hn (fun j hj => (Classical.choose_spec (hex j) hj).1) (fun j hj => (Classical.choose_spec (hex j) hj).2) ho hcap

/-- Of a value: what it refers to is not among what is ours there. -/
def Apart (c c' : Cfg) (d : Nat) (x : PV) : Prop := x.noref = true ∨ ∀ id ∈ idsF c.st.H d x, ∀ bl b, c.st.H id = some bl → c.μ id = some b → ¬ c'.own b

theorem Apart.all {c c' : Cfg} (h : ∀ b, c.mine b → ¬ c'.own b) (d : Nat) (x : PV) : Apart c c' d x := .inr fun id _ bl b h1 h2 => h b ⟨id, bl, h1, h2⟩

/-- A value that is snapped stands, as a list, for the same. -/
theorem snap_rep {c c' : Cfg} (g : Good c) (hw : c'.w = c.w) (ho : ∀ b, c'.own b → c.own b) : ∀ (d : Nat) (x y : PV) (v : Value), snapF c.st.H d x = some y → Rep c x v → Apart c c' d x → Rep c' y v ∧ y.noref = true := by
  intro d
  induction d using Nat.strongRecOn with
  | _ d ih =>
    intro x y v h hr hor
    have list : ∀ (d' : Nat) (xs ys : List PV) (vs : List Value), d' ≤ d → snapL c.st.H d' xs = some ys → RepL c xs vs → (noreL xs = true ∨ ∀ id ∈ idsL c.st.H d' xs, ∀ bl b, c.st.H id = some bl → c.μ id = some b → ¬ c'.own b) → RepL c' ys vs ∧ noreL ys = true := by
      intro d' xs ys vs hd hs hl hor
      obtain ⟨h1, h2⟩ := snapL_get hs
      have key : ∀ j (hj : j < ys.length) (hj2 : j < vs.length), Rep c' ys[j] vs[j] ∧ ys[j].noref = true := fun j hj hj2 => by
        obtain ⟨x, d2, e1, e2, e3, e4⟩ := h2 j _ (List.getElem?_eq_getElem hj)
        obtain ⟨hx, rfl⟩ := List.getElem?_eq_some_iff.1 e1
        exact ih d2 (by omega) _ _ _ e3 (hl.2 j hx hj2) (hor.imp (fun h => noreL_mem h _ (List.getElem_mem _)) (fun h id hi => h id (e4 id hi)))
      refine ⟨⟨by rw [h1]; exact hl.1, fun j hj hj2 => (key j hj hj2).1⟩, noreL_of fun y hy => ?_⟩
      obtain ⟨j, hj, rfl⟩ := List.mem_iff_getElem.1 hy
      exact (key j hj (by have := hl.1; omega)).2
    cases d with
    | zero => simp [snapF] at h
    | succ d =>
      unfold snapF at h
      cases hr with
      | junk v => simp at h
      | int k n => simp at h; subst h; exact ⟨.int k n, rfl⟩
      | bool b => simp at h; subst h; exact ⟨.bool b, rfl⟩
      | str s => simp at h; subst h; exact ⟨.str s, rfl⟩
      | agg cs vs hl hh =>
        simp only [Option.map_eq_some_iff] at h
        obtain ⟨zs, hz, rfl⟩ := h
        obtain ⟨a, b⟩ := list d cs zs vs (by omega) hz ⟨hl, hh⟩ (by unfold Apart at hor; rw [idsF] at hor; simpa only [PV.noref] using hor)
        exact ⟨.agg zs vs a.1 a.2, by simpa only [PV.noref] using b⟩
      | tup cs vs hl hh =>
        simp only [Option.map_eq_some_iff] at h
        obtain ⟨zs, hz, rfl⟩ := h
        obtain ⟨a, b⟩ := list d cs zs vs (by omega) hz ⟨hl, hh⟩ (by unfold Apart at hor; rw [idsF] at hor; simpa only [PV.noref] using hor)
        exact ⟨.tup zs vs a.1 a.2, by simpa only [PV.noref] using b⟩
      | lst0 a cap => simp at h; subst h; exact ⟨.lst0 a cap, rfl⟩
      | lst xs sz b o cap us hs hn hc hr ho' hcap =>
        simp only [Option.some.injEq] at h; subst h
        exact ⟨Rep.move hw ho (.lst xs sz b o cap us hs hn hc hr ho' hcap) rfl, rfl⟩
      | nilS => simp at h; subst h; exact ⟨.lst0 none 0, rfl⟩
      | z0 a => simp at h; subst h; exact ⟨.lst0 a 0, rfl⟩
      | sl id n off len bl b cap m e hi hb hn hm hsh h1 h2 h3 h4 =>
        simp only [hb] at h
        split at h
        case isFalse => cases h
        simp only [Option.map_eq_some_iff] at h
        obtain ⟨zs, hz, rfl⟩ := h
        refine ⟨?_, rfl⟩
        have hfit := g.fits id bl hb
        obtain ⟨l1, l2⟩ := snapL_get hz
        obtain ⟨f1, f2⟩ := snapL_flat hz
        have hlen : zs.length = len := by rw [l1, List.length_take, List.length_drop]; omega
        obtain ⟨cs, e', k1, k2, k3⟩ := (g.blk id bl b hb hm).seq
        have hor' : ∀ i ∈ id :: idsL c.st.H d ((bl.xs.drop off).take len), ∀ bl b, c.st.H i = some bl → c.μ i = some b → ¬ c'.own b := by
          have := hor.resolve_left (by simp [PV.noref])
          rw [idsF, hb] at this
          exact this
        have hmine : ¬ c'.own b := hor' id (by simp) bl b hb hm
        have hsub : ∀ x ∈ (bl.xs.drop off).take len, x ∈ bl.xs := fun x hx => List.mem_of_mem_drop (List.mem_of_mem_take hx)
        -- the cells of the part
        have hpart : ∀ (j : Nat) q, (flat ((bl.xs.drop off).take len))[j]? = some q → ∃ u, cs.toList[off * bl.sz + j]? = some u ∧ Rep c q u := fun j q hq => by
          have hsplit : flat bl.xs = flat (bl.xs.take off) ++ (flat ((bl.xs.drop off).take len) ++ flat ((bl.xs.drop off).drop len)) := by
            rw [← flat_append, ← flat_append, List.take_append_drop, List.take_append_drop]
          have g1 : (flat (bl.xs.take off)).length = off * bl.sz := by
            rw [flat_length (fun x hx => hfit x (List.mem_of_mem_take hx)), List.length_take, Nat.min_eq_left (by omega)]
          have hjl := (List.getElem?_eq_some_iff.1 hq).1
          exact k3 (off * bl.sz + j) q (by rw [hsplit, List.getElem?_append_right (by omega), g1, List.getElem?_append_left (by omega), ← hq]; congr 1; omega)
        have hfz : ∀ x ∈ zs, fitsE bl.sz x = true := fun z hz => by
          obtain ⟨j, hj, rfl⟩ := List.mem_iff_getElem.1 hz
          obtain ⟨x, d', e1, e2, e3, _⟩ := l2 j _ (List.getElem?_eq_getElem hj)
          have hx := hfit x (hsub x (List.mem_of_getElem? e1))
          obtain ⟨c1, c2, _⟩ := snapF_cells e3
          simp [fitsE, c2 (fitsE_known hx), c1, fitsE_len hx]
        have hcell : ∀ (j : Nat) q, (flat zs)[j]? = some q → ∃ u, c'.w.cell? ⟨b, off * bl.sz + j, none⟩ = some u ∧ Rep c' q u ∧ q.noref = true := fun j q hq => by
          obtain ⟨p, d', e1, e2, e3, e4⟩ := f2 j q hq
          obtain ⟨u, hu, hru⟩ := hpart j p e1
          obtain ⟨a, b'⟩ := ih d' (by omega) p q u e3 hru (.inr fun i hi => hor' i (List.mem_cons_of_mem _ (e4 i hi)))
          exact ⟨u, by rw [hw, cell_block k1]; simpa using hu, a, b'⟩
        have hnz : noreL zs = true := noreL_of fun z hz => by
          obtain ⟨j, hj, rfl⟩ := List.mem_iff_getElem.1 hz
          obtain ⟨x, d', e1, e2, e3, _⟩ := l2 j _ (List.getElem?_eq_getElem hj)
          have hx := hfit x (hsub x (List.mem_of_getElem? e1))
          have hzf := hfz _ hz
          cases hzj : zs[j] with
          | agg cs' =>
            simp only [PV.noref]
            refine noreL_of fun y hy => ?_
            obtain ⟨i, hi', rfl⟩ := List.mem_iff_getElem.1 hy
            have hi2 : i < zs[j].cells.length := by rw [hzj]; exact hi'
            have := flat_get hfz (List.getElem?_eq_getElem hj) (j := i) (by rw [← fitsE_len hzf]; exact hi2)
            rw [List.getElem?_eq_getElem hi2] at this
            obtain ⟨u, _, _, hn⟩ := hcell _ _ this
            have he : (zs[j].cells[i]) = cs'[i] := by simp only [hzj, PV.cells]
            rw [he] at hn; exact hn
          | _ =>
            have hc1 : zs[j].cells = [zs[j]] := by rw [hzj]; rfl
            have hi2 : 0 < zs[j].cells.length := by rw [hc1]; simp
            have := flat_get hfz (List.getElem?_eq_getElem hj) (j := 0) (by rw [← fitsE_len hzf]; exact hi2)
            rw [hc1] at this
            obtain ⟨u, _, _, hn⟩ := hcell _ _ this
            simp only [hzj] at hn
            exact hn
        have := Rep.lst_of (c := c') (xs := zs) (sz := bl.sz) (b := b) (o := off * bl.sz) (cap := cap) hfz hnz (fun j q hq => by
          obtain ⟨u, a, b, _⟩ := hcell j q hq
          exact ⟨u, a, b⟩) (fun _ => hmine) (by omega)
        rw [hlen] at this; exact this
      | sl0 id bl hi hb hn hm =>
        simp only [hb, hn] at h
        simp only [List.length_nil, Nat.zero_add, Nat.le_refl, and_self, if_true, List.drop_nil, List.take_nil, Option.map_eq_some_iff] at h
        obtain ⟨zs, hz, rfl⟩ := h
        have := (snapL_get hz).1
        have : zs = [] := List.eq_nil_of_length_eq_zero this
        subst this
        exact ⟨.lst0 none 0, rfl⟩
      | slx id n off len a k hs =>
        rcases hs with hd | ⟨bl, hb, hlt⟩
        · simp only [g.dead id hd] at h; cases h
        · simp only [hb] at h; rw [if_neg (by omega)] at h; cases h
      | ptr id n idx off bl b hi hb hn hm => simp at h
      | ptrx id n idx off a hs => simp at h
      | cref x off b o us hk hn hc hr ho => simp at h
      | nilP => simp at h; subst h; exact ⟨.nilP, rfl⟩
      | func f first cap us vs hl hh hl' hh' =>
        cases first with
        | cons _ _ => simp at h
        | nil =>
          cases cap with
          | cons _ _ => simp at h
          | nil =>
            simp at h; subst h
            exact ⟨.func f [] [] us vs hl (fun j h => by simp at h) hl' (fun j h => by simp at h), rfl⟩
      | nilF => simp at h; subst h; exact ⟨.nilF, rfl⟩
      | iface t x v hx =>
        simp only [Option.map_eq_some_iff] at h
        obtain ⟨z, hz, rfl⟩ := h
        obtain ⟨a, b⟩ := ih d (by omega) x z v hz hx (by unfold Apart at hor ⊢; rw [idsF] at hor; simpa only [PV.noref] using hor)
        exact ⟨.iface t z v a, by simpa only [PV.noref] using b⟩
      | nilI => simp at h; subst h; exact ⟨.nilI, rfl⟩

theorem snapL_rep {c c' : Cfg} (g : Good c) (hw : c'.w = c.w) (ho : ∀ b, c'.own b → c.own b) {d : Nat} {xs ys : List PV} {vs : List Value} (h : snapL c.st.H d xs = some ys) (hl : RepL c xs vs)
    (hor : noreL xs = true ∨ ∀ id ∈ idsL c.st.H d xs, ∀ bl b, c.st.H id = some bl → c.μ id = some b → ¬ c'.own b) : RepL c' ys vs := by
  obtain ⟨h1, h2⟩ := snapL_get h
  refine ⟨by rw [h1]; exact hl.1, fun j hj hj2 => ?_⟩
  obtain ⟨x, d2, e1, e2, e3, e4⟩ := h2 j _ (List.getElem?_eq_getElem hj)
  obtain ⟨hx, rfl⟩ := List.getElem?_eq_some_iff.1 e1
  exact (snap_rep g hw ho d2 _ _ _ e3 (hl.2 j hx hj2) (hor.imp (fun h => noreL_mem h _ (List.getElem_mem _)) fun h id hi => h id (e4 id hi))).1

end Go.Abs
end
/-
  THE ABSTRACT OPERATIONS ARE THE MODEL's: calls.
-/
section
set_option linter.unusedSimpArgs false
set_option linter.unusedVariables false
namespace Go.Abs
open Go

def IsFn (P : Program) (f : FuncId) : Prop := ∃ fn, P.funcs[f]? = some fn ∧ fn.body.isNone = false ∧ (fn.name == "runtime.NumGoroutine") = false

theorem run_callFunc_of {P : Program} {f : FuncId} (h : IsFn P f) (args : Array Value) (w : World) : (callFunc f args).run P w = .ok (.enter f args) w := by
  obtain ⟨fn, h1, h2, h3⟩ := h
  simp only [beq_eq_false_iff_ne, ne_eq] at h3
  have h2' : fn.body ≠ none := fun e => by rw [e] at h2; cases h2
  simp [callFunc, h1, h2', h3]

structure Keeps (w w' : World) : Prop where
  heap : ∀ b, b < w.heap.size → w'.heap[b]? = w.heap[b]?
  size : w.heap.size ≤ w'.heap.size
  os : w'.os = w.os
  tape : w'.tape = w.tape
  output : w'.output = w.output

def Cfg.bare (w : World) (hid : Nat → Prop) : Cfg := ⟨.empty, fun _ => none, w, hid⟩

theorem bare_mine {w : World} {hid : Nat → Prop} {b : Nat} : ¬ (Cfg.bare w hid).mine b := by
  rintro ⟨id, bl, h, _⟩; simp [Cfg.bare, St.empty] at h
theorem bare_own {w : World} {hid : Nat → Prop} {b : Nat} : (Cfg.bare w hid).own b ↔ hid b := ⟨fun h => h.elim id fun h => (bare_mine h).elim, fun h => .inl h⟩

theorem bare_good {w : World} {hid : Nat → Prop} (h : ∀ b, hid b → b < w.heap.size) : Good (Cfg.bare w hid) :=
  ⟨fun id bl h => by simp [Cfg.bare, St.empty] at h, fun id h => by simp [Cfg.bare, St.empty] at h, fun id h => by simp [Cfg.bare, St.empty] at h, fun id bl h => by simp [Cfg.bare, St.empty] at h,
   fun id bl b h => by simp [Cfg.bare, St.empty] at h, fun id bl h => by simp [Cfg.bare, St.empty] at h, fun id id' bl bl' b h => by simp [Cfg.bare, St.empty] at h, h⟩

theorem mine_lt {c : Cfg} (g : Good c) {b : Nat} (h : c.mine b) : b < c.w.heap.size := by
  obtain ⟨id, bl, h1, h2⟩ := h
  obtain ⟨cs, e, h3, _⟩ := (g.blk id bl b h1 h2).cells
  exact (Array.getElem?_eq_some_iff.1 h3).1
theorem own_lt {c : Cfg} (g : Good c) {b : Nat} (h : c.own b) : b < c.w.heap.size := h.elim (g.hidlt b) (mine_lt g)

theorem shape_lt {w : World} {k : Nat} {s : TypeId × Nat} (h : w.shape? k = some s) : k < w.heap.size := by
  simp only [World.shape?] at h
  split at h
  · rename_i h'; exact (Array.getElem?_eq_some_iff.1 h').1
  · cases h

theorem Keeps.shape {w w' : World} (k : Keeps w w') {b : Nat} {s : TypeId × Nat} (h : w.shape? b = some s) : w'.shape? b = some s := by
  have := k.heap b (shape_lt h)
  simp only [World.shape?, this] at h ⊢; exact h

theorem Keeps.evo {c : Cfg} {w' : World} (k : Keeps c.w w') : Evo c ⟨c.st, c.μ, w', c.hid⟩ :=
  ⟨fun b hb _ => k.heap b hb, k.size, k.os, k.tape, k.output, rfl, fun b hb => .inl hb, Nat.le_refl _, fun _ h => h, fun id bl hb => .inr ⟨bl, hb, rfl, Nat.le_refl _, fun _ => rfl⟩, fun b s hs => k.shape hs⟩

theorem Keeps.good {c : Cfg} (g : Good c) {w' : World} (k : Keeps c.w w') : Good ⟨c.st, c.μ, w', c.hid⟩ :=
  ⟨g.nx, g.dead, g.deadnx, g.fits, fun id bl b hb hm => (g.blk id bl b hb hm).evo k.evo (k.heap b (mine_lt g ⟨id, bl, hb, hm⟩)), g.bare, g.inj, fun b hb => Nat.lt_of_lt_of_le (g.hidlt b hb) k.size⟩

theorem Evo.keeps {w w' : World} {hid : Nat → Prop} {st' : St} {μ' : Nat → Option Nat} (e : Evo (Cfg.bare w hid) ⟨st', μ', w', hid⟩) : Keeps w w' :=
  ⟨fun b hb => e.heap b hb bare_mine, e.size, e.os, e.tape, e.output⟩

/-- A fresh slice: a whole block that nobody else has. -/
def FrR (w : World) (hid : Nat → Prop) (n sz : Nat) (xs : List PV) (v : Value) : Prop :=
  noreL xs = true ∧ (∀ x ∈ xs, fitsE sz x = true) ∧
  ((xs = [] ∧ v = .slice none 0 0) ∨ ∃ b cap cs e, v = .slice (some ⟨b, 0, none⟩) xs.length cap ∧ n ≤ b ∧ w.heap[b]? = some (.cells cs e (0, 0)) ∧ cap * sz ≤ cs.size ∧ xs.length ≤ cap ∧
    RepSeq (Cfg.bare w fun b' => hid b' ∨ b' = b) (flat xs) cs.toList)

def OutR (w : World) (hid : Nat → Prop) (n : Nat) (p : PV) (v : Value) : Prop :=
  match p with
  | .fr sz xs => FrR w hid n sz xs v
  | p => p.noref = true ∧ Rep (Cfg.bare w hid) p v

def CallOk (P : Program) (c : Cfg) (res : Res) (f : FuncId) (vs : Array Value) : Prop :=
  match res with
  | .fail => True
  | .ok p st' => Calls P f vs c.w fun e w' => ∃ μ' v, e = .returned v ∧ Good ⟨st', μ', w', c.hid⟩ ∧ Evo c ⟨st', μ', w', c.hid⟩ ∧ Rep ⟨st', μ', w', c.hid⟩ p v
  | .panic p st' => Calls P f vs c.w fun e w' => ∃ μ' v, e = .panicked [{ v := v, recovered := false }] ∧ Good ⟨st', μ', w', c.hid⟩ ∧ Evo c ⟨st', μ', w', c.hid⟩ ∧ Rep ⟨st', μ', w', c.hid⟩ p v

/-- Numbers that are kept stay free ('at_': but for this one). -/
def Fp (at_ : Option Nat) (st st' : St) : Prop := ∀ id, id < st.nx → at_ ≠ some id → st.H id = none → st.dead id = false → st'.H id = none ∧ st'.dead id = false
def FpR (at_ : Option Nat) (st : St) (res : Res) : Prop :=
  match res with
  | .fail => True
  | .ok _ st' => Fp at_ st st'
  | .panic _ st' => Fp at_ st st'

theorem Fp.refl (at_ : Option Nat) (st : St) : Fp at_ st st := fun _ _ _ h1 h2 => ⟨h1, h2⟩
theorem Fp.trans {a b c : St} (h : Fp none a b) (hn : a.nx ≤ b.nx) (k : Fp none b c) : Fp none a c := fun id hid _ h1 h2 =>
  let ⟨i1, i2⟩ := h id hid (by simp) h1 h2
  k id (Nat.lt_of_lt_of_le hid hn) (by simp) i1 i2

def SoundS (P : Program) (f : FuncId) (F : List PV → M) : Prop := ∀ c args vs, Good c → RepL c args vs → F args c.st = .fail ∨ (IsFn P f ∧ CallOk P c (F args c.st) f vs.toArray ∧ FpR none c.st (F args c.st))

def SoundP (P : Program) (f : FuncId) (F : List PV → PRes) : Prop :=
  ∀ (w : World) (hid : Nat → Prop) (as_ : List PV) (vs : List Value), (∀ b, hid b → b < w.heap.size) → RepL (Cfg.bare w hid) as_ vs →
    match F as_ with
    | .fail => True
    | .ret p => IsFn P f ∧ Calls P f vs.toArray w fun e w' => ∃ v, e = .returned v ∧ Keeps w w' ∧ OutR w' hid w.heap.size p v
    | .panic p => IsFn P f ∧ Calls P f vs.toArray w fun e w' => ∃ v, e = .panicked [{ v := v, recovered := false }] ∧ Keeps w w' ∧ p.noref = true ∧ Rep (Cfg.bare w' hid) p v

theorem CallOk.op {P : Program} {c : Cfg} {res : Res} {f : FuncId} {vs : Array Value} (h : CallOk P c res f vs) (o : Oper) (a : Act) : OpOk P c res o a (.ok (.enter f vs) c.w) := by
  unfold CallOk at h
  unfold OpOk
  split
  · trivial
  · intro next Q hn
    refine Calls.mono h fun e w' he => ?_
    obtain ⟨μ', v, rfl, g', ev, hr⟩ := he
    exact hn _ _ _ g' ev hr
  · intro next Q hn
    refine Calls.mono h fun e w' he => ?_
    obtain ⟨μ', v, rfl, g', ev, hr⟩ := he
    exact hn _ _ _ g' ev hr

/-! ### fresh results -/
theorem adopt {c : Cfg} (g : Good c) {w' : World} (k : Keeps c.w w') {sz : Nat} {xs : List PV} {ob : Option Nat} (hfit : ∀ x ∈ xs, fitsE sz x = true) (hn : noreL xs = true)
    (h : (ob = none ∧ xs = []) ∨ ∃ b cs e, ob = some b ∧ c.w.heap.size ≤ b ∧ w'.heap[b]? = some (.cells cs e (0, 0)) ∧ sz * xs.length ≤ cs.size ∧ RepSeq (Cfg.bare w' fun b' => c.own b' ∨ b' = b) (flat xs) cs.toList) :
    Good ⟨⟨upd c.st.H c.st.nx (some ⟨sz, xs⟩), c.st.nx + 1, c.st.dead⟩, fun i => if i = c.st.nx then ob else c.μ i, w', c.hid⟩ ∧
    Evo c ⟨⟨upd c.st.H c.st.nx (some ⟨sz, xs⟩), c.st.nx + 1, c.st.dead⟩, fun i => if i = c.st.nx then ob else c.μ i, w', c.hid⟩ := by
  obtain ⟨f1, f2⟩ := nx_free g
  have hob : ∀ b, ob = some b → c.w.heap.size ≤ b := fun b hb => by
    rcases h with ⟨h, _⟩ | ⟨b', cs, e, h, hle, _⟩
    · rw [h] at hb; cases hb
    · rw [h] at hb; cases hb; exact hle
  have ev : Evo c ⟨⟨upd c.st.H c.st.nx (some ⟨sz, xs⟩), c.st.nx + 1, c.st.dead⟩, fun i => if i = c.st.nx then ob else c.μ i, w', c.hid⟩ := by
    refine ⟨fun b hb _ => k.heap b hb, k.size, k.os, k.tape, k.output, rfl, fun b hb => ?_, Nat.le_succ _, fun i hi => hi, fun i bl hb => ?_, fun b s hs => k.shape hs⟩
    · obtain ⟨i, bl, h1, h2⟩ := hb
      by_cases hi : i = c.st.nx
      · subst hi; simp only [if_true] at h2; exact .inr (hob b h2)
      · have h1' : upd c.st.H c.st.nx (some ⟨sz, xs⟩) i = some bl := h1
        rw [upd_other _ _ hi] at h1'
        simp only [hi, if_false] at h2
        exact .inl ⟨i, bl, h1', h2⟩
    · have hi : i ≠ c.st.nx := fun e => by subst e; rw [f1] at hb; cases hb
      exact .inr ⟨bl, by simpa [upd_other _ _ hi] using hb, rfl, Nat.le_refl _, fun _ => by simp [hi]⟩
  refine ⟨⟨fun i bl hb => ?_, fun i hi => ?_, fun i hi => Nat.lt_succ_of_lt (g.deadnx i hi), fun i bl hb => ?_, fun i bl b hb hm => ?_, fun i bl hb hm => ?_, fun i i' bl bl' b h1 h2 m1 m2 => ?_, fun b hb => Nat.lt_of_lt_of_le (g.hidlt b hb) k.size⟩, ev⟩
  · by_cases hi : i = c.st.nx
    · subst hi; exact Nat.lt_succ_self _
    · exact Nat.lt_succ_of_lt (g.nx i bl (by simpa [upd_other _ _ hi] using hb))
  · have hne : i ≠ c.st.nx := fun e => by subst e; simp only at hi; rw [f2] at hi; cases hi
    have := g.dead i hi
    simpa [upd_other _ _ hne] using this
  · by_cases hi : i = c.st.nx
    · subst hi; simp only [upd_same, Option.some.injEq] at hb; subst hb; exact hfit
    · exact g.fits i bl (by simpa [upd_other _ _ hi] using hb)
  · by_cases hi : i = c.st.nx
    · subst hi; simp only [upd_same, Option.some.injEq] at hb; subst hb
      simp only [if_true] at hm
      rcases h with ⟨h, _⟩ | ⟨b', cs, e, h, hle, hw, hroom, hrep⟩
      · rw [h] at hm; cases hm
      · rw [h] at hm; cases hm
        refine .of_seq (fun hh => by have := g.hidlt _ hh; omega) hw hroom (fun j p hp => ?_)
        obtain ⟨u, hu, hr⟩ := hrep j p hp
        refine ⟨u, hu, Rep.move (c := Cfg.bare w' fun b' => c.own b' ∨ b' = b) (c' := ⟨⟨upd c.st.H c.st.nx (some ⟨sz, xs⟩), c.st.nx + 1, c.st.dead⟩, fun i => if i = c.st.nx then ob else c.μ i, w', c.hid⟩) rfl (fun b' hb' => ?_) hr (noref_flat hn p (List.mem_of_getElem? hp))⟩
        rw [bare_own]
        rcases hb' with hb' | ⟨i, bl, h1, h2⟩
        · exact .inl (.inl hb')
        · by_cases hi : i = c.st.nx
          · subst hi; simp only [if_true, h, Option.some.injEq] at h2; exact .inr h2.symm
          · have h1' : upd c.st.H c.st.nx (some ⟨sz, xs⟩) i = some bl := h1
            rw [upd_other _ _ hi] at h1'
            simp only [hi, if_false] at h2
            exact .inl (.inr ⟨i, bl, h1', h2⟩)
    · have hb' : c.st.H i = some bl := by simpa [upd_other _ _ hi] using hb
      simp only [hi, if_false] at hm
      exact (g.blk i bl b hb' hm).evo ev (k.heap b (mine_lt g ⟨i, bl, hb', hm⟩))
  · by_cases hi : i = c.st.nx
    · subst hi; simp only [upd_same, Option.some.injEq] at hb; subst hb
      simp only [if_true] at hm
      rcases h with ⟨_, h⟩ | ⟨b', cs, e, h, _⟩
      · exact h
      · rw [h] at hm; cases hm
    · simp only [hi, if_false] at hm; exact g.bare i bl (by simpa [upd_other _ _ hi] using hb) hm
  · by_cases hi : i = c.st.nx
    · by_cases hi' : i' = c.st.nx
      · rw [hi, hi']
      · subst hi
        simp only [hi', if_false] at m2
        simp only [if_true] at m1
        have := hob b m1
        have := mine_lt g ⟨i', bl', by simpa [upd_other _ _ hi'] using h2, m2⟩
        omega
    · by_cases hi' : i' = c.st.nx
      · subst hi'
        simp only [hi, if_false] at m1
        simp only [if_true] at m2
        have := hob b m2
        have := mine_lt g ⟨i, bl, by simpa [upd_other _ _ hi] using h1, m1⟩
        omega
      · simp only [hi, if_false] at m1
        simp only [hi', if_false] at m2
        exact g.inj i i' bl bl' b (by simpa [upd_other _ _ hi] using h1) (by simpa [upd_other _ _ hi'] using h2) m1 m2

def TakeOk (c : Cfg) (w' : World) (v : Value) (res : Res) : Prop :=
  match res with
  | .ok q st' => ∃ μ', Good ⟨st', μ', w', c.hid⟩ ∧ Evo c ⟨st', μ', w', c.hid⟩ ∧ Rep ⟨st', μ', w', c.hid⟩ q v
  | .panic _ _ => False
  | .fail => True

/-- Results of a function without references, where memory is at hand. -/
theorem take_ok {c : Cfg} (g : Good c) {w' : World} (k : Keeps c.w w') {own : Option Nat} {p : PV} {v : Value} (h : OutR w' c.own c.w.heap.size p v) :
    TakeOk c w' v (takeM own p c.st) := by
  have plain : ∀ q, q.noref = true → Rep (Cfg.bare w' c.own) q v → ∃ μ', Good ⟨c.st, μ', w', c.hid⟩ ∧ Evo c ⟨c.st, μ', w', c.hid⟩ ∧ Rep ⟨c.st, μ', w', c.hid⟩ q v := fun q hn hr =>
    ⟨c.μ, k.good g, k.evo, Rep.move (c := Cfg.bare w' c.own) (c' := ⟨c.st, c.μ, w', c.hid⟩) rfl (fun b hb => bare_own.2 hb) hr hn⟩
  unfold takeM
  split
  · rename_i sz xs e
    have h : FrR w' c.own c.w.heap.size sz xs v := h
    obtain ⟨hn, hfit, h⟩ := h
    split
    case isFalse => trivial
    rename_i hc
    obtain ⟨rfl, _⟩ := hc
    simp only [withId]
    rcases h with ⟨rfl, rfl⟩ | ⟨b, cap, cs, e, rfl, hle, hw, hsz, hcap, hrep⟩
    · obtain ⟨g', ev⟩ := adopt g k (sz := sz) (xs := []) (ob := none) hfit hn (.inl ⟨rfl, rfl⟩)
      exact ⟨_, g', ev, Rep.sl0 c.st.nx ⟨sz, []⟩ (Nat.lt_succ_self _) (upd_same _ _ _) rfl (by simp)⟩
    · obtain ⟨g', ev⟩ := adopt g k (sz := sz) (xs := xs) (ob := some b) hfit hn (.inr ⟨b, cs, e, rfl, hle, hw, by
        have : xs.length * sz ≤ cap * sz := Nat.mul_le_mul_right _ hcap
        rw [Nat.mul_comm]; omega, hrep⟩)
      refine ⟨_, g', ev, ?_⟩
      have := Rep.sl (c := ⟨⟨upd c.st.H c.st.nx (some ⟨sz, xs⟩), c.st.nx + 1, c.st.dead⟩, fun i => if i = c.st.nx then some b else c.μ i, w', c.hid⟩)
        c.st.nx xs.length 0 xs.length ⟨sz, xs⟩ b cap cs.size e (Nat.lt_succ_self _) (upd_same _ _ _) rfl (by simp) (by simp only [World.shape?, hw]) (by simpa using hsz) (by omega) hcap (by omega)
      simpa using this
  · rename_i sz xs
    have h : FrR w' c.own c.w.heap.size sz xs v := h
    obtain ⟨hn, hfit, h⟩ := h
    refine plain (.lst xs) rfl ?_
    rcases h with ⟨rfl, rfl⟩ | ⟨b, cap, cs, e, rfl, hle, hw, hsz, hcap, hrep⟩
    · exact .lst0 none 0
    · refine Rep.lst_of (sz := sz) hfit hn (fun j q hq => ?_) (fun _ hb => ?_) hcap
      · obtain ⟨u, hu, hr⟩ := hrep j q hq
        exact ⟨u, by rw [cell_block (by exact hw)]; simpa using hu, Rep.move (c := Cfg.bare w' fun b' => c.own b' ∨ b' = b) (c' := Cfg.bare w' c.own) rfl (fun b hb => by rw [bare_own] at hb ⊢; exact .inl hb) hr (noref_flat hn q (List.mem_of_getElem? hq))⟩
      · rw [bare_own] at hb
        have := own_lt g hb; omega
  · rename_i hx1 hx2
    have h2 : p.noref = true ∧ Rep (Cfg.bare w' c.own) p v := by
      unfold OutR at h
      split at h
      · rename_i sz xs
        cases own with
        | none => exact (hx2 sz xs rfl rfl).elim
        | some e => exact (hx1 sz xs e rfl rfl).elim
      · exact h
    exact plain p h2.1 h2.2

end Go.Abs
end
/-
  THE ABSTRACT OPERATIONS ARE THE MODEL's: calls of functions without references, and of those that leave memory alone.
-/
section
set_option linter.unusedSimpArgs false
set_option linter.unusedVariables false
namespace Go.Abs
open Go

/-! ### memory that is given away -/
structure Killed (st st' : St) (ids : List Nat) : Prop where
  sub : ∀ i b, st'.H i = some b → st.H i = some b
  gone : ∀ i ∈ ids, st'.H i = none

theorem kill_one {c : Cfg} (g : Good c) {i : Nat} {bl : Blk} (hb : c.st.H i = some bl) :
    Good ⟨{ c.st with H := upd c.st.H i none, dead := fun j => if j = i then true else c.st.dead j }, c.μ, c.w, c.hid⟩ ∧
    Evo c ⟨{ c.st with H := upd c.st.H i none, dead := fun j => if j = i then true else c.st.dead j }, c.μ, c.w, c.hid⟩ := by
  have hsub : ∀ j bl', upd c.st.H i none j = some bl' → j ≠ i ∧ c.st.H j = some bl' := fun j bl' h => by
    by_cases hj : j = i
    · subst hj; rw [upd_same] at h; cases h
    · exact ⟨hj, by rw [upd_other _ _ hj] at h; exact h⟩
  have ev : Evo c ⟨{ c.st with H := upd c.st.H i none, dead := fun j => if j = i then true else c.st.dead j }, c.μ, c.w, c.hid⟩ := by
    refine ⟨fun b _ _ => rfl, Nat.le_refl _, rfl, rfl, rfl, rfl, fun b hb' => ?_, Nat.le_refl _, fun j hj => ?_, fun j bl' hj => ?_, fun b s hs => hs⟩
    · obtain ⟨j, bl', h1, h2⟩ := hb'
      exact .inl ⟨j, bl', (hsub j bl' h1).2, h2⟩
    · show (if j = i then true else c.st.dead j) = true
      split
      · rfl
      · exact hj
    · by_cases hji : j = i
      · subst hji; exact .inl (by simp)
      · exact .inr ⟨bl', by simpa [upd_other _ _ hji] using hj, rfl, Nat.le_refl _, fun _ => rfl⟩
  refine ⟨⟨fun j bl' h => g.nx j bl' (hsub j bl' h).2, fun j hj => ?_, fun j hj => ?_, fun j bl' h => g.fits j bl' (hsub j bl' h).2, fun j bl' b h hm => (g.blk j bl' b (hsub j bl' h).2 hm).evo ev rfl,
    fun j bl' h hm => g.bare j bl' (hsub j bl' h).2 hm, fun j j' b1 b2 b h1 h2 m1 m2 => g.inj j j' b1 b2 b (hsub _ _ h1).2 (hsub _ _ h2).2 m1 m2, g.hidlt⟩, ev⟩
  · by_cases hji : j = i
    · subst hji; exact upd_same _ _ _
    · have : c.st.dead j = true := by simpa [hji] using hj
      show upd c.st.H i none j = none
      rw [upd_other _ _ hji]; exact g.dead j this
  · by_cases hji : j = i
    · subst hji; exact g.nx j bl hb
    · exact g.deadnx j (by simpa [hji] using hj)

theorem kill_ok : ∀ (ids : List Nat) {c : Cfg} (g : Good c), Good ⟨kill c.st ids, c.μ, c.w, c.hid⟩ ∧ Evo c ⟨kill c.st ids, c.μ, c.w, c.hid⟩ ∧ Killed c.st (kill c.st ids) ids
  | [], c, g => ⟨g, .refl c, ⟨fun _ _ h => h, fun i hi => by simp at hi⟩⟩
  | i :: is, c, g => by
    unfold kill
    cases hb : c.st.H i with
    | none =>
      simp only []
      obtain ⟨h1, h2, h3⟩ := kill_ok is g
      refine ⟨h1, h2, ⟨h3.sub, fun j hj => ?_⟩⟩
      rcases List.mem_cons.1 hj with rfl | hj
      · cases hh : (kill c.st is).H j with
        | none => rfl
        | some b => have := h3.sub j b hh; rw [hb] at this; cases this
      · exact h3.gone j hj
    | some bl =>
      simp only []
      obtain ⟨g1, e1⟩ := kill_one g hb
      obtain ⟨h1, h2, h3⟩ := kill_ok is g1
      have hsub : ∀ j b', upd c.st.H i none j = some b' → j ≠ i ∧ c.st.H j = some b' := fun j bl' h => by
        by_cases hj : j = i
        · subst hj; rw [upd_same] at h; cases h
        · exact ⟨hj, by rw [upd_other _ _ hj] at h; exact h⟩
      refine ⟨h1, e1.trans h2, ⟨fun j b' hj => (hsub j b' (h3.sub j b' hj)).2, fun j hj => ?_⟩⟩
      rcases List.mem_cons.1 hj with rfl | hj
      · cases hh : (kill { c.st with H := upd c.st.H j none, dead := fun k => if k = j then true else c.st.dead k } is).H j with
        | none => rfl
        | some b' => exact ((hsub j b' (h3.sub j b' hh)).1 rfl).elim
      · exact h3.gone j hj

theorem kill_fp : ∀ (ids : List Nat) (st : St), Fp none st (kill st ids)
  | [], st => Fp.refl _ _
  | i :: is, st => by
    unfold kill
    cases hb : st.H i with
    | none => exact kill_fp is st
    | some bl =>
      intro id hid _ h1 h2
      have hne : id ≠ i := fun e => by subst e; rw [hb] at h1; cases h1
      exact kill_fp is _ id hid (by simp) (by simpa [upd_other _ _ hne] using h1) (by simpa [hne] using h2)

theorem Fp.fresh (st : St) (b : Option Blk) : Fp none st { st with H := upd st.H st.nx b, nx := st.nx + 1 } := fun id hid _ h1 h2 => by
  have hne : id ≠ st.nx := by omega
  exact ⟨by simpa [upd_other _ _ hne] using h1, h2⟩

theorem take_fp (own : Option Nat) (p : PV) (st : St) : FpR none st (takeM own p st) := by
  unfold takeM
  split
  · split
    · exact Fp.fresh st _
    · trivial
  · exact Fp.refl _ _
  · exact Fp.refl _ _

theorem scalar_rep {c c' : Cfg} {p : PV} {v : Value} (h : p.scalar = true) (hr : Rep c p v) : Rep c' p v := by
  cases hr with
  | int k n => exact .int k n
  | bool b => exact .bool b
  | str s => exact .str s
  | tup cs vs hl hh =>
    refine .tup cs vs hl fun j h1 h2 => ?_
    have := hh j h1 h2
    simp only [PV.scalar, List.all_eq_true] at h
    have hs := h _ (List.getElem_mem h1)
    revert this hs
    generalize cs[j] = p
    generalize vs[j] = v
    intro this hs
    cases this <;> simp at hs <;> constructor
  | _ => simp [PV.scalar] at h

theorem scalar_noref {p : PV} (h : p.scalar = true) : ∀ sz xs, p ≠ .fr sz xs := by
  intro sz xs e; subst e; simp [PV.scalar] at h

theorem OutR.plain {w : World} {hid : Nat → Prop} {n : Nat} {p : PV} {v : Value} (h : OutR w hid n p v) (hp : ∀ sz xs, p ≠ .fr sz xs) : p.noref = true ∧ Rep (Cfg.bare w hid) p v := by
  unfold OutR at h
  split at h
  · exact (hp _ _ rfl).elim
  · exact h

theorem callP_ok {P : Program} {c : Cfg} (g : Good c) {f : FuncId} {F : List PV → PRes} (hF : SoundP P f F) {args : List PV} {vs : List Value} (hl : RepL c args vs) (frz : Bool) (own : Option Nat) (mp : Bool) :
    callP frz own mp F args c.st = .fail ∨ (IsFn P f ∧ CallOk P c (callP frz own mp F args c.st) f vs.toArray ∧ FpR none c.st (callP frz own mp F args c.st)) := by
  unfold callP
  cases hs : snapL c.st.H depth args with
  | none => exact .inl rfl
  | some as_ =>
    simp only []
    -- what holds once the callee may touch nothing of ours
    have main : ∀ {hid : Nat → Prop} {p : PV}, (∀ b, hid b → b < c.w.heap.size) → RepL (Cfg.bare c.w hid) as_ vs → F as_ = .ret p → IsFn P f ∧ Calls P f vs.toArray c.w fun e w' => ∃ v, e = .returned v ∧ Keeps c.w w' ∧ OutR w' hid c.w.heap.size p v := fun hh hr he => by
      have := hF c.w _ as_ vs hh hr
      rw [he] at this; exact this
    cases he : F as_ with
    | fail => exact .inl rfl
    | panic p =>
      simp only []
      split
      case isFalse => exact .inl rfl
      rename_i hc
      simp only [Bool.and_eq_true] at hc
      have hr : RepL (Cfg.bare c.w c.own) as_ vs := snapL_rep (c' := Cfg.bare c.w c.own) g rfl (fun b hb => bare_own.1 hb) hs hl (.inl hc.2)
      have := hF c.w c.own as_ vs (fun b hb => own_lt g hb) hr
      rw [he] at this
      refine .inr ⟨this.1, Calls.mono this.2 fun e w' h => ?_, Fp.refl _ _⟩
      obtain ⟨v, rfl, k, hn, hr⟩ := h
      exact ⟨c.μ, v, rfl, k.good g, k.evo, Rep.move (c := Cfg.bare w' c.own) (c' := ⟨c.st, c.μ, w', c.hid⟩) rfl (fun b hb => bare_own.2 hb) hr hn⟩
    | ret p =>
      simp only []
      have fin : ∀ (c1 : Cfg), Good c1 → Evo c c1 → c1.w = c.w → c1.hid = c.hid → RepL (Cfg.bare c.w c1.own) as_ vs → Fp none c.st c1.st → takeM own p c1.st = .fail ∨ (IsFn P f ∧ CallOk P c (takeM own p c1.st) f vs.toArray ∧ FpR none c.st (takeM own p c1.st)) := by
        intro c1 g1 e1 hw hh hr hfp
        have hfp' : FpR none c.st (takeM own p c1.st) := by
          have := take_fp own p c1.st
          unfold FpR at this ⊢
          split at this <;> first | trivial | exact hfp.trans e1.nx this
        obtain ⟨h1, h2⟩ := main (hid := c1.own) (p := p) (fun b hb => by rw [← hw]; exact own_lt g1 hb) hr he
        cases ht : takeM own p c1.st with
        | fail => exact .inl rfl
        | panic q st' =>
          rw [ht] at hfp'
          refine .inr ⟨h1, Calls.mono h2 fun e w' h => ?_, hfp'⟩
          obtain ⟨v, rfl, k, ho⟩ := h
          have := take_ok g1 (w' := w') (by rw [hw]; exact k) (own := own) (p := p) (v := v) (by rw [hw]; exact ho)
          rw [ht] at this; exact this.elim
        | ok q st' =>
          rw [ht] at hfp'
          refine .inr ⟨h1, Calls.mono h2 fun e w' h => ?_, hfp'⟩
          obtain ⟨v, rfl, k, ho⟩ := h
          have := take_ok g1 (w' := w') (by rw [hw]; exact k) (own := own) (p := p) (v := v) (by rw [hw]; exact ho)
          rw [ht] at this
          obtain ⟨μ', g', e', hr'⟩ := this
          rw [hh] at g' e' hr'
          exact ⟨μ', v, rfl, g', e1.trans e', hr'⟩
      split
      · rename_i hn
        exact fin c g (.refl c) rfl rfl (snapL_rep (c' := Cfg.bare c.w c.own) g rfl (fun b hb => bare_own.1 hb) hs hl (.inl hn)) (Fp.refl _ _)
      · split
        · obtain ⟨g1, e1, hk⟩ := kill_ok (idsL c.st.H depth args) g
          refine fin ⟨kill c.st (idsL c.st.H depth args), c.μ, c.w, c.hid⟩ g1 e1 rfl rfl ?_ (kill_fp _ _)
          refine snapL_rep (c' := Cfg.bare c.w (Cfg.own ⟨kill c.st (idsL c.st.H depth args), c.μ, c.w, c.hid⟩)) g rfl (fun b hb => ?_) hs hl (.inr fun id hi bl b hb hm => ?_)
          · rw [bare_own] at hb
            rcases hb with hb | ⟨id, bl, h1, h2⟩
            · exact .inl hb
            · exact .inr ⟨id, bl, hk.sub id bl h1, h2⟩
          · rw [bare_own]
            rintro (hh | ⟨id', bl', h1, h2⟩)
            · exact (g.blk id bl b hb hm).hid hh
            · have := g.inj id' id bl' bl b (hk.sub _ _ h1) hb h2 hm
              subst this
              have h1' : (kill c.st (idsL c.st.H depth args)).H id' = some bl' := h1
              rw [hk.gone id' hi] at h1'; cases h1'
        · split
          case isFalse => exact .inl rfl
          rename_i hsc
          have hr : RepL (Cfg.bare c.w fun _ => False) as_ vs := snapL_rep (c' := Cfg.bare c.w fun _ => False) g rfl (fun b hb => (bare_own.1 hb).elim) hs hl (.inr fun id _ bl b _ _ hb => bare_own.1 hb)
          obtain ⟨h1, h2⟩ := main (hid := fun _ => False) (fun b hb => hb.elim) hr he
          refine .inr ⟨h1, Calls.mono h2 fun e w' h => ?_, Fp.refl _ _⟩
          obtain ⟨v, rfl, k, ho⟩ := h
          exact ⟨c.μ, v, rfl, k.good g, k.evo, scalar_rep hsc (ho.plain (scalar_noref hsc)).2⟩

end Go.Abs
end
