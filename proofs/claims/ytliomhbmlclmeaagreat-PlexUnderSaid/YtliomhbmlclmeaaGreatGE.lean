/-
  Joined from: AbsS15 AbsS16 AbsS17 AbsS18 AbsS19.
-/
import Derived.Test.YtliomhbmlclmeaaGreatGD
import Derived.Tactics
/-
  THE ABSTRACT OPERATIONS ARE THE MODEL's: calls that leave memory alone; bodies of functions without references.
-/
section
set_option linter.unusedSimpArgs false
set_option linter.unusedVariables false
namespace Go.Abs
open Go

theorem Rep.agg_inv {c : Cfg} {cs : List PV} {v : Value} (h : Rep c (.agg cs) v) : ∃ vs : List Value, v = .agg vs.toArray ∧ RepL c cs vs := by
  cases h with | agg _ vs hl h => exact ⟨vs, rfl, hl, h⟩
theorem Rep.tup_inv {c : Cfg} {cs : List PV} {v : Value} (h : Rep c (.tup cs) v) : ∃ vs : List Value, v = .tuple vs.toArray ∧ RepL c cs vs := by
  cases h with | tup _ vs hl h => exact ⟨vs, rfl, hl, h⟩
theorem Rep.func_inv {c : Cfg} {f : FuncId} {a b : List PV} {v : Value} (h : Rep c (.func f a b) v) : ∃ us vs : List Value, v = .func (.func f) us.toArray vs.toArray ∧ RepL c a us ∧ RepL c b vs := by
  cases h with | func _ _ _ us vs hl h hl' h' => exact ⟨us, vs, rfl, ⟨hl, h⟩, ⟨hl', h'⟩⟩

structure Same (c c' : Cfg) : Prop where
  ev : Evo c c'
  H : ∀ i, i < c.st.nx → c'.st.H i = c.st.H i

def Cfg.back (c c' : Cfg) : Cfg := ⟨c.st, c'.μ, c'.w, c'.hid⟩

theorem back_own {c c' : Cfg} (g : Good c) (s : Same c c') {b : Nat} (h : (c.back c').own b) : c'.own b := by
  rcases h with h | ⟨id, bl, h1, h2⟩
  · exact .inl h
  · exact .inr ⟨id, bl, by rw [s.H id (g.nx id bl h1)]; exact h1, h2⟩

theorem Rep.back {c c' : Cfg} (g : Good c) (g' : Good c') (s : Same c c') {p : PV} {v0 v : Value} (h : Rep c p v0) (k : Rep c' p v) : Rep (c.back c') p v := by
  have mv : ∀ {p : PV} {v : Value}, Rep c' p v → p.noref = true → Rep (c.back c') p v := fun k hn => Rep.move (c := c') (c' := c.back c') rfl (fun b hb => back_own g s hb) k hn
  induction h generalizing v with
  | junk _ => exact .junk v
  | int _ _ => exact mv k rfl
  | bool _ => exact mv k rfl
  | str _ => exact mv k rfl
  | agg cs vs hl _ ih =>
    obtain ⟨us, rfl, hl', hu⟩ := k.agg_inv
    exact .agg cs us hl' fun j h1 h2 => ih j h1 (by omega) (hu j h1 h2)
  | tup cs vs hl _ ih =>
    obtain ⟨us, rfl, hl', hu⟩ := k.tup_inv
    exact .tup cs us hl' fun j h1 h2 => ih j h1 (by omega) (hu j h1 h2)
  | lst0 a cap => exact mv k rfl
  | lst xs sz b o cap us hs hn' hc hr ho' hcap ih => exact mv k rfl
  | nilS => exact mv k rfl
  | z0 a => cases k; exact .z0 _
  | sl id n off len bl b cap m e hi hb hn' hm hsh h1 h2 h3 h4 =>
    have hb' : c'.st.H id = some bl := by rw [s.H id hi]; exact hb
    cases k with
    | sl _ _ _ _ bl' b' cap' m' e' hi' hb2 hn2 hm' hsh' g1 g2 g3 g4 =>
      rw [hb'] at hb2; cases hb2
      exact .sl id n off len bl b' cap' m' e' hi hb hn' hm' hsh' g1 g2 g3 g4
    | sl0 _ bl' hi' hb2 hn2 hm' =>
      rw [hb'] at hb2; cases hb2
      exact .sl0 id bl hi hb hn2 hm'
    | slx _ _ _ _ a k hst =>
      rcases hst with hd | ⟨bl', hb2, hlt⟩
      · have := g'.dead id hd; rw [hb'] at this; cases this
      · rw [hb'] at hb2; cases hb2; omega
  | sl0 id bl hi hb hn' hm =>
    have hb' : c'.st.H id = some bl := by rw [s.H id hi]; exact hb
    cases k with
    | sl _ _ _ _ bl' b' cap' m' e' hi' hb2 hn2 hm' hsh' g1 g2 g3 g4 =>
      rw [hb'] at hb2; cases hb2
      exact .sl id 0 0 0 bl b' cap' m' e' hi hb hn2 hm' hsh' g1 g2 g3 g4
    | sl0 _ bl' hi' hb2 hn2 hm' =>
      rw [hb'] at hb2; cases hb2
      exact .sl0 id bl hi hb hn' hm'
    | slx _ _ _ _ a k hst =>
      rcases hst with hd | ⟨bl', hb2, hlt⟩
      · have := g'.dead id hd; rw [hb'] at this; cases this
      · rw [hb'] at hb2; cases hb2; rw [hn'] at hlt; simp at hlt
  | slx id n off len a k hs => cases k <;> exact .slx _ _ _ _ _ _ hs
  | ptr id n idx off bl b hi hb hn' hm =>
    have hb' : c'.st.H id = some bl := by rw [s.H id hi]; exact hb
    cases k with
    | ptr _ _ _ _ bl' b' hi' hb2 hn2 hm' =>
      rw [hb'] at hb2; cases hb2
      exact .ptr id n idx off bl b' hi hb hn' hm'
    | ptrx _ _ _ _ a hst =>
      rcases hst with hd | ⟨bl', hb2, hlt⟩
      · have := g'.dead id hd; rw [hb'] at this; cases this
      · rw [hb'] at hb2; cases hb2; omega
  | ptrx id n idx off a hs => cases k <;> exact .ptrx _ _ _ _ _ hs
  | cref x off b o us hk hn' hc hr ho' ih =>
    cases k with
    | cref _ _ b' o' us' hk' hn2 hc' hr' ho2 =>
      exact .cref x off b' o' us' hk' hn2 hc' (fun j hj => mv (hr' j hj) (noref_cells hn2 _ (List.getElem_mem _))) (fun hne hb => ho2 hne (back_own g s hb))
  | nilP => exact mv k rfl
  | func f first cap us vs hl _ hl' _ ih ih' =>
    obtain ⟨us', vs', rfl, ⟨a1, a2⟩, ⟨b1, b2⟩⟩ := k.func_inv
    exact .func f first cap us' vs' a1 (fun j h1 h2 => ih j h1 (by omega) (a2 j h1 h2)) b1 (fun j h1 h2 => ih' j h1 (by omega) (b2 j h1 h2))
  | nilF => exact mv k rfl
  | iface t x v _ ih => cases k with | iface _ _ _ k => exact .iface t x _ (ih k)
  | nilI => exact mv k rfl

theorem back_ok {c c' : Cfg} (g : Good c) (g' : Good c') (s : Same c c') : Good (c.back c') ∧ Evo c (c.back c') := by
  have hμ : ∀ id bl, c.st.H id = some bl → c'.μ id = c.μ id := fun id bl hb => by
    have hb' : c'.st.H id = some bl := by rw [s.H id (g.nx id bl hb)]; exact hb
    rcases s.ev.kept id bl hb with hd | ⟨bl', h1, _, _, h4⟩
    · have := g'.dead id hd; rw [hb'] at this; cases this
    · rw [hb'] at h1; cases h1; exact h4 rfl
  have ev : Evo c (c.back c') :=
    ⟨s.ev.heap, s.ev.size, s.ev.os, s.ev.tape, s.ev.output, s.ev.hid, fun b hb => by
      obtain ⟨id, bl, h1, h2⟩ := hb
      exact .inl ⟨id, bl, h1, by rw [← hμ id bl h1]; exact h2⟩, Nat.le_refl _, fun _ h => h, fun id bl hb => .inr ⟨bl, hb, rfl, Nat.le_refl _, fun _ => hμ id bl hb⟩, s.ev.shape⟩
  refine ⟨⟨g.nx, g.dead, g.deadnx, g.fits, fun id bl b hb hm => ?_, fun id bl hb hm => g.bare id bl hb (by rw [← hμ id bl hb]; exact hm), fun i i' b1 b2 b h1 h2 m1 m2 => g.inj i i' b1 b2 b h1 h2 (by rw [← hμ i b1 h1]; exact m1) (by rw [← hμ i' b2 h2]; exact m2), fun b hb => g'.hidlt b hb⟩, ev⟩
  have hb' : c'.st.H id = some bl := by rw [s.H id (g.nx id bl hb)]; exact hb
  have k := g'.blk id bl b hb' hm
  have k0 := g.blk id bl b hb (by rw [← hμ id bl hb]; exact hm)
  refine ⟨k.hid, ?_⟩
  obtain ⟨cs, e, h1, h2, h3⟩ := k.cells
  obtain ⟨cs0, e0, i1, i2, i3⟩ := k0.cells
  refine ⟨cs, e, h1, h2, fun j hj => ?_⟩
  obtain ⟨u, hu, hr⟩ := h3 j hj
  obtain ⟨u0, hu0, hr0⟩ := i3 j hj
  exact ⟨u, hu, hr0.back g g' s hr⟩

theorem callR_ok {P : Program} {c : Cfg} (g : Good c) {f : FuncId} {F : List PV → M} (hF : SoundS P f F) {args : List PV} {vs : List Value} (hl : RepL c args vs) :
    callR F args c.st = .fail ∨ (IsFn P f ∧ CallOk P c (callR F args c.st) f vs.toArray ∧ FpR none c.st (callR F args c.st)) := by
  unfold callR
  have h := hF c args vs g hl
  cases he : F args c.st with
  | fail => exact .inl rfl
  | ok p st' =>
    rw [he] at h
    simp only []
    split
    case isFalse => exact .inl rfl
    rename_i hc
    obtain ⟨h1, h2, _⟩ := h.resolve_left (by simp)
    refine .inr ⟨h1, Calls.mono h2 fun e w' h => ?_, Fp.refl _ _⟩
    obtain ⟨μ', v, rfl, g', ev, hr⟩ := h
    have s : Same c ⟨st', μ', w', c.hid⟩ := ⟨ev, sameTo_iff.1 hc.1⟩
    obtain ⟨g2, e2⟩ := back_ok g g' s
    exact ⟨μ', v, rfl, g2, e2, Rep.move (c := ⟨st', μ', w', c.hid⟩) (c' := c.back ⟨st', μ', w', c.hid⟩) rfl (fun b hb => back_own g s hb) hr hc.2⟩
  | panic p st' =>
    rw [he] at h
    simp only []
    split
    case isFalse => exact .inl rfl
    rename_i hc
    obtain ⟨h1, h2, _⟩ := h.resolve_left (by simp)
    refine .inr ⟨h1, Calls.mono h2 fun e w' h => ?_, Fp.refl _ _⟩
    obtain ⟨μ', v, rfl, g', ev, hr⟩ := h
    have s : Same c ⟨st', μ', w', c.hid⟩ := ⟨ev, sameTo_iff.1 hc.1⟩
    obtain ⟨g2, e2⟩ := back_ok g g' s
    exact ⟨μ', v, rfl, g2, e2, Rep.move (c := ⟨st', μ', w', c.hid⟩) (c' := c.back ⟨st', μ', w', c.hid⟩) rfl (fun b hb => back_own g s hb) hr hc.2⟩

theorem calm_ok {P : Program} {c : Cfg} {f : FuncId} {m : M} {vs : Array Value} (mp : Bool) (h : m c.st = .fail ∨ (IsFn P f ∧ CallOk P c (m c.st) f vs ∧ FpR none c.st (m c.st))) : calm mp m c.st = .fail ∨ (IsFn P f ∧ CallOk P c (calm mp m c.st) f vs ∧ FpR none c.st (calm mp m c.st)) := by
  unfold calm
  cases he : m c.st with
  | fail => exact .inl rfl
  | ok p st' => rw [he] at h; exact h
  | panic p st' =>
    rw [he] at h
    cases mp
    · exact .inl rfl
    · exact h

/-- A function that needs no memory of its callers'. -/
theorem soundP_of {P : Program} {f : FuncId} {body : List PV → M} (h : SoundS P f body) (fresh : Bool) : SoundP P f (runP fresh body) := by
  intro w hid as_ vs hh hl
  have g0 : Good (Cfg.bare w hid) := bare_good hh
  have hb := h (Cfg.bare w hid) as_ vs g0 hl
  unfold runP
  have e0 : (Cfg.bare w hid).st = St.empty := rfl
  rw [e0] at hb
  cases he : body as_ St.empty with
  | fail => trivial
  | panic p st' =>
    rw [he] at hb
    obtain ⟨h1, h2, hfp0⟩ := hb.resolve_left (by simp)
    simp only []
    cases hs : snapF st'.H depth p with
    | none => trivial
    | some q =>
      refine ⟨h1, Calls.mono h2 fun e w' h => ?_⟩
      obtain ⟨μ', v, rfl, g', ev, hr⟩ := h
      have k : Keeps w w' := Evo.keeps (hid := hid) ev
      obtain ⟨a, b⟩ := snap_rep (c := ⟨st', μ', w', hid⟩) (c' := Cfg.bare w' hid) g' rfl (fun b hb => .inl (bare_own.1 hb)) depth p q v hs hr (Apart.all (fun b hm hb => by
        obtain ⟨id, bl, h1, h2⟩ := hm
        exact (g'.blk id bl b h1 h2).hid (bare_own.1 hb)) _ _)
      exact ⟨v, rfl, k, b, a⟩
  | ok p st' =>
    rw [he] at hb
    obtain ⟨h1, h2, hfp0⟩ := hb.resolve_left (by simp)
    clear hfp0 hb
    simp only []
    have plain : ∀ q, snapF st'.H depth p = some q → IsFn P f ∧ Calls P f vs.toArray w fun e w' => ∃ v, e = .returned v ∧ Keeps w w' ∧ OutR w' hid w.heap.size q v := fun q hs => by
      refine ⟨h1, Calls.mono h2 fun e w' h => ?_⟩
      obtain ⟨μ', v, rfl, g', ev, hr⟩ := h
      have k : Keeps w w' := Evo.keeps (hid := hid) ev
      obtain ⟨a, b⟩ := snap_rep (c := ⟨st', μ', w', hid⟩) (c' := Cfg.bare w' hid) g' rfl (fun b hb => .inl (bare_own.1 hb)) depth p q v hs hr (Apart.all (fun b hm hb => by
        obtain ⟨id, bl, h1, h2⟩ := hm
        exact (g'.blk id bl b h1 h2).hid (bare_own.1 hb)) _ _)
      refine ⟨v, rfl, k, ?_⟩
      unfold OutR
      split
      · simp [PV.noref] at b
      · exact ⟨b, a⟩
    cases fresh with
    | false =>
      simp only [cond_false]
      cases hs : snapF st'.H depth p with
      | none => trivial
      | some q => exact plain q hs
    | true =>
      simp only [cond_true]
      cases hs : freshV st' p with
      | none => trivial
      | some q =>
        show IsFn P f ∧ _
        unfold freshV at hs
        split at hs
        · rename_i id n len
          cases hbl : st'.H id with
          | none => simp [hbl] at hs
          | some bl =>
            simp only [hbl] at hs
            split at hs
            case isFalse => cases hs
            rename_i hc
            cases hs
            obtain ⟨hbn, hln, hnr⟩ := hc
            refine ⟨h1, Calls.mono h2 fun e w' h => ?_⟩
            obtain ⟨μ', v, rfl, g', ev, hr⟩ := h
            have k : Keeps w w' := Evo.keeps (hid := hid) ev
            refine ⟨v, rfl, k, ?_⟩
            refine ⟨hnr, g'.fits id bl hbl, ?_⟩
            cases hr with
            | sl _ _ _ _ bl' b cap m e hi hb2 hn2 hm hsh i1 i2 i3 i4 =>
              have hb2' : st'.H id = some bl' := hb2
              rw [hbl] at hb2'; cases hb2'
              obtain ⟨cs, e', k1, k2, k3⟩ := (g'.blk id bl b hbl hm).seq
              refine .inr ⟨b, cap, cs, e', by rw [Nat.zero_mul, hln, ← hbn], ?_, k1, ?_, by omega, fun j p hp => ?_⟩
              · rcases ev.mine b ⟨id, bl, hbl, hm⟩ with hm' | hm'
                · exact (bare_mine hm').elim
                · exact hm'
              · have hsz : m = cs.size := by simp only [World.shape?, k1, Option.some.injEq, Prod.mk.injEq] at hsh; exact hsh.2.symm
                rw [← hsz]; simpa using i1
              · obtain ⟨u, hu, hr⟩ := k3 j p hp
                refine ⟨u, hu, Rep.move (c := ⟨st', μ', w', hid⟩) (c' := Cfg.bare w' fun b' => hid b' ∨ b' = b) rfl (fun b' hb' => ?_) hr (noref_flat hnr p (List.mem_of_getElem? hp))⟩
                rw [bare_own] at hb'
                rcases hb' with hb' | rfl
                · exact .inl hb'
                · exact .inr ⟨id, bl, hbl, hm⟩
            | sl0 _ bl' hi hb2 hn2 hm =>
              have hb2' : st'.H id = some bl' := hb2
              rw [hbl] at hb2'; cases hb2'
              exact .inl ⟨hn2, rfl⟩
            | slx _ _ _ _ a k hst =>
              rcases hst with hd | ⟨bl', hb2, hlt⟩
              · have := g'.dead id hd
                have h' : st'.H id = none := this
                rw [hbl] at h'; cases h'
              · have hb2' : st'.H id = some bl' := hb2
                rw [hbl] at hb2'; cases hb2'; omega
        · exact plain q hs

end Go.Abs
end
/-
  THE ABSTRACT OPERATIONS ARE THE MODEL's: every operation.
-/
section
set_option linter.unusedSimpArgs false
set_option linter.unusedVariables false
namespace Go.Abs
open Go

structure CtxOk (P : Program) (X : Ctx) : Prop where
  T : TOk X.T P
  call : ∀ f, match X.call f with
    | .none => True
    | .P F => SoundP P f F
    | .R F => SoundS P f F
    | .S F => SoundS P f F
    | .N F => SoundS P f F
  dyn : ∀ f, SoundS P f (X.dyn f)

/-- The same, of what is yet to be run. -/
def OpOkM (P : Program) (c : Cfg) (m : M) (o : Oper) (a : Act) (r : Result Next) : Prop := OpOk P c (m c.st) o a r

theorem OpOkM.fail {P : Program} {c : Cfg} {o : Oper} {a : Act} {r : Result Next} : OpOkM P c failM o a r := trivial

theorem ifU_ok {P : Program} {c : Cfg} {o : Oper} {a : Act} {r : Result Next} {t : TI} {m : M} (h : t.usable = true → OpOkM P c m o a r) : OpOkM P c (ifU t m) o a r := by
  unfold ifU
  cases hu : t.usable
  · exact OpOkM.fail
  · exact h hu

theorem op_of_call {P : Program} {c : Cfg} {o : Oper} {a : Act} {r : Result Next} {m : M} {f : FuncId} {vs : Array Value} (h : m c.st = .fail ∨ (IsFn P f ∧ CallOk P c (m c.st) f vs ∧ FpR none c.st (m c.st))) (e : IsFn P f → r = .ok (.enter f vs) c.w) : OpOkM P c m o a r := by
  unfold OpOkM
  rcases h with h | ⟨h1, h2, _⟩
  · rw [h]; exact OpOk.fail
  · rw [e h1]; exact h2.op o a

theorem bif_ok {P : Program} {c : Cfg} {o : Oper} {a : Act} {r : Result Next} {b : Bool} {m n : M} (h : b = true → OpOkM P c m o a r) (k : b = false → OpOkM P c n o a r) : OpOkM P c (bif b then m else n) o a r := by
  cases b
  · exact k rfl
  · exact h rfl

theorem usable_of {t : TI} (h : t.d ≠ .other) : t.usable = true := by
  unfold TI.usable; split <;> simp_all

theorem isDesc {P : Program} {t : TypeId} {x : TI} (h : TypeOk P t x) {d : TD} (hd : x.d = d) : ∃ e, P.underlying t = some e ∧ d.fits P e := by
  obtain ⟨e, h1, h2⟩ := h.desc
  exact ⟨e, h1, hd ▸ h2⟩

section
variable {P : Program} {X : Ctx} (hX : CtxOk P X)
include hX

theorem CtxOk.usable {t : TypeId} (h : (X.T t).d ≠ .other) : TypeOk P t (X.T t) := hX.T t (usable_of h)
theorem CtxOk.u {t : TypeId} (h : (X.T t).usable = true) : TypeOk P t (X.T t) := hX.T t h

theorem CtxOk.slice {t e : TypeId} (h : (X.T t).d = .slice e) : P.underlying t = some (.slice e) := by
  obtain ⟨d, h1, h2⟩ := isDesc (hX.usable (t := t) (by simp [h])) h
  simp only [TD.fits] at h2; subst h2; exact h1
theorem CtxOk.str {t : TypeId} (h : (X.T t).d = .str) : P.underlying t = some .string := by
  obtain ⟨d, h1, h2⟩ := isDesc (hX.usable (t := t) (by simp [h])) h
  simp only [TD.fits] at h2; subst h2; exact h1
theorem CtxOk.arr {t e : TypeId} {n : Nat} (h : (X.T t).d = .arr n e) : P.underlying t = some (.array n e) := by
  obtain ⟨d, h1, h2⟩ := isDesc (hX.usable (t := t) (by simp [h])) h
  simp only [TD.fits] at h2; subst h2; exact h1
theorem CtxOk.int {t : TypeId} {k : IntKind} (h : (X.T t).d = .int k) : P.underlying t = some (.int k) := by
  obtain ⟨d, h1, h2⟩ := isDesc (hX.usable (t := t) (by simp [h])) h
  simp only [TD.fits] at h2; subst h2; exact h1
theorem CtxOk.struct {t : TypeId} {fs : List (TypeId × Nat)} (h : (X.T t).d = .struct fs) : ∃ l : Array Field, P.underlying t = some (.struct l) ∧ fs = l.toList.map (fun f => (f.type, f.offset)) ∧ ∀ f ∈ l.toList, ∃ i, P.info? f.type = some i := by
  obtain ⟨d, h1, h2⟩ := isDesc (hX.usable (t := t) (by simp [h])) h
  simp only [TD.fits] at h2
  obtain ⟨l, rfl, h3, h4⟩ := h2
  exact ⟨l, h1, h3, h4⟩

theorem fieldOf_spec {t : TypeId} {f o : Nat} {u : TI} (h : fieldOf X (X.T t) f = some (o, u)) :
    ∃ (l : Array Field) (fi : Field), P.underlying t = some (.struct l) ∧ l[f]? = some fi ∧ fi.offset = o ∧ u = X.T fi.type ∧ ∀ f ∈ l.toList, ∃ i, P.info? f.type = some i := by
  unfold fieldOf at h
  split at h
  · rename_i fs hd
    obtain ⟨l, h1, h2, h3⟩ := hX.struct hd
    split at h
    · rename_i u' o' hf
      cases h
      rw [h2] at hf
      simp only [List.getElem?_map, Option.map_eq_some_iff] at hf
      obtain ⟨fi, hfi, he⟩ := hf
      cases he
      exact ⟨l, fi, h1, by simpa using hfi, rfl, rfl, h3⟩
    · cases h
  · cases h

theorem places_ok {c : Cfg} {s : List PV} {a : Act} (hs : Slots c s a.tmps) {t : TypeId} {l : Array Field} (hl : P.underlying t = some (.struct l)) : ∀ {ps : List (Nat × Operand)} {qs : List (Nat × Nat × PV)}, placesOf X (X.T t) s ps = some qs →
    PlacesR c (fun i => (l.map fun f => (f.offset, P.cellsOf f.type))[i]?) qs (ps.map fun p => (p.1, a.eval p.2))
  | [], qs, h => by simp [placesOf] at h; subst h; exact .nil
  | (f, x) :: ps, qs, h => by
    simp only [placesOf] at h
    split at h
    · rename_i o u qs' hf hr
      split at h
      · rename_i hu
        cases h
        obtain ⟨l', fi, h1, h2, h3, h4, h5⟩ := fieldOf_spec hX hf
        rw [hl] at h1; cases h1
        subst h4
        refine .cons f o (X.T fi.type).size (opd s x) (a.eval x) qs' _ ?_ (opd_rep hs x) (places_ok hs hl hr)
        simp [h2, h3, cellsOf_of (hX.u hu)]
      · cases h
    · cases h

omit hX in
theorem parts_ok {c : Cfg} {s : List PV} {a : Act} (hs : Slots c s a.tmps) : ∀ (ps : List (Nat × Operand)), PartsR c (ps.map fun p => (p.1, opd s p.2)) (ps.map fun p => (p.1, a.eval p.2))
  | [] => .nil
  | p :: ps => .cons p.1 _ _ _ _ (opd_rep hs p.2) (parts_ok hs ps)

theorem builtin_ok {c : Cfg} (g : Good c) (b : Builtin) (tys : Array TypeId) (ty : TypeId) (consts : Array Bool) {args : List PV} {vs : List Value} (hl : RepL c args vs) (o : Oper) (a : Act) :
    OpOkM P c (builtinM X b tys.toList args) o a ((builtin b tys ty consts vs.toArray).run P c.w) := by
  unfold builtinM
  split
  · rename_i x2 x3 t x ht
    have htys : tys = #[t] := Array.ext' (by simpa using ht)
    subst htys
    obtain ⟨v, rfl⟩ : ∃ v, vs = [v] := by
      have := hl.1; simp at this; exact List.length_eq_one_iff.1 this.symm
    have hx : Rep c x v := hl.2 0 (by simp) (by simp)
    split
    · rename_i e hd
      exact (len_ok g (ty := ty) hx (hX.slice hd)).op o a rfl
    · rename_i hd
      exact (lenStr_ok g (ty := ty) hx (hX.str hd)).op o a rfl
    · rename_i n e hd
      exact (lenArr_ok g (ty := ty) v (hX.arr hd)).op o a rfl
    · exact OpOkM.fail
  · rename_i x2 x3 t t' s x ht
    have htys : tys = #[t, t'] := Array.ext' (by simpa using ht)
    subst htys
    obtain ⟨u, v, rfl⟩ : ∃ u v, vs = [u, v] := by
      match vs, hl.1 with
      | [u, v], _ => exact ⟨u, v, rfl⟩
    have hs : Rep c s u := hl.2 0 (by simp) (by simp)
    have hx : Rep c x v := hl.2 1 (by simp) (by simp)
    split
    · rename_i e hd
      refine ifU_ok fun hu => ?_
      refine bif_ok (fun htt => ?_) (fun _ => OpOkM.fail)
      · have : t' = t := by simpa using htt
        subst this
        exact (append_ok g ty (hX.slice hd) (hX.u hu) hs hx).op o a rfl
    · exact OpOkM.fail
  · exact (max_ok g tys ty hl).op o a rfl
  · exact (min_ok g tys ty hl).op o a rfl
  · exact OpOkM.fail

omit hX in
theorem callN_ok {c : Cfg} {f : FuncId} {F : List PV → M} {args : List PV} {vs : Array Value} (h : F args c.st = .fail ∨ (IsFn P f ∧ CallOk P c (F args c.st) f vs ∧ FpR none c.st (F args c.st))) :
    callN F args c.st = .fail ∨ (IsFn P f ∧ CallOk P c (callN F args c.st) f vs ∧ FpR none c.st (callN F args c.st)) := by
  unfold callN
  cases he : F args c.st with
  | fail => exact .inl rfl
  | ok p st' =>
    rw [he] at h
    simp only []
    split
    · exact h
    · exact .inl rfl
  | panic p st' => rw [he] at h; exact h

theorem callM_ok {c : Cfg} (g : Good c) (mp frz : Bool) (own : Option Nat) (f : FuncId) {args : List PV} {vs : List Value} (hl : RepL c args vs) :
    callM X mp frz own f args c.st = .fail ∨ (IsFn P f ∧ CallOk P c (callM X mp frz own f args c.st) f vs.toArray ∧ FpR none c.st (callM X mp frz own f args c.st)) := by
  unfold callM
  have := hX.call f
  cases hc : X.call f with
  | none => exact .inl rfl
  | P F => rw [hc] at this; exact callP_ok g this hl frz own mp
  | R F => rw [hc] at this; exact calm_ok mp (callR_ok g this hl)
  | S F => rw [hc] at this; exact calm_ok mp (this c args vs g hl)
  | N F => rw [hc] at this; exact calm_ok mp (callN_ok (this c args vs g hl))

theorem evOp_ok {c : Cfg} (g : Good c) {s : List PV} {a : Act} (hs : Slots c s a.tmps) {at_ : Option Nat} (hf : FreeId c at_) (mp : Bool) (o : Oper) :
    OpOkM P c (evOp X mp at_ o s) o a ((execOp a.eval o).run P c.w) := by
  have hop := opd_rep hs
  unfold evOp
  split
  · -- move
    rename_i x ho
    exact (NOk.same g (by simp [execOp, ho]) (hop x)).op o a
  · rename_i x ho
    exact (NOk.same g (by simp [execOp, ho]) (hop x)).op o a
  · -- pick
    rename_i cc x y ho
    have h := hop cc
    unfold pickM
    split
    · rename_i t hc
      rw [hc] at h
      generalize hv : a.eval cc = v at h
      cases h
      refine (NOk.same g (v := if t then a.eval x else a.eval y) (by simp [execOp, ho, hv, asBool]) ?_).op o a
      cases t
      · exact hop y
      · exact hop x
    · exact OpOkM.fail
  · -- alloc
    rename_i e ho
    refine ifU_ok fun hu => ?_
    exact (alloc_ok g hf (hX.u hu)).op o a (by simp only [execOp, ho])
  · rename_i e x ho
    refine ifU_ok fun hu => ?_
    exact (box_ok g hf (hX.u hu) (hop x)).op o a (by simp only [execOp, ho])
  · -- build
    rename_i t ps ho
    split
    · rename_i fs zs l hd hz hp
      obtain ⟨fl, h1, h2, h3⟩ := hX.struct hd
      have := build_ok g (hX.usable (t := t) (by simp [hd])) hz h1 h3 (places_ok hX hs h1 hp)
      refine this.op o a ?_
      have e1 : (ps.map fun (p : Nat × Operand) => (p.1, a.eval p.2)) = ((ps.toList.map fun p => (p.1, a.eval p.2))).toArray := by
        apply Array.ext'; simp only [Array.toList_map]
      simp only [execOp, ho]
      rw [← e1]
    · exact OpOkM.fail
  · -- buildSlice
    rename_i t len ps ho
    split
    · rename_i e hd
      refine ifU_ok fun hu => ?_
      have := buildSlice_ok g hf (hX.slice hd) (hX.u hu) (len := len) (parts_ok hs ps.toList)
      refine this.op o a ?_
      have e1 : (ps.map fun (p : Nat × Operand) => (p.1, a.eval p.2)) = ((ps.toList.map fun p => (p.1, a.eval p.2))).toArray := by
        apply Array.ext'; simp only [Array.toList_map]
      simp only [execOp, ho]
      rw [← e1]
    · exact OpOkM.fail
  · -- load
    rename_i t x ho
    split
    · rename_i q hq
      have hu : (X.T t).usable = true := by
        unfold TI.pt at hq; unfold TI.usable; split at hq
        · rename_i h; unfold TI.isAgg at h; revert h; cases (X.T t).d <;> simp
        · split at hq
          · rename_i h; unfold TI.usable at h; exact h
          · cases hq
      exact (load_ok g (hX.u hu) hq (hop x)).op o a (by simp only [execOp, ho])
    · exact OpOkM.fail
  · -- store
    rename_i t x y ho
    refine ifU_ok fun hu => ?_
    have := (store_ok g (hX.u hu) (hop x) (hop y)).op o a
    simp only [execOp, ho]
    exact this
  · -- nilCheck
    rename_i x ho
    exact (nilCheck_ok g (hop x) a.eval o x rfl ho).op o a
  · -- binOp
    rename_i op t x y k ho
    exact (bin_ok g (fun hu => hX.u hu) (hop x) (hop y) x y).op o a (by simp only [execOp, ho])
  · -- unOp
    rename_i op t x ho
    exact (un_ok g (hop x)).op o a (by simp only [execOp, ho])
  · -- convert
    rename_i t b x ho
    split
    · rename_i k hd
      refine ifU_ok fun hu => ?_
      obtain ⟨ds, h1, _⟩ := (hX.u hu).desc
      exact (conv_ok g (hop x) h1 (hX.int hd)).op o a (by simp only [execOp, ho])
    · rename_i e hd ha
      refine bif_ok (fun hu => ?_) (fun _ => OpOkM.fail)
      have he : (X.T e).d = .int .u8 := by
        revert hu
        cases (X.T e).d with
        | int k => cases k <;> simp [isU8]
        | _ => simp [isU8]
      exact (strOf_ok g (hop x) (hX.slice ha) (hX.int he) (hX.str hd)).op o a (by simp only [execOp, ho])
    · exact OpOkM.fail
  · -- makeFunc
    rename_i f first cap ho
    have h1 := opds_rep hs first.toList
    have h2 := opds_rep hs cap.toList
    refine (NOk.same g (v := .func (.func f) (first.map a.eval) (cap.map a.eval)) (by simp [execOp, ho, Instr.makeFunc]) ?_).op o a
    have e1 : first.map a.eval = (first.toList.map a.eval).toArray := Array.ext' (by simp only [Array.toList_map])
    have e2 : cap.map a.eval = (cap.toList.map a.eval).toArray := Array.ext' (by simp only [Array.toList_map])
    rw [e1, e2]
    exact .func f _ _ _ _ h1.1 h1.2 h2.1 h2.2
  · -- makeSlice
    rename_i t l cc ho
    split
    · rename_i e hd
      refine ifU_ok fun hu => ?_
      exact (makeSlice_ok g hf (hX.slice hd) (hX.u hu) (hop l) (hop cc)).op o a (by simp only [execOp, ho])
    · exact OpOkM.fail
  · -- slice
    rename_i t x lo hi mx ho
    split
    · rename_i hd
      exact (sliceStr_ok g (hX.str hd) (hop x) (opt_rep hs lo) (opt_rep hs hi)).op o a (by simp only [execOp, ho]; rfl)
    · rename_i _ _ e hd
      refine ifU_ok fun hu => ?_
      exact (slice_ok g (hX.slice hd) (hX.u hu) (hop x) (opt_rep hs lo) (opt_rep hs hi) (opt_rep hs _)).op o a (by simp only [execOp, ho])
    · exact OpOkM.fail
  · -- fieldAddr
    rename_i t x f ho
    split
    · rename_i of u hfo
      refine ifU_ok fun hu => ?_
      refine bif_ok (fun _ => OpOkM.fail) (fun h0 => ?_)
      · obtain ⟨l, fi, h1, h2, h3, h4, h5⟩ := fieldOf_spec hX hfo
        subst h4
        exact (fieldAt_ok g (hop x) h1 h2 rfl h3 (hX.u hu) (by simpa using h0)).op o a (by simp only [execOp, ho])
    · exact OpOkM.fail
  · -- field
    rename_i t x f ho
    split
    · rename_i of u hfo
      split
      · rename_i q hq
        obtain ⟨l, fi, h1, h2, h3, h4, h5⟩ := fieldOf_spec hX hfo
        subst h4
        have hu : (X.T fi.type).usable = true := by
          unfold TI.pt at hq; unfold TI.usable; split at hq
          · rename_i h; unfold TI.isAgg at h; revert h; cases (X.T fi.type).d <;> simp
          · split at hq
            · rename_i h; unfold TI.usable at h; exact h
            · cases hq
        exact (field_ok g (hop x) h1 h2 rfl h3 (hX.u hu) hq).op o a (by simp only [execOp, ho])
      · exact OpOkM.fail
    · exact OpOkM.fail
  · -- indexAddr
    rename_i t x i ho
    split
    · rename_i e hd
      refine ifU_ok fun hu => ?_
      exact (idx_ok g (hop x) (hop i) (hX.slice hd) (hX.u hu)).op o a (by simp only [execOp, ho])
    · rename_i n e hd
      refine ifU_ok fun hu => ?_
      exact (idxA_ok g (hop x) (hop i) (hX.arr hd) (hX.u hu)).op o a (by simp only [execOp, ho])
    · exact OpOkM.fail
  · -- index
    rename_i t x i ho
    split
    · rename_i hd
      exact (byte_ok g (hop x) (hop i) (hX.str hd)).op o a (by simp only [execOp, ho])
    · exact OpOkM.fail
  · -- extract
    rename_i t i ho
    exact (extract_ok g (hop t) i).op o a (by simp only [execOp, ho])
  · -- makeInterface
    rename_i t x ho
    have key : (X.T t).d ≠ .iface → (X.T t).d ≠ .other → OpOkM P c (ret (.iface t (opd s x))) o a ((execOp a.eval o).run P c.w) := fun h1 h2 => by
      obtain ⟨d, hd, hfd⟩ := (hX.usable h2).desc
      refine (NOk.same g (v := .iface t (a.eval x)) ?_ (.iface t _ _ (hop x))).op o a
      simp only [execOp, ho, Sem.run_bind, Instr.makeInterface, run_underlying hd, Result.andThen]
      cases hdd : (X.T t).d <;> rw [hdd] at hfd h1 h2 <;> simp only [TD.fits] at hfd <;> first
        | (exact (h1 rfl).elim)
        | (exact (h2 rfl).elim)
        | (subst hfd; simp)
        | (obtain ⟨l, rfl, _⟩ := hfd; simp)
        | (obtain ⟨a1, a2, a3, rfl⟩ := hfd; simp)
    split
    · exact OpOkM.fail
    · exact OpOkM.fail
    · rename_i h1 h2
      exact key h1 h2
  · -- panic
    rename_i x ho
    have h := hop x
    split
    · rename_i t v hv
      rw [hv] at h
      generalize hu : a.eval x = u at h
      cases h with
      | iface _ _ w hw =>
        split
        case isFalse => exact OpOkM.fail
        · intro next Q hq
          have : (execOp a.eval o).run P c.w = .halt (.panic (.iface t w)) c.w := by
            simp [execOp, ho, hu, Instr.panic, goPanic]
          rw [this, Oper.upon_panic]
          exact hq c.μ c.w _ g (.refl c) (.iface t v w hw)
    · exact OpOkM.fail
  · -- call
    rename_i cl ho
    have hargs := opds_rep hs cl.args.toList
    split
    · rename_i b hb
      have := builtin_ok hX g b cl.argTypes o.type (cl.args.map fun | .const _ => true | _ => false) hargs o a
      have e : (execOp a.eval o) = builtin b cl.argTypes o.type (cl.args.map fun | .const _ => true | _ => false) (cl.args.map a.eval) := by
        simp only [execOp, ho, resolve, hb]; rfl
      rw [e]
      have e2 : cl.args.map a.eval = (cl.args.toList.map a.eval).toArray := Array.ext' (by simp only [Array.toList_map])
      rw [e2]; exact this
    · rename_i f hb
      refine op_of_call (callM_ok hX g mp _ _ f hargs) fun h1 => ?_
      have : (execOp a.eval o) = callFunc f ((#[] ++ cl.args.map a.eval) ++ #[]) := by
        simp only [execOp, ho, resolve, hb]; rfl
      rw [this, run_callFunc_of h1]
      have e2 : cl.args.map a.eval = (cl.args.toList.map a.eval).toArray := Array.ext' (by simp only [Array.toList_map])
      rw [← e2]; simp
    · rename_i t hb
      have h := hop (.tmp t)
      unfold dynM
      split
      · rename_i gf first cap hv
        rw [hv] at h
        generalize hu : a.eval (.tmp t) = u at h
        obtain ⟨us, vs, rfl, hfirst, hcap⟩ := h.func_inv
        have hall : RepL c (first ++ cl.args.toList.map (opd s) ++ cap) (us ++ cl.args.toList.map a.eval ++ vs) := by
          have app : ∀ {p q : List PV} {u v : List Value}, RepL c p u → RepL c q v → RepL c (p ++ q) (u ++ v) := fun {p q u v} h k => by
            refine ⟨by simp [h.1, k.1], fun j h1 h2 => ?_⟩
            by_cases hj : j < p.length
            · rw [List.getElem_append_left hj, List.getElem_append_left (by have := h.1; omega)]; exact h.2 j _ _
            · rw [List.getElem_append_right (by omega), List.getElem_append_right (by have := h.1; omega)]
              have := k.2 (j - p.length) (by simp at h1; omega) (by have := h.1; have := k.1; simp at h1; omega)
              have e := h.1
              simpa [e] using this
          exact app (app hfirst hargs) hcap
        have e : IsFn P gf → (execOp a.eval o).run P c.w = .ok (.enter gf (us ++ cl.args.toList.map a.eval ++ vs).toArray) c.w := fun h1 => by
          have : (execOp a.eval o) = callFunc gf ((us.toArray ++ cl.args.map a.eval) ++ vs.toArray) := by
            simp only [execOp, ho, resolve, hb, hu]; rfl
          rw [this, run_callFunc_of h1]
          congr 2
          apply Array.ext'; simp
        split
        · exact op_of_call (calm_ok mp (callR_ok g (hX.dyn gf) hall)) e
        · exact op_of_call (calm_ok mp (hX.dyn gf c _ _ g hall)) e
      · exact OpOkM.fail
    · exact OpOkM.fail
  · exact OpOkM.fail

end
end Go.Abs
end
/-
  THE ABSTRACT MACHINE IS THE MODEL's: guards, regions in the order of the text.
-/
section
set_option linter.unusedSimpArgs false
set_option linter.unusedVariables false
namespace Go.Abs
open Go

theorem setK_eq {α : Type} : ∀ (s : List PV) (d : Nat) (v : PV) (k : List PV → α), setK s d v k = k (s.set d v)
  | [], _, _, _ => rfl
  | _ :: _, 0, _, _ => rfl
  | x :: xs, n + 1, v, k => by simp only [setK, List.set_cons_succ]; exact setK_eq xs n v _
theorem putK_eq {α : Type} (s : List PV) (d : Option Tmp) (v : PV) (k : List PV → α) : putK s d v k = k (putS s d v) := by
  cases d with
  | none => rfl
  | some d => exact setK_eq s d v k
theorem atK_eq {α : Type} : ∀ (s : List PV) (d : Nat) (k : PV → α), atK s d k = k (s.getD d .junk)
  | [], _, _ => rfl
  | x :: _, 0, _ => rfl
  | _ :: xs, n + 1, k => by simp only [atK, List.getD_cons_succ]; exact atK_eq xs n k
theorem getK_eq {α : Type} (s : List PV) (x : Operand) (k : PV → α) : getK s x k = k (opd s x) := by
  cases x <;> simp only [getK, opd]
  exact atK_eq s _ k
theorem forceL_eq {α : Type} : ∀ (s : List PV) (k : List PV → α), forceL s k = k s
  | [], _ => rfl
  | x :: xs, k => by simp only [forceL]; exact forceL_eq xs _

/-- An operation as a region takes it. -/
def wpO (P : Program) (ops : Array Oper) (Q : Exit → Act → World → Prop) (o : Oper) (K : Act → World → Prop) (a : Act) (w : World) : Prop :=
  if Region.wanted o (yielded ops a.tmps) then o.wp P a w K Q ∨ (o.asks P a w ∧ LetsOut Q) else K (a.put o.dst undef) w

def StepOk (P : Program) (c : Cfg) (res : Res) (o : Oper) (a : Act) (ops : Array Oper) : Prop :=
  match res with
  | .fail => True
  | .ok p st' => ∀ K Q, (∀ μ' w' v, Good ⟨st', μ', w', c.hid⟩ → Evo c ⟨st', μ', w', c.hid⟩ → Rep ⟨st', μ', w', c.hid⟩ p v → K (a.put o.dst v) w') → wpO P ops Q o K a c.w
  | .panic p st' => ∀ K Q, (∀ μ' w' v, Good ⟨st', μ', w', c.hid⟩ → Evo c ⟨st', μ', w', c.hid⟩ → Rep ⟨st', μ', w', c.hid⟩ p v → Q (.panic [{ v := v, recovered := false }]) a w') → wpO P ops Q o K a c.w

theorem StepOk.of_op {P : Program} {c : Cfg} {res : Res} {o : Oper} {a : Act} {ops : Array Oper} (hw : Region.wanted o (yielded ops a.tmps) = true) (h : OpOk P c res o a ((execOp a.eval o).run P c.w)) : StepOk P c res o a ops := by
  unfold StepOk
  unfold OpOk at h
  split
  · trivial
  · intro K Q hk
    unfold wpO
    rw [if_pos hw]
    exact .inl (h K Q hk)
  · intro K Q hk
    unfold wpO
    rw [if_pos hw]
    exact .inl (h K Q hk)

theorem StepOk.skip {P : Program} {c : Cfg} (g : Good c) {o : Oper} {a : Act} {ops : Array Oper} (hw : Region.wanted o (yielded ops a.tmps) = false) : StepOk P c (.ok (.tup []) c.st) o a ops := by
  intro K Q hk
  unfold wpO
  rw [if_neg (by simp [hw])]
  exact hk c.μ c.w undef g (.refl c) (.tup [] [] rfl fun j h => by simp at h)

section
variable {P : Program} {X : Ctx} (hX : CtxOk P X)
include hX

theorem step_ok {c : Cfg} (g : Good c) {s : List PV} {a : Act} (hs : Slots c s a.tmps) {at_ : Option Nat} (hf : FreeId c at_) (mp : Bool) (all : List Oper) (o : Oper) :
    StepOk P c (evG X all mp at_ o s c.st) o a all.toArray := by
  have hop := evOp_ok hX g hs hf mp o
  unfold evG
  cases hg : guardOf all o with
  | none =>
    simp only []
    unfold guardOf at hg
    split at hg
    · rename_i h
      exact .of_op (by simp [Region.wanted, h]) hop
    · cases hg
  | some jw =>
    obtain ⟨j, want⟩ := jw
    unfold guardOf at hg
    split at hg
    · cases hg
    · rename_i i want' h
      simp only [Option.some.injEq, Prod.mk.injEq] at hg
      obtain ⟨hj, rfl⟩ := hg
      cases j with
      | none =>
        simp only []
        refine .skip g ?_
        have : (all.toArray[i]?).bind (·.dst) = none := by simpa using hj
        have hy : yielded all.toArray a.tmps i = none := by unfold yielded; rw [this]; rfl
        simp only [Region.wanted, h, hy]; rfl
      | some d =>
        simp only []
        have hd : (all.toArray[i]?).bind (·.dst) = some d := by simpa using hj
        unfold guardM
        have hr : ∀ q, s.getD d .junk = q → q ≠ .junk → ∃ v, a.tmps[d]? = some v ∧ Rep c q v := fun q hq hne => by
          by_cases hlt : d < s.length
          · have hlt' : d < a.tmps.toList.length := hs.1 ▸ hlt
            refine ⟨a.tmps[d]'(by simpa using hlt'), by simp at hlt' ⊢, ?_⟩
            have := hs.2 d hlt hlt'
            rw [← hq]
            simpa [List.getD, hlt] using this
          · exact (hne (by rw [← hq]; simp [List.getD, List.getElem?_eq_none (Nat.le_of_not_lt hlt)])).elim
        cases hq : s.getD d .junk with
        | bool b =>
          simp only []
          obtain ⟨v, hv, hrep⟩ := hr _ hq (by simp)
          cases hrep
          have hy : yielded all.toArray a.tmps i = some b := by unfold yielded; rw [hd, Option.bind_some, hv]
          cases hb : b == want' with
          | true => exact .of_op (by simp only [Region.wanted, h, hy]; simpa using hb) hop
          | false => exact .skip g (by simp only [Region.wanted, h, hy]; simpa using hb)
        | tup xs =>
          cases xs with
          | cons _ _ => trivial
          | nil =>
            obtain ⟨v, hv, hrep⟩ := hr _ hq (by simp)
            obtain ⟨vs, rfl, hl⟩ := hrep.tup_inv
            have hy : yielded all.toArray a.tmps i = none := by unfold yielded; rw [hd, Option.bind_some, hv]
            exact .skip g (by simp only [Region.wanted, h, hy]; rfl)
        | _ => trivial

/-! ### the walk's invariant -/
structure Sim (c : Cfg) (s : List PV) (a : Act) : Prop where
  good : Good c
  slots : Slots c s a.tmps
  defers : a.defers = []

omit hX in
theorem Sim.put {c : Cfg} {s : List PV} {a : Act} (h : Sim c s a) {c' : Cfg} (g : Good c') (e : Evo c c') (d : Option Tmp) {p : PV} {v : Value} (hr : Rep c' p v) : Sim c' (putS s d p) (a.put d v) :=
  ⟨g, Slots.put (h.slots.evo e) d hr, by cases d <;> exact h.defers⟩

omit hX in
theorem putS_length (s : List PV) (d : Option Tmp) (p : PV) : (putS s d p).length = s.length := by cases d <;> simp [putS]

/-- What a postcondition must take. -/
structure Takes (c0 : Cfg) (N : Nat) (r : Res) (k : List PV → Prog) (Q : Exit → Act → World → Prop) : Prop where
  nrm : ∀ c' s' a', c'.hid = c0.hid → Evo c0 c' → Fp none c0.st c'.st → Sim c' s' a' → s'.length = N → (k s').run c'.st = r → Q .normal a' c'.w
  pan : ∀ c' p v a', c'.hid = c0.hid → Evo c0 c' → Fp none c0.st c'.st → Good c' → Rep c' p v → a'.defers = [] → r = .panic p c'.st → Q (.panic [{ v := v, recovered := false }]) a' c'.w

omit hX in
theorem Fp.trans' {at_ : Option Nat} {a b c : St} (h : Fp none a b) (hn : a.nx ≤ b.nx) (k : Fp at_ b c) (hid : ∀ id, at_ = some id → a.nx ≤ id) : Fp none a c := fun id hlt _ h1 h2 => by
  obtain ⟨i1, i2⟩ := h id hlt (by simp) h1 h2
  exact k id (Nat.lt_of_lt_of_le hlt hn) (fun e => by have := hid id e; omega) i1 i2

omit hX in
/-- An operation's way into what follows. -/
theorem bind_step {c0 c : Cfg} (hh : c.hid = c0.hid) (e0 : Evo c0 c) (f0 : Fp none c0.st c.st) {s : List PV} {a : Act} (h : Sim c s a) {N : Nat} (hN : s.length = N) {r : Res} (hr : r ≠ .fail) {Q : Exit → Act → World → Prop} {k0 : List PV → Prog} (hQ : Takes c0 N r k0 Q) {m : M} {o : Oper} {ops : Array Oper} (hm : StepOk P c (m c.st) o a ops)
    {at_ : Option Nat} (hf : FpR at_ c.st (m c.st)) (hat : ∀ id, at_ = some id → c0.st.nx ≤ id)
    {k : PV → M} {K : Act → World → Prop} (he : M.b m k c.st = r)
    (hk : ∀ c' p v, c'.hid = c0.hid → Evo c0 c' → Evo c c' → Fp none c0.st c'.st → Fp at_ c.st c'.st → m c.st = .ok p c'.st → Sim c' (putS s o.dst p) (a.put o.dst v) → (putS s o.dst p).length = N → k p c'.st = r → K (a.put o.dst v) c'.w) : wpO P ops Q o K a c.w := by
  simp only [M.b] at he
  cases hmr : m c.st with
  | fail => rw [hmr] at he; exact (hr he.symm).elim
  | panic p st' =>
    rw [hmr] at he hm hf
    refine hm K Q fun μ' w' v g' e' hrep => ?_
    exact hQ.pan ⟨st', μ', w', c.hid⟩ p v a hh (e0.trans e') (f0.trans' e0.nx hf hat) g' hrep h.defers he.symm
  | ok p st' =>
    rw [hmr] at he hm hf
    refine hm K Q fun μ' w' v g' e' hrep => ?_
    exact hk ⟨st', μ', w', c.hid⟩ p v hh (e0.trans e') e' (f0.trans' e0.nx hf hat) hf hmr (h.put g' e' o.dst hrep) (by rw [putS_length, hN]) he

omit hX in
/-- What is given away stands, without references, for the same. -/
theorem frz_rep {c : Cfg} (g : Good c) {p y : PV} {v : Value} (hx : Rep c p v) (hy : snapF c.st.H depth p = some y) :
    Good ⟨kill c.st (idsF c.st.H depth p), c.μ, c.w, c.hid⟩ ∧ Evo c ⟨kill c.st (idsF c.st.H depth p), c.μ, c.w, c.hid⟩ ∧ Rep ⟨kill c.st (idsF c.st.H depth p), c.μ, c.w, c.hid⟩ y v := by
  obtain ⟨g1, e1, hk⟩ := kill_ok (idsF c.st.H depth p) g
  refine ⟨g1, e1, ?_⟩
  refine (snap_rep (c' := ⟨kill c.st (idsF c.st.H depth p), c.μ, c.w, c.hid⟩) g rfl (fun b hb => ?_) depth _ y _ hy hx (.inr fun id hi bl b hb hm => ?_)).1
  · rcases hb with hb | ⟨id, bl, h1, h2⟩
    · exact .inl hb
    · exact .inr ⟨id, bl, hk.sub id bl h1, h2⟩
  · rintro (hh | ⟨id', bl', h1, h2⟩)
    · exact (g.blk id bl b hb hm).hid hh
    · have := g.inj id' id bl' bl b (hk.sub _ _ h1) hb h2 hm
      subst this
      have h1' : (kill c.st (idsF c.st.H depth p)).H id' = some bl' := h1
      rw [hk.gone id' hi] at h1'; cases h1'

omit hX in
theorem frz_step {c : Cfg} {m : M} {o : Oper} {a : Act} {ops : Array Oper} (h : StepOk P c (m c.st) o a ops) : StepOk P c (m.b frzM c.st) o a ops := by
  unfold M.b
  cases hm : m c.st with
  | fail => trivial
  | panic p st' => rw [hm] at h; exact h
  | ok p st' =>
    rw [hm] at h
    show StepOk P c (frzM p st') o a ops
    unfold frzM
    cases hs : snapF st'.H depth p with
    | none => trivial
    | some y =>
      intro K Q hk
      refine h K Q fun μ' w' v g' e' hr => ?_
      obtain ⟨g1, e1, hr1⟩ := frz_rep g' hr hs
      exact hk μ' w' v g1 (e'.trans e1) hr1

omit hX in
theorem buf_ok {c : Cfg} (g : Good c) {o : Oper} {a : Act} {ops : Array Oper} {s : List PV} (hs : Slots c s a.tmps) {x : Operand} (hc : copyOf o = some x) (sz : Nat) : StepOk P c (bufM sz (opd s x) c.st) o a ops := by
  have hrun : (execOp a.eval o).run P c.w = .ok (.value (a.eval x)) c.w := by
    unfold copyOf at hc
    split at hc <;> cases hc
    · rename_i h; simp [execOp, h]
    · rename_i h; simp [execOp, h]
  have hw : Region.wanted o (yielded ops a.tmps) = true := by
    unfold copyOf at hc
    split at hc <;> cases hc
    · rename_i h _; simp [Region.wanted, h]
    · rename_i h _; simp [Region.wanted, h]
  have hx := opd_rep hs x
  generalize opd s x = pv at hx
  have other : StepOk P c (frzM pv c.st) o a ops := by
    unfold frzM
    split
    · rename_i y hy
      obtain ⟨g1, e1, hr⟩ := frz_rep g hx hy
      refine .of_op hw ?_
      rw [hrun]
      intro next Q hn
      exact hn _ _ _ g1 e1 hr
    · trivial
  unfold bufM
  split
  · generalize hu : a.eval x = u at hx hrun
    cases hx
    simp only [withId]
    obtain ⟨g', ev⟩ := adopt g (w' := c.w) ⟨fun _ _ => rfl, Nat.le_refl _, rfl, rfl, rfl⟩ (sz := sz) (xs := []) (ob := none) (by simp) rfl (.inl ⟨rfl, rfl⟩)
    refine .of_op hw ?_
    rw [hrun]
    intro next Q hn
    exact hn _ _ _ g' ev (Rep.sl0 c.st.nx ⟨sz, []⟩ (Nat.lt_succ_self _) (upd_same _ _ _) rfl (by simp))
  · exact other

omit hX in
theorem copy_ok {c : Cfg} (g : Good c) {o : Oper} {a : Act} {ops : Array Oper} {s : List PV} (hs : Slots c s a.tmps) {x : Operand} (hc : copyOf o = some x) : StepOk P c (ret (opd s x) c.st) o a ops := by
  have hrun : (execOp a.eval o).run P c.w = .ok (.value (a.eval x)) c.w := by
    unfold copyOf at hc
    split at hc <;> cases hc
    · rename_i h; simp [execOp, h]
    · rename_i h; simp [execOp, h]
  have hw : Region.wanted o (yielded ops a.tmps) = true := by
    unfold copyOf at hc
    split at hc <;> cases hc
    · rename_i h _; simp [Region.wanted, h]
    · rename_i h _; simp [Region.wanted, h]
  exact .of_op hw ((NOk.same g hrun (opd_rep hs x)).op o a)

omit hX in
theorem FreeId.none (c : Cfg) : FreeId c none := fun id h => by cases h

end
end Go.Abs
end
/-
  WHAT THE ABSTRACT OPERATIONS DO TO MEMORY: their classes.
-/
section
set_option linter.unusedSimpArgs false
set_option linter.unusedVariables false
namespace Go.Abs
open Go

def Pure (m : M) : Prop := (∃ v, m = ret v) ∨ m = failM
def Still (m : M) : Prop := ∀ st, (∃ v, m st = .ok v st) ∨ (∃ p, m st = .panic p st) ∨ m st = .fail
/-- It makes a block of this number, wherever. -/
def Makes (id : Nat) (m : M) : Prop := (∃ v b, ∀ st, m st = .ok v { st with H := upd st.H id (some b) }) ∨ m = failM

theorem Pure.still {m : M} (h : Pure m) : Still m := by
  rcases h with ⟨v, rfl⟩ | rfl
  · exact fun st => .inl ⟨v, rfl⟩
  · exact fun st => .inr (.inr rfl)

theorem Still.fp {m : M} (h : Still m) (at_ : Option Nat) (st : St) : FpR at_ st (m st) := by
  rcases h st with ⟨v, e⟩ | ⟨p, e⟩ | e <;> rw [e]
  · exact Fp.refl _ _
  · exact Fp.refl _ _
  · trivial

theorem pure_ret (v : PV) : Pure (ret v) := .inl ⟨v, rfl⟩
theorem pure_fail : Pure failM := .inr rfl
theorem pure_opt (o : Option PV) : Pure (opt o) := by cases o; exact pure_fail; exact pure_ret _
theorem pure_ifU {t : TI} {m : M} (h : Pure m) : Pure (ifU t m) := by unfold ifU; cases t.usable; exact pure_fail; exact h
theorem still_ifU {t : TI} {m : M} (h : Still m) : Still (ifU t m) := by unfold ifU; cases t.usable; exact pure_fail.still; exact h
theorem makes_fail (id : Nat) : Makes id failM := .inr rfl
theorem makes_ifU {id : Nat} {t : TI} {m : M} (h : Makes id m) : Makes id (ifU t m) := by unfold ifU; cases t.usable; exact makes_fail id; exact h
theorem pure_pick (c a b : PV) : Pure (pickM c a b) := by unfold pickM; split <;> first | exact pure_ret _ | exact pure_fail
theorem pure_field (t : Option Nat) (o : Nat) (x : PV) : Pure (fieldM t o x) := by unfold fieldM; split <;> first | exact pure_opt _ | exact pure_fail
theorem pure_nilCheck (x : PV) : Pure (nilCheckM x) := by unfold nilCheckM; split <;> first | exact pure_ret _ | exact pure_fail
theorem pure_un (op : UnOp) (x : PV) : Pure (unM op x) := by unfold unM; split <;> first | exact pure_ret _ | exact pure_opt _ | exact pure_fail
theorem pure_conv (k : IntKind) (x : PV) : Pure (convM k x) := by unfold convM; split <;> first | exact pure_ret _ | exact pure_fail
theorem pure_add (o : Nat) (x : PV) : Pure (addM o x) := by unfold addM; split <;> first | exact pure_ret _ | exact pure_fail
theorem pure_sliceStr (x : PV) (lo hi : Option PV) : Pure (sliceStr x lo hi) := by
  unfold sliceStr
  split
  · split <;> first | exact pure_ret _ | exact pure_fail
  · exact pure_fail
theorem pure_extract (x : PV) (i : Nat) : Pure (extractM x i) := by unfold extractM; split <;> first | exact pure_opt _ | exact pure_fail
theorem pure_byte (x i : PV) : Pure (byteM x i) := by
  unfold byteM
  split
  · split
    · split <;> first | exact pure_ret _ | exact pure_fail
    · exact pure_fail
  · exact pure_fail
theorem pure_len (x : PV) : Pure (lenM x) := by unfold lenM; split <;> first | exact pure_ret _ | exact pure_fail
theorem pure_lenStr (x : PV) : Pure (lenStr x) := by unfold lenStr; split <;> first | exact pure_ret _ | exact pure_fail
theorem pure_build (zs : List PV) (ps : List (Nat × Nat × PV)) : Pure (buildM zs ps) := by unfold buildM; split <;> first | exact pure_ret _ | exact pure_fail
theorem pure_idxA (n esz : Nat) (x i : PV) : Pure (idxA n esz x i) := by
  unfold idxA
  split
  · split <;> first | exact pure_ret _ | exact pure_fail
  · split <;> first | exact pure_ret _ | exact pure_fail
  · exact pure_fail

theorem opt_at (o : Option PV) (st : St) : opt o st = (match o with | some v => .ok v st | none => .fail) := by cases o <;> rfl

theorem still_load (t : Option Nat) (p : PV) : Still (loadM t p) := by
  intro st
  unfold loadM
  split
  · split
    · split
      · split
        · rw [opt_at]; split <;> first | exact .inl ⟨_, rfl⟩ | exact .inr (.inr rfl)
        · exact .inr (.inr rfl)
      · exact .inr (.inr rfl)
    · exact .inr (.inr rfl)
  · rw [opt_at]; split <;> first | exact .inl ⟨_, rfl⟩ | exact .inr (.inr rfl)
  · exact .inr (.inr rfl)

theorem still_idx (esz : Nat) (x i : PV) : Still (idxM esz x i) := by
  intro st
  unfold idxM
  split
  · split
    · split
      · split <;> first | exact .inl ⟨_, rfl⟩ | exact .inr (.inr rfl)
      · exact .inr (.inr rfl)
    · exact .inr (.inr rfl)
  · split
    · split <;> first | exact .inl ⟨_, rfl⟩ | exact .inr (.inr rfl)
    · exact .inr (.inr rfl)
  · exact .inr (.inr rfl)

theorem still_slice (esz : Nat) (x : PV) (lo hi mx : Option PV) : Still (sliceM esz x lo hi mx) := by
  intro st
  unfold sliceM
  split
  · split
    · split <;> first | exact .inl ⟨_, rfl⟩ | exact .inr (.inr rfl)
    · exact .inr (.inr rfl)
  · split <;> first | exact .inl ⟨_, rfl⟩ | exact .inr (.inr rfl)
  · split
    · split
      · split
        · split <;> exact .inl ⟨_, rfl⟩
        · exact .inr (.inr rfl)
      · exact .inr (.inr rfl)
    · exact .inr (.inr rfl)
  · split
    · split <;> first | exact .inl ⟨_, rfl⟩ | exact .inr (.inr rfl)
    · exact .inr (.inr rfl)
  · split
    · split <;> first | exact .inl ⟨_, rfl⟩ | exact .inr (.inr rfl)
    · exact .inr (.inr rfl)
  · exact .inr (.inr rfl)

theorem still_strOf (x : PV) : Still (strOfM x) := by
  intro st
  unfold strOfM
  split
  · exact .inr (.inr rfl)
  · split <;> first | exact .inl ⟨_, rfl⟩ | exact .inr (.inr rfl)

theorem still_callR (F : List PV → M) (args : List PV) : Still (callR F args) := by
  intro st
  unfold callR
  split
  · split <;> first | exact .inl ⟨_, rfl⟩ | exact .inr (.inr rfl)
  · split <;> first | exact .inr (.inl ⟨_, rfl⟩) | exact .inr (.inr rfl)
  · exact .inr (.inr rfl)

theorem still_calm {m : M} (h : Still m) (mp : Bool) : Still (calm mp m) := by
  intro st
  unfold calm
  rcases h st with ⟨v, e⟩ | ⟨p, e⟩ | e <;> rw [e]
  · exact .inl ⟨v, rfl⟩
  · cases mp
    · exact .inr (.inr rfl)
    · exact .inr (.inl ⟨p, rfl⟩)
  · exact .inr (.inr rfl)

theorem pure_take (p : PV) : Pure (takeM none p) := by
  unfold takeM
  split
  · rename_i h; cases h
  · exact pure_ret _
  · exact pure_ret _

theorem still_callP (mp : Bool) (F : List PV → PRes) (args : List PV) : Still (callP false none mp F args) := by
  intro st
  unfold callP
  split
  · exact .inr (.inr rfl)
  · split
    · exact .inr (.inr rfl)
    · split <;> first | exact .inr (.inl ⟨_, rfl⟩) | exact .inr (.inr rfl)
    · split
      · exact (pure_take _).still st
      · simp only [Bool.false_eq_true, if_false]
        split <;> first | exact .inl ⟨_, rfl⟩ | exact .inr (.inr rfl)

theorem makes_newAt (id : Nat) (sz : Nat) (xs : List PV) (v : Nat → PV) : Makes id (withId (some id) fun id => newAt id sz xs (v id)) := by
  have e : (withId (some id) fun id => newAt id sz xs (v id)) = newAt id sz xs (v id) := rfl
  rw [e]
  by_cases h : xs.all (fitsE sz) = true
  · exact .inl ⟨v id, ⟨sz, xs⟩, fun st => by unfold newAt; rw [if_pos h]⟩
  · refine .inr (funext fun st => ?_)
    unfold newAt; rw [if_neg h]; rfl

theorem withId_fp (at_ : Option Nat) (sz : Nat) (xs : List PV) (v : Nat → PV) (st : St) : FpR at_ st (withId at_ (fun id => newAt id sz xs (v id)) st) := by
  unfold withId newAt
  cases at_ with
  | none =>
    simp only []
    split
    · exact Fp.fresh st _
    · trivial
  | some i =>
    simp only []
    split
    · intro id hid hne h1 h2
      have : id ≠ i := fun e => hne (by rw [e])
      exact ⟨by simpa [upd_other _ _ this] using h1, h2⟩
    · trivial

def FpM (at_ : Option Nat) (st : St) (m : M) : Prop := FpR at_ st (m st)
theorem fpM_fail (at_ : Option Nat) (st : St) : FpM at_ st failM := trivial

theorem buildSlice_mk (id esz : Nat) (ea : Bool) (z : PV) (len : Nat) (ps : List (Nat × PV)) : Makes id (buildSliceM (some id) esz ea z len ps) := by
  unfold buildSliceM
  split
  · split
    · exact makes_newAt id _ _ _
    · exact makes_fail id
  · exact makes_fail id
theorem buildSlice_fp (at_ : Option Nat) (esz : Nat) (ea : Bool) (z : PV) (len : Nat) (ps : List (Nat × PV)) (st : St) : FpM at_ st (buildSliceM at_ esz ea z len ps) := by
  unfold buildSliceM
  split
  · split
    · exact withId_fp _ _ _ _ _
    · exact fpM_fail _ _
  · exact fpM_fail _ _
theorem makeSlice_mk (id esz b : Nat) (z l c : PV) : Makes id (makeSliceM (some id) esz b z l c) := by
  unfold makeSliceM
  split
  · split
    · exact makes_newAt id _ _ _
    · exact makes_fail id
  · exact makes_fail id
theorem makeSlice_fp (at_ : Option Nat) (esz b : Nat) (z l c : PV) (st : St) : FpM at_ st (makeSliceM at_ esz b z l c) := by
  unfold makeSliceM
  split
  · split
    · exact withId_fp _ _ _ _ _
    · exact fpM_fail _ _
  · exact fpM_fail _ _

theorem ifU_fp {at_ : Option Nat} {st : St} {t : TI} {m : M} (h : FpR at_ st (m st)) : FpR at_ st (ifU t m st) := by
  unfold ifU; cases t.usable
  · trivial
  · exact h

theorem Fp.live {at_ : Option Nat} {st : St} {i : Nat} {b : Blk} (h : st.H i = some b) (b' : Option Blk) : Fp at_ st { st with H := upd st.H i b' } := fun id hid _ h1 h2 => by
  have hne : id ≠ i := fun e => by subst e; rw [h] at h1; cases h1
  exact ⟨by simpa [upd_other _ _ hne] using h1, h2⟩

theorem store_fp (at_ : Option Nat) (n : Nat) (p v : PV) (st : St) : FpR at_ st (storeM n p v st) := by
  unfold storeM
  split
  · split
    · rename_i hb
      split
      · split
        · split
          · exact Fp.live hb _
          · trivial
        · trivial
      · trivial
    · trivial
  · trivial

theorem append_fp (at_ : Option Nat) (esz b : Nat) (s x : PV) (st : St) : FpR at_ st (appendM esz b s x st) := by
  have fresh : ∀ (bl : Option Blk), Fp at_ st { st with H := upd st.H st.nx bl, nx := st.nx + 1 } := fun bl id hid _ h1 h2 => by
    have hne : id ≠ st.nx := by omega
    exact ⟨by simpa [upd_other _ _ hne] using h1, h2⟩
  unfold appendM
  split
  · trivial
  · split
    · split
      · split
        · exact Fp.refl _ _
        · exact fresh _
      · split
        · exact Fp.refl _ _
        · exact fresh _
      · split
        · rename_i hb
          split
          · split
            · exact Fp.live hb _
            · exact Fp.live hb _
          · trivial
        · trivial
      · trivial
    · trivial

section
variable {P : Program} {X : Ctx} (hX : CtxOk P X)

theorem cls_P {o : Oper} (h : clsOp X o = .P) (mp : Bool) (at_ : Option Nat) (s : List PV) : Pure (evOp X mp at_ o s) := by
  obtain ⟨dst, op, type, pos, after, guard⟩ := o
  cases op <;> simp only [clsOp] at h <;> (try (cases h; done)) <;> simp only [evOp]
  case move => exact pure_ret _
  case assign => exact pure_ret _
  case pick => exact pure_pick _ _ _
  case build => split <;> first | exact pure_build _ _ | exact pure_fail
  case nilCheck => exact pure_nilCheck _
  case binOp => exact pure_opt _
  case unOp => exact pure_un _ _
  case convert =>
    split
    · exact pure_ifU (pure_conv _ _)
    · rename_i e hd _
      rw [hd] at h; simp [isStr] at h
    · exact pure_fail
  case makeFunc f _ _ => cases f <;> first | exact pure_ret _ | exact pure_fail
  case fieldAddr =>
    split
    · refine pure_ifU ?_
      rename_i o u _
      cases u.size == 0
      · exact pure_add _ _
      · exact pure_fail
    · exact pure_fail
  case field =>
    split
    · split <;> first | exact pure_field _ _ _ | exact pure_fail
    · exact pure_fail
  case index => split <;> first | exact pure_byte _ _ | exact pure_fail
  case extract => exact pure_extract _ _
  case makeInterface => split <;> first | exact pure_ret _ | exact pure_fail
  case call cl =>
    obtain ⟨callee, args, tys⟩ := cl
    cases callee with
    | builtin b =>
      cases b <;> simp only [] at h <;> (try (cases h; done))
      case len =>
        simp only [builtinM]
        split
        · split <;> first | exact pure_len _ | exact pure_lenStr _ | exact pure_ret _ | exact pure_fail
        all_goals first | exact pure_fail | contradiction
      case max => simp only [builtinM]; exact pure_opt _
      case min => simp only [builtinM]; exact pure_opt _
    | value f =>
      cases f <;> simp only [] at h <;> (try (cases h; done))
      · split at h <;> cases h
      · split at h
        · split at h <;> cases h
        all_goals cases h
    | invoke _ _ => cases h

end
end Go.Abs
end
/-
  WHAT THE ABSTRACT OPERATIONS DO TO MEMORY: their classes, continued.
-/
section
set_option linter.unusedSimpArgs false
set_option linter.unusedVariables false
namespace Go.Abs
open Go

def St.add (st : St) (id : Nat) (b : Blk) : St := { st with H := upd st.H id (some b) }

/-- More memory. -/
def Ext (st st' : St) : Prop := (∀ id b, st.H id = some b → st'.H id = some b) ∧ ∀ id, st.dead id = true → st'.H id = none

theorem Ext.refl {c : Cfg} (g : Good c) : Ext c.st c.st := ⟨fun _ _ h => h, g.dead⟩
theorem Ext.add {c : Cfg} (g : Good c) {id : Nat} (b : Blk) (h1 : c.st.H id = none) (h2 : c.st.dead id = false) : Ext c.st (c.st.add id b) :=
  ⟨fun i bl h => by
    have hne : i ≠ id := fun e => by subst e; rw [h1] at h; cases h
    show upd c.st.H id (some b) i = some bl
    rw [upd_other _ _ hne]; exact h, fun i h => by
    have hne : i ≠ id := fun e => by subst e; rw [h2] at h; cases h
    show upd c.st.H id (some b) i = none
    rw [upd_other _ _ hne]; exact g.dead i h⟩

/-- The outcome does not hang on a block that is not there yet. -/
def Moved (st st' : St) (r r' : Res) : Prop :=
  match r with
  | .ok v _ => r' = .ok v st'
  | .panic p _ => r' = .panic p st'
  | .fail => r' = .fail
def Indep (st : St) (m : M) : Prop := ∀ st', Ext st st' → Moved st st' (m st) (m st')

theorem Pure.indep {m : M} (h : Pure m) (st : St) : Indep st m := by
  intro st' _
  rcases h with ⟨v, rfl⟩ | rfl
  · rfl
  · rfl

theorem sl_ext {c : Cfg} (g : Good c) {id' n off len : Nat} {v : Value} (h : Rep c (.sl id' n off len) v) {st' : St} (e : Ext c.st st') : st'.H id' = c.st.H id' := by
  cases h with
  | sl _ _ _ _ bl b cap m e' hi hb => rw [hb]; exact e.1 _ _ hb
  | sl0 _ bl hi hb => rw [hb]; exact e.1 _ _ hb
  | slx _ _ _ _ a k hs =>
    rcases hs with hd | ⟨bl, hb, _⟩
    · rw [e.2 _ hd, g.dead _ hd]
    · rw [hb]; exact e.1 _ _ hb
theorem ptr_ext {c : Cfg} (g : Good c) {id' n off len : Nat} {v : Value} (h : Rep c (.ptr id' n off len) v) {st' : St} (e : Ext c.st st') : st'.H id' = c.st.H id' := by
  cases h with
  | ptr _ _ _ _ bl b hi hb => rw [hb]; exact e.1 _ _ hb
  | ptrx _ _ _ _ a hs =>
    rcases hs with hd | ⟨bl, hb, _⟩
    · rw [e.2 _ hd, g.dead _ hd]
    · rw [hb]; exact e.1 _ _ hb

theorem moved_opt (o : Option PV) (st st' : St) : Moved st st' (opt o st) (opt o st') := by cases o <;> rfl

theorem load_indep {c : Cfg} (g : Good c) (t : Option Nat) {p : PV} {v : Value} (hr : Rep c p v) : Indep c.st (loadM t p) := by
  intro st' hx
  unfold loadM
  cases p with
  | ptr id' n idx off =>
    have e : st'.H id' = c.st.H id' := ptr_ext g hr hx
    simp only [e]
    cases c.st.H id' with
    | none => rfl
    | some bl =>
      simp only []
      split
      · split
        · exact moved_opt _ _ _
        · rfl
      · rfl
  | cref x off => exact moved_opt _ _ _
  | _ => rfl

theorem idx_indep {c : Cfg} (g : Good c) (esz : Nat) {x i : PV} {v : Value} (hr : Rep c x v) : Indep c.st (idxM esz x i) := by
  intro st' hx
  unfold idxM
  cases x with
  | sl id' n off len =>
    have e : st'.H id' = c.st.H id' := sl_ext g hr hx
    cases i <;> first | rfl | skip
    simp only [e]
    cases c.st.H id' with
    | none => rfl
    | some bl =>
      simp only []
      split <;> rfl
  | lst xs =>
    cases i <;> first | rfl | skip
    simp only []
    split
    · split
      · split <;> rfl
      · rfl
    · rfl
  | _ => cases i <;> rfl

theorem slice_indep {c : Cfg} (g : Good c) (esz : Nat) {x : PV} (lo hi mx : Option PV) {v : Value} (hr : Rep c x v) : Indep c.st (sliceM esz x lo hi mx) := by
  intro st' hx
  by_cases hxx : ∃ id' n off len, x = .sl id' n off len
  · obtain ⟨id', n, off, len, rfl⟩ := hxx
    have e : st'.H id' = c.st.H id' := sl_ext g hr hx
    unfold sliceM
    cases mx with
    | some m => rfl
    | none =>
      simp only [e]
      cases c.st.H id' with
      | none => rfl
      | some bl =>
        simp only []
        split
        · cases bounds lo hi (hiTop hi len (n - off)) with
          | none => rfl
          | some lh =>
            obtain ⟨l, h⟩ := lh
            simp only []
            split <;> rfl
        · rfl
  · have : ∀ st st', Moved st st' (sliceM esz x lo hi mx st) (sliceM esz x lo hi mx st') := by
      intro st st'
      unfold sliceM
      split
      · split
        · split <;> rfl
        · rfl
      · split <;> rfl
      · exact (hxx ⟨_, _, _, _, rfl⟩).elim
      · split
        · split <;> rfl
        · rfl
      · split
        · split <;> rfl
        · rfl
      · rfl
    exact this _ _

theorem elems_ext {c : Cfg} (g : Good c) {x : PV} {v : Value} (hr : Rep c x v) {st' : St} (hx : Ext c.st st') : elems st' x = elems c.st x := by
  unfold elems
  cases x with
  | sl id n off len => simp only [sl_ext g hr hx]
  | _ => rfl

theorem strOf_indep {c : Cfg} (g : Good c) {x : PV} {v : Value} (hr : Rep c x v) : Indep c.st (strOfM x) := by
  intro st' hx
  unfold strOfM
  rw [elems_ext g hr hx]
  cases elems c.st x with
  | none => rfl
  | some ys =>
    simp only []
    split <;> rfl

theorem cls_convert {X : Ctx} {o : Oper} {t b : TypeId} {x : Operand} (ho : o.op = .convert t b x) : clsOp X o = .P ∨ clsOp X o = .R := by
  unfold clsOp
  rw [ho]
  simp only []
  cases isStr (X.T b).d
  · exact .inl rfl
  · exact .inr rfl

theorem still_bif {b : Bool} {m n : M} (h : Still n) (k : Still m) : Still (bif b then m else n) := by cases b; exact h; exact k
theorem indep_bif {st : St} {b : Bool} {m n : M} (h : Indep st n) (k : Indep st m) : Indep st (bif b then m else n) := by cases b; exact h; exact k

/-! ### snapping -/
def RE (c : Cfg) (x : PV) : Prop := ∀ q ∈ x.cells, ∃ u, Rep c q u

theorem Rep.re {c : Cfg} {x : PV} {v : Value} (h : Rep c x v) : RE c x := by
  cases hk : x.known with
  | true =>
    obtain ⟨h1, h2⟩ := h.cells hk
    intro q hq
    obtain ⟨j, hj, rfl⟩ := List.mem_iff_getElem.1 hq
    obtain ⟨u, _, hu⟩ := h2 j _ (List.getElem?_eq_getElem hj)
    exact ⟨u, hu⟩
  | false =>
    have : x.cells = [x] := by cases x <;> simp [PV.known] at hk <;> rfl
    intro q hq
    rw [this] at hq
    simp at hq; subst hq
    exact ⟨v, h⟩

theorem re_blk {c : Cfg} (g : Good c) {id : Nat} {bl : Blk} (hb : c.st.H id = some bl) : ∀ x ∈ bl.xs, RE c x := by
  intro x hx
  cases hm : c.μ id with
  | none => rw [g.bare id bl hb hm] at hx; simp at hx
  | some b =>
    obtain ⟨idx, hidx, rfl⟩ := List.mem_iff_getElem.1 hx
    obtain ⟨cs, e, _, _, _, h⟩ := g.elem hb hm (List.getElem?_eq_getElem hidx)
    intro q hq
    obtain ⟨j, hj, rfl⟩ := List.mem_iff_getElem.1 hq
    obtain ⟨u, _, hu⟩ := h j _ (List.getElem?_eq_getElem hj)
    exact ⟨u, hu⟩

theorem snap_add {c : Cfg} (g : Good c) {st' : St} (hx : Ext c.st st') : ∀ d, (∀ x, RE c x → snapF st'.H d x = snapF c.st.H d x) ∧ (∀ xs, (∀ x ∈ xs, RE c x) → snapL st'.H d xs = snapL c.st.H d xs)
  | 0 => ⟨fun x _ => by simp [snapF], fun xs _ => by simp [snapL]⟩
  | d + 1 => by
    obtain ⟨ih1, ih2⟩ := snap_add g hx d
    have one : ∀ x : PV, x.cells = [x] → RE c x → ∃ u, Rep c x u := fun x hx hr => hr x (by rw [hx]; simp)
    refine ⟨fun x hr => ?_, fun xs hr => ?_⟩
    · cases x with
      | sl id' n off len =>
        obtain ⟨u, hu⟩ := one _ rfl hr
        have e : st'.H id' = c.st.H id' := sl_ext g hu hx
        unfold snapF
        simp only [e]
        cases hb : c.st.H id' with
        | none => rfl
        | some bl =>
          simp only []
          split
          · rw [ih2 _ fun x hx => re_blk g hb x (List.mem_of_mem_drop (List.mem_of_mem_take hx))]
          · rfl
      | agg cs =>
        unfold snapF
        simp only []
        rw [ih2 cs fun q hq => by obtain ⟨u, hu⟩ := hr q hq; exact hu.re]
      | tup cs =>
        obtain ⟨u, hu⟩ := one _ rfl hr
        obtain ⟨vs, rfl, hl⟩ := hu.tup_inv
        unfold snapF
        simp only []
        rw [ih2 cs fun q hq => by
          obtain ⟨j, hj, rfl⟩ := List.mem_iff_getElem.1 hq
          exact (hl.2 j hj (by have := hl.1; omega)).re]
      | iface t x =>
        obtain ⟨u, hu⟩ := one _ rfl hr
        cases hu with
        | iface _ _ w hw =>
          unfold snapF
          simp only []
          rw [ih1 x hw.re]
      | func f a b' => cases a <;> cases b' <;> rfl
      | _ => rfl
    · cases xs with
      | nil => rfl
      | cons x xs =>
        unfold snapL
        simp only []
        rw [ih1 x (hr x (by simp)), ih2 xs fun y hy => hr y (by simp [hy])]

theorem callP_indep {c : Cfg} (g : Good c) (mp : Bool) (F : List PV → PRes) {args : List PV} {vs : List Value} (hl : RepL c args vs) : Indep c.st (callP false none mp F args) := by
  intro st' hx
  have e := (snap_add g hx depth).2 args fun x hx => by
    obtain ⟨j, hj, rfl⟩ := List.mem_iff_getElem.1 hx
    exact (hl.2 j hj (by have := hl.1; omega)).re
  unfold callP
  rw [e]
  cases snapL c.st.H depth args with
  | none => rfl
  | some as_ =>
    simp only []
    cases F as_ with
    | fail => rfl
    | panic p => simp only []; split <;> rfl
    | ret v =>
      simp only []
      split
      · rcases pure_take v with ⟨w, e⟩ | e <;> rw [e] <;> rfl
      · simp only [Bool.false_eq_true, if_false]
        split <;> rfl

theorem ifU_indep {st : St} {t : TI} {m : M} (h : Indep st m) : Indep st (ifU t m) := by
  unfold ifU; cases t.usable
  · exact pure_fail.indep st
  · exact h

section
variable {P : Program} {X : Ctx} (hX : CtxOk P X)

theorem evOp_call_P {o : Oper} {cl : Call} (ho : o.op = .call cl) {f : FuncId} (hf : cl.callee = .value (.func f)) {F : List PV → PRes} (hc : X.call f = .P F) (h1 : X.h.frz.contains (o.dst.getD 0) = false) (h2 : X.h.own.contains (o.dst.getD 0) = false) (mp : Bool) (at_ : Option Nat) (s : List PV) :
    evOp X mp at_ o s = callP false none mp F (cl.args.toList.map (opd s)) := by
  unfold evOp
  simp only [ho, hf, callM, hc, h1, h2]
  rfl

theorem cls_call_P {o : Oper} {cl : Call} (ho : o.op = .call cl) {f : FuncId} (hf : cl.callee = .value (.func f)) {F : List PV → PRes} (hc : X.call f = .P F) (h : clsOp X o ≠ .W) :
    X.h.frz.contains (o.dst.getD 0) = false ∧ X.h.own.contains (o.dst.getD 0) = false := by
  unfold clsOp at h
  simp only [ho, hf, hc] at h
  simp only [ne_eq, ite_eq_left_iff, reduceCtorEq, imp_false, Decidable.not_not, Bool.or_eq_true, not_or, Bool.not_eq_true] at h
  simpa using h

theorem cls_still {o : Oper} (h : clsOp X o = .R ∨ clsOp X o = .Q) (mp : Bool) (at_ : Option Nat) (s : List PV) : Still (evOp X mp at_ o s) := by
  have hW : clsOp X o ≠ .W := by rcases h with h | h <;> rw [h] <;> simp
  cases ho : o.op with
  | call cl =>
    cases hcl : cl.callee with
    | builtin b => unfold clsOp at h; rw [ho] at h; simp only [hcl] at h; cases b <;> simp at h
    | invoke _ _ => unfold clsOp at h; rw [ho] at h; simp only [hcl] at h; simp at h
    | value f =>
      cases f with
      | const _ => unfold clsOp at h; rw [ho] at h; simp only [hcl] at h; simp at h
      | global _ => unfold clsOp at h; rw [ho] at h; simp only [hcl] at h; simp at h
      | tmp t =>
        cases hd : X.dynR with
        | false => unfold clsOp at h; rw [ho] at h; simp only [hcl, hd] at h; simp at h
        | true =>
          unfold evOp
          simp only [ho, hcl, dynM, hd, if_true]
          split
          · exact still_calm (still_callR _ _) mp
          · exact pure_fail.still
      | func f =>
        cases hc : X.call f with
        | none => unfold clsOp at h; rw [ho] at h; simp only [hcl, hc] at h; simp at h
        | S F => unfold clsOp at h; rw [ho] at h; simp only [hcl, hc] at h; simp at h
        | N F => unfold clsOp at h; rw [ho] at h; simp only [hcl, hc] at h; simp at h
        | R F =>
          unfold evOp
          simp only [ho, hcl, callM, hc]
          exact still_calm (still_callR _ _) mp
        | P F =>
          obtain ⟨a, b⟩ := cls_call_P ho hcl hc hW
          rw [evOp_call_P ho hcl hc a b]
          exact still_callP _ _ _
  | convert t b x =>
    unfold evOp; simp only [ho]
    split <;> first | exact still_ifU (pure_conv _ _).still | exact still_bif pure_fail.still (still_strOf _) | exact pure_fail.still
  | load t a =>
    unfold evOp; simp only [ho]
    split <;> first | exact still_load _ _ | exact pure_fail.still
  | indexAddr t x i =>
    unfold evOp; simp only [ho]
    split <;> first | exact still_ifU (still_idx _ _ _) | exact still_ifU (pure_idxA _ _ _ _).still | exact pure_fail.still
  | slice t x lo hi mx =>
    unfold evOp; simp only [ho]
    split <;> first | exact (pure_sliceStr _ _ _).still | exact still_ifU (still_slice _ _ _ _ _) | exact pure_fail.still
  | _ => unfold clsOp at h; rw [ho] at h; simp at h

theorem cls_R {o : Oper} (h : clsOp X o = .R) (mp : Bool) (at_ : Option Nat) {c : Cfg} (g : Good c) {s : List PV} {a : Act} (hs : Slots c s a.tmps) : Indep c.st (evOp X mp at_ o s) := by
  have hW : clsOp X o ≠ .W := by rw [h]; simp
  cases ho : o.op with
  | call cl =>
    cases hcl : cl.callee with
    | builtin b => unfold clsOp at h; rw [ho] at h; simp only [hcl] at h; cases b <;> simp at h
    | invoke _ _ => unfold clsOp at h; rw [ho] at h; simp only [hcl] at h; simp at h
    | value f =>
      cases f with
      | const _ => unfold clsOp at h; rw [ho] at h; simp only [hcl] at h; simp at h
      | global _ => unfold clsOp at h; rw [ho] at h; simp only [hcl] at h; simp at h
      | tmp t => unfold clsOp at h; rw [ho] at h; simp only [hcl] at h; cases hd : X.dynR <;> simp [hd] at h
      | func f =>
        cases hc : X.call f with
        | none => unfold clsOp at h; rw [ho] at h; simp only [hcl, hc] at h; simp at h
        | S F => unfold clsOp at h; rw [ho] at h; simp only [hcl, hc] at h; simp at h
        | N F => unfold clsOp at h; rw [ho] at h; simp only [hcl, hc] at h; simp at h
        | R F => unfold clsOp at h; rw [ho] at h; simp only [hcl, hc] at h; simp at h
        | P F =>
          obtain ⟨a', b⟩ := cls_call_P ho hcl hc hW
          rw [evOp_call_P ho hcl hc a' b]
          exact callP_indep g mp F (opds_rep hs _)
  | convert t b x =>
    unfold evOp; simp only [ho]
    split <;> first | exact ifU_indep ((pure_conv _ _).indep _) | exact indep_bif (pure_fail.indep _) (strOf_indep g (opd_rep hs x)) | exact pure_fail.indep _
  | load t x =>
    unfold evOp; simp only [ho]
    split <;> first | exact load_indep g _ (opd_rep hs x) | exact pure_fail.indep _
  | indexAddr t x i =>
    unfold evOp; simp only [ho]
    split <;> first | exact ifU_indep (idx_indep g _ (opd_rep hs x)) | exact ifU_indep ((pure_idxA _ _ _ _).indep _) | exact pure_fail.indep _
  | slice t x lo hi mx =>
    unfold evOp; simp only [ho]
    split <;> first | exact (pure_sliceStr _ _ _).indep _ | exact ifU_indep (slice_indep g _ _ _ _ (opd_rep hs x)) | exact pure_fail.indep _
  | _ => unfold clsOp at h; rw [ho] at h; simp at h

theorem cls_N {o : Oper} (h : clsOp X o = .N) (mp : Bool) (at_ : Option Nat) {c : Cfg} (g : Good c) (s : List PV) {v : PV} {st' : St} (he : evOp X mp at_ o s c.st = .ok v st') : Ext c.st st' := by
  cases ho : o.op with
  | call cl =>
    cases hcl : cl.callee with
    | builtin b => unfold clsOp at h; rw [ho] at h; simp only [hcl] at h; cases b <;> simp at h
    | invoke _ _ => unfold clsOp at h; rw [ho] at h; simp only [hcl] at h; simp at h
    | value f =>
      cases f with
      | const _ => unfold clsOp at h; rw [ho] at h; simp only [hcl] at h; simp at h
      | global _ => unfold clsOp at h; rw [ho] at h; simp only [hcl] at h; simp at h
      | tmp t => unfold clsOp at h; rw [ho] at h; simp only [hcl] at h; cases hd : X.dynR <;> simp [hd] at h
      | func f =>
        cases hc : X.call f with
        | none => unfold clsOp at h; rw [ho] at h; simp only [hcl, hc] at h; simp at h
        | S F => unfold clsOp at h; rw [ho] at h; simp only [hcl, hc] at h; simp at h
        | R F => unfold clsOp at h; rw [ho] at h; simp only [hcl, hc] at h; simp at h
        | P F =>
          unfold clsOp at h; rw [ho] at h; simp only [hcl, hc] at h
          split at h <;> cases h
        | N F =>
          unfold evOp at he
          simp only [ho, hcl, callM, hc] at he
          unfold calm callN at he
          cases hf : F (cl.args.toList.map (opd s)) c.st with
          | fail => rw [hf] at he; cases he
          | panic p st1 => rw [hf] at he; simp only [] at he; split at he <;> cases he
          | ok p st1 =>
            rw [hf] at he
            simp only [] at he
            by_cases hi : sameTo st1.H c.st.H c.st.nx = true
            · rw [if_pos hi] at he
              have hi := sameTo_iff.1 hi
              cases he
              exact ⟨fun id b hb => by rw [hi id (g.nx id b hb)]; exact hb, fun id hd => by rw [hi id (g.deadnx id hd)]; exact g.dead id hd⟩
            · rw [if_neg hi] at he; cases he
  | convert _ _ _ => rcases cls_convert (X := X) ho with e | e <;> rw [e] at h <;> cases h
  | _ => unfold clsOp at h; rw [ho] at h; simp at h

theorem cls_A {o : Oper} (h : clsOp X o = .A) (mp : Bool) (id : Nat) (s : List PV) : Makes id (evOp X mp (some id) o s) := by
  cases ho : o.op with
  | alloc e => unfold evOp; simp only [ho]; exact makes_ifU (makes_newAt id _ _ _)
  | box e x => unfold evOp; simp only [ho]; exact makes_ifU (makes_newAt id _ _ _)
  | buildSlice t len ps =>
    unfold evOp; simp only [ho]
    split <;> first | exact makes_ifU (buildSlice_mk _ _ _ _ _ _) | exact makes_fail id
  | makeSlice t l cc =>
    unfold evOp; simp only [ho]
    split <;> first | exact makes_ifU (makeSlice_mk _ _ _ _ _ _) | exact makes_fail id
  | call cl =>
    unfold clsOp at h; rw [ho] at h
    cases hcl : cl.callee with
    | builtin b => simp only [hcl] at h; cases b <;> simp at h
    | invoke _ _ => simp only [hcl] at h; simp at h
    | value f =>
      cases f with
      | const _ => simp only [hcl] at h; simp at h
      | global _ => simp only [hcl] at h; simp at h
      | tmp t => simp only [hcl] at h; cases hd : X.dynR <;> simp [hd] at h
      | func f =>
        cases hc : X.call f <;> simp only [hcl, hc] at h <;> (try (simp at h; done))
        split at h <;> cases h
  | convert _ _ _ => rcases cls_convert (X := X) ho with e | e <;> rw [e] at h <;> cases h
  | _ => unfold clsOp at h; rw [ho] at h; simp at h

end
end Go.Abs
end
