/-
  BY HAND: plex.guarded, which recovers.
-/
import Derived.Test.YtliomhbmlclmeaaGreatGA
import Derived.Test.YtliomhbmlclmeaaGreatPTz
import Derived.Tactics
import Derived.Tactics2
import Derived.Defers
import Derived.Recover
import Derived.Laws.Pointers
set_option linter.unusedSimpArgs false
set_option linter.unusedVariables false
set_option maxRecDepth 100000
namespace Go.Abs
open Go Go.Proofs

/-- The deferred closure, of a frame that panics. -/
theorem catch_panicking (p : Addr) (u : TypeId) (pv : Value) (older : List PanicEntry) (x : Bool) (w : World) (hc : w.cell? p = some (.bool x)) (hz : w.frozen? p = false) :
    CallsD Tryz.prog 49 #[.pointer (some p)] (.panicking ({ v := .iface u pv, recovered := false } :: older)) w fun e u' w'' =>
      e = .returned (.tuple #[]) ∧ u' = .panicking ({ v := .iface u pv, recovered := true } :: older) ∧ w'' = w.setCell p (.bool false) := by
  refine callsD_of_wpS Tryz.func49 rfl fun c₀ cs hu => ?_
  apply wpS_seq
  apply wpS_region
  simp [wpOpsS, go_sem, recoverD, hu, Tryz.ntmps49, Exit.thenS]
  apply wpS_seq
  apply wpS_region
  simp [wpOpsS, go_sem, Exit.thenS, Array.replicate]
  refine wpS_cond (t := true) (by simp [Act.eval, Array.replicate]) ?_
  simp only [if_true]
  apply wpS_region
  simp [wpOpsS, go_sem, hc, hz, bodyPostS, results, Tryz.results49, Array.replicate]

/-- The same, of a frame that returns. -/
theorem catch_idle (p : Addr) (w : World) :
    CallsD Tryz.prog 49 #[.pointer (some p)] .returning w fun e u' w' => e = .returned (.tuple #[]) ∧ u' = .returning ∧ w' = w := by
  refine callsD_of_wpS Tryz.func49 rfl fun c₀ cs hu => ?_
  apply wpS_seq
  apply wpS_region
  simp [wpOpsS, go_sem, recoverD, hu, Tryz.ntmps49, Exit.thenS]
  apply wpS_seq
  apply wpS_region
  simp [wpOpsS, go_sem, Exit.thenS, Array.replicate]
  refine wpS_cond (t := false) (by simp [Act.eval, Array.replicate]) ?_
  simp only [Bool.false_eq_true, if_false]
  refine wpS_of_wp (wp_skip ?_)
  cases c₀
  simp_all [bodyPostS, results, Tryz.results49]

/-- The walk: up to the call, and behind it. -/
theorem guarded_walk (gf : FuncId) (us ws : List Value) (w : World) (hf : IsFn Tryz.prog gf) (R : Ending → World → Prop)
    (h : Calls Tryz.prog gf (us ++ ws).toArray (w.alloc (.cells #[.bool false] 4)) fun e w2 =>
      (∃ v x, e = .returned v ∧ w2.cell? ⟨w.heap.size, 0, none⟩ = some (.bool x) ∧ w2.frozen? ⟨w.heap.size, 0, none⟩ = false ∧ R (.returned (.bool true)) (w2.setCell ⟨w.heap.size, 0, none⟩ (.bool true))) ∨
      (∃ u pv x, e = .panicked [{ v := .iface u pv, recovered := false }] ∧ w2.cell? ⟨w.heap.size, 0, none⟩ = some (.bool x) ∧ w2.frozen? ⟨w.heap.size, 0, none⟩ = false ∧ R (.returned (.bool false)) (w2.setCell ⟨w.heap.size, 0, none⟩ (.bool false)))) :
    Calls Tryz.prog 25 #[.func (.func gf) us.toArray ws.toArray] w R := by
  have hmf : ∀ (fn : Fn) (first cap : Array Value) (w : World), (Instr.makeFunc fn first cap).run Tryz.prog w = .ok (.func fn first cap) w := fun _ _ _ _ => rfl
  go_enter_defers Tryz.func25, Tryz.ntmps25
  go_wp2
  rw [run_callFunc_of hf, Oper.upon_enter]
  refine Calls.mono h fun e w2 he => ?_
  rcases he with ⟨v, x, rfl, hc, hz, hR⟩ | ⟨u, pv, x, rfl, hc, hz, hR⟩
  · rename_i K1 hK1 K hK
    refine hK _ _ ?_
    refine wpList_nil (hK1 _ _ ?_)
    clear hK hK1 K K1 h
    go_wp2
    show Leaves _ _ _ _ _ _ _
    refine leaves_cons (f := 49) (args := #[.pointer (some ⟨w.heap.size, 0, none⟩)]) (by simp) (by simp [go_sem]) ?_
    refine (catch_idle ⟨w.heap.size, 0, none⟩ _).mono ?_
    rintro e u' w'' ⟨rfl, rfl, rfl⟩
    have hcell : (w2.setCell ⟨w.heap.size, 0, none⟩ (.bool true)).cell? ⟨w.heap.size, 0, none⟩ = some (.bool true) := by simp [go_sem, hc]
    simpa [Leaves, settle, results, Tryz.results25, go_sem, hcell, hc] using hR
  · rename_i K1 hK1 K hK
    show Leaves _ _ _ _ _ _ _
    refine leaves_cons (f := 49) (args := #[.pointer (some ⟨w.heap.size, 0, none⟩)]) (by simp) (by simp [go_sem]) ?_
    refine (catch_panicking ⟨w.heap.size, 0, none⟩ u pv [] x w2 hc hz).mono ?_
    rintro e u' w'' ⟨rfl, rfl, rfl⟩
    have hcell : (w2.setCell ⟨w.heap.size, 0, none⟩ (.bool false)).cell? ⟨w.heap.size, 0, none⟩ = some (.bool false) := by simp [go_sem, hc]
    simpa [Leaves, settle, results, Tryz.results25, go_sem, hcell, hc] using hR

/-- The cell, where its block still is what it was. -/
theorem cell_of {c1 c2 : Cfg} (g2 : Good c2) (e : Evo c1 c2) {id b : Nat} {y : PV} (h1 : c1.st.H id = some ⟨1, [y]⟩) (hm : c1.μ id = some b) {x : Bool} (h2 : c2.st.H id = some ⟨1, [.bool x]⟩) :
    c2.μ id = some b ∧ c2.w.cell? ⟨b, 0, none⟩ = some (.bool x) ∧ c2.w.frozen? ⟨b, 0, none⟩ = false := by
  have hμ : c2.μ id = some b := by
    rcases e.kept id _ h1 with hd | ⟨bl, k1, k2, k3, k4⟩
    · have := g2.dead id hd; rw [h2] at this; cases this
    · rw [h2] at k1; cases k1; rw [k4 rfl]; exact hm
  obtain ⟨cs, t, k1, k2, k3⟩ := (g2.blk id _ b h2 hμ).seq
  obtain ⟨u, hu, hr⟩ := k3 0 (.bool x) rfl
  cases hr
  have hc : c2.w.cell? ⟨b, 0, none⟩ = some (.bool x) := by rw [cell_block k1]; simpa using hu
  refine ⟨hμ, hc, ?_⟩
  simp [World.frozen?, k1]

theorem guarded_sound {D : FuncId → List PV → M} (hD : ∀ f, SoundS Tryz.prog f (D f)) : SoundS Tryz.prog 25 (guardedF D) := by
  intro c args vs g hl
  unfold guardedF
  split
  case h_2 => exact .inl rfl
  rename_i gf first cap
  obtain ⟨v, rfl⟩ : ∃ v, vs = [v] := by
    have := hl.1; simp at this; exact List.length_eq_one_iff.1 this.symm
  obtain ⟨us, ws, rfl, hf1, hf2⟩ := (hl.2 0 (by simp) (by simp)).func_inv
  -- the cell
  obtain ⟨n1, n2⟩ := nx_free g
  obtain ⟨g1, e1⟩ := g.fresh n1 n2 (Nat.lt_succ_self _) (Nat.le_succ _) (sz := 1) (xs := [.bool false]) (by simp [fitsE, PV.known, PV.cells]) (cells := #[.bool false]) (e := 4) (by simp)
    (fun j p hp => by
      have : j = 0 ∧ p = .bool false := by
        cases j with
        | zero => simp [flat, PV.cells] at hp; exact ⟨rfl, hp.symm⟩
        | succ j => simp [flat, PV.cells] at hp
      obtain ⟨rfl, rfl⟩ := this
      exact ⟨.bool false, rfl, .bool false⟩) (SameMem.refl c.w)
  have hall := ((hf1.app hf2).evo e1)
  have hcall := hD gf _ (first ++ cap) (us ++ ws) g1 hall
  have ty : TypeOk Tryz.prog 4 (tyT 4) := tyT_ok 4 (by kernel_rfl)
  have hsz : (tyT 4).size = 1 := by kernel_rfl
  -- behind the call
  have last : ∀ (c2 : Cfg) (x y : Bool), Good c2 → Evo ⟨⟨upd c.st.H c.st.nx (some ⟨1, [.bool false]⟩), c.st.nx + 1, c.st.dead⟩, fun i => if i = c.st.nx then some c.w.heap.size else c.μ i, c.w.alloc (.cells #[.bool false] 4), c.hid⟩ c2 →
      c2.st.H c.st.nx = some ⟨1, [.bool x]⟩ → ∃ x', c2.w.cell? ⟨c.w.heap.size, 0, none⟩ = some (.bool x') ∧ c2.w.frozen? ⟨c.w.heap.size, 0, none⟩ = false ∧
        Good ⟨{ c2.st with H := upd c2.st.H c.st.nx (some ⟨1, [.bool y]⟩) }, c2.μ, c2.w.setCell ⟨c.w.heap.size, 0, none⟩ (.bool y), c2.hid⟩ ∧ Evo c2 ⟨{ c2.st with H := upd c2.st.H c.st.nx (some ⟨1, [.bool y]⟩) }, c2.μ, c2.w.setCell ⟨c.w.heap.size, 0, none⟩ (.bool y), c2.hid⟩ := by
    intro c2 x y g2 e2 h2
    obtain ⟨hμ, hc, hz⟩ := cell_of g2 e2 (id := c.st.nx) (b := c.w.heap.size) (upd_same _ _ _) (by simp) h2
    obtain ⟨w', hrun, g3, e3⟩ := store_run (P := Tryz.prog) g2 ty (idx := 0) (off := 0) h2 hμ (x := .bool x) (y := .bool y) (v := .bool y) (u := .bool y) rfl (by rw [hsz]; rfl) rfl (.bool y)
    have hw : w' = c2.w.setCell ⟨c.w.heap.size, 0, none⟩ (.bool y) := by
      have h4 : (storeVar 4 ⟨c.w.heap.size, 0, none⟩ (.bool y)).run Tryz.prog c2.w = .ok () (c2.w.setCell ⟨c.w.heap.size, 0, none⟩ (.bool y)) := by
        have := run_sizeOf_of ty c2.w
        rw [hsz] at this
        simp [storeVar, this, Value.cells, go_sem, hc, hz]
      have h5 : (storeVar 4 ⟨c.w.heap.size, 0, none⟩ (.bool y)).run Tryz.prog c2.w = .ok () w' := by simpa using hrun
      rw [h4] at h5
      cases h5; rfl
    subst hw
    exact ⟨x, hc, hz, g3, e3⟩
  have free : ∀ (st2 : St) (b : Option Blk), Fp none ⟨upd c.st.H c.st.nx (some ⟨1, [.bool false]⟩), c.st.nx + 1, c.st.dead⟩ st2 → Fp none c.st { st2 with H := upd st2.H c.st.nx b } := fun st2 b h id hid _ h1 h2 => by
    have hne : id ≠ c.st.nx := by omega
    obtain ⟨k1, k2⟩ := h id (Nat.lt_succ_of_lt hid) (by simp) (by show upd c.st.H c.st.nx _ id = none; rw [upd_other _ _ hne]; exact h1) h2
    exact ⟨by show upd st2.H c.st.nx b id = none; rw [upd_other _ _ hne]; exact k1, k2⟩
  have isf : IsFn Tryz.prog 25 := ⟨Tryz.f25, Tryz.func25, by kernel_rfl, by kernel_rfl⟩
  show guardedM D gf (first ++ cap) c.st = .fail ∨ (IsFn Tryz.prog 25 ∧ CallOk Tryz.prog c (guardedM D gf (first ++ cap) c.st) 25 _ ∧ FpR none c.st (guardedM D gf (first ++ cap) c.st))
  unfold guardedM
  cases hres : D gf (first ++ cap) ⟨upd c.st.H c.st.nx (some ⟨1, [.bool false]⟩), c.st.nx + 1, c.st.dead⟩ with
  | fail => exact .inl rfl
  | ok q st2 =>
    have hcall' : CallOk Tryz.prog ⟨⟨upd c.st.H c.st.nx (some ⟨1, [.bool false]⟩), c.st.nx + 1, c.st.dead⟩, fun i => if i = c.st.nx then some c.w.heap.size else c.μ i, c.w.alloc (.cells #[.bool false] 4), c.hid⟩ (.ok q st2) gf (us ++ ws).toArray ∧ IsFn Tryz.prog gf ∧ FpR none ⟨upd c.st.H c.st.nx (some ⟨1, [.bool false]⟩), c.st.nx + 1, c.st.dead⟩ (.ok q st2) := by
      rcases hcall with h | ⟨h1, h2, h3⟩
      · have h' : D gf (first ++ cap) ⟨upd c.st.H c.st.nx (some ⟨1, [.bool false]⟩), c.st.nx + 1, c.st.dead⟩ = .fail := h
        rw [hres] at h'; cases h'
      · simp only [Nat.succ_eq_add_one, hres] at h2 h3
        exact ⟨h2, h1, h3⟩
    obtain ⟨i2, i1, i3⟩ := hcall'
    simp only []
    split
    · rename_i x h2
      refine .inr ⟨isf, ?_, free st2 _ i3⟩
      refine guarded_walk gf us ws c.w i1 _ (Calls.mono i2 fun e w2 he => ?_)
      obtain ⟨μ2, v2, rfl, g2, e2, hr⟩ := he
      obtain ⟨x', hc, hz, g3, e3⟩ := last ⟨st2, μ2, w2, c.hid⟩ x true g2 e2 h2
      exact .inl ⟨v2, x', rfl, hc, hz, μ2, .bool true, rfl, g3, (e1.trans e2).trans e3, .bool true⟩
    · exact .inl rfl
  | panic q st2 =>
    have hcall' : CallOk Tryz.prog ⟨⟨upd c.st.H c.st.nx (some ⟨1, [.bool false]⟩), c.st.nx + 1, c.st.dead⟩, fun i => if i = c.st.nx then some c.w.heap.size else c.μ i, c.w.alloc (.cells #[.bool false] 4), c.hid⟩ (.panic q st2) gf (us ++ ws).toArray ∧ IsFn Tryz.prog gf ∧ FpR none ⟨upd c.st.H c.st.nx (some ⟨1, [.bool false]⟩), c.st.nx + 1, c.st.dead⟩ (.panic q st2) := by
      rcases hcall with h | ⟨h1, h2, h3⟩
      · have h' : D gf (first ++ cap) ⟨upd c.st.H c.st.nx (some ⟨1, [.bool false]⟩), c.st.nx + 1, c.st.dead⟩ = .fail := h
        rw [hres] at h'; cases h'
      · simp only [Nat.succ_eq_add_one, hres] at h2 h3
        exact ⟨h2, h1, h3⟩
    obtain ⟨i2, i1, i3⟩ := hcall'
    simp only []
    split
    · rename_i t pv x h2
      refine .inr ⟨isf, ?_, free st2 _ i3⟩
      refine guarded_walk gf us ws c.w i1 _ (Calls.mono i2 fun e w2 he => ?_)
      obtain ⟨μ2, v2, rfl, g2, e2, hr⟩ := he
      cases hr with
      | iface _ _ rv _ =>
        obtain ⟨x', hc, hz, g3, e3⟩ := last ⟨st2, μ2, w2, c.hid⟩ x false g2 e2 h2
        exact .inr ⟨t, rv, x', rfl, hc, hz, μ2, .bool false, rfl, g3, (e1.trans e2).trans e3, .bool false⟩
    · exact .inl rfl

#print axioms guarded_walk
end Go.Abs
