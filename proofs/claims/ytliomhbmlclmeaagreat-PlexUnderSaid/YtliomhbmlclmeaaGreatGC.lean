/-
  Joined from: AbsS6 AbsS7 AbsS8 AbsS9.
-/
import Derived.Test.YtliomhbmlclmeaaGreatGB
import Derived.Laws.BytesString
/-
  THE ABSTRACT OPERATIONS ARE THE MODEL's: append, make.
-/
section
set_option linter.unusedSimpArgs false
set_option linter.unusedVariables false
namespace Go.Abs
open Go

/-- A block of our own is left for a longer one. -/
theorem Good.regrow {c : Cfg} (g : Good c) {id : Nat} {bl : Blk} (hb : c.st.H id = some bl) {xs : List PV} (hlt : bl.xs.length < xs.length) (hfit : ∀ x ∈ xs, fitsE bl.sz x = true)
    {cells : Array Value} {e : TypeId} (hroom : bl.sz * xs.length ≤ cells.size) (hrep : RepSeq c (flat xs) cells.toList) {w0 : World} (hw : SameMem c.w w0) :
    Good ⟨{ c.st with H := upd c.st.H id (some ⟨bl.sz, xs⟩) }, fun i => if i = id then some c.w.heap.size else c.μ i, w0.alloc (.cells cells e), c.hid⟩ ∧
    Evo c ⟨{ c.st with H := upd c.st.H id (some ⟨bl.sz, xs⟩) }, fun i => if i = id then some c.w.heap.size else c.μ i, w0.alloc (.cells cells e), c.hid⟩ := by
  have hsize : w0.heap.size = c.w.heap.size := by rw [hw.heap]
  have hold : ∀ k, k < c.w.heap.size → (w0.alloc (.cells cells e)).heap[k]? = c.w.heap[k]? := fun k hk => by
    rw [heap_alloc_old _ _ (by omega), hw.heap]
  have hnew : (w0.alloc (.cells cells e)).heap[c.w.heap.size]? = some (.cells cells e (0, 0)) := by
    rw [← hsize]; exact heap_alloc_new w0 _
  have mlt : ∀ i bl b, c.st.H i = some bl → c.μ i = some b → b < c.w.heap.size := fun i bl b hb hm => by
    obtain ⟨cs, e, h, _⟩ := (g.blk i bl b hb hm).cells
    exact (Array.getElem?_eq_some_iff.1 h).1
  have ev : Evo c ⟨{ c.st with H := upd c.st.H id (some ⟨bl.sz, xs⟩) }, fun i => if i = id then some c.w.heap.size else c.μ i, w0.alloc (.cells cells e), c.hid⟩ := by
    refine ⟨fun k hk _ => hold k hk, by simp; omega, hw.os, hw.tape, hw.output, rfl, fun k hk => ?_, Nat.le_refl _, fun i hi => hi, fun i bl' hb' => ?_, fun k s hs => ?_⟩
    · obtain ⟨i, bl', h1, h2⟩ := hk
      by_cases hi : i = id
      · subst hi; simp at h2; exact .inr (by omega)
      · have h1' : upd c.st.H id (some ⟨bl.sz, xs⟩) i = some bl' := h1
        rw [upd_other _ _ hi] at h1'
        simp only [hi, if_false] at h2
        exact .inl ⟨i, bl', h1', h2⟩
    · by_cases hi : i = id
      · subst hi; rw [hb] at hb'; cases hb'
        exact .inr ⟨⟨bl.sz, xs⟩, upd_same _ _ _, rfl, by simp only []; omega, fun e => by simp only [] at e; omega⟩
      · exact .inr ⟨bl', by simpa [upd_other _ _ hi] using hb', rfl, Nat.le_refl _, fun _ => by simp [hi]⟩
    · have hk : k < c.w.heap.size := by
        simp only [World.shape?] at hs
        split at hs
        · rename_i h; exact (Array.getElem?_eq_some_iff.1 h).1
        · cases hs
      simp only [World.shape?, hold k hk] at hs ⊢; exact hs
  refine ⟨⟨fun i bl' hb' => ?_, fun i hi => ?_, fun i hi => g.deadnx i hi, fun i bl' hb' => ?_, fun i bl' b hb' hm => ?_, fun i bl' hb' hm => ?_, fun i i' bl1 bl2 b h1 h2 m1 m2 => ?_, fun b hb' => ?_⟩, ev⟩
  · by_cases hi : i = id
    · subst hi; exact g.nx i bl hb
    · exact g.nx i bl' (by simpa [upd_other _ _ hi] using hb')
  · have hne : i ≠ id := fun e => by subst e; have := g.dead i hi; rw [hb] at this; cases this
    have := g.dead i hi
    simpa [upd_other _ _ hne] using this
  · by_cases hi : i = id
    · subst hi; simp only [upd_same, Option.some.injEq] at hb'; subst hb'; exact hfit
    · exact g.fits i bl' (by simpa [upd_other _ _ hi] using hb')
  · by_cases hi : i = id
    · subst hi; simp only [upd_same, Option.some.injEq] at hb'; subst hb'
      simp only [if_true, Option.some.injEq] at hm; subst hm
      exact .of_seq (fun hh => by have := g.hidlt _ hh; omega) hnew hroom (hrep.evo ev)
    · have hb'' : c.st.H i = some bl' := by simpa [upd_other _ _ hi] using hb'
      simp only [hi, if_false] at hm
      exact (g.blk i bl' b hb'' hm).evo ev (hold b (mlt i bl' b hb'' hm))
  · by_cases hi : i = id
    · subst hi; simp at hm
    · simp only [hi, if_false] at hm; exact g.bare i bl' (by simpa [upd_other _ _ hi] using hb') hm
  · by_cases hi : i = id
    · by_cases hi' : i' = id
      · rw [hi, hi']
      · subst hi
        simp only [hi', if_false] at m2
        simp only [if_true, Option.some.injEq] at m1
        have := mlt i' bl2 b (by simpa [upd_other _ _ hi'] using h2) m2
        omega
    · by_cases hi' : i' = id
      · subst hi'
        simp only [hi, if_false] at m1
        simp only [if_true, Option.some.injEq] at m2
        have := mlt i bl1 b (by simpa [upd_other _ _ hi] using h1) m1
        omega
      · simp only [hi, if_false] at m1
        simp only [hi', if_false] at m2
        exact g.inj i i' bl1 bl2 b (by simpa [upd_other _ _ hi] using h1) (by simpa [upd_other _ _ hi'] using h2) m1 m2
  · have := g.hidlt b hb'
    simp; omega

/-- The elements of a slice, as the real one has them. -/
theorem elems_rep {c : Cfg} (g : Good c) {x : PV} {v : Value} {ys : List PV} (h : elems c.st x = some ys) (hr : Rep c x v) :
    ∃ base cap, v = .slice base ys.length cap ∧ (ys ≠ [] → ∃ a us, base = some a ∧ us.length = (flat ys).length ∧ RepSeq c (flat ys) us ∧ ∀ (j : Nat) u, us[j]? = some u → c.w.cell? (a.add j) = some u) := by
  unfold elems at h
  cases hr with
  | lst0 a cap => simp only [Option.some.injEq] at h; subst h; exact ⟨a, cap, rfl, fun h => (h rfl).elim⟩
  | lst xs sz b o cap us hs hn hc hr ho hcap =>
    simp only [Option.some.injEq] at h; subst h
    refine ⟨_, cap, rfl, fun _ => ⟨_, (List.range (flat xs).length).map us, rfl, by simp, fun j p hp => ?_, fun j u hu => ?_⟩⟩
    · obtain ⟨hj, rfl⟩ := List.getElem?_eq_some_iff.1 hp
      exact ⟨us j, by simp [hj], hr j hj⟩
    · simp only [List.getElem?_map] at hu
      by_cases hj : j < (flat xs).length
      · simp [hj] at hu; subst hu; rw [add_addr]; exact hc j hj
      · simp [hj] at hu
  | nilS => simp only [Option.some.injEq] at h; subst h; exact ⟨none, 0, rfl, fun h => (h rfl).elim⟩
  | z0 a => simp only [Option.some.injEq] at h; subst h; exact ⟨a, 0, rfl, fun h => (h rfl).elim⟩
  | sl id n off len bl b cap m e hi hb hn hm hsh h1 h2 h3 h4 =>
    simp only [hb] at h
    split at h
    · simp only [Option.some.injEq] at h; subst h
      have hl : ((bl.xs.drop off).take len).length = len := by simp; omega
      refine ⟨_, cap, by rw [hl], fun hne => ?_⟩
      have hfit := g.fits id bl hb
      have hfl := flat_length hfit
      obtain ⟨cs, e', k1, k2, k3⟩ := (g.blk id bl b hb hm).seq
      have hsplit : flat bl.xs = flat (bl.xs.take off) ++ (flat ((bl.xs.drop off).take len) ++ flat ((bl.xs.drop off).drop len)) := by
        rw [← flat_append, ← flat_append, List.take_append_drop, List.take_append_drop]
      have f1 : (flat (bl.xs.take off)).length = off * bl.sz := by
        rw [flat_length (fun x hx => hfit x (List.mem_of_mem_take hx)), List.length_take, Nat.min_eq_left (by omega)]
      have f2 : (flat ((bl.xs.drop off).take len)).length = len * bl.sz := by
        rw [flat_length (fun x hx => hfit x (List.mem_of_mem_drop (List.mem_of_mem_take hx))), hl]
      have hin : off * bl.sz + len * bl.sz ≤ bl.xs.length * bl.sz := by rw [← Nat.add_mul]; exact Nat.mul_le_mul_right _ (by omega)
      have hcs : bl.xs.length * bl.sz ≤ cs.toList.length := by rw [Nat.mul_comm]; simpa using k2
      refine ⟨_, (cs.toList.drop (off * bl.sz)).take (len * bl.sz), rfl, ?_, ?_, fun j u hu => ?_⟩
      · rw [f2, List.length_take, List.length_drop]; omega
      · have := (k3.drop (off * bl.sz)).take (len * bl.sz)
        rw [hsplit, List.drop_append, f1] at this
        have e1 : List.drop (off * bl.sz) (flat (bl.xs.take off)) = [] := List.drop_eq_nil_iff.2 (by omega)
        rw [e1, Nat.sub_self, List.drop_zero, List.nil_append, List.take_append, f2] at this
        have e2 : List.take (len * bl.sz) (flat ((bl.xs.drop off).take len)) = flat ((bl.xs.drop off).take len) := List.take_of_length_le (by omega)
        rw [e2, Nat.sub_self, List.take_zero, List.append_nil] at this
        exact this
      · rw [add_addr, cell_block k1]
        rw [List.getElem?_take] at hu
        split at hu
        · rw [List.getElem?_drop] at hu; simpa using hu
        · cases hu
    · cases h
  | sl0 id bl hi hb hn hm =>
    simp only [hb, hn] at h
    simp at h
    subst h
    exact ⟨none, 0, rfl, fun h => (h rfl).elim⟩
  | slx id n off len a k hs =>
    rcases hs with hd | ⟨bl, hb, hlt⟩
    · simp only [g.dead id hd] at h; cases h
    · simp only [hb] at h
      split at h
      · omega
      · cases h
  | _ => cases h

theorem run_append_zero {P : Program} (w : World) (t ty e : TypeId) (i : TypeInfo) (ht : P.underlying t = some (.slice e)) (hi : P.info? e = some i) (base b2 : Option Addr) (sLen sCap c2 : Nat) (h : sLen ≤ sCap) :
    (Builtin.append_ #[t, t] ty #[.slice base sLen sCap, .slice b2 0 c2]).run P w = .ok (.slice base sLen sCap) w := by
  have hf : (Builtin.firstCells i.size 0 (.slice b2 0 c2)).run P w = .ok #[] w := by
    cases b2 <;> simp [Builtin.firstCells, loadCells, loadCellsFrom]
  cases base <;> simp [Builtin.append_, run_underlying ht, sizeOf, typeInfo, hi, Builtin.lenOf, h, hf, storeCells]

theorem fitsA_fitsE {sz : Nat} {y : PV} (h : fitsA sz y = true) : fitsE sz y = true := by
  simp [fitsA] at h; simp [fitsE, h]

theorem fitsA_simple {sz : Nat} {ys : List PV} (h : ∀ y ∈ ys, fitsA sz y = true) : ∀ q ∈ flat ys, q.simple = true := by
  intro q hq
  simp only [flat, List.mem_flatMap] at hq
  obtain ⟨y, hy, hq⟩ := hq
  have := h y hy
  simp [fitsA] at this
  exact this.2 q hq

theorem zeroCells_size (z : Array Value) (n : Nat) : (Builtin.zeroCells z n).size = n * z.size := by simp [Builtin.zeroCells]

/-- The row that a growing append lays: old cells, new ones, noughts. -/
theorem grown_size {w : World} {e : TypeId} {i : TypeInfo} {z : Value} {olds news : List Value} {sLen n sCap sz : Nat} (hz : z.cells.size = sz) (ho : olds.length = sLen * sz) (hn : news.length = n * sz) :
    (olds.toArray ++ news.toArray ++ Builtin.zeroCells z.cells (grownCap w (sLen + n) sCap e - (sLen + n))).size = grownCap w (sLen + n) sCap e * sz := by
  have := grownCap_ge w (sLen + n) sCap e
  simp only [Array.size_append, List.size_toArray, zeroCells_size, ho, hn, hz, ← Nat.add_mul]
  congr 1; omega

set_option maxHeartbeats 1000000 in
theorem append_ok {P : Program} {c : Cfg} (g : Good c) {t e : TypeId} (ty : TypeId) (hts : P.underlying t = some (.slice e)) {ti : TI} (ht : TypeOk P e ti) {s x : PV} {u v : Value} (hs : Rep c s u) (hx : Rep c x v) :
    VOk P c (appendM ti.size ti.bytes s x c.st) (Builtin.append_ #[t, t] ty #[u, v]) := by
  unfold appendM
  cases he : elems c.st x with
  | none => trivial
  | some ys =>
    simp only []
    split
    case isFalse => trivial
    rename_i hc
    obtain ⟨hpos, hby, hml, hall⟩ := hc
    have hall' : ∀ y ∈ ys, fitsA ti.size y = true := by simpa using hall
    have hfy : ∀ y ∈ ys, fitsE ti.size y = true := fun y hy => fitsA_fitsE (hall' y hy)
    obtain ⟨base, cap, rfl, hcells⟩ := elems_rep g he hx
    obtain ⟨i, z, hi, hisz, hib, hz, hzr, hzf, hza⟩ := ht.info
    have hzs : z.cells.size = ti.size := by have := ((hzr c).cells (fitsE_known hzf)).1; have := fitsE_len hzf; omega
    have hfl := flat_length hfy
    simp only [mostLen, mostBytes] at hml hby
    have hbytes : ∀ k, k ≤ 2 ^ 25 → k * i.bytes ≤ 140737488355328 := fun k hk => by
      rw [hib]
      calc k * ti.bytes ≤ 2 ^ 25 * 2 ^ 12 := Nat.mul_le_mul hk hby
        _ ≤ _ := by decide
    -- nothing is appended
    by_cases h0 : ys.length = 0
    · have hrun : ∀ (b : Option Addr) (l k : Nat), l ≤ k → (Builtin.append_ #[t, t] ty #[.slice b l k, .slice base 0 cap]).run P c.w = .ok (.slice b l k) c.w := fun b l k hlk => by
        exact run_append_zero c.w t ty e i hts hi b base l k cap hlk
      have hys : ys = [] := List.eq_nil_of_length_eq_zero h0
      cases hs with
      | nilS => simp only [h0, if_true]; exact VOk.same g (hrun _ _ _ (Nat.le_refl _)) .nilS
      | z0 a => simp only [h0, if_true]; exact VOk.same g (hrun _ _ _ (Nat.le_refl _)) (.z0 a)
      | sl id n off len bl b cap' m e' hi' hb hn hm hsh h1 h2 h3 h4 =>
        simp only [hb]
        split
        case isFalse => trivial
        rename_i hc
        obtain ⟨_, rfl, hln, hbsz, _⟩ := hc
        rw [if_pos (by omega)]
        have hxs : bl.xs.take len ++ ys ++ bl.xs.drop (len + ys.length) = bl.xs := by rw [h0, hys]; simp
        have hst : ({ c.st with H := upd c.st.H id (some ⟨bl.sz, bl.xs.take len ++ ys ++ bl.xs.drop (len + ys.length)⟩) } : St) = c.st := by
          rw [hxs]
          have : upd c.st.H id (some ⟨bl.sz, bl.xs⟩) = c.st.H := funext fun j => by
            by_cases hj : j = id
            · subst hj; rw [upd_same, hb]
            · rw [upd_other _ _ hj]
          rw [this]
        rw [hst, h0, Nat.add_zero]
        exact VOk.same g (hrun _ _ _ h3) (.sl id n 0 len bl b cap' m e' hi' hb hn hm hsh h1 h2 h3 h4)
      | sl0 id bl hi' hb hn hm =>
        simp only [hb]
        split
        case isFalse => trivial
        rw [if_pos (by omega)]
        have hxs : bl.xs.take 0 ++ ys ++ bl.xs.drop (0 + ys.length) = bl.xs := by rw [h0, hys]; simp
        have hst : ({ c.st with H := upd c.st.H id (some ⟨bl.sz, bl.xs.take 0 ++ ys ++ bl.xs.drop (0 + ys.length)⟩) } : St) = c.st := by
          rw [hxs]
          have : upd c.st.H id (some ⟨bl.sz, bl.xs⟩) = c.st.H := funext fun j => by
            by_cases hj : j = id
            · subst hj; rw [upd_same, hb]
            · rw [upd_other _ _ hj]
          rw [this]
        rw [hst, h0]
        exact VOk.same g (hrun _ _ _ (Nat.le_refl _)) (.sl0 id bl hi' hb hn hm)
      | slx id n off len a' k' hst =>
        rcases hst with hd | ⟨bl, hb, hlt⟩
        · simp only [g.dead id hd]; trivial
        · simp only [hb]
          rw [if_neg (by omega)]; trivial
      | _ => trivial
    · obtain ⟨a, us, rfl, hul, hus, hcell⟩ := hcells (fun e => h0 (by simp [e]))
      have hul' : us.length = ys.length * i.size := by rw [hul, hfl, hisz]
      have hone := one_of_simple hus hul.symm (fitsA_simple hall')
      have hsmall : ∀ k, k ≤ 2 ^ 25 → ((k : Nat) : Int) ≤ 9223372036854775807 := fun k hk => by omega
      -- a new block under the next number
      have newb : ∀ (b : Option Addr), u = .slice b 0 0 → (∀ a', b = some a' → True) →
          VOk P c (.ok (.sl c.st.nx ys.length 0 ys.length) { c.st with H := upd c.st.H c.st.nx (some ⟨ti.size, ys⟩), nx := c.st.nx + 1 }) (Builtin.append_ #[t, t] ty #[u, .slice (some a) ys.length cap]) := by
        intro b hu _
        subst hu
        have hrun : ∃ cells : Array Value, (Builtin.append_ #[t, t] ty #[.slice b 0 0, .slice (some a) ys.length cap]).run P c.w = .ok (.slice (some ⟨c.w.heap.size, 0, none⟩) ys.length (grownCap c.w ys.length 0 e)) (c.w.drew.alloc (.cells cells e)) ∧
            cells.size = grownCap c.w ys.length 0 e * ti.size ∧ RepSeq c (flat ys) cells.toList := by
          cases b with
          | none =>
            refine ⟨_, run_append_nil (P := P) c.w t ty e i z hts hi hz a ys.length cap us hul' hcell (by omega) (hsmall _ (by omega)) (by have := hbytes ys.length (by omega); omega), ?_, ?_⟩
            · have := grown_size (w := c.w) (e := e) (i := i) (z := z) (olds := []) (news := us) (sLen := 0) (n := ys.length) (sCap := 0) hzs (by simp) (by rw [hul', hisz])
              simpa using this
            · have := hus.more (vs := (Builtin.zeroCells z.cells (grownCap c.w ys.length 0 e - ys.length)).toList)
              simpa using this
          | some b =>
            have := run_append_grow (P := P) c.w t ty e i z hts hi hz b 0 0 [] (by simp) (by simp) a ys.length cap us hul' hcell (by omega) (by have := hsmall ys.length (by omega); simpa using this)
              (by have := growslice_fits (need := 0 + ys.length) (old := 0) (bytes := i.bytes) (by omega) (hbytes _ (by omega)); exact this)
            simp only [Nat.zero_add] at this
            refine ⟨_, this, ?_, ?_⟩
            · have := grown_size (w := c.w) (e := e) (i := i) (z := z) (olds := []) (news := us) (sLen := 0) (n := ys.length) (sCap := 0) hzs (by simp) (by rw [hul', hisz])
              simpa using this
            · have := hus.more (vs := (Builtin.zeroCells z.cells (grownCap c.w ys.length 0 e - ys.length)).toList)
              simpa using this
        obtain ⟨cells, hrun, hcs, hrep⟩ := hrun
        obtain ⟨f1, f2⟩ := nx_free g
        have hge := grownCap_ge c.w ys.length 0 e
        obtain ⟨g', ev⟩ := g.fresh f1 f2 (Nat.lt_succ_self _) (Nat.le_succ _) hfy (cells := cells) (e := e) (by rw [hcs, Nat.mul_comm]; exact Nat.mul_le_mul_right _ hge) hrep (SameMem.drew c.w)
        refine ⟨_, _, _, hrun, g', ev, ?_⟩
        have := Rep.sl (c := ⟨⟨upd c.st.H c.st.nx (some ⟨ti.size, ys⟩), c.st.nx + 1, c.st.dead⟩, fun i => if i = c.st.nx then some c.w.heap.size else c.μ i, c.w.drew.alloc (.cells cells e), c.hid⟩)
          c.st.nx ys.length 0 ys.length ⟨ti.size, ys⟩ c.w.heap.size (grownCap c.w ys.length 0 e) cells.size e (Nat.lt_succ_self _) (upd_same _ _ _) rfl (by simp) (by
            have : (c.w.drew.alloc (.cells cells e)).heap[c.w.heap.size]? = some (.cells cells e (0, 0)) := heap_alloc_new c.w.drew _
            simp only [World.shape?, this]) (by simp [hcs]) (by omega) hge (by omega)
        simpa using this
      cases hs with
      | nilS => simp only [h0, if_false]; exact newb none rfl (fun _ _ => trivial)
      | z0 b => simp only [h0, if_false]; exact newb b rfl (fun _ _ => trivial)
      | sl id n off len bl b cap' m e' hi' hb hn hm hsh h1 h2 h3 h4 =>
        simp only [hb]
        split
        case isFalse => trivial
        rename_i hc
        obtain ⟨_, rfl, hln, hbsz, hlm⟩ := hc
        simp only [mostLen] at hlm
        have hfit := g.fits id bl hb
        obtain ⟨cs, e2, k1, k2, k3⟩ := (g.blk id bl b hb hm).seq
        have hshape : c.w.shape? b = some (e2, cs.size) := by simp only [World.shape?, k1]
        have hem : e' = e2 ∧ m = cs.size := by rw [hshape] at hsh; simpa using hsh.symm
        obtain ⟨rfl, rfl⟩ := hem
        simp only [Nat.zero_add] at h1 h2 h4
        have hflb := flat_length hfit
        have hlen_flat : (flat (bl.xs.take len)).length = len * bl.sz := by
          rw [flat_length (fun x hx => hfit x (List.mem_of_mem_take hx)), List.length_take, Nat.min_eq_left (by omega)]
        have hft : flat (bl.xs.take len) = (flat bl.xs).take (len * bl.sz) := by
          have : flat bl.xs = flat (bl.xs.take len) ++ flat (bl.xs.drop len) := by rw [← flat_append, List.take_append_drop]
          have h2 : (flat bl.xs).take (len * bl.sz) = flat (bl.xs.take len) := by
            rw [this, List.take_append, hlen_flat, Nat.sub_self, List.take_zero, List.append_nil]
            exact List.take_of_length_le (by omega)
          exact h2.symm
        have hcsz : len * bl.sz ≤ cs.size := by
          have : len * bl.sz ≤ bl.xs.length * bl.sz := Nat.mul_le_mul_right _ (by omega)
          rw [Nat.mul_comm bl.sz] at k2; omega
        have hul2 : us.length = ys.length * bl.sz := by rw [hul', hisz, hbsz]
        by_cases hroom : len + ys.length ≤ cap'
        · -- in place
          have hfits : len * bl.sz + us.length ≤ cs.size := by
            rw [hul2, ← Nat.add_mul]; exact Nat.le_trans (Nat.mul_le_mul_right _ hroom) h1
          have hee : e' = e' := rfl
          -- the row's own element type is not asked
          have hst := run_storeCells_at P b (len * i.size) e' us 0 cs c.w k1 (by rw [hisz, ← hbsz]; simpa using hfits) hone
          simp only [Nat.add_zero] at hst
          have hff := run_firstCells_some (P := P) c.w i.size ys.length a ys.length cap us hul' hcell
          have hrun : (Builtin.append_ #[t, t] ty #[.slice (some ⟨b, 0 * bl.sz, none⟩) len cap', .slice (some a) ys.length cap]).run P c.w =
              .ok (.slice (some ⟨b, 0, none⟩) (len + ys.length) cap') (c.w.setRow b (cs.toList.take (len * i.size) ++ us ++ cs.toList.drop (len * i.size + us.length)).toArray) := by
            simp [Builtin.append_, run_underlying hts, sizeOf, typeInfo, hi, Builtin.lenOf, hroom, hff, Addr.add_lit, hst]
          have hsz' : (cs.toList.take (len * i.size) ++ us ++ cs.toList.drop (len * i.size + us.length)).toArray.size = cs.size := by
            rw [hisz, ← hbsz]; simp; omega
          by_cases hin : len + ys.length ≤ n
          · rw [if_pos hin]
            have hflat : flat (bl.xs.take len ++ ys ++ bl.xs.drop (len + ys.length)) = splice (flat bl.xs) (len * bl.sz) (flat ys) := by
              have hd : flat (bl.xs.drop (len + ys.length)) = (flat bl.xs).drop (len * bl.sz + (flat ys).length) := by
                have e1 : flat bl.xs = flat (bl.xs.take (len + ys.length)) ++ flat (bl.xs.drop (len + ys.length)) := by rw [← flat_append, List.take_append_drop]
                have e2 : (flat (bl.xs.take (len + ys.length))).length = len * bl.sz + (flat ys).length := by
                  rw [flat_length (fun x hx => hfit x (List.mem_of_mem_take hx)), List.length_take, Nat.min_eq_left (by omega), hfl, hbsz, Nat.add_mul]
                have e3 : (flat bl.xs).drop (len * bl.sz + (flat ys).length) = flat (bl.xs.drop (len + ys.length)) := by
                  rw [e1, List.drop_append, e2, Nat.sub_self, List.drop_zero]
                  have e4 : List.drop (len * bl.sz + (flat ys).length) (flat (bl.xs.take (len + ys.length))) = [] := List.drop_eq_nil_iff.2 (by omega)
                  rw [e4, List.nil_append]
                exact e3.symm
              rw [flat_append, flat_append, hft, hd]; rfl
            obtain ⟨g', ev⟩ := g.write hb hm k1 hsz' (xs := bl.xs.take len ++ ys ++ bl.xs.drop (len + ys.length)) (by simp; omega) (fun q hq => by
              simp only [List.mem_append] at hq
              rcases hq with (hq | hq) | hq
              · exact hfit q (List.mem_of_mem_take hq)
              · rw [hbsz]; exact hfy q hq
              · exact hfit q (List.mem_of_mem_drop hq)) (by rw [hsz']; have : (bl.xs.take len ++ ys ++ bl.xs.drop (len + ys.length)).length = bl.xs.length := by simp; omega
                                                            rw [this]; exact k2) (by
              rw [hflat, hisz, ← hbsz]
              have := RepSeq.splice k3 hus hul.symm (o := len * bl.sz) (by rw [hfl, hflb, ← hbsz, ← Nat.add_mul]; exact Nat.mul_le_mul_right _ (by omega))
              simpa using this)
            refine ⟨_, _, _, hrun, g', ev, ?_⟩
            have := Rep.sl (c := ⟨{ c.st with H := upd c.st.H id (some ⟨bl.sz, bl.xs.take len ++ ys ++ bl.xs.drop (len + ys.length)⟩) }, c.μ, c.w.setRow b (cs.toList.take (len * i.size) ++ us ++ cs.toList.drop (len * i.size + us.length)).toArray, c.hid⟩)
              id n 0 (len + ys.length) ⟨bl.sz, bl.xs.take len ++ ys ++ bl.xs.drop (len + ys.length)⟩ b cap' cs.size e' hi' (upd_same _ _ _) (by simp; omega) hm (by
                simp only [shape_setRow k1 hsz']; exact hshape) (by simpa using h1) (by omega) hroom (by omega)
            simpa using this
          · rw [if_neg hin]
            have hflat : flat (bl.xs.take len ++ ys) = (flat bl.xs).take (len * bl.sz) ++ flat ys := by rw [flat_append, hft]
            obtain ⟨g', ev⟩ := g.write hb hm k1 hsz' (xs := bl.xs.take len ++ ys) (by simp; omega) (fun q hq => by
              simp only [List.mem_append] at hq
              rcases hq with hq | hq
              · exact hfit q (List.mem_of_mem_take hq)
              · rw [hbsz]; exact hfy q hq) (by
                have : (bl.xs.take len ++ ys).length = len + ys.length := by simp; omega
                rw [hsz', this, Nat.mul_comm]; exact Nat.le_trans (Nat.mul_le_mul_right _ hroom) h1) (by
              rw [hflat, hisz, ← hbsz]
              have h5 : RepSeq c ((flat bl.xs).take (len * bl.sz)) (cs.toList.take (len * bl.sz)) := k3.take _
              have h6 := (h5.append hus (by rw [List.length_take, List.length_take, Nat.min_eq_left (by rw [hflb]; exact Nat.mul_le_mul_right _ (by omega)), Nat.min_eq_left (by simpa using hcsz)])).more (vs := cs.toList.drop (len * bl.sz + us.length))
              simpa using h6)
            refine ⟨_, _, _, hrun, g', ev, ?_⟩
            have := Rep.sl (c := ⟨{ c.st with H := upd c.st.H id (some ⟨bl.sz, bl.xs.take len ++ ys⟩) }, c.μ, c.w.setRow b (cs.toList.take (len * i.size) ++ us ++ cs.toList.drop (len * i.size + us.length)).toArray, c.hid⟩)
              id (len + ys.length) 0 (len + ys.length) ⟨bl.sz, bl.xs.take len ++ ys⟩ b cap' cs.size e' hi' (upd_same _ _ _) (by simp; omega) hm (by
                simp only [shape_setRow k1 hsz']; exact hshape) (by simpa using h1) (by omega) hroom (by omega)
            simpa using this
        · -- a longer block
          rw [if_neg (by omega)]
          have hrun := run_append_grow (P := P) c.w t ty e i z hts hi hz ⟨b, 0, none⟩ len cap' (cs.toList.take (len * bl.sz)) (by rw [List.length_take, hisz, hbsz, Nat.min_eq_left (by rw [← hbsz]; simpa using hcsz)])
            (fun j q hq => by
              rw [List.getElem?_take] at hq
              split at hq
              · rw [add_addr, cell_block k1]; simpa using hq
              · cases hq) a ys.length cap us hul' hcell (by omega) (hsmall _ (by omega)) (growslice_fits (by omega) (hbytes _ (by omega)))
          have hsize := grown_size (w := c.w) (e := e) (i := i) (z := z) (olds := cs.toList.take (len * bl.sz)) (news := us) (sLen := len) (n := ys.length) (sCap := cap') hzs
            (by rw [List.length_take, hbsz, Nat.min_eq_left (by rw [← hbsz]; simpa using hcsz)]) (by rw [hul', hisz])
          have hge := grownCap_ge c.w (len + ys.length) cap' e
          have hxl : (bl.xs.take len ++ ys).length = len + ys.length := by simp; omega
          obtain ⟨g', ev⟩ := g.regrow hb (xs := bl.xs.take len ++ ys) (e := e) (by omega) (fun q hq => by
              simp only [List.mem_append] at hq
              rcases hq with hq | hq
              · exact hfit q (List.mem_of_mem_take hq)
              · rw [hbsz]; exact hfy q hq) (cells := (cs.toList.take (len * bl.sz)).toArray ++ us.toArray ++ Builtin.zeroCells z.cells (grownCap c.w (len + ys.length) cap' e - (len + ys.length)))
            (by rw [hsize, hxl, hbsz, Nat.mul_comm]; exact Nat.mul_le_mul_right _ hge) (by
              rw [flat_append, hft]
              have h5 : RepSeq c ((flat bl.xs).take (len * bl.sz)) (cs.toList.take (len * bl.sz)) := k3.take _
              have h6 := (h5.append hus (by rw [List.length_take, List.length_take, Nat.min_eq_left (by rw [hflb]; exact Nat.mul_le_mul_right _ (by omega)), Nat.min_eq_left (by simpa using hcsz)])).more (vs := (Builtin.zeroCells z.cells (grownCap c.w (len + ys.length) cap' e - (len + ys.length))).toList)
              simpa using h6) (SameMem.drew c.w)
          refine ⟨_, _, _, by rw [Nat.zero_mul]; exact hrun, g', ev, ?_⟩
          have := Rep.sl (c := ⟨{ c.st with H := upd c.st.H id (some ⟨bl.sz, bl.xs.take len ++ ys⟩) }, fun i => if i = id then some c.w.heap.size else c.μ i, c.w.drew.alloc (.cells ((cs.toList.take (len * bl.sz)).toArray ++ us.toArray ++ Builtin.zeroCells z.cells (grownCap c.w (len + ys.length) cap' e - (len + ys.length))) e), c.hid⟩)
            id (len + ys.length) 0 (len + ys.length) ⟨bl.sz, bl.xs.take len ++ ys⟩ c.w.heap.size (grownCap c.w (len + ys.length) cap' e) (grownCap c.w (len + ys.length) cap' e * ti.size) e hi' (upd_same _ _ _) hxl (by simp) (by
              have h7 : (c.w.drew.alloc (.cells ((cs.toList.take (len * bl.sz)).toArray ++ us.toArray ++ Builtin.zeroCells z.cells (grownCap c.w (len + ys.length) cap' e - (len + ys.length))) e)).heap[c.w.heap.size]? = some (.cells _ e (0, 0)) := heap_alloc_new c.w.drew _
              simp only [World.shape?, h7, hsize]) (by simp [hbsz]) (by omega) hge (by omega)
          simpa using this
      | sl0 id bl hi' hb hn hm =>
        simp only [hb]
        split
        case isFalse => trivial
        rename_i hc
        obtain ⟨_, _, _, hbsz, _⟩ := hc
        rw [if_neg (by omega)]
        have hrun := run_append_nil (P := P) c.w t ty e i z hts hi hz a ys.length cap us hul' hcell (by omega) (hsmall _ (by omega)) (by have := hbytes ys.length (by omega); omega)
        have hsize := grown_size (w := c.w) (e := e) (i := i) (z := z) (olds := []) (news := us) (sLen := 0) (n := ys.length) (sCap := 0) hzs (by simp) (by rw [hul', hisz])
        replace hsize : (us.toArray ++ Builtin.zeroCells z.cells (grownCap c.w ys.length 0 e - ys.length)).size = grownCap c.w ys.length 0 e * ti.size := by simpa using hsize
        have hge := grownCap_ge c.w ys.length 0 e
        have hxs : bl.xs.take 0 ++ ys = ys := by simp
        rw [hxs, Nat.zero_add]
        obtain ⟨g', ev⟩ := g.regrow hb (xs := ys) (e := e) (by rw [hn]; simp; omega) (fun q hq => by rw [hbsz]; exact hfy q hq) (cells := us.toArray ++ Builtin.zeroCells z.cells (grownCap c.w ys.length 0 e - ys.length))
          (by rw [hsize, hbsz, Nat.mul_comm]; exact Nat.mul_le_mul_right _ hge) (by
            have := hus.more (vs := (Builtin.zeroCells z.cells (grownCap c.w ys.length 0 e - ys.length)).toList)
            simpa using this) (SameMem.drew c.w)
        refine ⟨_, _, _, hrun, g', ev, ?_⟩
        have := Rep.sl (c := ⟨{ c.st with H := upd c.st.H id (some ⟨bl.sz, ys⟩) }, fun i => if i = id then some c.w.heap.size else c.μ i, c.w.drew.alloc (.cells (us.toArray ++ Builtin.zeroCells z.cells (grownCap c.w ys.length 0 e - ys.length)) e), c.hid⟩)
          id ys.length 0 ys.length ⟨bl.sz, ys⟩ c.w.heap.size (grownCap c.w ys.length 0 e) (grownCap c.w ys.length 0 e * ti.size) e hi' (upd_same _ _ _) rfl (by simp) (by
            have h7 : (c.w.drew.alloc (.cells (us.toArray ++ Builtin.zeroCells z.cells (grownCap c.w ys.length 0 e - ys.length)) e)).heap[c.w.heap.size]? = some (.cells _ e (0, 0)) := heap_alloc_new c.w.drew _
            simp only [World.shape?, h7, hsize]) (by simp [hbsz]) (by omega) hge (by omega)
        simpa using this
      | slx id n off len a' k' hst =>
        rcases hst with hd | ⟨bl, hb, hlt⟩
        · simp only [g.dead id hd]; trivial
        · simp only [hb]
          rw [if_neg (by omega)]; trivial
      | _ => trivial

end Go.Abs
end
/-
  THE ABSTRACT OPERATIONS ARE THE MODEL's: what leaves memory alone; make; buffers.
-/
section
set_option linter.unusedSimpArgs false
set_option linter.unusedVariables false
namespace Go.Abs
open Go

/-- The same of an operation as a whole. -/
def NOk (P : Program) (c : Cfg) (res : Res) (r : Result Next) : Prop :=
  match res with
  | .ok p st' => ∃ μ' w' v, (r = .ok (.value v) w' ∨ (r = .ok .skip w' ∧ v = undef)) ∧ Good ⟨st', μ', w', c.hid⟩ ∧ Evo c ⟨st', μ', w', c.hid⟩ ∧ Rep ⟨st', μ', w', c.hid⟩ p v
  | .panic _ _ => False
  | .fail => True

theorem VOk.next {P : Program} {c : Cfg} {res : Res} {s : Sem Value} (h : VOk P c res s) : NOk P c res ((do pure (Next.value (← s)) : Sem Next).run P c.w) := by
  unfold VOk at h
  unfold NOk
  split
  · rename_i p st'
    obtain ⟨μ', w', v, hs, rest⟩ := h
    exact ⟨μ', w', v, .inl (by simp [hs]), rest⟩
  · exact h
  · trivial

theorem noreL_mem {xs : List PV} (h : noreL xs = true) : ∀ x ∈ xs, x.noref = true := by
  intro x hx
  induction xs with
  | nil => cases hx
  | cons y ys ih =>
    simp only [noreL, Bool.and_eq_true] at h
    rcases List.mem_cons.1 hx with rfl | hx
    · exact h.1
    · exact ih h.2 hx

section
variable {P : Program} {c : Cfg} (g : Good c)
include g

theorem NOk.same {p : PV} {v : Value} {r : Result Next} (h : r = .ok (.value v) c.w) (hr : Rep c p v) : NOk P c (.ok p c.st) r :=
  ⟨c.μ, c.w, v, .inl h, g, .refl c, hr⟩

theorem VOk.opt {o : Option PV} {s : Sem Value} (h : ∀ p, o = some p → ∃ v, s.run P c.w = .ok v c.w ∧ Rep c p v) : VOk P c (opt o c.st) s := by
  unfold Abs.opt
  cases o with
  | none => trivial
  | some p => obtain ⟨v, h1, h2⟩ := h p rfl; exact VOk.ret g h1 h2

theorem nilCheck_ok {x : PV} {v : Value} (hr : Rep c x v) (ρ : Operand → Value) (o : Oper) (y : Operand) (hy : ρ y = v) (ho : o.op = .nilCheck y) : NOk P c (nilCheckM x c.st) ((execOp ρ o).run P c.w) := by
  have hrun : (∀ u, v = u → (match u with | .pointer none | .nilIface | .nilFunc => False | .func (.method _) _ _ => False | _ => True)) → (execOp ρ o).run P c.w = .ok (.value v) c.w := by
    intro h
    have := h v rfl
    simp only [execOp, ho, hy]
    split at this <;> simp_all
  cases hr <;> first
    | trivial
    | (refine NOk.same g (hrun ?_) (by first | assumption | (constructor <;> assumption)); intro u hu; subst hu; trivial)

theorem idx_ok {x i : PV} {u v : Value} (hx : Rep c x u) (hi : Rep c i v) {t e : TypeId} {ti : TI} (hts : P.underlying t = some (.slice e)) (ht : TypeOk P e ti) :
    VOk P c (idxM ti.size x i c.st) (Instr.indexAt t u v) := by
  have hsz := run_sizeOf_of ht c.w
  have hrun : ∀ (a : Addr) (len cap : Nat) (k : IntKind) (n : Int), 0 ≤ n ∧ n < len → (Instr.indexAt t (.slice (some a) len cap) (.int k n)).run P c.w = .ok (.pointer (some (a.add (n.toNat * ti.size)))) c.w := by
    intro a len cap k n hn
    simp only [Instr.indexAt, asIntOf, Sem.run_bind, Sem.run_pure, Result.andThen, run_underlying hts]
    simp [hn, hsz]
  unfold idxM
  cases hi with
  | int k n =>
    cases hx with
    | lst0 a cap => simp only [List.getElem?_nil]; split <;> trivial
    | lst xs sz b o cap us hs hn hc hr ho hcap =>
      simp only []
      split
      case isFalse => trivial
      rename_i h0
      cases hy : xs[n.toNat]? with
      | none => trivial
      | some y =>
        simp only []
        split
        case isFalse => trivial
        rename_i hfit
        have hlt : n.toNat < xs.length := (List.getElem?_eq_some_iff.1 hy).1
        have hmem : y ∈ xs := List.mem_of_getElem? hy
        have hsz' : sz = ti.size := by rw [← fitsE_len (hs y hmem), fitsE_len hfit]
        subst hsz'
        have hin : n.toNat * ti.size + ti.size ≤ (flat xs).length := by
          rw [flat_length hs]
          have : (n.toNat + 1) * ti.size ≤ xs.length * ti.size := Nat.mul_le_mul_right _ hlt
          rw [Nat.add_mul] at this; omega
        have hyl := fitsE_len hfit
        have hcell : ∀ j (hj : j < y.cells.length), n.toNat * ti.size + j < (flat xs).length ∧ (flat xs)[n.toNat * ti.size + j]? = some y.cells[j] := fun j hj => by
          refine ⟨by omega, ?_⟩
          rw [flat_get hs hy (by omega)]; exact List.getElem?_eq_getElem hj
        refine VOk.same g (hrun _ _ _ _ _ ⟨h0, by omega⟩) ?_
        rw [add_addr]
        have := Rep.cref (c := c) y 0 b (o + n.toNat * ti.size) (fun j => us (n.toNat * ti.size + j)) (fitsE_known hfit) (noreL_mem hn y hmem) (fun j hj => by
          have := hc _ (hcell j hj).1
          rw [Nat.add_assoc]; exact this) (fun j hj => by
          have h1 := hr _ (hcell j hj).1
          have h2 := (hcell j hj).2
          rw [List.getElem?_eq_getElem (hcell j hj).1] at h2
          have h3 := Option.some.inj h2
          rw [h3] at h1
          exact h1) (fun hne => ho (fun e => by rw [e] at hin; have := List.length_pos_iff.2 hne; simp at hin; omega))
        simpa using this
    | sl id m off len bl b cap m' e' hi' hb hn' hm hsh h1 h2 h3 h4 =>
      simp only [hb]
      split
      case isFalse => trivial
      rename_i hc
      obtain ⟨hbs, _, h0, hlt⟩ := hc
      refine VOk.same g (hrun _ _ _ _ _ ⟨h0, hlt⟩) ?_
      rw [add_addr, ← hbs, ← Nat.add_mul]
      have := Rep.ptr (c := c) id m (off + n.toNat) 0 bl b hi' hb hn' hm
      simpa using this
    | sl0 id bl hi' hb hn' hm =>
      simp only [hb]
      split
      · rename_i hc; have := hc.2.2; omega
      · trivial
    | slx id m off len a k hst =>
      rcases hst with hd | ⟨bl, hb, hlt⟩
      · simp only [g.dead id hd]; trivial
      · simp only [hb]; rw [if_neg (by omega)]; trivial
    | _ => trivial
  | _ => cases hx <;> trivial

theorem idxA_ok {x i : PV} {u v : Value} (hx : Rep c x u) (hi : Rep c i v) {t e : TypeId} {n : Nat} {ti : TI} (hts : P.underlying t = some (.array n e)) (ht : TypeOk P e ti) :
    VOk P c (idxA n ti.size x i c.st) (Instr.indexAt t u v) := by
  have hsz := run_sizeOf_of ht c.w
  have hrun : ∀ (a : Addr) (k : IntKind) (j : Int), 0 ≤ j ∧ j < n → (Instr.indexAt t (.pointer (some a)) (.int k j)).run P c.w = .ok (.pointer (some (a.add (j.toNat * ti.size)))) c.w := by
    intro a k j hj
    simp only [Instr.indexAt, asIntOf, Sem.run_bind, Sem.run_pure, Result.andThen, run_underlying hts, Instr.sureAddr]
    simp [hj, hsz]
  unfold idxA
  cases hi with
  | int k j =>
    cases hx with
    | ptr id m idx off bl b hi' hb hn' hm =>
      simp only []
      split
      case isFalse => trivial
      rename_i hj
      refine VOk.ret g (hrun _ _ _ hj) ?_
      rw [add_addr, Nat.add_assoc]
      exact Rep.ptr (c := c) id m idx (off + j.toNat * ti.size) bl b hi' hb hn' hm
    | ptrx id m idx off a hst =>
      simp only []
      split
      case isFalse => trivial
      rename_i hj
      exact VOk.ret g (hrun _ _ _ hj) (.ptrx _ _ _ _ _ hst)
    | cref y off b o us hk hn hc hr ho =>
      simp only []
      split
      case isFalse => trivial
      rename_i hj
      refine VOk.ret g (hrun _ _ _ hj) ?_
      rw [add_addr, Nat.add_assoc]
      exact Rep.cref (c := c) y (off + j.toNat * ti.size) b o us hk hn hc hr ho
    | _ => trivial
  | _ => cases hx <;> trivial

theorem fieldAt_ok {x : PV} {u : Value} (hx : Rep c x u) {t ft : TypeId} {o f : Nat} {l : Array Field} {fi : Field} {ti : TI} (hts : P.underlying t = some (.struct l)) (hf : l[f]? = some fi) (hfi : fi.type = ft) (hfo : fi.offset = o) (ht : TypeOk P ft ti)
    (h0 : ti.size ≠ 0) : VOk P c (addM o x c.st) (Instr.fieldAt t u f) := by
  subst hfi; subst hfo
  have hsz := run_sizeOf_of ht c.w
  have hrun : ∀ (a : Addr), (Instr.fieldAt t (.pointer (some a)) f).run P c.w = .ok (.pointer (some (a.add fi.offset))) c.w := by
    intro a
    simp only [Instr.fieldAt, Sem.run_bind, run_underlying hts, Result.andThen, hf, Instr.sureAddr, Sem.run_pure]
    simp [fieldPlace, hsz, h0]
  unfold addM
  cases hx with
  | ptr id m idx off bl b hi' hb hn' hm =>
    refine VOk.ret g (hrun _) ?_
    rw [add_addr, Nat.add_assoc]
    exact Rep.ptr (c := c) id m idx (off + fi.offset) bl b hi' hb hn' hm
  | ptrx id m idx off a hst => exact VOk.ret g (hrun _) (.ptrx _ _ _ _ _ hst)
  | cref y off b o us hk hn hc hr ho =>
    refine VOk.ret g (hrun _) ?_
    rw [add_addr, Nat.add_assoc]
    exact Rep.cref (c := c) y (off + fi.offset) b o us hk hn hc hr ho
  | _ => trivial

theorem part_ok {t : TypeId} {ti : TI} (ht : TypeOk P t ti) {q : Option Nat} (hq : ti.pt = some q) {cs : List PV} {vs : List Value} (hr : RepL c cs vs) (off : Nat) : VOk P c (opt (part q (.agg cs) off) c.st) (Go.part t vs.toArray off) := by
  have hu : ti.usable = true := by
    unfold TI.pt at hq; unfold TI.usable; split at hq
    · rename_i h; unfold TI.isAgg at h; revert h; cases ti.d <;> simp
    · split at hq
      · rename_i h; unfold TI.usable at h; exact h
      · cases hq
  have ha := run_isAgg_of ht hu c.w
  have hs := run_sizeOf_of ht c.w
  unfold Go.part
  refine VOk.opt g fun p hp => ?_
  cases hagg : ti.isAgg with
  | false =>
    rw [hagg] at ha
    have hq' : q = none := by simp [TI.pt, hagg, hu] at hq; exact hq.symm
    subst hq'
    simp only [part, PV.cells] at hp
    obtain ⟨hj, rfl⟩ := List.getElem?_eq_some_iff.1 hp
    have hj' : off < vs.length := hr.1 ▸ hj
    exact ⟨vs[off], by simp [ha, hj'], hr.2 off hj hj'⟩
  | true =>
    rw [hagg] at ha
    have hq' : q = some ti.size := by simp [TI.pt, hagg] at hq; exact hq.symm
    subst hq'
    have hp' : (if off + ti.size ≤ cs.length then some (PV.agg ((cs.drop off).take ti.size)) else none) = some p := hp
    by_cases hle : off + ti.size ≤ cs.length
    · rw [if_pos hle] at hp'
      cases hp'
      refine ⟨.agg (vs.toArray.extract off (off + ti.size)), by simp [ha, hs], ?_⟩
      have e : (vs.toArray.extract off (off + ti.size)) = ((vs.drop off).take ti.size).toArray := by
        apply Array.ext'
        simp [List.extract_eq_take_drop]
      rw [e]
      refine .agg _ _ (by simp [hr.1]) (fun j h1 h2 => ?_)
      simp only [List.getElem_take, List.getElem_drop]
      exact hr.2 _ _ _
    · rw [if_neg hle] at hp'; cases hp'

theorem field_ok {x : PV} {u : Value} (hx : Rep c x u) {t ft : TypeId} {o f : Nat} {l : Array Field} {fi : Field} {ti : TI} {q : Option Nat} (hts : P.underlying t = some (.struct l)) (hf : l[f]? = some fi) (hfi : fi.type = ft) (hfo : fi.offset = o) (ht : TypeOk P ft ti)
    (hq : ti.pt = some q) : VOk P c (fieldM q o x c.st) (Instr.field t u f) := by
  subst hfi; subst hfo
  unfold fieldM
  cases hx with
  | agg cs vs hl h =>
    have := part_ok g ht hq (cs := cs) (vs := vs) ⟨hl, h⟩ fi.offset
    unfold VOk at this ⊢
    have hrun : (Instr.field t (.agg vs.toArray) f).run P c.w = (Go.part fi.type vs.toArray fi.offset).run P c.w := by
      simp only [Instr.field, Sem.run_bind, run_underlying hts, Result.andThen, hf, asAgg, Sem.run_pure]
    rw [hrun]; exact this
  | _ => trivial

end
end Go.Abs
end
/-
  THE ABSTRACT OPERATIONS ARE THE MODEL's: numbers, truth values, texts, comparisons, slices of slices, lengths.
-/
section
set_option linter.unusedSimpArgs false
set_option linter.unusedVariables false
namespace Go.Abs
open Go

theorem binI_run {P : Program} (op : BinOp) (k : IntKind) (a b : Int) (w : World) (t : TypeId) {p : PV} (h : binI op k a b = some p) :
    ∃ v, (binOp op t (.int k a) (.int k b)).run P w = .ok v w ∧ ∀ c, Rep c p v := by
  unfold binI at h
  split at h
  · cases h; exact ⟨.int k (k.wrap (a + b)), by simp [binOp, Op.intArith], fun c => .int _ _⟩
  · cases h; exact ⟨.int k (k.wrap (a - b)), by simp [binOp, Op.intArith], fun c => .int _ _⟩
  · cases h; exact ⟨.int k (k.wrap (a * b)), by simp [binOp, Op.intArith], fun c => .int _ _⟩
  · split at h
    · cases h
    · rename_i hb; cases h; exact ⟨.int k (k.wrap (a.tdiv b)), by simp [binOp]; unfold Op.intDiv; simp [hb], fun c => .int _ _⟩
  · split at h
    · cases h
    · rename_i hb; cases h; exact ⟨.int k (a.tmod b), by simp [binOp]; unfold Op.intDiv; simp [hb], fun c => .int _ _⟩
  · cases h; exact ⟨.int k (k.wrap (BitVec.ofInt k.bits a &&& BitVec.ofInt k.bits b).toNat), by simp only [binOp]; rw [if_neg (by simp)]; rfl, fun c => .int _ _⟩
  · cases h; exact ⟨.int k (k.wrap (BitVec.ofInt k.bits a ||| BitVec.ofInt k.bits b).toNat), by simp only [binOp]; rw [if_neg (by simp)]; rfl, fun c => .int _ _⟩
  · cases h; exact ⟨.int k (k.wrap (BitVec.ofInt k.bits a ^^^ BitVec.ofInt k.bits b).toNat), by simp only [binOp]; rw [if_neg (by simp)]; rfl, fun c => .int _ _⟩
  · cases h; exact ⟨.int k (k.wrap (BitVec.ofInt k.bits a &&& ~~~ BitVec.ofInt k.bits b).toNat), by simp only [binOp]; rw [if_neg (by simp)]; rfl, fun c => .int _ _⟩
  · cases h; exact ⟨.bool (a == b), by simp [binOp, Op.intCmp], fun c => .bool _⟩
  · cases h; exact ⟨.bool (a != b), by simp [binOp, Op.intCmp], fun c => .bool _⟩
  · cases h; exact ⟨.bool (a < b), by simp [binOp, Op.intCmp], fun c => .bool _⟩
  · cases h; exact ⟨.bool (a ≤ b), by simp [binOp, Op.intCmp], fun c => .bool _⟩
  · cases h; exact ⟨.bool (a > b), by simp [binOp, Op.intCmp], fun c => .bool _⟩
  · cases h; exact ⟨.bool (a ≥ b), by simp [binOp, Op.intCmp], fun c => .bool _⟩
  · cases h

theorem run_eqGuard_of {P : Program} (op : BinOp) (t : TypeId) (x y : Operand) (a b : Value) (w : World) (h : ¬ (a = .nilIface ∧ b = .nilIface)) (h' : ∀ xs ys, ¬ (a = .agg xs ∧ b = .agg ys)) : (eqGuard op t x y a b).run P w = .ok () w := by
  cases op <;> simp [eqGuard]
  all_goals
    split
    · exact (h ⟨rfl, rfl⟩).elim
    · exact (h' _ _ ⟨rfl, rfl⟩).elim
    · rfl

theorem nilOf_rep {c : Cfg} {d : TD} {p : PV} {v : Value} (h : d.nilOf p = true) (hr : Rep c p v) :
    (∃ e, d = .slice e ∧ p = .nilS ∧ v = .slice none 0 0) ∨ (∃ e, d = .ptr e ∧ p = .nilP ∧ v = .pointer none) ∨ (d = .func ∧ p = .nilF ∧ v = .nilFunc) := by
  unfold TD.nilOf at h
  split at h
  · cases hr; exact .inl ⟨_, rfl, rfl, rfl⟩
  · cases hr; exact .inr (.inl ⟨_, rfl, rfl, rfl⟩)
  · cases hr; exact .inr (.inr ⟨rfl, rfl, rfl⟩)
  · cases h

theorem holds_rep {c : Cfg} {d : TD} {p : PV} {v : Value} {b : Bool} (h : d.holds p = true) (hn : p.isNil? = some b) (hr : Rep c p v) :
    (∃ e a l k, d = .slice e ∧ v = .slice a l k ∧ a.isNone = b) ∨ (∃ e a, d = .ptr e ∧ v = .pointer a ∧ a.isNone = b) ∨ (d = .func ∧ ((v = .nilFunc ∧ b = true) ∨ (∃ f x y, v = .func f x y ∧ b = false))) := by
  unfold TD.holds at h
  split at h <;> (try cases h)
  · simp [PV.isNil?] at hn; subst hn; cases hr; exact .inl ⟨_, none, 0, 0, rfl, rfl, rfl⟩
  · simp [PV.isNil?] at hn; subst hn; cases hr with
    | lst xs sz b o cap us hs hn hc hr ho hcap => exact .inl ⟨_, _, _, _, rfl, rfl, rfl⟩
  · simp [PV.isNil?] at hn; subst hn; cases hr; exact .inr (.inl ⟨_, none, rfl, rfl, rfl⟩)
  · simp [PV.isNil?] at hn; subst hn; cases hr
    · exact .inr (.inl ⟨_, _, rfl, rfl, rfl⟩)
    · exact .inr (.inl ⟨_, _, rfl, rfl, rfl⟩)
  · simp [PV.isNil?] at hn; subst hn; cases hr; exact .inr (.inl ⟨_, _, rfl, rfl, rfl⟩)
  · simp [PV.isNil?] at hn; subst hn; cases hr; exact .inr (.inr ⟨rfl, .inl ⟨rfl, rfl⟩⟩)
  · simp [PV.isNil?] at hn; subst hn; cases hr; exact .inr (.inr ⟨rfl, .inr ⟨_, _, _, rfl, rfl⟩⟩)

theorem run_equal_of {P : Program} {t : TypeId} {d : TypeDesc} (hd : P.underlying t = some d) (w : World) (a b : Value) (r : Bool)
    (h : match d, a, b with
      | .bool, .bool x, .bool y => r = (x == y)
      | .slice _, .slice x _ _, .slice y _ _ => (x = none ∧ r = y.isNone) ∨ (y = none ∧ r = x.isNone)
      | .pointer _, .pointer x, .pointer y => (x = none ∧ r = y.isNone) ∨ (y = none ∧ r = x.isNone)
      | .func _ _ _, .nilFunc, .nilFunc => r = true
      | .func _ _ _, .nilFunc, .func _ _ _ => r = false
      | .func _ _ _, .func _ _ _, .nilFunc => r = false
      | .interface _, .nilIface, .iface _ _ => r = false
      | .interface _, .iface _ _, .nilIface => r = false
      | _, _, _ => False) : (Op.equal t a b).run P w = .ok r w := by
  have e : Op.maxDepth = 9999 + 1 := rfl
  unfold Op.equal
  rw [e, Op.equalIn]
  simp only [Sem.run_bind, run_underlying hd, Result.andThen]
  split at h
  · subst h; simp
  · rename_i x _ _ y _ _ _; rcases h with ⟨rfl, rfl⟩ | ⟨rfl, rfl⟩
    · simp
    · cases x <;> simp
  · rename_i x y _; rcases h with ⟨rfl, rfl⟩ | ⟨rfl, rfl⟩
    · simp
    · cases x <;> simp
  · subst h; simp
  · subst h; simp
  · subst h; simp
  · subst h; simp
  · subst h; simp
  · exact h.elim

def eqShape : Value → Bool
  | .bool _ | .nilIface | .iface _ _ | .slice _ _ _ | .pointer _ | .func _ _ _ | .nilFunc => true
  | _ => false

theorem binOp_eql {t : TypeId} {u v : Value} (h : eqShape u = true) : binOp .eql t u v = (do pure (.bool (← Op.equal t u v))) := by
  cases u <;> first | (simp [eqShape] at h; done) | (cases v <;> rfl)
theorem binOp_neq {t : TypeId} {u v : Value} (h : eqShape u = true) : binOp .neq t u v = (do pure (.bool (!(← Op.equal t u v)))) := by
  cases u <;> first | (simp [eqShape] at h; done) | (cases v <;> rfl)

theorem eqV_run {P : Program} {c : Cfg} {t : TypeId} {ti : TI} (ht : TypeOk P t ti) {x y : PV} {u v : Value} (hx : Rep c x u) (hy : Rep c y v) {r : Bool} (h : eqV ti x y = some r) :
    (Op.equal t u v).run P c.w = .ok r c.w ∧ ¬ (u = .nilIface ∧ v = .nilIface) ∧ (∀ xs ys, ¬ (u = .agg xs ∧ v = .agg ys)) ∧ eqShape u = true := by
  obtain ⟨d, hd, hf⟩ := ht.desc
  unfold eqV at h
  split at h
  · rename_i hti
    cases h; cases hx; cases hy
    simp only [hti, TD.fits] at hf; subst hf
    exact ⟨run_equal_of hd _ _ _ _ (by simp), by simp, by simp, rfl⟩
  · cases h
  · rename_i hti
    cases h; cases hx; cases hy
    simp only [hti, TD.fits] at hf; obtain ⟨ms, rfl⟩ := hf
    exact ⟨run_equal_of hd _ _ _ _ (by simp), by simp, by simp, rfl⟩
  · rename_i hti
    cases h; cases hx; cases hy
    simp only [hti, TD.fits] at hf; obtain ⟨ms, rfl⟩ := hf
    exact ⟨run_equal_of hd _ _ _ _ (by simp), by simp, by simp, rfl⟩
  · split at h
    · rename_i hc
      simp only [Bool.and_eq_true] at hc
      have h1 := nilOf_rep hc.1 hy
      have h2 := holds_rep hc.2 h hx
      rcases h1 with ⟨e, he, rfl, rfl⟩ | ⟨e, he, rfl, rfl⟩ | ⟨he, rfl, rfl⟩ <;> rcases h2 with ⟨e', a, l, k, he', rfl, hb⟩ | ⟨e', a, he', rfl, hb⟩ | ⟨he', hb⟩ <;> rw [he] at he' <;> cases he' <;> simp only [he, TD.fits] at hf
      · subst hf; exact ⟨run_equal_of hd _ _ _ _ (by cases a <;> simp_all), by simp, by simp, rfl⟩
      · subst hf; exact ⟨run_equal_of hd _ _ _ _ (by cases a <;> simp_all), by simp, by simp, rfl⟩
      · obtain ⟨p, q, b, rfl⟩ := hf
        rcases hb with ⟨rfl, rfl⟩ | ⟨f, p, q, rfl, rfl⟩
        · exact ⟨run_equal_of hd _ _ _ _ (by simp), by simp, by simp, rfl⟩
        · exact ⟨run_equal_of hd _ _ _ _ (by simp), by simp, by simp, rfl⟩
    · split at h
      · rename_i hc
        simp only [Bool.and_eq_true] at hc
        have h1 := nilOf_rep hc.1 hx
        have h2 := holds_rep hc.2 h hy
        rcases h1 with ⟨e, he, rfl, rfl⟩ | ⟨e, he, rfl, rfl⟩ | ⟨he, rfl, rfl⟩ <;> rcases h2 with ⟨e', a, l, k, he', rfl, hb⟩ | ⟨e', a, he', rfl, hb⟩ | ⟨he', hb⟩ <;> rw [he] at he' <;> cases he' <;> simp only [he, TD.fits] at hf
        · subst hf; exact ⟨run_equal_of hd _ _ _ _ (by cases a <;> simp_all), by simp, by simp, rfl⟩
        · subst hf; exact ⟨run_equal_of hd _ _ _ _ (by cases a <;> simp_all), by simp, by simp, rfl⟩
        · obtain ⟨p, q, b, rfl⟩ := hf
          rcases hb with ⟨rfl, rfl⟩ | ⟨f, p, q, rfl, rfl⟩
          · exact ⟨run_equal_of hd _ _ _ _ (by simp), by simp, by simp, rfl⟩
          · exact ⟨run_equal_of hd _ _ _ _ (by simp), by simp, by simp, rfl⟩
      · cases h

theorem eqV_usable {ti : TI} {x y : PV} {r : Bool} (h : eqV ti x y = some r) : ti.usable = true := by
  unfold TI.usable
  cases hd : ti.d with
  | other =>
    unfold eqV at h
    rw [hd] at h
    simp [TD.nilOf] at h
  | _ => rfl

theorem bin_ok {P : Program} {c : Cfg} (g : Good c) {op : BinOp} {t : TypeId} {ti : TI} (ht : ti.usable = true → TypeOk P t ti) {x y : PV} {u v : Value} (hx : Rep c x u) (hy : Rep c y v) (xo yo : Operand) :
    VOk P c (binM op ti x y c.st) (do eqGuard op t xo yo u v; binOp op t u v) := by
  refine VOk.opt g fun p hp => ?_
  have plain : ∀ (hu : ¬ (u = .nilIface ∧ v = .nilIface)) (hv : ∀ xs ys, ¬ (u = .agg xs ∧ v = .agg ys)) {r : Value}, (binOp op t u v).run P c.w = .ok r c.w → ((do eqGuard op t xo yo u v; binOp op t u v) : Sem Value).run P c.w = .ok r c.w := by
    intro hu hv r hr
    simp only [Sem.run_bind, run_eqGuard_of op t xo yo u v c.w hu hv, Result.andThen, hr]
  unfold binV at hp
  split at hp
  · -- shl
    cases hx; cases hy
    split at hp
    · cases hp
    · rename_i hb; cases hp
      refine ⟨_, plain (by simp) (by simp) (r := .int _ _) ?_, .int _ _⟩
      simp only [binOp]; unfold Op.shift; simp [hb]
  · -- shr
    cases hx; cases hy
    split at hp
    · cases hp
    · rename_i hb; cases hp
      refine ⟨_, plain (by simp) (by simp) (r := .int _ _) ?_, .int _ _⟩
      simp only [binOp]; unfold Op.shift; simp [hb]
  · cases hx; cases hy
    split at hp
    · rename_i hk; subst hk
      obtain ⟨r, hr, hrep⟩ := binI_run (P := P) _ _ _ _ c.w t hp
      exact ⟨r, plain (by simp) (by simp) hr, hrep c⟩
    · cases hp
  · cases hx; cases hy
    split at hp
    · rename_i hle; cases hp
      refine ⟨_, plain (by simp) (by simp) (r := .string _) ?_, .str _⟩
      simp only [binOp]; unfold Op.stringOp
      rename_i a b
      have hn : ¬ (((a.size + b.size : Nat) : Int) > IntKind.i64.max) := by
        show ¬ (IntKind.i64.max < _)
        simp [IntKind.max, IntKind.signed, IntKind.bits]; omega
      simp only [hn, if_false]; rfl
    · cases hp
  · cases hx; cases hy; cases hp
    refine ⟨_, plain (by simp) (by simp) (r := .bool _) ?_, .bool _⟩
    simp only [binOp]; unfold Op.stringOp; simp
  · cases hx; cases hy; cases hp
    refine ⟨_, plain (by simp) (by simp) (r := .bool _) ?_, .bool _⟩
    simp only [binOp]; unfold Op.stringOp; simp
  · simp only [Option.map_eq_some_iff] at hp
    obtain ⟨r, hr, rfl⟩ := hp
    obtain ⟨h1, h2, h3, h4⟩ := eqV_run (ht (eqV_usable hr)) hx hy hr
    refine ⟨.bool r, plain h2 h3 ?_, .bool r⟩
    rw [binOp_eql h4]; simp [h1]
  · simp only [Option.map_eq_some_iff] at hp
    obtain ⟨r, hr, rfl⟩ := hp
    obtain ⟨h1, h2, h3, h4⟩ := eqV_run (ht (eqV_usable hr)) hx hy hr
    refine ⟨.bool !r, plain h2 h3 ?_, .bool _⟩
    rw [binOp_neq h4]; simp [h1]
  · cases hp

end Go.Abs
end
/-
  THE ABSTRACT OPERATIONS ARE THE MODEL's: the rest of the single operations.
-/
section
set_option linter.unusedSimpArgs false
set_option linter.unusedVariables false
namespace Go.Abs
open Go

section
variable {P : Program} {c : Cfg} (g : Good c)
include g

theorem un_ok {op : UnOp} {x : PV} {u : Value} (hx : Rep c x u) : VOk P c (unM op x c.st) (Op.unary op u) := by
  unfold unM
  split
  · cases hx; exact VOk.ret g (by simp [Op.unary, Op.intArith]) (.int _ _)
  · cases hx
    rename_i k n
    refine VOk.opt g fun p hp => ?_
    simp only [binI] at hp; cases hp
    exact ⟨_, by simp only [Op.unary]; rfl, .int _ _⟩
  · cases hx; exact VOk.ret g (by simp [Op.unary]) (.bool _)
  · trivial

theorem conv_ok {k : IntKind} {s d : TypeId} {x : PV} {u : Value} (hx : Rep c x u) {ds : TypeDesc} (hs : P.underlying s = some ds) (hd : P.underlying d = some (.int k)) : VOk P c (convM k x c.st) (convert s d u) := by
  unfold convM
  cases hx with
  | int k' n => exact VOk.ret g (by simp only [convert, Sem.run_bind, run_underlying hs, run_underlying hd, Result.andThen]; simp [Conv.intToInt]) (.int _ _)
  | _ => trivial

theorem extract_ok {x : PV} {u : Value} (hx : Rep c x u) (i : Nat) : VOk P c (extractM x i c.st) (Instr.extract u i) := by
  unfold extractM
  cases hx with
  | tup cs vs hl h =>
    refine VOk.opt g fun p hp => ?_
    obtain ⟨hi, rfl⟩ := List.getElem?_eq_some_iff.1 hp
    have hi' : i < vs.length := hl ▸ hi
    exact ⟨vs[i], by simp [Instr.extract, hi'], h i hi hi'⟩
  | _ => trivial

theorem byte_ok {t : TypeId} {x i : PV} {u v : Value} (hx : Rep c x u) (hi : Rep c i v) (hts : P.underlying t = some .string) : VOk P c (byteM x i c.st) (Instr.index t u v) := by
  unfold byteM
  cases hx with
  | str s =>
    cases hi with
    | int k n =>
      simp only []
      by_cases h0 : 0 ≤ n
      · rw [if_pos h0]
        cases hb : s[n.toNat]? with
        | none => trivial
        | some b => exact VOk.ret g (by simp only [Instr.index, asIntOf, Sem.run_bind, Sem.run_pure, Result.andThen, run_underlying hts]; simp [h0, hb]) (.int _ _)
      · rw [if_neg h0]; trivial
    | _ => trivial
  | _ => trivial

theorem len_ok {t ty : TypeId} {x : PV} {u : Value} (hx : Rep c x u) {e : TypeId} (hts : P.underlying t = some (.slice e)) : VOk P c (lenM x c.st) (Builtin.len_ #[t] ty #[u]) := by
  have hrun : ∀ (a : Option Addr) (n k : Nat), (Builtin.len_ #[t] ty #[.slice a n k]).run P c.w = .ok (.int .i64 n) c.w := fun a n k => by
    simp [Builtin.len_, run_underlying hts, goInt]
  unfold lenM
  cases hx with
  | lst0 a cap => exact VOk.ret g (hrun _ _ _) (.int _ _)
  | lst xs sz b o cap us hs hn hc hr ho hcap => exact VOk.ret g (hrun _ _ _) (.int _ _)
  | nilS => exact VOk.ret g (hrun _ _ _) (.int _ _)
  | z0 a => exact VOk.ret g (hrun _ _ _) (.int _ _)
  | sl id n off len bl b cap m e hi hb hn hm hsh h1 h2 h3 h4 => exact VOk.ret g (hrun _ _ _) (.int _ _)
  | sl0 id bl hi hb hn hm => exact VOk.ret g (hrun _ _ _) (.int _ _)
  | slx id n off len a k h => exact VOk.ret g (hrun _ _ _) (.int _ _)
  | _ => trivial

theorem lenStr_ok {t ty : TypeId} {x : PV} {u : Value} (hx : Rep c x u) (hts : P.underlying t = some .string) : VOk P c (lenStr x c.st) (Builtin.len_ #[t] ty #[u]) := by
  unfold lenStr
  cases hx with
  | str s => exact VOk.ret g (by simp [Builtin.len_, run_underlying hts, goInt]) (.int _ _)
  | _ => trivial

theorem lenArr_ok {t ty : TypeId} {n : Nat} {e : TypeId} (u : Value) (hts : P.underlying t = some (.array n e)) : VOk P c (ret (.int .i64 n) c.st) (Builtin.len_ #[t] ty #[u]) :=
  VOk.ret g (by simp [Builtin.len_, run_underlying hts, goInt]) (.int _ _)

theorem strOf_ok {t b e : TypeId} {x : PV} {u : Value} (hx : Rep c x u) (hts : P.underlying t = some (.slice e)) (he : P.underlying e = some (.int .u8)) (hb : P.underlying b = some .string) : VOk P c (strOfM x c.st) (convert t b u) := by
  unfold strOfM
  cases hel : elems c.st x with
  | none => trivial
  | some ys =>
    simp only []
    split
    case isFalse => trivial
    rename_i hall
    obtain ⟨base, cap, rfl, hcells⟩ := elems_rep g hel hx
    -- the bytes
    have hns : ∃ ns : List Int, ys = ns.map (fun n => PV.int .u8 n) := by
      clear hel hcells hx
      induction ys with
      | nil => exact ⟨[], rfl⟩
      | cons y ys ih =>
        simp only [List.all_cons, Bool.and_eq_true] at hall
        obtain ⟨ns, rfl⟩ := ih hall.2
        cases y <;> simp [isByte] at hall
        rename_i k n
        cases k <;> simp at hall
        exact ⟨n :: ns, rfl⟩
    obtain ⟨ns, rfl⟩ := hns
    have hfold : ∀ (r : ByteArray), (ns.map (fun n => PV.int .u8 n)).foldl pushV r = ns.foldl (fun r n => r.push (UInt8.ofNat n.toNat)) r := fun r => by rw [List.foldl_map]; rfl
    refine VOk.same g (v := .string (ns.foldl (fun r n => r.push (UInt8.ofNat n.toNat)) ByteArray.empty)) ?_ (by rw [hfold]; exact .str _)
    rw [run_convert_bytes_string c.w t b e base _ cap hts he hb]
    by_cases h0 : ns = []
    · subst h0
      cases base with
      | none => simp [Conv.bytesToString]
      | some a =>
        have := run_bytesToString (P := P) c.w a 0 cap [] (by simp [loadCells, loadCellsFrom])
        simpa using this
    · obtain ⟨a, us, rfl, hul, hus, hcell⟩ := hcells (by simpa using h0)
      have hflat : flat (ns.map (fun n => PV.int .u8 n)) = ns.map (fun n => PV.int .u8 n) := by
        unfold flat
        clear hul hus hcell h0 hcells hel hx hall hfold
        induction ns with
        | nil => rfl
        | cons n ns ih => simp only [List.map_cons, List.flatMap_cons, ih]; rfl
      rw [hflat] at hul hus
      have hue : us = ns.map (Value.int .u8) := by
        apply List.ext_getElem?
        intro j
        by_cases hj : j < ns.length
        · obtain ⟨u, h1, h2⟩ := hus j (PV.int .u8 ns[j]) (by simp [hj])
          cases h2
          rw [h1]; simp [hj]
        · rw [List.getElem?_eq_none (by rw [hul]; simp; omega), List.getElem?_eq_none (by simp; omega)]
      subst hue
      have hl := run_loadCells_list (P := P) c.w a _ hcell
      rw [List.length_map] at hl ⊢
      exact run_bytesToString c.w a ns.length cap ns hl

end
end Go.Abs
end
