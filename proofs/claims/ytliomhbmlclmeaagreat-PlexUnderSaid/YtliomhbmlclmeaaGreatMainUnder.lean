/-
  PROVED: the law 'PlexUnder' of layer 20 answers true at every argument (the given statement 'PlexUnderSaid'). Conditions: none but the statement's own.
-/
import Derived.Test.YtliomhbmlclmeaaGreatGR
import Derived.Test.YtliomhbmlclmeaaGreatW1
import Derived.Test.YtliomhbmlclmeaaGreatAlive
import Derived.Test.YtliomhbmlclmeaaGreatLJ
import Derived.Test.YtliomhbmlclmeaaGreatPE0
import Derived.Test.YtliomhbmlclmeaaGreatRows
import Derived.ProofKit
set_option linter.unusedSimpArgs false
set_option linter.unusedVariables false
set_option maxRecDepth 100000
namespace Go.Proofs.YtliomhbmlclmeaaGreat
open Go.ChangeShapes Go.WideShapes Go.ChangeAt Go.RowKit Go.Abs

theorem own : ownKnob Tryz.prog.godebug = none := by kernel_rfl
theorem laid : laidOutB Tryz.prog = true := by kernel_rfl
theorem bool4 : Tryz.prog.underlying 4 = some .bool := by kernel_rfl

theorem lifted (hF : ∀ as_, ShAll [tyProgram, .slice tyRat, tyI64s] as_ → F_law20_PlexUnder as_ = .ret (.bool true)) (os : Os) (started : os.Started) (H : Type) (enc : TypeId × Value → H) :
    ReturnsInHanded {} Tryz.checked os 4 .any (Rows.plexUnderSpec.pre6 enc Tryz.prog Tryz.f4 Rows.plexUnderRow.domain false) (Rows.plexUnderSpec.post enc Tryz.prog Tryz.f4 false true false false) := by
  refine returnsInHanded_of_change (C := Tryz.checked) own started (by kernel_rfl) Tryz.func4
    (ChangeSpec.witness6 (enc := enc) (C := Tryz.checked) false ⟨#[], #[.agg #[.slice none 0 0, .slice none 0 0, .slice none 0 0, .slice none 0 0, .slice none 0 0], .slice none 0 0, .slice none 0 0], []⟩ 8 (by kernel_rfl) (by kernel_rfl) (by kernel_rfl) (by kernel_rfl)) ?_
  intro W base args ds gs before hval hW _ _
  exact law_contract s_law20_PlexUnder laid (by kernel_rfl) rfl bool4 [tyProgram, .slice tyRat, tyI64s] (by kernel_rfl) hF rfl (fun ds h => by
    match ds, h with
    | [d1, d2, d3], _ => rfl) W base args ds gs before hval hW

theorem reduced (hF : ∀ as_, ShAll [tyProgram, .slice tyRat, tyI64s] as_ → F_law20_PlexUnder as_ = .ret (.bool true)) : Rows.PlexUnderSaid :=
  OpenClaim.holds_of_wide 4 Tryz.f4 rfl rfl rfl rfl rfl rfl rfl ⟨rfl, rfl, rfl, rfl, rfl⟩ rfl rfl rfl rfl rfl (by kernel_rfl) Tryz.func4 (by kernel_rfl)
    (of_decide_eq_true (by kernel_rfl)) (by unfold Func.isWrapper; first | (rw [if_pos (by decide +kernel)]; kernel_rfl) | (rw [if_neg (by decide +kernel)]; exact ⟨rfl, rfl⟩))
    (fun os started H enc _ => lifted hF os started H enc)
theorem answers : ∀ as_, ShAll [tyProgram, .slice tyRat, tyI64s] as_ → F_law20_PlexUnder as_ = .ret (.bool true)
  | [], h => h.elim
  | [_], h => h.2.elim
  | [_, _], h => h.2.2.elim
  | [x, y, z], h => by
    obtain ⟨p, rfl, _⟩ := sh_program h.1
    obtain ⟨l, rfl, hd⟩ := sh_rats h.2.1
    obtain ⟨c, rfl, _⟩ := sh_ints h.2.2.1
    exact PlexUnder_ok alive_ok p l c hd
  | _ :: _ :: _ :: _ :: _, h => h.2.2.2.elim
theorem holds : Rows.PlexUnderSaid := reduced answers
end Go.Proofs.YtliomhbmlclmeaaGreat
