/-
  PRINTED BY gen3.py: they are sound.
-/
import Derived.Test.YtliomhbmlclmeaaGreatGG
import Derived.Test.YtliomhbmlclmeaaGreatPTz
import Derived.Test.YtliomhbmlclmeaaGreatPD0
import Derived.Test.YtliomhbmlclmeaaGreatHguarded
set_option maxRecDepth 100000
set_option linter.unusedVariables false
namespace Go.Abs
open Go
def X_plex_within : Ctx := ⟨tyT, lookC [], lookD [], false, { join := [], blk := [], loop := [(2, [1, 7, 8, 9])], own := [], frz := [], buf := [] }⟩
theorem e_plex_within : (fun a0 a1 => evBody X_plex_within Go.Proofs.Tryz.f47 [a0, a1]) = fun a0 a1 => B_plex_within [a0, a1] := by kernel_rfl
theorem h_plex_within : ∀ args, B_plex_within args = evBody X_plex_within Go.Proofs.Tryz.f47 args ∨ B_plex_within args = .leaf failM
  | [] => .inr rfl
  | [_] => .inr rfl
  | [a0, a1] => .inl (congrFun (congrFun e_plex_within a0) a1).symm
  | _ :: _ :: _ :: _ => .inr rfl
theorem s_plex_within : SoundP Go.Proofs.Tryz.prog 47 F_plex_within := soundP_of (soundS_print (ctxOk_of tyT_ok .nil .nil _ _) fol Go.Proofs.Tryz.func47 (by kernel_rfl) (by kernel_rfl) h_plex_within) false
def X_plex_Right : Ctx := ⟨tyT, lookC [(47, .P F_plex_within)], lookD [], false, { join := [], blk := [], loop := [(7, [1, 3, 63, 64]), (13, [3, 80, 81, 82])], own := [], frz := [], buf := [] }⟩
theorem e_plex_Right : (fun a0 => evBody X_plex_Right Go.Proofs.Tryz.f23 [a0]) = fun a0 => B_plex_Right [a0] := by kernel_rfl
theorem h_plex_Right : ∀ args, B_plex_Right args = evBody X_plex_Right Go.Proofs.Tryz.f23 args ∨ B_plex_Right args = .leaf failM
  | [] => .inr rfl
  | [a0] => .inl (congrFun e_plex_Right a0).symm
  | _ :: _ :: _ => .inr rfl
theorem s_plex_Right : SoundP Go.Proofs.Tryz.prog 23 F_plex_Right := soundP_of (soundS_print (ctxOk_of tyT_ok (.consP s_plex_within .nil) .nil _ _) fol Go.Proofs.Tryz.func23 (by kernel_rfl) (by kernel_rfl) h_plex_Right) false
def X_nat_trim : Ctx := ⟨tyT, lookC [], lookD [], false, { join := [], blk := [], loop := [(1, [0])], own := [], frz := [], buf := [] }⟩
theorem e_nat_trim : (fun a0 => evBody X_nat_trim Go.Proofs.Tryz.f101 [a0]) = fun a0 => B_nat_trim [a0] := by kernel_rfl
theorem h_nat_trim : ∀ args, B_nat_trim args = evBody X_nat_trim Go.Proofs.Tryz.f101 args ∨ B_nat_trim args = .leaf failM
  | [] => .inr rfl
  | [a0] => .inl (congrFun e_nat_trim a0).symm
  | _ :: _ :: _ => .inr rfl
theorem s_nat_trim : SoundP Go.Proofs.Tryz.prog 101 F_nat_trim := soundP_of (soundS_print (ctxOk_of tyT_ok .nil .nil _ _) fol Go.Proofs.Tryz.func101 (by kernel_rfl) (by kernel_rfl) h_nat_trim) false
def X_nat_Of : Ctx := ⟨tyT, lookC [(101, .P F_nat_trim)], lookD [], false, { join := [], blk := [], loop := [], own := [], frz := [9], buf := [] }⟩
theorem e_nat_Of : (fun a0 => evBody X_nat_Of Go.Proofs.Tryz.f69 [a0]) = fun a0 => B_nat_Of [a0] := by kernel_rfl
theorem h_nat_Of : ∀ args, B_nat_Of args = evBody X_nat_Of Go.Proofs.Tryz.f69 args ∨ B_nat_Of args = .leaf failM
  | [] => .inr rfl
  | [a0] => .inl (congrFun e_nat_Of a0).symm
  | _ :: _ :: _ => .inr rfl
theorem s_nat_Of : SoundP Go.Proofs.Tryz.prog 69 F_nat_Of := soundP_of (soundS_print (ctxOk_of tyT_ok (.consP s_nat_trim .nil) .nil _ _) fol Go.Proofs.Tryz.func69 (by kernel_rfl) (by kernel_rfl) h_nat_Of) false
def X_signed_Of : Ctx := ⟨tyT, lookC [(69, .P F_nat_Of)], lookD [], false, { join := [], blk := [], loop := [], own := [], frz := [], buf := [] }⟩
theorem e_signed_Of : (fun a0 => evBody X_signed_Of Go.Proofs.Tryz.f38 [a0]) = fun a0 => B_signed_Of [a0] := by kernel_rfl
theorem h_signed_Of : ∀ args, B_signed_Of args = evBody X_signed_Of Go.Proofs.Tryz.f38 args ∨ B_signed_Of args = .leaf failM
  | [] => .inr rfl
  | [a0] => .inl (congrFun e_signed_Of a0).symm
  | _ :: _ :: _ => .inr rfl
theorem s_signed_Of : SoundP Go.Proofs.Tryz.prog 38 F_signed_Of := soundP_of (soundS_print (ctxOk_of tyT_ok (.consP s_nat_Of .nil) .nil _ _) fol Go.Proofs.Tryz.func38 (by kernel_rfl) (by kernel_rfl) h_signed_Of) false
def X_ratio_Of : Ctx := ⟨tyT, lookC [(38, .P F_signed_Of)], lookD [], false, { join := [], blk := [], loop := [], own := [], frz := [], buf := [] }⟩
theorem e_ratio_Of : (fun a0 => evBody X_ratio_Of Go.Proofs.Tryz.f19 [a0]) = fun a0 => B_ratio_Of [a0] := by kernel_rfl
theorem h_ratio_Of : ∀ args, B_ratio_Of args = evBody X_ratio_Of Go.Proofs.Tryz.f19 args ∨ B_ratio_Of args = .leaf failM
  | [] => .inr rfl
  | [a0] => .inl (congrFun e_ratio_Of a0).symm
  | _ :: _ :: _ => .inr rfl
theorem s_ratio_Of : SoundP Go.Proofs.Tryz.prog 19 F_ratio_Of := soundP_of (soundS_print (ctxOk_of tyT_ok (.consP s_signed_Of .nil) .nil _ _) fol Go.Proofs.Tryz.func19 (by kernel_rfl) (by kernel_rfl) h_ratio_Of) false
def X_nat_Right : Ctx := ⟨tyT, lookC [], lookD [], false, { join := [], blk := [], loop := [], own := [], frz := [], buf := [] }⟩
theorem e_nat_Right : (fun a0 => evBody X_nat_Right Go.Proofs.Tryz.f97 [a0]) = fun a0 => B_nat_Right [a0] := by kernel_rfl
theorem h_nat_Right : ∀ args, B_nat_Right args = evBody X_nat_Right Go.Proofs.Tryz.f97 args ∨ B_nat_Right args = .leaf failM
  | [] => .inr rfl
  | [a0] => .inl (congrFun e_nat_Right a0).symm
  | _ :: _ :: _ => .inr rfl
theorem s_nat_Right : SoundP Go.Proofs.Tryz.prog 97 F_nat_Right := soundP_of (soundS_print (ctxOk_of tyT_ok .nil .nil _ _) fol Go.Proofs.Tryz.func97 (by kernel_rfl) (by kernel_rfl) h_nat_Right) false
def X_signed_Right : Ctx := ⟨tyT, lookC [(97, .P F_nat_Right)], lookD [], false, { join := [], blk := [], loop := [], own := [], frz := [], buf := [] }⟩
theorem e_signed_Right : (fun a0 => evBody X_signed_Right Go.Proofs.Tryz.f78 [a0]) = fun a0 => B_signed_Right [a0] := by kernel_rfl
theorem h_signed_Right : ∀ args, B_signed_Right args = evBody X_signed_Right Go.Proofs.Tryz.f78 args ∨ B_signed_Right args = .leaf failM
  | [] => .inr rfl
  | [a0] => .inl (congrFun e_signed_Right a0).symm
  | _ :: _ :: _ => .inr rfl
theorem s_signed_Right : SoundP Go.Proofs.Tryz.prog 78 F_signed_Right := soundP_of (soundS_print (ctxOk_of tyT_ok (.consP s_nat_Right .nil) .nil _ _) fol Go.Proofs.Tryz.func78 (by kernel_rfl) (by kernel_rfl) h_signed_Right) false
def X_signed_both : Ctx := ⟨tyT, lookC [(78, .P F_signed_Right)], lookD [], false, { join := [], blk := [], loop := [], own := [], frz := [], buf := [] }⟩
theorem e_signed_both : (fun a0 a1 => evBody X_signed_both Go.Proofs.Tryz.f66 [a0, a1]) = fun a0 a1 => B_signed_both [a0, a1] := by kernel_rfl
theorem h_signed_both : ∀ args, B_signed_both args = evBody X_signed_both Go.Proofs.Tryz.f66 args ∨ B_signed_both args = .leaf failM
  | [] => .inr rfl
  | [_] => .inr rfl
  | [a0, a1] => .inl (congrFun (congrFun e_signed_both a0) a1).symm
  | _ :: _ :: _ :: _ => .inr rfl
theorem s_signed_both : SoundP Go.Proofs.Tryz.prog 66 F_signed_both := soundP_of (soundS_print (ctxOk_of tyT_ok (.consP s_signed_Right .nil) .nil _ _) fol Go.Proofs.Tryz.func66 (by kernel_rfl) (by kernel_rfl) h_signed_both) false
def X_nat_order : Ctx := ⟨tyT, lookC [], lookD [], false, { join := [], blk := [], loop := [(4, [0, 1, 5])], own := [], frz := [], buf := [] }⟩
theorem e_nat_order : (fun a0 a1 => evBody X_nat_order Go.Proofs.Tryz.f98 [a0, a1]) = fun a0 a1 => B_nat_order [a0, a1] := by kernel_rfl
theorem h_nat_order : ∀ args, B_nat_order args = evBody X_nat_order Go.Proofs.Tryz.f98 args ∨ B_nat_order args = .leaf failM
  | [] => .inr rfl
  | [_] => .inr rfl
  | [a0, a1] => .inl (congrFun (congrFun e_nat_order a0) a1).symm
  | _ :: _ :: _ :: _ => .inr rfl
theorem s_nat_order : SoundP Go.Proofs.Tryz.prog 98 F_nat_order := soundP_of (soundS_print (ctxOk_of tyT_ok .nil .nil _ _) fol Go.Proofs.Tryz.func98 (by kernel_rfl) (by kernel_rfl) h_nat_order) false
def X_slices_Clone_uint32 : Ctx := ⟨tyT, lookC [], lookD [], false, { join := [], blk := [], loop := [], own := [], frz := [], buf := [] }⟩
theorem e_slices_Clone_uint32 : (fun a0 => evBody X_slices_Clone_uint32 Go.Proofs.Tryz.f137 [a0]) = fun a0 => B_slices_Clone_uint32 [a0] := by kernel_rfl
theorem h_slices_Clone_uint32 : ∀ args, B_slices_Clone_uint32 args = evBody X_slices_Clone_uint32 Go.Proofs.Tryz.f137 args ∨ B_slices_Clone_uint32 args = .leaf failM
  | [] => .inr rfl
  | [a0] => .inl (congrFun e_slices_Clone_uint32 a0).symm
  | _ :: _ :: _ => .inr rfl
theorem s0_slices_Clone_uint32 : SoundP Go.Proofs.Tryz.prog 137 F0_slices_Clone_uint32 := soundP_of (soundS_print (ctxOk_of tyT_ok .nil .nil _ _) fol Go.Proofs.Tryz.func137 (by kernel_rfl) (by kernel_rfl) h_slices_Clone_uint32) true
theorem k1_slices_Clone_uint32 (a : Addr) (cap : Nat) (w : World) : Calls Go.Proofs.Tryz.prog 137 #[.slice (some a) 0 cap] w fun e w' => e = .returned (.slice (some ⟨w.heap.size, 0, none⟩) 0 0) ∧ w' = w.alloc (.cells #[] 136) := by
  have hd : Go.Proofs.Tryz.prog.underlying 30 = some (.slice 136) := by kernel_rfl
  go_enter Go.Proofs.Tryz.func137, Go.Proofs.Tryz.ntmps137
  go_wp2
  simp only [eql_nil hd]
  go_wp2
  simp [bodyPost, results, Go.Proofs.Tryz.results137, go_sem]
theorem k2_slices_Clone_uint32 (cap : Nat) (w : World) : Calls Go.Proofs.Tryz.prog 137 #[.slice none 0 cap] w fun e w' => e = .returned (.slice none 0 0) ∧ w' = w := by
  have hd : Go.Proofs.Tryz.prog.underlying 30 = some (.slice 136) := by kernel_rfl
  go_enter Go.Proofs.Tryz.func137, Go.Proofs.Tryz.ntmps137
  go_wp2
  simp only [eql_nil' hd]
  go_wp2
  simp [bodyPost, results, Go.Proofs.Tryz.results137, go_sem]
theorem s_slices_Clone_uint32 : SoundP Go.Proofs.Tryz.prog 137 F_slices_Clone_uint32 := cloneW_sound s0_slices_Clone_uint32 ⟨_, Go.Proofs.Tryz.func137, by kernel_rfl, by kernel_rfl⟩ k2_slices_Clone_uint32 k1_slices_Clone_uint32
def X_bits_Div32 : Ctx := ⟨tyT, lookC [], lookD [], false, { join := [(2, [0, 1, 2])], blk := [], loop := [], own := [], frz := [], buf := [] }⟩
theorem e_bits_Div32 : (fun a0 a1 a2 => evBody X_bits_Div32 Go.Proofs.Tryz.f139 [a0, a1, a2]) = fun a0 a1 a2 => B_bits_Div32 [a0, a1, a2] := by kernel_rfl
theorem h_bits_Div32 : ∀ args, B_bits_Div32 args = evBody X_bits_Div32 Go.Proofs.Tryz.f139 args ∨ B_bits_Div32 args = .leaf failM
  | [] => .inr rfl
  | [_] => .inr rfl
  | [_, _] => .inr rfl
  | [a0, a1, a2] => .inl (congrFun (congrFun (congrFun e_bits_Div32 a0) a1) a2).symm
  | _ :: _ :: _ :: _ :: _ => .inr rfl
theorem s_bits_Div32 : SoundP Go.Proofs.Tryz.prog 139 F_bits_Div32 := soundP_of (soundS_print (ctxOk_of tyT_ok .nil .nil _ _) fol Go.Proofs.Tryz.func139 (by kernel_rfl) (by kernel_rfl) h_bits_Div32) false
def X_nat_small : Ctx := ⟨tyT, lookC [(101, .P F_nat_trim), (139, .P F_bits_Div32)], lookD [], false, { join := [], blk := [], loop := [(4, [0, 1, 6, 7, 8])], own := [], frz := [33], buf := [] }⟩
theorem e_nat_small : (fun a0 a1 => evBody X_nat_small Go.Proofs.Tryz.f113 [a0, a1]) = fun a0 a1 => B_nat_small [a0, a1] := by kernel_rfl
theorem h_nat_small : ∀ args, B_nat_small args = evBody X_nat_small Go.Proofs.Tryz.f113 args ∨ B_nat_small args = .leaf failM
  | [] => .inr rfl
  | [_] => .inr rfl
  | [a0, a1] => .inl (congrFun (congrFun e_nat_small a0) a1).symm
  | _ :: _ :: _ :: _ => .inr rfl
theorem s_nat_small : SoundP Go.Proofs.Tryz.prog 113 F_nat_small := soundP_of (soundS_print (ctxOk_of tyT_ok (.consP s_nat_trim (.consP s_bits_Div32 .nil)) .nil _ _) fol Go.Proofs.Tryz.func113 (by kernel_rfl) (by kernel_rfl) h_nat_small) false
def X_bits_Len32 : Ctx := ⟨tyT, lookC [], lookD [], false, { join := [(2, [0, 2]), (5, [0, 2])], blk := [], loop := [], own := [], frz := [], buf := [] }⟩
theorem e_bits_Len32 : (fun a0 => evBody X_bits_Len32 Go.Proofs.Tryz.f156 [a0]) = fun a0 => B_bits_Len32 [a0] := by kernel_rfl
theorem h_bits_Len32 : ∀ args, B_bits_Len32 args = evBody X_bits_Len32 Go.Proofs.Tryz.f156 args ∨ B_bits_Len32 args = .leaf failM
  | [] => .inr rfl
  | [a0] => .inl (congrFun e_bits_Len32 a0).symm
  | _ :: _ :: _ => .inr rfl
theorem s_bits_Len32 : SoundP Go.Proofs.Tryz.prog 156 F_bits_Len32 := soundP_of (soundS_print (ctxOk_of tyT_ok .nil .nil _ _) fol Go.Proofs.Tryz.func156 (by kernel_rfl) (by kernel_rfl) h_bits_Len32) false
def X_bits_LeadingZeros32 : Ctx := ⟨tyT, lookC [(156, .P F_bits_Len32)], lookD [], false, { join := [], blk := [], loop := [], own := [], frz := [], buf := [] }⟩
theorem e_bits_LeadingZeros32 : (fun a0 => evBody X_bits_LeadingZeros32 Go.Proofs.Tryz.f148 [a0]) = fun a0 => B_bits_LeadingZeros32 [a0] := by kernel_rfl
theorem h_bits_LeadingZeros32 : ∀ args, B_bits_LeadingZeros32 args = evBody X_bits_LeadingZeros32 Go.Proofs.Tryz.f148 args ∨ B_bits_LeadingZeros32 args = .leaf failM
  | [] => .inr rfl
  | [a0] => .inl (congrFun e_bits_LeadingZeros32 a0).symm
  | _ :: _ :: _ => .inr rfl
theorem s_bits_LeadingZeros32 : SoundP Go.Proofs.Tryz.prog 148 F_bits_LeadingZeros32 := soundP_of (soundS_print (ctxOk_of tyT_ok (.consP s_bits_Len32 .nil) .nil _ _) fol Go.Proofs.Tryz.func148 (by kernel_rfl) (by kernel_rfl) h_bits_LeadingZeros32) false
def X_nat_shift : Ctx := ⟨tyT, lookC [], lookD [], false, { join := [], blk := [], loop := [(3, [1, 5, 13, 14, 15])], own := [], frz := [], buf := [] }⟩
theorem e_nat_shift : (fun a0 a1 => evBody X_nat_shift Go.Proofs.Tryz.f149 [a0, a1]) = fun a0 a1 => B_nat_shift [a0, a1] := by kernel_rfl
theorem h_nat_shift : ∀ args, B_nat_shift args = evBody X_nat_shift Go.Proofs.Tryz.f149 args ∨ B_nat_shift args = .leaf failM
  | [] => .inr rfl
  | [_] => .inr rfl
  | [a0, a1] => .inl (congrFun (congrFun e_nat_shift a0) a1).symm
  | _ :: _ :: _ :: _ => .inr rfl
theorem s_nat_shift : SoundP Go.Proofs.Tryz.prog 149 F_nat_shift := soundP_of (soundS_print (ctxOk_of tyT_ok .nil .nil _ _) fol Go.Proofs.Tryz.func149 (by kernel_rfl) (by kernel_rfl) h_nat_shift) true
def X_nat_guess : Ctx := ⟨tyT, lookC [], lookD [], false, { join := [], blk := [], loop := [(5, [0, 1, 5, 6, 8, 9])], own := [], frz := [], buf := [] }⟩
theorem e_nat_guess : (fun a0 a1 => evBody X_nat_guess Go.Proofs.Tryz.f150 [a0, a1]) = fun a0 a1 => B_nat_guess [a0, a1] := by kernel_rfl
theorem h_nat_guess : ∀ args, B_nat_guess args = evBody X_nat_guess Go.Proofs.Tryz.f150 args ∨ B_nat_guess args = .leaf failM
  | [] => .inr rfl
  | [_] => .inr rfl
  | [a0, a1] => .inl (congrFun (congrFun e_nat_guess a0) a1).symm
  | _ :: _ :: _ :: _ => .inr rfl
theorem s_nat_guess : SoundP Go.Proofs.Tryz.prog 150 F_nat_guess := soundP_of (soundS_print (ctxOk_of tyT_ok .nil .nil _ _) fol Go.Proofs.Tryz.func150 (by kernel_rfl) (by kernel_rfl) h_nat_guess) false
def X_bits_Sub32 : Ctx := ⟨tyT, lookC [], lookD [], false, { join := [], blk := [], loop := [], own := [], frz := [], buf := [] }⟩
theorem e_bits_Sub32 : (fun a0 a1 a2 => evBody X_bits_Sub32 Go.Proofs.Tryz.f155 [a0, a1, a2]) = fun a0 a1 a2 => B_bits_Sub32 [a0, a1, a2] := by kernel_rfl
theorem h_bits_Sub32 : ∀ args, B_bits_Sub32 args = evBody X_bits_Sub32 Go.Proofs.Tryz.f155 args ∨ B_bits_Sub32 args = .leaf failM
  | [] => .inr rfl
  | [_] => .inr rfl
  | [_, _] => .inr rfl
  | [a0, a1, a2] => .inl (congrFun (congrFun (congrFun e_bits_Sub32 a0) a1) a2).symm
  | _ :: _ :: _ :: _ :: _ => .inr rfl
theorem s_bits_Sub32 : SoundP Go.Proofs.Tryz.prog 155 F_bits_Sub32 := soundP_of (soundS_print (ctxOk_of tyT_ok .nil .nil _ _) fol Go.Proofs.Tryz.func155 (by kernel_rfl) (by kernel_rfl) h_bits_Sub32) false
def X_nat_less : Ctx := ⟨tyT, lookC [(155, .P F_bits_Sub32)], lookD [], false, { join := [], blk := [], loop := [(4, [0, 1, 2, 7, 8, 11, 12, 13])], own := [], frz := [], buf := [] }⟩
theorem e_nat_less : (fun a0 a1 a2 => evBody X_nat_less Go.Proofs.Tryz.f151 [a0, a1, a2]) = fun a0 a1 a2 => B_nat_less [a0, a1, a2] := by kernel_rfl
theorem h_nat_less : ∀ args, B_nat_less args = evBody X_nat_less Go.Proofs.Tryz.f151 args ∨ B_nat_less args = .leaf failM
  | [] => .inr rfl
  | [_] => .inr rfl
  | [_, _] => .inr rfl
  | [a0, a1, a2] => .inl (congrFun (congrFun (congrFun e_nat_less a0) a1) a2).symm
  | _ :: _ :: _ :: _ :: _ => .inr rfl
theorem s_nat_less : SoundS Go.Proofs.Tryz.prog 151 F_nat_less := soundS_print (ctxOk_of tyT_ok (.consP s_bits_Sub32 .nil) .nil _ _) fol Go.Proofs.Tryz.func151 (by kernel_rfl) (by kernel_rfl) h_nat_less
def X_bits_Add32 : Ctx := ⟨tyT, lookC [], lookD [], false, { join := [], blk := [], loop := [], own := [], frz := [], buf := [] }⟩
theorem e_bits_Add32 : (fun a0 a1 a2 => evBody X_bits_Add32 Go.Proofs.Tryz.f154 [a0, a1, a2]) = fun a0 a1 a2 => B_bits_Add32 [a0, a1, a2] := by kernel_rfl
theorem h_bits_Add32 : ∀ args, B_bits_Add32 args = evBody X_bits_Add32 Go.Proofs.Tryz.f154 args ∨ B_bits_Add32 args = .leaf failM
  | [] => .inr rfl
  | [_] => .inr rfl
  | [_, _] => .inr rfl
  | [a0, a1, a2] => .inl (congrFun (congrFun (congrFun e_bits_Add32 a0) a1) a2).symm
  | _ :: _ :: _ :: _ :: _ => .inr rfl
theorem s_bits_Add32 : SoundP Go.Proofs.Tryz.prog 154 F_bits_Add32 := soundP_of (soundS_print (ctxOk_of tyT_ok .nil .nil _ _) fol Go.Proofs.Tryz.func154 (by kernel_rfl) (by kernel_rfl) h_bits_Add32) false
def X_nat_again : Ctx := ⟨tyT, lookC [(154, .P F_bits_Add32)], lookD [], false, { join := [], blk := [], loop := [(2, [0, 1, 4, 7, 8, 9])], own := [], frz := [], buf := [] }⟩
theorem e_nat_again : (fun a0 a1 => evBody X_nat_again Go.Proofs.Tryz.f152 [a0, a1]) = fun a0 a1 => B_nat_again [a0, a1] := by kernel_rfl
theorem h_nat_again : ∀ args, B_nat_again args = evBody X_nat_again Go.Proofs.Tryz.f152 args ∨ B_nat_again args = .leaf failM
  | [] => .inr rfl
  | [_] => .inr rfl
  | [a0, a1] => .inl (congrFun (congrFun e_nat_again a0) a1).symm
  | _ :: _ :: _ :: _ => .inr rfl
theorem s_nat_again : SoundS Go.Proofs.Tryz.prog 152 F_nat_again := soundS_print (ctxOk_of tyT_ok (.consP s_bits_Add32 .nil) .nil _ _) fol Go.Proofs.Tryz.func152 (by kernel_rfl) (by kernel_rfl) h_nat_again
def X_nat_long : Ctx := ⟨tyT, lookC [(101, .P F_nat_trim), (148, .P F_bits_LeadingZeros32), (149, .P F_nat_shift), (150, .P F_nat_guess), (151, .S F_nat_less), (152, .S F_nat_again)], lookD [], false, { join := [(11, [6, 7, 8, 9, 10, 11, 12])], blk := [], loop := [(7, [6, 7, 8, 9, 10, 11]), (16, [6, 8, 10, 13, 72, 73])], own := [28], frz := [97, 99], buf := [] }⟩
theorem e_nat_long : (fun a0 a1 => evBody X_nat_long Go.Proofs.Tryz.f138 [a0, a1]) = fun a0 a1 => B_nat_long [a0, a1] := by kernel_rfl
theorem h_nat_long : ∀ args, B_nat_long args = evBody X_nat_long Go.Proofs.Tryz.f138 args ∨ B_nat_long args = .leaf failM
  | [] => .inr rfl
  | [_] => .inr rfl
  | [a0, a1] => .inl (congrFun (congrFun e_nat_long a0) a1).symm
  | _ :: _ :: _ :: _ => .inr rfl
theorem s_nat_long : SoundP Go.Proofs.Tryz.prog 138 F_nat_long := soundP_of (soundS_print (ctxOk_of tyT_ok (.consP s_nat_trim (.consP s_bits_LeadingZeros32 (.consP s_nat_shift (.consP s_nat_guess (.consS s_nat_less (.consS s_nat_again .nil)))))) .nil _ _) fol Go.Proofs.Tryz.func138 (by kernel_rfl) (by kernel_rfl) h_nat_long) false
def X_nat_DivMod : Ctx := ⟨tyT, lookC [(69, .P F_nat_Of), (97, .P F_nat_Right), (98, .P F_nat_order), (113, .P F_nat_small), (137, .P F_slices_Clone_uint32), (138, .P F_nat_long)], lookD [], false, { join := [], blk := [], loop := [], own := [], frz := [], buf := [] }⟩
theorem e_nat_DivMod : (fun a0 a1 => evBody X_nat_DivMod Go.Proofs.Tryz.f112 [a0, a1]) = fun a0 a1 => B_nat_DivMod [a0, a1] := by kernel_rfl
theorem h_nat_DivMod : ∀ args, B_nat_DivMod args = evBody X_nat_DivMod Go.Proofs.Tryz.f112 args ∨ B_nat_DivMod args = .leaf failM
  | [] => .inr rfl
  | [_] => .inr rfl
  | [a0, a1] => .inl (congrFun (congrFun e_nat_DivMod a0) a1).symm
  | _ :: _ :: _ :: _ => .inr rfl
theorem s_nat_DivMod : SoundP Go.Proofs.Tryz.prog 112 F_nat_DivMod := soundP_of (soundS_print (ctxOk_of tyT_ok (.consP s_nat_Of (.consP s_nat_Right (.consP s_nat_order (.consP s_nat_small (.consP s_slices_Clone_uint32 (.consP s_nat_long .nil)))))) .nil _ _) fol Go.Proofs.Tryz.func112 (by kernel_rfl) (by kernel_rfl) h_nat_DivMod) false
def X_signed_made : Ctx := ⟨tyT, lookC [], lookD [], false, { join := [], blk := [], loop := [], own := [], frz := [], buf := [] }⟩
theorem e_signed_made : (fun a0 a1 a2 => evBody X_signed_made Go.Proofs.Tryz.f100 [a0, a1, a2]) = fun a0 a1 a2 => B_signed_made [a0, a1, a2] := by kernel_rfl
theorem h_signed_made : ∀ args, B_signed_made args = evBody X_signed_made Go.Proofs.Tryz.f100 args ∨ B_signed_made args = .leaf failM
  | [] => .inr rfl
  | [_] => .inr rfl
  | [_, _] => .inr rfl
  | [a0, a1, a2] => .inl (congrFun (congrFun (congrFun e_signed_made a0) a1) a2).symm
  | _ :: _ :: _ :: _ :: _ => .inr rfl
theorem s_signed_made : SoundP Go.Proofs.Tryz.prog 100 F_signed_made := soundP_of (soundS_print (ctxOk_of tyT_ok .nil .nil _ _) fol Go.Proofs.Tryz.func100 (by kernel_rfl) (by kernel_rfl) h_signed_made) false
def X_signed_Gcd : Ctx := ⟨tyT, lookC [(66, .P F_signed_both), (100, .P F_signed_made), (112, .P F_nat_DivMod)], lookD [], false, { join := [], blk := [], loop := [(4, [4, 6, 7])], own := [], frz := [], buf := [] }⟩
theorem e_signed_Gcd : (fun a0 a1 => evBody X_signed_Gcd Go.Proofs.Tryz.f77 [a0, a1]) = fun a0 a1 => B_signed_Gcd [a0, a1] := by kernel_rfl
theorem h_signed_Gcd : ∀ args, B_signed_Gcd args = evBody X_signed_Gcd Go.Proofs.Tryz.f77 args ∨ B_signed_Gcd args = .leaf failM
  | [] => .inr rfl
  | [_] => .inr rfl
  | [a0, a1] => .inl (congrFun (congrFun e_signed_Gcd a0) a1).symm
  | _ :: _ :: _ :: _ => .inr rfl
theorem s_signed_Gcd : SoundP Go.Proofs.Tryz.prog 77 F_signed_Gcd := soundP_of (soundS_print (ctxOk_of tyT_ok (.consP s_signed_both (.consP s_signed_made (.consP s_nat_DivMod .nil))) .nil _ _) fol Go.Proofs.Tryz.func77 (by kernel_rfl) (by kernel_rfl) h_signed_Gcd) false
def X_nat_Uint : Ctx := ⟨tyT, lookC [(97, .P F_nat_Right)], lookD [], false, { join := [], blk := [], loop := [(7, [4, 15, 16, 17])], own := [], frz := [], buf := [] }⟩
theorem e_nat_Uint : (fun a0 => evBody X_nat_Uint Go.Proofs.Tryz.f115 [a0]) = fun a0 => B_nat_Uint [a0] := by kernel_rfl
theorem h_nat_Uint : ∀ args, B_nat_Uint args = evBody X_nat_Uint Go.Proofs.Tryz.f115 args ∨ B_nat_Uint args = .leaf failM
  | [] => .inr rfl
  | [a0] => .inl (congrFun e_nat_Uint a0).symm
  | _ :: _ :: _ => .inr rfl
theorem s_nat_Uint : SoundP Go.Proofs.Tryz.prog 115 F_nat_Uint := soundP_of (soundS_print (ctxOk_of tyT_ok (.consP s_nat_Right .nil) .nil _ _) fol Go.Proofs.Tryz.func115 (by kernel_rfl) (by kernel_rfl) h_nat_Uint) false
def X_signed_Small : Ctx := ⟨tyT, lookC [(78, .P F_signed_Right), (115, .P F_nat_Uint)], lookD [], false, { join := [(5, [1, 4, 15])], blk := [], loop := [], own := [], frz := [], buf := [] }⟩
theorem e_signed_Small : (fun a0 => evBody X_signed_Small Go.Proofs.Tryz.f80 [a0]) = fun a0 => B_signed_Small [a0] := by kernel_rfl
theorem h_signed_Small : ∀ args, B_signed_Small args = evBody X_signed_Small Go.Proofs.Tryz.f80 args ∨ B_signed_Small args = .leaf failM
  | [] => .inr rfl
  | [a0] => .inl (congrFun e_signed_Small a0).symm
  | _ :: _ :: _ => .inr rfl
theorem s_signed_Small : SoundP Go.Proofs.Tryz.prog 80 F_signed_Small := soundP_of (soundS_print (ctxOk_of tyT_ok (.consP s_signed_Right (.consP s_nat_Uint .nil)) .nil _ _) fol Go.Proofs.Tryz.func80 (by kernel_rfl) (by kernel_rfl) h_signed_Small) false
def X_ratio_is : Ctx := ⟨tyT, lookC [(80, .P F_signed_Small)], lookD [], false, { join := [], blk := [], loop := [], own := [], frz := [], buf := [] }⟩
theorem e_ratio_is : (fun a0 a1 => evBody X_ratio_is Go.Proofs.Tryz.f44 [a0, a1]) = fun a0 a1 => B_ratio_is [a0, a1] := by kernel_rfl
theorem h_ratio_is : ∀ args, B_ratio_is args = evBody X_ratio_is Go.Proofs.Tryz.f44 args ∨ B_ratio_is args = .leaf failM
  | [] => .inr rfl
  | [_] => .inr rfl
  | [a0, a1] => .inl (congrFun (congrFun e_ratio_is a0) a1).symm
  | _ :: _ :: _ :: _ => .inr rfl
theorem s_ratio_is : SoundP Go.Proofs.Tryz.prog 44 F_ratio_is := soundP_of (soundS_print (ctxOk_of tyT_ok (.consP s_signed_Small .nil) .nil _ _) fol Go.Proofs.Tryz.func44 (by kernel_rfl) (by kernel_rfl) h_ratio_is) false
def X_ratio_Right : Ctx := ⟨tyT, lookC [(44, .P F_ratio_is), (77, .P F_signed_Gcd)], lookD [], false, { join := [], blk := [], loop := [], own := [], frz := [], buf := [] }⟩
theorem e_ratio_Right : (fun a0 => evBody X_ratio_Right Go.Proofs.Tryz.f42 [a0]) = fun a0 => B_ratio_Right [a0] := by kernel_rfl
theorem h_ratio_Right : ∀ args, B_ratio_Right args = evBody X_ratio_Right Go.Proofs.Tryz.f42 args ∨ B_ratio_Right args = .leaf failM
  | [] => .inr rfl
  | [a0] => .inl (congrFun e_ratio_Right a0).symm
  | _ :: _ :: _ => .inr rfl
theorem s_ratio_Right : SoundP Go.Proofs.Tryz.prog 42 F_ratio_Right := soundP_of (soundS_print (ctxOk_of tyT_ok (.consP s_ratio_is (.consP s_signed_Gcd .nil)) .nil _ _) fol Go.Proofs.Tryz.func42 (by kernel_rfl) (by kernel_rfl) h_ratio_Right) false
def X_ratio_both : Ctx := ⟨tyT, lookC [(42, .P F_ratio_Right)], lookD [], false, { join := [], blk := [], loop := [], own := [], frz := [], buf := [] }⟩
theorem e_ratio_both : (fun a0 a1 => evBody X_ratio_both Go.Proofs.Tryz.f35 [a0, a1]) = fun a0 a1 => B_ratio_both [a0, a1] := by kernel_rfl
theorem h_ratio_both : ∀ args, B_ratio_both args = evBody X_ratio_both Go.Proofs.Tryz.f35 args ∨ B_ratio_both args = .leaf failM
  | [] => .inr rfl
  | [_] => .inr rfl
  | [a0, a1] => .inl (congrFun (congrFun e_ratio_both a0) a1).symm
  | _ :: _ :: _ :: _ => .inr rfl
theorem s_ratio_both : SoundP Go.Proofs.Tryz.prog 35 F_ratio_both := soundP_of (soundS_print (ctxOk_of tyT_ok (.consP s_ratio_Right .nil) .nil _ _) fol Go.Proofs.Tryz.func35 (by kernel_rfl) (by kernel_rfl) h_ratio_both) false
def X_nat_fit : Ctx := ⟨tyT, lookC [(101, .P F_nat_trim)], lookD [], false, { join := [], blk := [], loop := [], own := [], frz := [], buf := [] }⟩
theorem e_nat_fit : (fun a0 => evBody X_nat_fit Go.Proofs.Tryz.f128 [a0]) = fun a0 => B_nat_fit [a0] := by kernel_rfl
theorem h_nat_fit : ∀ args, B_nat_fit args = evBody X_nat_fit Go.Proofs.Tryz.f128 args ∨ B_nat_fit args = .leaf failM
  | [] => .inr rfl
  | [a0] => .inl (congrFun e_nat_fit a0).symm
  | _ :: _ :: _ => .inr rfl
theorem s_nat_fit : SoundP Go.Proofs.Tryz.prog 128 F_nat_fit := soundP_of (soundS_print (ctxOk_of tyT_ok (.consP s_nat_trim .nil) .nil _ _) fol Go.Proofs.Tryz.func128 (by kernel_rfl) (by kernel_rfl) h_nat_fit) false
def X_nat_Mul : Ctx := ⟨tyT, lookC [(97, .P F_nat_Right), (128, .P F_nat_fit)], lookD [], false, { join := [], blk := [], loop := [(5, [1, 6, 26, 27, 28]), (9, [1, 6, 7, 8, 9, 26, 27, 28, 33, 34, 35])], own := [], frz := [75], buf := [] }⟩
theorem e_nat_Mul : (fun a0 a1 => evBody X_nat_Mul Go.Proofs.Tryz.f99 [a0, a1]) = fun a0 a1 => B_nat_Mul [a0, a1] := by kernel_rfl
theorem h_nat_Mul : ∀ args, B_nat_Mul args = evBody X_nat_Mul Go.Proofs.Tryz.f99 args ∨ B_nat_Mul args = .leaf failM
  | [] => .inr rfl
  | [_] => .inr rfl
  | [a0, a1] => .inl (congrFun (congrFun e_nat_Mul a0) a1).symm
  | _ :: _ :: _ :: _ => .inr rfl
theorem s_nat_Mul : SoundP Go.Proofs.Tryz.prog 99 F_nat_Mul := soundP_of (soundS_print (ctxOk_of tyT_ok (.consP s_nat_Right (.consP s_nat_fit .nil)) .nil _ _) fol Go.Proofs.Tryz.func99 (by kernel_rfl) (by kernel_rfl) h_nat_Mul) false
def X_signed_Mul : Ctx := ⟨tyT, lookC [(66, .P F_signed_both), (99, .P F_nat_Mul), (100, .P F_signed_made)], lookD [], false, { join := [], blk := [], loop := [], own := [], frz := [], buf := [] }⟩
theorem e_signed_Mul : (fun a0 a1 => evBody X_signed_Mul Go.Proofs.Tryz.f68 [a0, a1]) = fun a0 a1 => B_signed_Mul [a0, a1] := by kernel_rfl
theorem h_signed_Mul : ∀ args, B_signed_Mul args = evBody X_signed_Mul Go.Proofs.Tryz.f68 args ∨ B_signed_Mul args = .leaf failM
  | [] => .inr rfl
  | [_] => .inr rfl
  | [a0, a1] => .inl (congrFun (congrFun e_signed_Mul a0) a1).symm
  | _ :: _ :: _ :: _ => .inr rfl
theorem s_signed_Mul : SoundP Go.Proofs.Tryz.prog 68 F_signed_Mul := soundP_of (soundS_print (ctxOk_of tyT_ok (.consP s_signed_both (.consP s_nat_Mul (.consP s_signed_made .nil))) .nil _ _) fol Go.Proofs.Tryz.func68 (by kernel_rfl) (by kernel_rfl) h_signed_Mul) false
def X_ratio_times : Ctx := ⟨tyT, lookC [(68, .P F_signed_Mul)], lookD [], false, { join := [], blk := [], loop := [], own := [], frz := [], buf := [] }⟩
theorem e_ratio_times : (fun a0 a1 => evBody X_ratio_times Go.Proofs.Tryz.f37 [a0, a1]) = fun a0 a1 => B_ratio_times [a0, a1] := by kernel_rfl
theorem h_ratio_times : ∀ args, B_ratio_times args = evBody X_ratio_times Go.Proofs.Tryz.f37 args ∨ B_ratio_times args = .leaf failM
  | [] => .inr rfl
  | [_] => .inr rfl
  | [a0, a1] => .inl (congrFun (congrFun e_ratio_times a0) a1).symm
  | _ :: _ :: _ :: _ => .inr rfl
theorem s_ratio_times : SoundP Go.Proofs.Tryz.prog 37 F_ratio_times := soundP_of (soundS_print (ctxOk_of tyT_ok (.consP s_signed_Mul .nil) .nil _ _) fol Go.Proofs.Tryz.func37 (by kernel_rfl) (by kernel_rfl) h_ratio_times) false
def X_signed_Neg : Ctx := ⟨tyT, lookC [(78, .P F_signed_Right), (100, .P F_signed_made)], lookD [], false, { join := [], blk := [], loop := [], own := [], frz := [], buf := [] }⟩
theorem e_signed_Neg : (fun a0 => evBody X_signed_Neg Go.Proofs.Tryz.f135 [a0]) = fun a0 => B_signed_Neg [a0] := by kernel_rfl
theorem h_signed_Neg : ∀ args, B_signed_Neg args = evBody X_signed_Neg Go.Proofs.Tryz.f135 args ∨ B_signed_Neg args = .leaf failM
  | [] => .inr rfl
  | [a0] => .inl (congrFun e_signed_Neg a0).symm
  | _ :: _ :: _ => .inr rfl
theorem s_signed_Neg : SoundP Go.Proofs.Tryz.prog 135 F_signed_Neg := soundP_of (soundS_print (ctxOk_of tyT_ok (.consP s_signed_Right (.consP s_signed_made .nil)) .nil _ _) fol Go.Proofs.Tryz.func135 (by kernel_rfl) (by kernel_rfl) h_signed_Neg) false
def X_nat_Add : Ctx := ⟨tyT, lookC [(97, .P F_nat_Right), (128, .P F_nat_fit), (154, .P F_bits_Add32)], lookD [], false, { join := [(4, [0, 1]), (12, [1, 6, 7, 9, 10, 30, 31, 32])], blk := [], loop := [(8, [1, 6, 7, 30, 31, 32])], own := [], frz := [61], buf := [] }⟩
theorem e_nat_Add : (fun a0 a1 => evBody X_nat_Add Go.Proofs.Tryz.f146 [a0, a1]) = fun a0 a1 => B_nat_Add [a0, a1] := by kernel_rfl
theorem h_nat_Add : ∀ args, B_nat_Add args = evBody X_nat_Add Go.Proofs.Tryz.f146 args ∨ B_nat_Add args = .leaf failM
  | [] => .inr rfl
  | [_] => .inr rfl
  | [a0, a1] => .inl (congrFun (congrFun e_nat_Add a0) a1).symm
  | _ :: _ :: _ :: _ => .inr rfl
theorem s_nat_Add : SoundP Go.Proofs.Tryz.prog 146 F_nat_Add := soundP_of (soundS_print (ctxOk_of tyT_ok (.consP s_nat_Right (.consP s_nat_fit (.consP s_bits_Add32 .nil))) .nil _ _) fol Go.Proofs.Tryz.func146 (by kernel_rfl) (by kernel_rfl) h_nat_Add) false
def X_nat_Sub : Ctx := ⟨tyT, lookC [(97, .P F_nat_Right), (98, .P F_nat_order), (128, .P F_nat_fit), (155, .P F_bits_Sub32)], lookD [], false, { join := [(10, [1, 6, 7, 9, 10, 28, 29, 30])], blk := [], loop := [(6, [1, 6, 7, 28, 29, 30])], own := [], frz := [56], buf := [] }⟩
theorem e_nat_Sub : (fun a0 a1 => evBody X_nat_Sub Go.Proofs.Tryz.f147 [a0, a1]) = fun a0 a1 => B_nat_Sub [a0, a1] := by kernel_rfl
theorem h_nat_Sub : ∀ args, B_nat_Sub args = evBody X_nat_Sub Go.Proofs.Tryz.f147 args ∨ B_nat_Sub args = .leaf failM
  | [] => .inr rfl
  | [_] => .inr rfl
  | [a0, a1] => .inl (congrFun (congrFun e_nat_Sub a0) a1).symm
  | _ :: _ :: _ :: _ => .inr rfl
theorem s_nat_Sub : SoundP Go.Proofs.Tryz.prog 147 F_nat_Sub := soundP_of (soundS_print (ctxOk_of tyT_ok (.consP s_nat_Right (.consP s_nat_order (.consP s_nat_fit (.consP s_bits_Sub32 .nil)))) .nil _ _) fol Go.Proofs.Tryz.func147 (by kernel_rfl) (by kernel_rfl) h_nat_Sub) false
def X_signed_DivMod : Ctx := ⟨tyT, lookC [(66, .P F_signed_both), (69, .P F_nat_Of), (100, .P F_signed_made), (112, .P F_nat_DivMod), (146, .P F_nat_Add), (147, .P F_nat_Sub)], lookD [], false, { join := [(5, [2, 3, 4, 5, 7, 8])], blk := [], loop := [], own := [], frz := [], buf := [] }⟩
theorem e_signed_DivMod : (fun a0 a1 => evBody X_signed_DivMod Go.Proofs.Tryz.f153 [a0, a1]) = fun a0 a1 => B_signed_DivMod [a0, a1] := by kernel_rfl
theorem h_signed_DivMod : ∀ args, B_signed_DivMod args = evBody X_signed_DivMod Go.Proofs.Tryz.f153 args ∨ B_signed_DivMod args = .leaf failM
  | [] => .inr rfl
  | [_] => .inr rfl
  | [a0, a1] => .inl (congrFun (congrFun e_signed_DivMod a0) a1).symm
  | _ :: _ :: _ :: _ => .inr rfl
theorem s_signed_DivMod : SoundP Go.Proofs.Tryz.prog 153 F_signed_DivMod := soundP_of (soundS_print (ctxOk_of tyT_ok (.consP s_signed_both (.consP s_nat_Of (.consP s_signed_made (.consP s_nat_DivMod (.consP s_nat_Add (.consP s_nat_Sub .nil)))))) .nil _ _) fol Go.Proofs.Tryz.func153 (by kernel_rfl) (by kernel_rfl) h_signed_DivMod) false
def X_ratio_Make : Ctx := ⟨tyT, lookC [(77, .P F_signed_Gcd), (135, .P F_signed_Neg), (153, .P F_signed_DivMod)], lookD [], false, { join := [(5, [2, 3, 4, 6])], blk := [], loop := [], own := [], frz := [], buf := [] }⟩
theorem e_ratio_Make : (fun a0 a1 => evBody X_ratio_Make Go.Proofs.Tryz.f140 [a0, a1]) = fun a0 a1 => B_ratio_Make [a0, a1] := by kernel_rfl
theorem h_ratio_Make : ∀ args, B_ratio_Make args = evBody X_ratio_Make Go.Proofs.Tryz.f140 args ∨ B_ratio_Make args = .leaf failM
  | [] => .inr rfl
  | [_] => .inr rfl
  | [a0, a1] => .inl (congrFun (congrFun e_ratio_Make a0) a1).symm
  | _ :: _ :: _ :: _ => .inr rfl
theorem s_ratio_Make : SoundP Go.Proofs.Tryz.prog 140 F_ratio_Make := soundP_of (soundS_print (ctxOk_of tyT_ok (.consP s_signed_Gcd (.consP s_signed_Neg (.consP s_signed_DivMod .nil))) .nil _ _) fol Go.Proofs.Tryz.func140 (by kernel_rfl) (by kernel_rfl) h_ratio_Make) false
def X_ratio_term_over : Ctx := ⟨tyT, lookC [(140, .P F_ratio_Make)], lookD [], false, { join := [], blk := [], loop := [], own := [], frz := [], buf := [] }⟩
theorem e_ratio_term_over : (fun a0 a1 => evBody X_ratio_term_over Go.Proofs.Tryz.f118 [a0, a1]) = fun a0 a1 => B_ratio_term_over [a0, a1] := by kernel_rfl
theorem h_ratio_term_over : ∀ args, B_ratio_term_over args = evBody X_ratio_term_over Go.Proofs.Tryz.f118 args ∨ B_ratio_term_over args = .leaf failM
  | [] => .inr rfl
  | [_] => .inr rfl
  | [a0, a1] => .inl (congrFun (congrFun e_ratio_term_over a0) a1).symm
  | _ :: _ :: _ :: _ => .inr rfl
theorem s_ratio_term_over : SoundP Go.Proofs.Tryz.prog 118 F_ratio_term_over := soundP_of (soundS_print (ctxOk_of tyT_ok (.consP s_ratio_Make .nil) .nil _ _) fol Go.Proofs.Tryz.func118 (by kernel_rfl) (by kernel_rfl) h_ratio_term_over) false
def X_ratio_Mul : Ctx := ⟨tyT, lookC [(35, .P F_ratio_both), (37, .P F_ratio_times), (118, .P F_ratio_term_over)], lookD [], false, { join := [], blk := [], loop := [], own := [], frz := [], buf := [] }⟩
theorem e_ratio_Mul : (fun a0 a1 => evBody X_ratio_Mul Go.Proofs.Tryz.f87 [a0, a1]) = fun a0 a1 => B_ratio_Mul [a0, a1] := by kernel_rfl
theorem h_ratio_Mul : ∀ args, B_ratio_Mul args = evBody X_ratio_Mul Go.Proofs.Tryz.f87 args ∨ B_ratio_Mul args = .leaf failM
  | [] => .inr rfl
  | [_] => .inr rfl
  | [a0, a1] => .inl (congrFun (congrFun e_ratio_Mul a0) a1).symm
  | _ :: _ :: _ :: _ => .inr rfl
theorem s_ratio_Mul : SoundP Go.Proofs.Tryz.prog 87 F_ratio_Mul := soundP_of (soundS_print (ctxOk_of tyT_ok (.consP s_ratio_both (.consP s_ratio_times (.consP s_ratio_term_over .nil))) .nil _ _) fol Go.Proofs.Tryz.func87 (by kernel_rfl) (by kernel_rfl) h_ratio_Mul) false
def X_plex_must : Ctx := ⟨tyT, lookC [], lookD [], false, { join := [], blk := [], loop := [], own := [], frz := [], buf := [] }⟩
theorem e_plex_must : (fun a0 a1 => evBody X_plex_must Go.Proofs.Tryz.f85 [a0, a1]) = fun a0 a1 => B_plex_must [a0, a1] := by kernel_rfl
theorem h_plex_must : ∀ args, B_plex_must args = evBody X_plex_must Go.Proofs.Tryz.f85 args ∨ B_plex_must args = .leaf failM
  | [] => .inr rfl
  | [_] => .inr rfl
  | [a0, a1] => .inl (congrFun (congrFun e_plex_must a0) a1).symm
  | _ :: _ :: _ :: _ => .inr rfl
theorem s_plex_must : SoundP Go.Proofs.Tryz.prog 85 F_plex_must := soundP_of (soundS_print (ctxOk_of tyT_ok .nil .nil _ _) fol Go.Proofs.Tryz.func85 (by kernel_rfl) (by kernel_rfl) h_plex_must) false
def X_plex_mul : Ctx := ⟨tyT, lookC [(85, .P F_plex_must), (87, .P F_ratio_Mul)], lookD [], false, { join := [], blk := [], loop := [], own := [], frz := [], buf := [] }⟩
theorem e_plex_mul : (fun a0 a1 => evBody X_plex_mul Go.Proofs.Tryz.f53 [a0, a1]) = fun a0 a1 => B_plex_mul [a0, a1] := by kernel_rfl
theorem h_plex_mul : ∀ args, B_plex_mul args = evBody X_plex_mul Go.Proofs.Tryz.f53 args ∨ B_plex_mul args = .leaf failM
  | [] => .inr rfl
  | [_] => .inr rfl
  | [a0, a1] => .inl (congrFun (congrFun e_plex_mul a0) a1).symm
  | _ :: _ :: _ :: _ => .inr rfl
theorem s_plex_mul : SoundP Go.Proofs.Tryz.prog 53 F_plex_mul := soundP_of (soundS_print (ctxOk_of tyT_ok (.consP s_plex_must (.consP s_ratio_Mul .nil)) .nil _ _) fol Go.Proofs.Tryz.func53 (by kernel_rfl) (by kernel_rfl) h_plex_mul) false
def X_nat_Cmp : Ctx := ⟨tyT, lookC [(97, .P F_nat_Right), (98, .P F_nat_order)], lookD [], false, { join := [], blk := [], loop := [], own := [], frz := [], buf := [] }⟩
theorem e_nat_Cmp : (fun a0 a1 => evBody X_nat_Cmp Go.Proofs.Tryz.f67 [a0, a1]) = fun a0 a1 => B_nat_Cmp [a0, a1] := by kernel_rfl
theorem h_nat_Cmp : ∀ args, B_nat_Cmp args = evBody X_nat_Cmp Go.Proofs.Tryz.f67 args ∨ B_nat_Cmp args = .leaf failM
  | [] => .inr rfl
  | [_] => .inr rfl
  | [a0, a1] => .inl (congrFun (congrFun e_nat_Cmp a0) a1).symm
  | _ :: _ :: _ :: _ => .inr rfl
theorem s_nat_Cmp : SoundP Go.Proofs.Tryz.prog 67 F_nat_Cmp := soundP_of (soundS_print (ctxOk_of tyT_ok (.consP s_nat_Right (.consP s_nat_order .nil)) .nil _ _) fol Go.Proofs.Tryz.func67 (by kernel_rfl) (by kernel_rfl) h_nat_Cmp) false
def X_signed_Add : Ctx := ⟨tyT, lookC [(66, .P F_signed_both), (67, .P F_nat_Cmp), (100, .P F_signed_made), (146, .P F_nat_Add), (147, .P F_nat_Sub)], lookD [], false, { join := [(8, [2, 3, 4])], blk := [], loop := [], own := [], frz := [], buf := [] }⟩
theorem e_signed_Add : (fun a0 a1 => evBody X_signed_Add Go.Proofs.Tryz.f136 [a0, a1]) = fun a0 a1 => B_signed_Add [a0, a1] := by kernel_rfl
theorem h_signed_Add : ∀ args, B_signed_Add args = evBody X_signed_Add Go.Proofs.Tryz.f136 args ∨ B_signed_Add args = .leaf failM
  | [] => .inr rfl
  | [_] => .inr rfl
  | [a0, a1] => .inl (congrFun (congrFun e_signed_Add a0) a1).symm
  | _ :: _ :: _ :: _ => .inr rfl
theorem s_signed_Add : SoundP Go.Proofs.Tryz.prog 136 F_signed_Add := soundP_of (soundS_print (ctxOk_of tyT_ok (.consP s_signed_both (.consP s_nat_Cmp (.consP s_signed_made (.consP s_nat_Add (.consP s_nat_Sub .nil))))) .nil _ _) fol Go.Proofs.Tryz.func136 (by kernel_rfl) (by kernel_rfl) h_signed_Add) false
def X_ratio_term_plus : Ctx := ⟨tyT, lookC [(136, .P F_signed_Add)], lookD [], false, { join := [], blk := [], loop := [], own := [], frz := [], buf := [] }⟩
theorem e_ratio_term_plus : (fun a0 a1 => evBody X_ratio_term_plus Go.Proofs.Tryz.f117 [a0, a1]) = fun a0 a1 => B_ratio_term_plus [a0, a1] := by kernel_rfl
theorem h_ratio_term_plus : ∀ args, B_ratio_term_plus args = evBody X_ratio_term_plus Go.Proofs.Tryz.f117 args ∨ B_ratio_term_plus args = .leaf failM
  | [] => .inr rfl
  | [_] => .inr rfl
  | [a0, a1] => .inl (congrFun (congrFun e_ratio_term_plus a0) a1).symm
  | _ :: _ :: _ :: _ => .inr rfl
theorem s_ratio_term_plus : SoundP Go.Proofs.Tryz.prog 117 F_ratio_term_plus := soundP_of (soundS_print (ctxOk_of tyT_ok (.consP s_signed_Add .nil) .nil _ _) fol Go.Proofs.Tryz.func117 (by kernel_rfl) (by kernel_rfl) h_ratio_term_plus) false
def X_ratio_Add : Ctx := ⟨tyT, lookC [(35, .P F_ratio_both), (37, .P F_ratio_times), (117, .P F_ratio_term_plus), (118, .P F_ratio_term_over)], lookD [], false, { join := [], blk := [], loop := [], own := [], frz := [], buf := [] }⟩
theorem e_ratio_Add : (fun a0 a1 => evBody X_ratio_Add Go.Proofs.Tryz.f86 [a0, a1]) = fun a0 a1 => B_ratio_Add [a0, a1] := by kernel_rfl
theorem h_ratio_Add : ∀ args, B_ratio_Add args = evBody X_ratio_Add Go.Proofs.Tryz.f86 args ∨ B_ratio_Add args = .leaf failM
  | [] => .inr rfl
  | [_] => .inr rfl
  | [a0, a1] => .inl (congrFun (congrFun e_ratio_Add a0) a1).symm
  | _ :: _ :: _ :: _ => .inr rfl
theorem s_ratio_Add : SoundP Go.Proofs.Tryz.prog 86 F_ratio_Add := soundP_of (soundS_print (ctxOk_of tyT_ok (.consP s_ratio_both (.consP s_ratio_times (.consP s_ratio_term_plus (.consP s_ratio_term_over .nil)))) .nil _ _) fol Go.Proofs.Tryz.func86 (by kernel_rfl) (by kernel_rfl) h_ratio_Add) false
def X_plex_add : Ctx := ⟨tyT, lookC [(85, .P F_plex_must), (86, .P F_ratio_Add)], lookD [], false, { join := [], blk := [], loop := [], own := [], frz := [], buf := [] }⟩
theorem e_plex_add : (fun a0 a1 => evBody X_plex_add Go.Proofs.Tryz.f52 [a0, a1]) = fun a0 a1 => B_plex_add [a0, a1] := by kernel_rfl
theorem h_plex_add : ∀ args, B_plex_add args = evBody X_plex_add Go.Proofs.Tryz.f52 args ∨ B_plex_add args = .leaf failM
  | [] => .inr rfl
  | [_] => .inr rfl
  | [a0, a1] => .inl (congrFun (congrFun e_plex_add a0) a1).symm
  | _ :: _ :: _ :: _ => .inr rfl
theorem s_plex_add : SoundP Go.Proofs.Tryz.prog 52 F_plex_add := soundP_of (soundS_print (ctxOk_of tyT_ok (.consP s_plex_must (.consP s_ratio_Add .nil)) .nil _ _) fol Go.Proofs.Tryz.func52 (by kernel_rfl) (by kernel_rfl) h_plex_add) false
def X_plex_least_c1 : Ctx := ⟨tyT, lookC [], lookD [], false, { join := [], blk := [], loop := [], own := [], frz := [], buf := [] }⟩
theorem e_plex_least_c1 : (fun a0 a1 a2 => evBody X_plex_least_c1 Go.Proofs.Tryz.f51 [a0, a1, a2]) = fun a0 a1 a2 => B_plex_least_c1 [a0, a1, a2] := by kernel_rfl
theorem h_plex_least_c1 : ∀ args, B_plex_least_c1 args = evBody X_plex_least_c1 Go.Proofs.Tryz.f51 args ∨ B_plex_least_c1 args = .leaf failM
  | [] => .inr rfl
  | [_] => .inr rfl
  | [_, _] => .inr rfl
  | [a0, a1, a2] => .inl (congrFun (congrFun (congrFun e_plex_least_c1 a0) a1) a2).symm
  | _ :: _ :: _ :: _ :: _ => .inr rfl
theorem s_plex_least_c1 : SoundS Go.Proofs.Tryz.prog 51 F_plex_least_c1 := soundS_print (ctxOk_of tyT_ok .nil .nil _ _) fol Go.Proofs.Tryz.func51 (by kernel_rfl) (by kernel_rfl) h_plex_least_c1
def X_plex_least_c2 : Ctx := ⟨tyT, lookC [], lookD [], false, { join := [], blk := [], loop := [], own := [], frz := [], buf := [] }⟩
theorem e_plex_least_c2 : (fun a0 a1 => evBody X_plex_least_c2 Go.Proofs.Tryz.f55 [a0, a1]) = fun a0 a1 => B_plex_least_c2 [a0, a1] := by kernel_rfl
theorem h_plex_least_c2 : ∀ args, B_plex_least_c2 args = evBody X_plex_least_c2 Go.Proofs.Tryz.f55 args ∨ B_plex_least_c2 args = .leaf failM
  | [] => .inr rfl
  | [_] => .inr rfl
  | [a0, a1] => .inl (congrFun (congrFun e_plex_least_c2 a0) a1).symm
  | _ :: _ :: _ :: _ => .inr rfl
theorem s_plex_least_c2 : SoundS Go.Proofs.Tryz.prog 55 F_plex_least_c2 := soundS_print (ctxOk_of tyT_ok .nil .nil _ _) fol Go.Proofs.Tryz.func55 (by kernel_rfl) (by kernel_rfl) h_plex_least_c2
def X_plex_tableau_answer_c1 : Ctx := ⟨tyT, lookC [], lookD [], false, { join := [], blk := [], loop := [], own := [], frz := [], buf := [] }⟩
theorem e_plex_tableau_answer_c1 : (fun a0 a1 => evBody X_plex_tableau_answer_c1 Go.Proofs.Tryz.f75 [a0, a1]) = fun a0 a1 => B_plex_tableau_answer_c1 [a0, a1] := by kernel_rfl
theorem h_plex_tableau_answer_c1 : ∀ args, B_plex_tableau_answer_c1 args = evBody X_plex_tableau_answer_c1 Go.Proofs.Tryz.f75 args ∨ B_plex_tableau_answer_c1 args = .leaf failM
  | [] => .inr rfl
  | [_] => .inr rfl
  | [a0, a1] => .inl (congrFun (congrFun e_plex_tableau_answer_c1 a0) a1).symm
  | _ :: _ :: _ :: _ => .inr rfl
theorem s_plex_tableau_answer_c1 : SoundS Go.Proofs.Tryz.prog 75 F_plex_tableau_answer_c1 := soundS_print (ctxOk_of tyT_ok .nil .nil _ _) fol Go.Proofs.Tryz.func75 (by kernel_rfl) (by kernel_rfl) h_plex_tableau_answer_c1
def X_plex_proved_c1 : Ctx := ⟨tyT, lookC [], lookD [], false, { join := [], blk := [], loop := [], own := [], frz := [], buf := [] }⟩
theorem e_plex_proved_c1 : (fun a0 a1 => evBody X_plex_proved_c1 Go.Proofs.Tryz.f82 [a0, a1]) = fun a0 a1 => B_plex_proved_c1 [a0, a1] := by kernel_rfl
theorem h_plex_proved_c1 : ∀ args, B_plex_proved_c1 args = evBody X_plex_proved_c1 Go.Proofs.Tryz.f82 args ∨ B_plex_proved_c1 args = .leaf failM
  | [] => .inr rfl
  | [_] => .inr rfl
  | [a0, a1] => .inl (congrFun (congrFun e_plex_proved_c1 a0) a1).symm
  | _ :: _ :: _ :: _ => .inr rfl
theorem s_plex_proved_c1 : SoundS Go.Proofs.Tryz.prog 82 F_plex_proved_c1 := soundS_print (ctxOk_of tyT_ok .nil .nil _ _) fol Go.Proofs.Tryz.func82 (by kernel_rfl) (by kernel_rfl) h_plex_proved_c1
def X_plex_fit_c1 : Ctx := ⟨tyT, lookC [], lookD [], false, { join := [], blk := [], loop := [], own := [], frz := [], buf := [] }⟩
theorem e_plex_fit_c1 : (fun a0 a1 => evBody X_plex_fit_c1 Go.Proofs.Tryz.f116 [a0, a1]) = fun a0 a1 => B_plex_fit_c1 [a0, a1] := by kernel_rfl
theorem h_plex_fit_c1 : ∀ args, B_plex_fit_c1 args = evBody X_plex_fit_c1 Go.Proofs.Tryz.f116 args ∨ B_plex_fit_c1 args = .leaf failM
  | [] => .inr rfl
  | [_] => .inr rfl
  | [a0, a1] => .inl (congrFun (congrFun e_plex_fit_c1 a0) a1).symm
  | _ :: _ :: _ :: _ => .inr rfl
theorem s_plex_fit_c1 : SoundS Go.Proofs.Tryz.prog 116 F_plex_fit_c1 := soundS_print (ctxOk_of tyT_ok .nil .nil _ _) fol Go.Proofs.Tryz.func116 (by kernel_rfl) (by kernel_rfl) h_plex_fit_c1
def X_plex_dot : Ctx := ⟨tyT, lookC [(19, .P F_ratio_Of), (52, .P F_plex_add), (53, .P F_plex_mul)], D_plex_dot, true, { join := [], blk := [], loop := [(3, [1, 4, 5, 9, 10, 11])], own := [], frz := [], buf := [] }⟩
theorem e_plex_dot : (fun a0 a1 => evBody X_plex_dot Go.Proofs.Tryz.f50 [a0, a1]) = fun a0 a1 => B_plex_dot [a0, a1] := by kernel_rfl
theorem h_plex_dot : ∀ args, B_plex_dot args = evBody X_plex_dot Go.Proofs.Tryz.f50 args ∨ B_plex_dot args = .leaf failM
  | [] => .inr rfl
  | [_] => .inr rfl
  | [a0, a1] => .inl (congrFun (congrFun e_plex_dot a0) a1).symm
  | _ :: _ :: _ :: _ => .inr rfl
theorem s_plex_dot : SoundS Go.Proofs.Tryz.prog 50 F_plex_dot := soundS_print (ctxOk_of tyT_ok (.consP s_ratio_Of (.consP s_plex_add (.consP s_plex_mul .nil))) (.cons s_plex_least_c1 (.cons s_plex_least_c2 (.cons s_plex_tableau_answer_c1 (.cons s_plex_proved_c1 (.cons s_plex_fit_c1 .nil))))) _ _) fol Go.Proofs.Tryz.func50 (by kernel_rfl) (by kernel_rfl) h_plex_dot
def X_plex_sign : Ctx := ⟨tyT, lookC [], lookD [], false, { join := [], blk := [], loop := [], own := [], frz := [], buf := [] }⟩
theorem e_plex_sign : (fun a0 => evBody X_plex_sign Go.Proofs.Tryz.f48 [a0]) = fun a0 => B_plex_sign [a0] := by kernel_rfl
theorem h_plex_sign : ∀ args, B_plex_sign args = evBody X_plex_sign Go.Proofs.Tryz.f48 args ∨ B_plex_sign args = .leaf failM
  | [] => .inr rfl
  | [a0] => .inl (congrFun e_plex_sign a0).symm
  | _ :: _ :: _ => .inr rfl
theorem s_plex_sign : SoundP Go.Proofs.Tryz.prog 48 F_plex_sign := soundP_of (soundS_print (ctxOk_of tyT_ok .nil .nil _ _) fol Go.Proofs.Tryz.func48 (by kernel_rfl) (by kernel_rfl) h_plex_sign) false
def X_ratio_Neg : Ctx := ⟨tyT, lookC [(42, .P F_ratio_Right), (135, .P F_signed_Neg), (136, .P F_signed_Add)], lookD [], false, { join := [], blk := [], loop := [], own := [], frz := [], buf := [] }⟩
theorem e_ratio_Neg : (fun a0 => evBody X_ratio_Neg Go.Proofs.Tryz.f111 [a0]) = fun a0 => B_ratio_Neg [a0] := by kernel_rfl
theorem h_ratio_Neg : ∀ args, B_ratio_Neg args = evBody X_ratio_Neg Go.Proofs.Tryz.f111 args ∨ B_ratio_Neg args = .leaf failM
  | [] => .inr rfl
  | [a0] => .inl (congrFun e_ratio_Neg a0).symm
  | _ :: _ :: _ => .inr rfl
theorem s_ratio_Neg : SoundP Go.Proofs.Tryz.prog 111 F_ratio_Neg := soundP_of (soundS_print (ctxOk_of tyT_ok (.consP s_ratio_Right (.consP s_signed_Neg (.consP s_signed_Add .nil))) .nil _ _) fol Go.Proofs.Tryz.func111 (by kernel_rfl) (by kernel_rfl) h_ratio_Neg) false
def X_plex_neg : Ctx := ⟨tyT, lookC [(85, .P F_plex_must), (111, .P F_ratio_Neg)], lookD [], false, { join := [], blk := [], loop := [], own := [], frz := [], buf := [] }⟩
theorem e_plex_neg : (fun a0 => evBody X_plex_neg Go.Proofs.Tryz.f76 [a0]) = fun a0 => B_plex_neg [a0] := by kernel_rfl
theorem h_plex_neg : ∀ args, B_plex_neg args = evBody X_plex_neg Go.Proofs.Tryz.f76 args ∨ B_plex_neg args = .leaf failM
  | [] => .inr rfl
  | [a0] => .inl (congrFun e_plex_neg a0).symm
  | _ :: _ :: _ => .inr rfl
theorem s_plex_neg : SoundP Go.Proofs.Tryz.prog 76 F_plex_neg := soundP_of (soundS_print (ctxOk_of tyT_ok (.consP s_plex_must (.consP s_ratio_Neg .nil)) .nil _ _) fol Go.Proofs.Tryz.func76 (by kernel_rfl) (by kernel_rfl) h_plex_neg) false
def X_plex_sub : Ctx := ⟨tyT, lookC [(52, .P F_plex_add), (76, .P F_plex_neg)], lookD [], false, { join := [], blk := [], loop := [], own := [], frz := [], buf := [] }⟩
theorem e_plex_sub : (fun a0 a1 => evBody X_plex_sub Go.Proofs.Tryz.f54 [a0, a1]) = fun a0 a1 => B_plex_sub [a0, a1] := by kernel_rfl
theorem h_plex_sub : ∀ args, B_plex_sub args = evBody X_plex_sub Go.Proofs.Tryz.f54 args ∨ B_plex_sub args = .leaf failM
  | [] => .inr rfl
  | [_] => .inr rfl
  | [a0, a1] => .inl (congrFun (congrFun e_plex_sub a0) a1).symm
  | _ :: _ :: _ :: _ => .inr rfl
theorem s_plex_sub : SoundP Go.Proofs.Tryz.prog 54 F_plex_sub := soundP_of (soundS_print (ctxOk_of tyT_ok (.consP s_plex_add (.consP s_plex_neg .nil)) .nil _ _) fol Go.Proofs.Tryz.func54 (by kernel_rfl) (by kernel_rfl) h_plex_sub) false
def X_plex_least : Ctx := ⟨tyT, lookC [(19, .P F_ratio_Of), (48, .P F_plex_sign), (50, .R F_plex_dot), (52, .P F_plex_add), (53, .P F_plex_mul), (54, .P F_plex_sub)], lookD [], false, { join := [(7, [1, 2, 3, 6, 7, 8, 9, 14, 15]), (10, [1, 2, 3, 6, 7, 9, 10, 14, 15])], blk := [], loop := [(3, [1, 2, 3, 6, 7, 14, 15])], own := [], frz := [], buf := [] }⟩
theorem e_plex_least : (fun a0 a1 a2 => evBody X_plex_least Go.Proofs.Tryz.f27 [a0, a1, a2]) = fun a0 a1 a2 => B_plex_least [a0, a1, a2] := by kernel_rfl
theorem h_plex_least : ∀ args, B_plex_least args = evBody X_plex_least Go.Proofs.Tryz.f27 args ∨ B_plex_least args = .leaf failM
  | [] => .inr rfl
  | [_] => .inr rfl
  | [_, _] => .inr rfl
  | [a0, a1, a2] => .inl (congrFun (congrFun (congrFun e_plex_least a0) a1) a2).symm
  | _ :: _ :: _ :: _ :: _ => .inr rfl
theorem s_plex_least : SoundS Go.Proofs.Tryz.prog 27 F_plex_least := soundS_print (ctxOk_of tyT_ok (.consP s_ratio_Of (.consP s_plex_sign (.consR s_plex_dot (.consP s_plex_add (.consP s_plex_mul (.consP s_plex_sub .nil)))))) .nil _ _) fol Go.Proofs.Tryz.func27 (by kernel_rfl) (by kernel_rfl) h_plex_least
def X_plex_Bound_c1 : Ctx := ⟨tyT, lookC [(27, .R F_plex_least)], lookD [], false, { join := [], blk := [], loop := [], own := [], frz := [], buf := [] }⟩
theorem e_plex_Bound_c1 : (fun a0 a1 a2 => evBody X_plex_Bound_c1 Go.Proofs.Tryz.f26 [a0, a1, a2]) = fun a0 a1 a2 => B_plex_Bound_c1 [a0, a1, a2] := by kernel_rfl
theorem h_plex_Bound_c1 : ∀ args, B_plex_Bound_c1 args = evBody X_plex_Bound_c1 Go.Proofs.Tryz.f26 args ∨ B_plex_Bound_c1 args = .leaf failM
  | [] => .inr rfl
  | [_] => .inr rfl
  | [_, _] => .inr rfl
  | [a0, a1, a2] => .inl (congrFun (congrFun (congrFun e_plex_Bound_c1 a0) a1) a2).symm
  | _ :: _ :: _ :: _ :: _ => .inr rfl
theorem s_plex_Bound_c1 : SoundS Go.Proofs.Tryz.prog 26 F_plex_Bound_c1 := soundS_print (ctxOk_of tyT_ok (.consR s_plex_least .nil) .nil _ _) fol Go.Proofs.Tryz.func26 (by kernel_rfl) (by kernel_rfl) h_plex_Bound_c1
def X_plex_tableau_sum : Ctx := ⟨tyT, lookC [(19, .P F_ratio_Of), (52, .P F_plex_add), (53, .P F_plex_mul)], lookD [], false, { join := [], blk := [], loop := [(3, [0, 4, 5, 15, 16, 17])], own := [], frz := [], buf := [] }⟩
theorem e_plex_tableau_sum : (fun a0 a1 => evBody X_plex_tableau_sum Go.Proofs.Tryz.f70 [a0, a1]) = fun a0 a1 => B_plex_tableau_sum [a0, a1] := by kernel_rfl
theorem h_plex_tableau_sum : ∀ args, B_plex_tableau_sum args = evBody X_plex_tableau_sum Go.Proofs.Tryz.f70 args ∨ B_plex_tableau_sum args = .leaf failM
  | [] => .inr rfl
  | [_] => .inr rfl
  | [a0, a1] => .inl (congrFun (congrFun e_plex_tableau_sum a0) a1).symm
  | _ :: _ :: _ :: _ => .inr rfl
theorem s_plex_tableau_sum : SoundS Go.Proofs.Tryz.prog 70 F_plex_tableau_sum := soundS_print (ctxOk_of tyT_ok (.consP s_ratio_Of (.consP s_plex_add (.consP s_plex_mul .nil))) .nil _ _) fol Go.Proofs.Tryz.func70 (by kernel_rfl) (by kernel_rfl) h_plex_tableau_sum
def X_plex_begin : Ctx := ⟨tyT, lookC [(19, .P F_ratio_Of), (70, .S F_plex_tableau_sum)], lookD [], false, { join := [], blk := [], loop := [(4, [2, 5, 6, 24, 25]), (12, [2, 5, 6, 83, 84, 85]), (17, [2, 5, 6, 10, 12, 13, 83, 84, 85, 99, 100, 101])], own := [], frz := [], buf := [] }⟩
theorem e_plex_begin : (fun a0 a1 => evBody X_plex_begin Go.Proofs.Tryz.f40 [a0, a1]) = fun a0 a1 => B_plex_begin [a0, a1] := by kernel_rfl
theorem h_plex_begin : ∀ args, B_plex_begin args = evBody X_plex_begin Go.Proofs.Tryz.f40 args ∨ B_plex_begin args = .leaf failM
  | [] => .inr rfl
  | [_] => .inr rfl
  | [a0, a1] => .inl (congrFun (congrFun e_plex_begin a0) a1).symm
  | _ :: _ :: _ :: _ => .inr rfl
theorem s_plex_begin : SoundS Go.Proofs.Tryz.prog 40 F_plex_begin := soundS_print (ctxOk_of tyT_ok (.consP s_ratio_Of (.consS s_plex_tableau_sum .nil)) .nil _ _) fol Go.Proofs.Tryz.func40 (by kernel_rfl) (by kernel_rfl) h_plex_begin
def X_signed_Cmp : Ctx := ⟨tyT, lookC [(66, .P F_signed_both), (67, .P F_nat_Cmp)], lookD [], false, { join := [], blk := [], loop := [], own := [], frz := [], buf := [] }⟩
theorem e_signed_Cmp : (fun a0 a1 => evBody X_signed_Cmp Go.Proofs.Tryz.f36 [a0, a1]) = fun a0 a1 => B_signed_Cmp [a0, a1] := by kernel_rfl
theorem h_signed_Cmp : ∀ args, B_signed_Cmp args = evBody X_signed_Cmp Go.Proofs.Tryz.f36 args ∨ B_signed_Cmp args = .leaf failM
  | [] => .inr rfl
  | [_] => .inr rfl
  | [a0, a1] => .inl (congrFun (congrFun e_signed_Cmp a0) a1).symm
  | _ :: _ :: _ :: _ => .inr rfl
theorem s_signed_Cmp : SoundP Go.Proofs.Tryz.prog 36 F_signed_Cmp := soundP_of (soundS_print (ctxOk_of tyT_ok (.consP s_signed_both (.consP s_nat_Cmp .nil)) .nil _ _) fol Go.Proofs.Tryz.func36 (by kernel_rfl) (by kernel_rfl) h_signed_Cmp) false
def X_ratio_Cmp : Ctx := ⟨tyT, lookC [(35, .P F_ratio_both), (36, .P F_signed_Cmp), (37, .P F_ratio_times)], lookD [], false, { join := [], blk := [], loop := [], own := [], frz := [], buf := [] }⟩
theorem e_ratio_Cmp : (fun a0 a1 => evBody X_ratio_Cmp Go.Proofs.Tryz.f18 [a0, a1]) = fun a0 a1 => B_ratio_Cmp [a0, a1] := by kernel_rfl
theorem h_ratio_Cmp : ∀ args, B_ratio_Cmp args = evBody X_ratio_Cmp Go.Proofs.Tryz.f18 args ∨ B_ratio_Cmp args = .leaf failM
  | [] => .inr rfl
  | [_] => .inr rfl
  | [a0, a1] => .inl (congrFun (congrFun e_ratio_Cmp a0) a1).symm
  | _ :: _ :: _ :: _ => .inr rfl
theorem s_ratio_Cmp : SoundP Go.Proofs.Tryz.prog 18 F_ratio_Cmp := soundP_of (soundS_print (ctxOk_of tyT_ok (.consP s_ratio_both (.consP s_signed_Cmp (.consP s_ratio_times .nil))) .nil _ _) fol Go.Proofs.Tryz.func18 (by kernel_rfl) (by kernel_rfl) h_ratio_Cmp) false
def X_plex_cmp : Ctx := ⟨tyT, lookC [(18, .P F_ratio_Cmp)], lookD [], false, { join := [], blk := [], loop := [], own := [], frz := [], buf := [] }⟩
theorem e_plex_cmp : (fun a0 a1 => evBody X_plex_cmp Go.Proofs.Tryz.f83 [a0, a1]) = fun a0 a1 => B_plex_cmp [a0, a1] := by kernel_rfl
theorem h_plex_cmp : ∀ args, B_plex_cmp args = evBody X_plex_cmp Go.Proofs.Tryz.f83 args ∨ B_plex_cmp args = .leaf failM
  | [] => .inr rfl
  | [_] => .inr rfl
  | [a0, a1] => .inl (congrFun (congrFun e_plex_cmp a0) a1).symm
  | _ :: _ :: _ :: _ => .inr rfl
theorem s_plex_cmp : SoundP Go.Proofs.Tryz.prog 83 F_plex_cmp := soundP_of (soundS_print (ctxOk_of tyT_ok (.consP s_ratio_Cmp .nil) .nil _ _) fol Go.Proofs.Tryz.func83 (by kernel_rfl) (by kernel_rfl) h_plex_cmp) false
def X_plex_variable_below : Ctx := ⟨tyT, lookC [(83, .P F_plex_cmp)], lookD [], false, { join := [], blk := [], loop := [], own := [], frz := [], buf := [] }⟩
theorem e_plex_variable_below : (fun a0 => evBody X_plex_variable_below Go.Proofs.Tryz.f104 [a0]) = fun a0 => B_plex_variable_below [a0] := by kernel_rfl
theorem h_plex_variable_below : ∀ args, B_plex_variable_below args = evBody X_plex_variable_below Go.Proofs.Tryz.f104 args ∨ B_plex_variable_below args = .leaf failM
  | [] => .inr rfl
  | [a0] => .inl (congrFun e_plex_variable_below a0).symm
  | _ :: _ :: _ => .inr rfl
theorem s_plex_variable_below : SoundS Go.Proofs.Tryz.prog 104 F_plex_variable_below := soundS_print (ctxOk_of tyT_ok (.consP s_plex_cmp .nil) .nil _ _) fol Go.Proofs.Tryz.func104 (by kernel_rfl) (by kernel_rfl) h_plex_variable_below
def X_plex_variable_above : Ctx := ⟨tyT, lookC [(83, .P F_plex_cmp)], lookD [], false, { join := [], blk := [], loop := [], own := [], frz := [], buf := [] }⟩
theorem e_plex_variable_above : (fun a0 => evBody X_plex_variable_above Go.Proofs.Tryz.f129 [a0]) = fun a0 => B_plex_variable_above [a0] := by kernel_rfl
theorem h_plex_variable_above : ∀ args, B_plex_variable_above args = evBody X_plex_variable_above Go.Proofs.Tryz.f129 args ∨ B_plex_variable_above args = .leaf failM
  | [] => .inr rfl
  | [a0] => .inl (congrFun e_plex_variable_above a0).symm
  | _ :: _ :: _ => .inr rfl
theorem s_plex_variable_above : SoundS Go.Proofs.Tryz.prog 129 F_plex_variable_above := soundS_print (ctxOk_of tyT_ok (.consP s_plex_cmp .nil) .nil _ _) fol Go.Proofs.Tryz.func129 (by kernel_rfl) (by kernel_rfl) h_plex_variable_above
def X_plex_tableau_beyond : Ctx := ⟨tyT, lookC [(104, .S F_plex_variable_below), (129, .S F_plex_variable_above)], lookD [], false, { join := [], blk := [], loop := [(3, [0, 3, 10, 11, 12])], own := [], frz := [], buf := [] }⟩
theorem e_plex_tableau_beyond : (fun a0 => evBody X_plex_tableau_beyond Go.Proofs.Tryz.f102 [a0]) = fun a0 => B_plex_tableau_beyond [a0] := by kernel_rfl
theorem h_plex_tableau_beyond : ∀ args, B_plex_tableau_beyond args = evBody X_plex_tableau_beyond Go.Proofs.Tryz.f102 args ∨ B_plex_tableau_beyond args = .leaf failM
  | [] => .inr rfl
  | [a0] => .inl (congrFun e_plex_tableau_beyond a0).symm
  | _ :: _ :: _ => .inr rfl
theorem s_plex_tableau_beyond : SoundS Go.Proofs.Tryz.prog 102 F_plex_tableau_beyond := soundS_print (ctxOk_of tyT_ok (.consS s_plex_variable_below (.consS s_plex_variable_above .nil)) .nil _ _) fol Go.Proofs.Tryz.func102 (by kernel_rfl) (by kernel_rfl) h_plex_tableau_beyond
def X_plex_tableau_step : Ctx := ⟨tyT, lookC [], lookD [], false, { join := [(1, [0])], blk := [], loop := [], own := [], frz := [], buf := [] }⟩
theorem e_plex_tableau_step : (fun a0 => evBody X_plex_tableau_step Go.Proofs.Tryz.f103 [a0]) = fun a0 => B_plex_tableau_step [a0] := by kernel_rfl
theorem h_plex_tableau_step : ∀ args, B_plex_tableau_step args = evBody X_plex_tableau_step Go.Proofs.Tryz.f103 args ∨ B_plex_tableau_step args = .leaf failM
  | [] => .inr rfl
  | [a0] => .inl (congrFun e_plex_tableau_step a0).symm
  | _ :: _ :: _ => .inr rfl
theorem s_plex_tableau_step : SoundS Go.Proofs.Tryz.prog 103 F_plex_tableau_step := soundS_print (ctxOk_of tyT_ok .nil .nil _ _) fol Go.Proofs.Tryz.func103 (by kernel_rfl) (by kernel_rfl) h_plex_tableau_step
def X_plex_variable_mayFall : Ctx := ⟨tyT, lookC [(83, .P F_plex_cmp)], lookD [], false, { join := [], blk := [], loop := [], own := [], frz := [], buf := [] }⟩
theorem e_plex_variable_mayFall : (fun a0 => evBody X_plex_variable_mayFall Go.Proofs.Tryz.f130 [a0]) = fun a0 => B_plex_variable_mayFall [a0] := by kernel_rfl
theorem h_plex_variable_mayFall : ∀ args, B_plex_variable_mayFall args = evBody X_plex_variable_mayFall Go.Proofs.Tryz.f130 args ∨ B_plex_variable_mayFall args = .leaf failM
  | [] => .inr rfl
  | [a0] => .inl (congrFun e_plex_variable_mayFall a0).symm
  | _ :: _ :: _ => .inr rfl
theorem s_plex_variable_mayFall : SoundS Go.Proofs.Tryz.prog 130 F_plex_variable_mayFall := soundS_print (ctxOk_of tyT_ok (.consP s_plex_cmp .nil) .nil _ _) fol Go.Proofs.Tryz.func130 (by kernel_rfl) (by kernel_rfl) h_plex_variable_mayFall
def X_plex_variable_mayRise : Ctx := ⟨tyT, lookC [(83, .P F_plex_cmp)], lookD [], false, { join := [], blk := [], loop := [], own := [], frz := [], buf := [] }⟩
theorem e_plex_variable_mayRise : (fun a0 => evBody X_plex_variable_mayRise Go.Proofs.Tryz.f131 [a0]) = fun a0 => B_plex_variable_mayRise [a0] := by kernel_rfl
theorem h_plex_variable_mayRise : ∀ args, B_plex_variable_mayRise args = evBody X_plex_variable_mayRise Go.Proofs.Tryz.f131 args ∨ B_plex_variable_mayRise args = .leaf failM
  | [] => .inr rfl
  | [a0] => .inl (congrFun e_plex_variable_mayRise a0).symm
  | _ :: _ :: _ => .inr rfl
theorem s_plex_variable_mayRise : SoundS Go.Proofs.Tryz.prog 131 F_plex_variable_mayRise := soundS_print (ctxOk_of tyT_ok (.consP s_plex_cmp .nil) .nil _ _) fol Go.Proofs.Tryz.func131 (by kernel_rfl) (by kernel_rfl) h_plex_variable_mayRise
def X_plex_tableau_helps : Ctx := ⟨tyT, lookC [(48, .P F_plex_sign), (130, .S F_plex_variable_mayFall), (131, .S F_plex_variable_mayRise)], lookD [], false, { join := [(9, [0, 1, 2, 7, 8, 9, 12, 16, 17, 18])], blk := [], loop := [(3, [0, 1, 2, 7, 16, 17, 18])], own := [], frz := [], buf := [] }⟩
theorem e_plex_tableau_helps : (fun a0 a1 a2 => evBody X_plex_tableau_helps Go.Proofs.Tryz.f105 [a0, a1, a2]) = fun a0 a1 a2 => B_plex_tableau_helps [a0, a1, a2] := by kernel_rfl
theorem h_plex_tableau_helps : ∀ args, B_plex_tableau_helps args = evBody X_plex_tableau_helps Go.Proofs.Tryz.f105 args ∨ B_plex_tableau_helps args = .leaf failM
  | [] => .inr rfl
  | [_] => .inr rfl
  | [_, _] => .inr rfl
  | [a0, a1, a2] => .inl (congrFun (congrFun (congrFun e_plex_tableau_helps a0) a1) a2).symm
  | _ :: _ :: _ :: _ :: _ => .inr rfl
theorem s_plex_tableau_helps : SoundS Go.Proofs.Tryz.prog 105 F_plex_tableau_helps := soundS_print (ctxOk_of tyT_ok (.consP s_plex_sign (.consS s_plex_variable_mayFall (.consS s_plex_variable_mayRise .nil))) .nil _ _) fol Go.Proofs.Tryz.func105 (by kernel_rfl) (by kernel_rfl) h_plex_tableau_helps
def X_ratio_Div : Ctx := ⟨tyT, lookC [(35, .P F_ratio_both), (37, .P F_ratio_times), (118, .P F_ratio_term_over)], lookD [], false, { join := [], blk := [], loop := [], own := [], frz := [], buf := [] }⟩
theorem e_ratio_Div : (fun a0 a1 => evBody X_ratio_Div Go.Proofs.Tryz.f132 [a0, a1]) = fun a0 a1 => B_ratio_Div [a0, a1] := by kernel_rfl
theorem h_ratio_Div : ∀ args, B_ratio_Div args = evBody X_ratio_Div Go.Proofs.Tryz.f132 args ∨ B_ratio_Div args = .leaf failM
  | [] => .inr rfl
  | [_] => .inr rfl
  | [a0, a1] => .inl (congrFun (congrFun e_ratio_Div a0) a1).symm
  | _ :: _ :: _ :: _ => .inr rfl
theorem s_ratio_Div : SoundP Go.Proofs.Tryz.prog 132 F_ratio_Div := soundP_of (soundS_print (ctxOk_of tyT_ok (.consP s_ratio_both (.consP s_ratio_times (.consP s_ratio_term_over .nil))) .nil _ _) fol Go.Proofs.Tryz.func132 (by kernel_rfl) (by kernel_rfl) h_ratio_Div) false
def X_plex_div : Ctx := ⟨tyT, lookC [(85, .P F_plex_must), (132, .P F_ratio_Div)], lookD [], false, { join := [], blk := [], loop := [], own := [], frz := [], buf := [] }⟩
theorem e_plex_div : (fun a0 a1 => evBody X_plex_div Go.Proofs.Tryz.f107 [a0, a1]) = fun a0 a1 => B_plex_div [a0, a1] := by kernel_rfl
theorem h_plex_div : ∀ args, B_plex_div args = evBody X_plex_div Go.Proofs.Tryz.f107 args ∨ B_plex_div args = .leaf failM
  | [] => .inr rfl
  | [_] => .inr rfl
  | [a0, a1] => .inl (congrFun (congrFun e_plex_div a0) a1).symm
  | _ :: _ :: _ :: _ => .inr rfl
theorem s_plex_div : SoundP Go.Proofs.Tryz.prog 107 F_plex_div := soundP_of (soundS_print (ctxOk_of tyT_ok (.consP s_plex_must (.consP s_ratio_Div .nil)) .nil _ _) fol Go.Proofs.Tryz.func107 (by kernel_rfl) (by kernel_rfl) h_plex_div) false
def X_plex_tableau_move : Ctx := ⟨tyT, lookC [(52, .P F_plex_add), (53, .P F_plex_mul)], lookD [], false, { join := [], blk := [], loop := [(4, [0, 1, 5, 35, 36])], own := [], frz := [], buf := [] }⟩
theorem e_plex_tableau_move : (fun a0 a1 a2 => evBody X_plex_tableau_move Go.Proofs.Tryz.f106 [a0, a1, a2]) = fun a0 a1 a2 => B_plex_tableau_move [a0, a1, a2] := by kernel_rfl
theorem h_plex_tableau_move : ∀ args, B_plex_tableau_move args = evBody X_plex_tableau_move Go.Proofs.Tryz.f106 args ∨ B_plex_tableau_move args = .leaf failM
  | [] => .inr rfl
  | [_] => .inr rfl
  | [_, _] => .inr rfl
  | [a0, a1, a2] => .inl (congrFun (congrFun (congrFun e_plex_tableau_move a0) a1) a2).symm
  | _ :: _ :: _ :: _ :: _ => .inr rfl
theorem s_plex_tableau_move : SoundS Go.Proofs.Tryz.prog 106 F_plex_tableau_move := soundS_print (ctxOk_of tyT_ok (.consP s_plex_add (.consP s_plex_mul .nil)) .nil _ _) fol Go.Proofs.Tryz.func106 (by kernel_rfl) (by kernel_rfl) h_plex_tableau_move
def X_plex_tableau_replace : Ctx := ⟨tyT, lookC [(52, .P F_plex_add), (53, .P F_plex_mul)], lookD [], false, { join := [], blk := [], loop := [(2, [1, 2, 3, 8, 15, 16])], own := [], frz := [], buf := [] }⟩
theorem e_plex_tableau_replace : (fun a0 a1 a2 a3 => evBody X_plex_tableau_replace Go.Proofs.Tryz.f133 [a0, a1, a2, a3]) = fun a0 a1 a2 a3 => B_plex_tableau_replace [a0, a1, a2, a3] := by kernel_rfl
theorem h_plex_tableau_replace : ∀ args, B_plex_tableau_replace args = evBody X_plex_tableau_replace Go.Proofs.Tryz.f133 args ∨ B_plex_tableau_replace args = .leaf failM
  | [] => .inr rfl
  | [_] => .inr rfl
  | [_, _] => .inr rfl
  | [_, _, _] => .inr rfl
  | [a0, a1, a2, a3] => .inl (congrFun (congrFun (congrFun (congrFun e_plex_tableau_replace a0) a1) a2) a3).symm
  | _ :: _ :: _ :: _ :: _ :: _ => .inr rfl
theorem s_plex_tableau_replace : SoundS Go.Proofs.Tryz.prog 133 F_plex_tableau_replace := soundS_print (ctxOk_of tyT_ok (.consP s_plex_add (.consP s_plex_mul .nil)) .nil _ _) fol Go.Proofs.Tryz.func133 (by kernel_rfl) (by kernel_rfl) h_plex_tableau_replace
def X_plex_tableau_pivot : Ctx := ⟨tyT, lookC [(19, .P F_ratio_Of), (76, .P F_plex_neg), (107, .P F_plex_div), (133, .S F_plex_tableau_replace)], lookD [], false, { join := [], blk := [], loop := [(3, [0, 1, 2, 6, 7, 28, 29]), (10, [0, 1, 2, 7, 56, 57])], own := [], frz := [], buf := [] }⟩
theorem e_plex_tableau_pivot : (fun a0 a1 a2 => evBody X_plex_tableau_pivot Go.Proofs.Tryz.f108 [a0, a1, a2]) = fun a0 a1 a2 => B_plex_tableau_pivot [a0, a1, a2] := by kernel_rfl
theorem h_plex_tableau_pivot : ∀ args, B_plex_tableau_pivot args = evBody X_plex_tableau_pivot Go.Proofs.Tryz.f108 args ∨ B_plex_tableau_pivot args = .leaf failM
  | [] => .inr rfl
  | [_] => .inr rfl
  | [_, _] => .inr rfl
  | [a0, a1, a2] => .inl (congrFun (congrFun (congrFun e_plex_tableau_pivot a0) a1) a2).symm
  | _ :: _ :: _ :: _ :: _ => .inr rfl
theorem s_plex_tableau_pivot : SoundS Go.Proofs.Tryz.prog 108 F_plex_tableau_pivot := soundS_print (ctxOk_of tyT_ok (.consP s_ratio_Of (.consP s_plex_neg (.consP s_plex_div (.consS s_plex_tableau_replace .nil)))) .nil _ _) fol Go.Proofs.Tryz.func108 (by kernel_rfl) (by kernel_rfl) h_plex_tableau_pivot
def X_plex_tableau_feasible : Ctx := ⟨tyT, lookC [(54, .P F_plex_sub), (102, .S F_plex_tableau_beyond), (103, .S F_plex_tableau_step), (104, .S F_plex_variable_below), (105, .S F_plex_tableau_helps), (106, .S F_plex_tableau_move), (107, .P F_plex_div), (108, .S F_plex_tableau_pivot)], lookD [], false, { join := [(12, [0, 3, 4, 6, 7])], blk := [], loop := [(1, [0])], own := [], frz := [], buf := [] }⟩
theorem e_plex_tableau_feasible : (fun a0 => evBody X_plex_tableau_feasible Go.Proofs.Tryz.f71 [a0]) = fun a0 => B_plex_tableau_feasible [a0] := by kernel_rfl
theorem h_plex_tableau_feasible : ∀ args, B_plex_tableau_feasible args = evBody X_plex_tableau_feasible Go.Proofs.Tryz.f71 args ∨ B_plex_tableau_feasible args = .leaf failM
  | [] => .inr rfl
  | [a0] => .inl (congrFun e_plex_tableau_feasible a0).symm
  | _ :: _ :: _ => .inr rfl
theorem s_plex_tableau_feasible : SoundS Go.Proofs.Tryz.prog 71 F_plex_tableau_feasible := soundS_print (ctxOk_of tyT_ok (.consP s_plex_sub (.consS s_plex_tableau_beyond (.consS s_plex_tableau_step (.consS s_plex_variable_below (.consS s_plex_tableau_helps (.consS s_plex_tableau_move (.consP s_plex_div (.consS s_plex_tableau_pivot .nil)))))))) .nil _ _) fol Go.Proofs.Tryz.func71 (by kernel_rfl) (by kernel_rfl) h_plex_tableau_feasible
def X_plex_tableau_zeros : Ctx := ⟨tyT, lookC [(19, .P F_ratio_Of)], lookD [], false, { join := [], blk := [], loop := [(3, [3, 13, 14])], own := [], frz := [], buf := [] }⟩
theorem e_plex_tableau_zeros : (fun a0 => evBody X_plex_tableau_zeros Go.Proofs.Tryz.f74 [a0]) = fun a0 => B_plex_tableau_zeros [a0] := by kernel_rfl
theorem h_plex_tableau_zeros : ∀ args, B_plex_tableau_zeros args = evBody X_plex_tableau_zeros Go.Proofs.Tryz.f74 args ∨ B_plex_tableau_zeros args = .leaf failM
  | [] => .inr rfl
  | [a0] => .inl (congrFun e_plex_tableau_zeros a0).symm
  | _ :: _ :: _ => .inr rfl
theorem s_plex_tableau_zeros : SoundS Go.Proofs.Tryz.prog 74 F_plex_tableau_zeros := soundS_print (ctxOk_of tyT_ok (.consP s_ratio_Of .nil) .nil _ _) fol Go.Proofs.Tryz.func74 (by kernel_rfl) (by kernel_rfl) h_plex_tableau_zeros
def X_plex_tableau_proof : Ctx := ⟨tyT, lookC [(19, .P F_ratio_Of), (74, .S F_plex_tableau_zeros), (76, .P F_plex_neg), (104, .S F_plex_variable_below)], lookD [], false, { join := [(9, [0, 1, 5, 6, 8, 9, 30, 31, 32])], blk := [], loop := [(4, [0, 1, 5, 6, 30, 31, 32])], own := [], frz := [], buf := [] }⟩
theorem e_plex_tableau_proof : (fun a0 a1 => evBody X_plex_tableau_proof Go.Proofs.Tryz.f72 [a0, a1]) = fun a0 a1 => B_plex_tableau_proof [a0, a1] := by kernel_rfl
theorem h_plex_tableau_proof : ∀ args, B_plex_tableau_proof args = evBody X_plex_tableau_proof Go.Proofs.Tryz.f72 args ∨ B_plex_tableau_proof args = .leaf failM
  | [] => .inr rfl
  | [_] => .inr rfl
  | [a0, a1] => .inl (congrFun (congrFun e_plex_tableau_proof a0) a1).symm
  | _ :: _ :: _ :: _ => .inr rfl
theorem s_plex_tableau_proof : SoundS Go.Proofs.Tryz.prog 72 F_plex_tableau_proof := soundS_print (ctxOk_of tyT_ok (.consP s_ratio_Of (.consS s_plex_tableau_zeros (.consP s_plex_neg (.consS s_plex_variable_below .nil)))) .nil _ _) fol Go.Proofs.Tryz.func72 (by kernel_rfl) (by kernel_rfl) h_plex_tableau_proof
def X_plex_tableau_cheaper : Ctx := ⟨tyT, lookC [(48, .P F_plex_sign), (130, .S F_plex_variable_mayFall), (131, .S F_plex_variable_mayRise)], lookD [], false, { join := [], blk := [], loop := [(3, [0, 4, 5, 14, 15, 16])], own := [], frz := [], buf := [] }⟩
theorem e_plex_tableau_cheaper : (fun a0 => evBody X_plex_tableau_cheaper Go.Proofs.Tryz.f109 [a0]) = fun a0 => B_plex_tableau_cheaper [a0] := by kernel_rfl
theorem h_plex_tableau_cheaper : ∀ args, B_plex_tableau_cheaper args = evBody X_plex_tableau_cheaper Go.Proofs.Tryz.f109 args ∨ B_plex_tableau_cheaper args = .leaf failM
  | [] => .inr rfl
  | [a0] => .inl (congrFun e_plex_tableau_cheaper a0).symm
  | _ :: _ :: _ => .inr rfl
theorem s_plex_tableau_cheaper : SoundS Go.Proofs.Tryz.prog 109 F_plex_tableau_cheaper := soundS_print (ctxOk_of tyT_ok (.consP s_plex_sign (.consS s_plex_variable_mayFall (.consS s_plex_variable_mayRise .nil))) .nil _ _) fol Go.Proofs.Tryz.func109 (by kernel_rfl) (by kernel_rfl) h_plex_tableau_cheaper
def X_plex_block_nearer : Ctx := ⟨tyT, lookC [(83, .P F_plex_cmp)], lookD [], false, { join := [(2, [0, 2, 3, 5])], blk := [], loop := [], own := [], frz := [], buf := [] }⟩
theorem e_plex_block_nearer : (fun a0 a1 a2 a3 => evBody X_plex_block_nearer Go.Proofs.Tryz.f134 [a0, a1, a2, a3]) = fun a0 a1 a2 a3 => B_plex_block_nearer [a0, a1, a2, a3] := by kernel_rfl
theorem h_plex_block_nearer : ∀ args, B_plex_block_nearer args = evBody X_plex_block_nearer Go.Proofs.Tryz.f134 args ∨ B_plex_block_nearer args = .leaf failM
  | [] => .inr rfl
  | [_] => .inr rfl
  | [_, _] => .inr rfl
  | [_, _, _] => .inr rfl
  | [a0, a1, a2, a3] => .inl (congrFun (congrFun (congrFun (congrFun e_plex_block_nearer a0) a1) a2) a3).symm
  | _ :: _ :: _ :: _ :: _ :: _ => .inr rfl
theorem s_plex_block_nearer : SoundS Go.Proofs.Tryz.prog 134 F_plex_block_nearer := soundS_print (ctxOk_of tyT_ok (.consP s_plex_cmp .nil) .nil _ _) fol Go.Proofs.Tryz.func134 (by kernel_rfl) (by kernel_rfl) h_plex_block_nearer
def X_plex_tableau_stops : Ctx := ⟨tyT, lookC [(48, .P F_plex_sign), (54, .P F_plex_sub), (76, .P F_plex_neg), (107, .P F_plex_div), (134, .S F_plex_block_nearer)], lookD [], false, { join := [(4, [0, 1, 2, 6, 7]), (12, [0, 1, 2, 6, 7, 9, 10, 11, 85, 86, 87])], blk := [], loop := [(8, [0, 1, 2, 6, 7, 85, 86, 87])], own := [], frz := [], buf := [] }⟩
theorem e_plex_tableau_stops : (fun a0 a1 a2 => evBody X_plex_tableau_stops Go.Proofs.Tryz.f110 [a0, a1, a2]) = fun a0 a1 a2 => B_plex_tableau_stops [a0, a1, a2] := by kernel_rfl
theorem h_plex_tableau_stops : ∀ args, B_plex_tableau_stops args = evBody X_plex_tableau_stops Go.Proofs.Tryz.f110 args ∨ B_plex_tableau_stops args = .leaf failM
  | [] => .inr rfl
  | [_] => .inr rfl
  | [_, _] => .inr rfl
  | [a0, a1, a2] => .inl (congrFun (congrFun (congrFun e_plex_tableau_stops a0) a1) a2).symm
  | _ :: _ :: _ :: _ :: _ => .inr rfl
theorem s_plex_tableau_stops : SoundS Go.Proofs.Tryz.prog 110 F_plex_tableau_stops := soundS_print (ctxOk_of tyT_ok (.consP s_plex_sign (.consP s_plex_sub (.consP s_plex_neg (.consP s_plex_div (.consS s_plex_block_nearer .nil))))) .nil _ _) fol Go.Proofs.Tryz.func110 (by kernel_rfl) (by kernel_rfl) h_plex_tableau_stops
def X_plex_tableau_optimize : Ctx := ⟨tyT, lookC [(76, .P F_plex_neg), (103, .S F_plex_tableau_step), (106, .S F_plex_tableau_move), (108, .S F_plex_tableau_pivot), (109, .S F_plex_tableau_cheaper), (110, .S F_plex_tableau_stops)], lookD [], false, { join := [(5, [0, 2, 3, 4]), (8, [0, 2, 4, 5])], blk := [], loop := [(0, [0])], own := [], frz := [], buf := [] }⟩
theorem e_plex_tableau_optimize : (fun a0 => evBody X_plex_tableau_optimize Go.Proofs.Tryz.f73 [a0]) = fun a0 => B_plex_tableau_optimize [a0] := by kernel_rfl
theorem h_plex_tableau_optimize : ∀ args, B_plex_tableau_optimize args = evBody X_plex_tableau_optimize Go.Proofs.Tryz.f73 args ∨ B_plex_tableau_optimize args = .leaf failM
  | [] => .inr rfl
  | [a0] => .inl (congrFun e_plex_tableau_optimize a0).symm
  | _ :: _ :: _ => .inr rfl
theorem s_plex_tableau_optimize : SoundS Go.Proofs.Tryz.prog 73 F_plex_tableau_optimize := soundS_print (ctxOk_of tyT_ok (.consP s_plex_neg (.consS s_plex_tableau_step (.consS s_plex_tableau_move (.consS s_plex_tableau_pivot (.consS s_plex_tableau_cheaper (.consS s_plex_tableau_stops .nil)))))) .nil _ _) fol Go.Proofs.Tryz.func73 (by kernel_rfl) (by kernel_rfl) h_plex_tableau_optimize
def X_plex_tableau_answer : Ctx := ⟨tyT, lookC [(50, .R F_plex_dot), (71, .S F_plex_tableau_feasible), (72, .S F_plex_tableau_proof), (73, .S F_plex_tableau_optimize), (74, .S F_plex_tableau_zeros), (76, .P F_plex_neg)], lookD [], false, { join := [], blk := [], loop := [(7, [0, 3, 4, 6, 32, 33, 34]), (13, [0, 4, 6, 56, 57, 58])], own := [], frz := [], buf := [] }⟩
theorem e_plex_tableau_answer : (fun a0 a1 => evBody X_plex_tableau_answer Go.Proofs.Tryz.f41 [a0, a1]) = fun a0 a1 => B_plex_tableau_answer [a0, a1] := by kernel_rfl
theorem h_plex_tableau_answer : ∀ args, B_plex_tableau_answer args = evBody X_plex_tableau_answer Go.Proofs.Tryz.f41 args ∨ B_plex_tableau_answer args = .leaf failM
  | [] => .inr rfl
  | [_] => .inr rfl
  | [a0, a1] => .inl (congrFun (congrFun e_plex_tableau_answer a0) a1).symm
  | _ :: _ :: _ :: _ => .inr rfl
theorem s_plex_tableau_answer : SoundS Go.Proofs.Tryz.prog 41 F_plex_tableau_answer := soundS_print (ctxOk_of tyT_ok (.consR s_plex_dot (.consS s_plex_tableau_feasible (.consS s_plex_tableau_proof (.consS s_plex_tableau_optimize (.consS s_plex_tableau_zeros (.consP s_plex_neg .nil)))))) .nil _ _) fol Go.Proofs.Tryz.func41 (by kernel_rfl) (by kernel_rfl) h_plex_tableau_answer
def X_plex_Solve_c1 : Ctx := ⟨tyT, lookC [(40, .N F_plex_begin), (41, .S F_plex_tableau_answer)], lookD [], false, { join := [], blk := [], loop := [], own := [], frz := [], buf := [] }⟩
theorem e_plex_Solve_c1 : (fun a0 a1 a2 => evBody X_plex_Solve_c1 Go.Proofs.Tryz.f39 [a0, a1, a2]) = fun a0 a1 a2 => B_plex_Solve_c1 [a0, a1, a2] := by kernel_rfl
theorem h_plex_Solve_c1 : ∀ args, B_plex_Solve_c1 args = evBody X_plex_Solve_c1 Go.Proofs.Tryz.f39 args ∨ B_plex_Solve_c1 args = .leaf failM
  | [] => .inr rfl
  | [_] => .inr rfl
  | [_, _] => .inr rfl
  | [a0, a1, a2] => .inl (congrFun (congrFun (congrFun e_plex_Solve_c1 a0) a1) a2).symm
  | _ :: _ :: _ :: _ :: _ => .inr rfl
theorem s_plex_Solve_c1 : SoundS Go.Proofs.Tryz.prog 39 F_plex_Solve_c1 := soundS_print (ctxOk_of tyT_ok (.consN s_plex_begin (.consS s_plex_tableau_answer .nil)) .nil _ _) fol Go.Proofs.Tryz.func39 (by kernel_rfl) (by kernel_rfl) h_plex_Solve_c1
def X_plex_fit : Ctx := ⟨tyT, lookC [(19, .P F_ratio_Of), (42, .P F_ratio_Right), (50, .R F_plex_dot), (83, .P F_plex_cmp)], lookD [], false, { join := [], blk := [], loop := [(4, [1, 2, 15, 16, 17]), (10, [1, 2, 49, 50, 51])], own := [], frz := [], buf := [] }⟩
theorem e_plex_fit : (fun a0 a1 => evBody X_plex_fit Go.Proofs.Tryz.f81 [a0, a1]) = fun a0 a1 => B_plex_fit [a0, a1] := by kernel_rfl
theorem h_plex_fit : ∀ args, B_plex_fit args = evBody X_plex_fit Go.Proofs.Tryz.f81 args ∨ B_plex_fit args = .leaf failM
  | [] => .inr rfl
  | [_] => .inr rfl
  | [a0, a1] => .inl (congrFun (congrFun e_plex_fit a0) a1).symm
  | _ :: _ :: _ :: _ => .inr rfl
theorem s_plex_fit : SoundP Go.Proofs.Tryz.prog 81 F_plex_fit := soundP_of (soundS_print (ctxOk_of tyT_ok (.consP s_ratio_Of (.consP s_ratio_Right (.consR s_plex_dot (.consP s_plex_cmp .nil)))) .nil _ _) fol Go.Proofs.Tryz.func81 (by kernel_rfl) (by kernel_rfl) h_plex_fit) false
def X_plex_numbers : Ctx := ⟨tyT, lookC [(42, .P F_ratio_Right), (48, .P F_plex_sign)], lookD [], false, { join := [], blk := [], loop := [(4, [13, 14, 15])], own := [], frz := [], buf := [] }⟩
theorem e_plex_numbers : (fun a0 a1 => evBody X_plex_numbers Go.Proofs.Tryz.f24 [a0, a1]) = fun a0 a1 => B_plex_numbers [a0, a1] := by kernel_rfl
theorem h_plex_numbers : ∀ args, B_plex_numbers args = evBody X_plex_numbers Go.Proofs.Tryz.f24 args ∨ B_plex_numbers args = .leaf failM
  | [] => .inr rfl
  | [_] => .inr rfl
  | [a0, a1] => .inl (congrFun (congrFun e_plex_numbers a0) a1).symm
  | _ :: _ :: _ :: _ => .inr rfl
theorem s_plex_numbers : SoundP Go.Proofs.Tryz.prog 24 F_plex_numbers := soundP_of (soundS_print (ctxOk_of tyT_ok (.consP s_ratio_Right (.consP s_plex_sign .nil)) .nil _ _) fol Go.Proofs.Tryz.func24 (by kernel_rfl) (by kernel_rfl) h_plex_numbers) false
def X_plex_none : Ctx := ⟨tyT, lookC [], lookD [], false, { join := [], blk := [], loop := [], own := [], frz := [], buf := [] }⟩
theorem e_plex_none : (fun a0 => evBody X_plex_none Go.Proofs.Tryz.f84 [a0]) = fun a0 => B_plex_none [a0] := by kernel_rfl
theorem h_plex_none : ∀ args, B_plex_none args = evBody X_plex_none Go.Proofs.Tryz.f84 args ∨ B_plex_none args = .leaf failM
  | [] => .inr rfl
  | [a0] => .inl (congrFun e_plex_none a0).symm
  | _ :: _ :: _ => .inr rfl
theorem s_plex_none : SoundP Go.Proofs.Tryz.prog 84 F_plex_none := soundP_of (soundS_print (ctxOk_of tyT_ok .nil .nil _ _) fol Go.Proofs.Tryz.func84 (by kernel_rfl) (by kernel_rfl) h_plex_none) false
def X_plex_proved : Ctx := ⟨tyT, lookC [(24, .P F_plex_numbers), (27, .R F_plex_least), (42, .P F_ratio_Right), (48, .P F_plex_sign), (50, .R F_plex_dot), (81, .P F_plex_fit), (83, .P F_plex_cmp), (84, .P F_plex_none)], lookD [], false, { join := [], blk := [], loop := [], own := [], frz := [], buf := [] }⟩
theorem e_plex_proved : (fun a0 a1 => evBody X_plex_proved Go.Proofs.Tryz.f46 [a0, a1]) = fun a0 a1 => B_plex_proved [a0, a1] := by kernel_rfl
theorem h_plex_proved : ∀ args, B_plex_proved args = evBody X_plex_proved Go.Proofs.Tryz.f46 args ∨ B_plex_proved args = .leaf failM
  | [] => .inr rfl
  | [_] => .inr rfl
  | [a0, a1] => .inl (congrFun (congrFun e_plex_proved a0) a1).symm
  | _ :: _ :: _ :: _ => .inr rfl
theorem s_plex_proved : SoundP Go.Proofs.Tryz.prog 46 F_plex_proved := soundP_of (soundS_print (ctxOk_of tyT_ok (.consP s_plex_numbers (.consR s_plex_least (.consP s_ratio_Right (.consP s_plex_sign (.consR s_plex_dot (.consP s_plex_fit (.consP s_plex_cmp (.consP s_plex_none .nil)))))))) .nil _ _) fol Go.Proofs.Tryz.func46 (by kernel_rfl) (by kernel_rfl) h_plex_proved) false
def X_plex_Proved_c1 : Ctx := ⟨tyT, lookC [(46, .P F_plex_proved)], lookD [], false, { join := [], blk := [], loop := [], own := [], frz := [], buf := [] }⟩
theorem e_plex_Proved_c1 : (fun a0 a1 a2 => evBody X_plex_Proved_c1 Go.Proofs.Tryz.f45 [a0, a1, a2]) = fun a0 a1 a2 => B_plex_Proved_c1 [a0, a1, a2] := by kernel_rfl
theorem h_plex_Proved_c1 : ∀ args, B_plex_Proved_c1 args = evBody X_plex_Proved_c1 Go.Proofs.Tryz.f45 args ∨ B_plex_Proved_c1 args = .leaf failM
  | [] => .inr rfl
  | [_] => .inr rfl
  | [_, _] => .inr rfl
  | [a0, a1, a2] => .inl (congrFun (congrFun (congrFun e_plex_Proved_c1 a0) a1) a2).symm
  | _ :: _ :: _ :: _ :: _ => .inr rfl
theorem s_plex_Proved_c1 : SoundS Go.Proofs.Tryz.prog 45 F_plex_Proved_c1 := soundS_print (ctxOk_of tyT_ok (.consP s_plex_proved .nil) .nil _ _) fol Go.Proofs.Tryz.func45 (by kernel_rfl) (by kernel_rfl) h_plex_Proved_c1
theorem s_plex_guarded : SoundS Go.Proofs.Tryz.prog 25 F_plex_guarded := guarded_sound (lookD_ok (.cons s_plex_Bound_c1 (.cons s_plex_Solve_c1 (.cons s_plex_Proved_c1 .nil))))
def X_plex_Solve : Ctx := ⟨tyT, lookC [(23, .P F_plex_Right), (25, .S F_plex_guarded)], lookD [], false, { join := [], blk := [], loop := [], own := [], frz := [], buf := [] }⟩
theorem e_plex_Solve : (fun a0 a1 => evBody X_plex_Solve Go.Proofs.Tryz.f20 [a0, a1]) = fun a0 a1 => B_plex_Solve [a0, a1] := by kernel_rfl
theorem h_plex_Solve : ∀ args, B_plex_Solve args = evBody X_plex_Solve Go.Proofs.Tryz.f20 args ∨ B_plex_Solve args = .leaf failM
  | [] => .inr rfl
  | [_] => .inr rfl
  | [a0, a1] => .inl (congrFun (congrFun e_plex_Solve a0) a1).symm
  | _ :: _ :: _ :: _ => .inr rfl
theorem s_plex_Solve : SoundP Go.Proofs.Tryz.prog 20 F_plex_Solve := soundP_of (soundS_print (ctxOk_of tyT_ok (.consP s_plex_Right (.consS s_plex_guarded .nil)) .nil _ _) fol Go.Proofs.Tryz.func20 (by kernel_rfl) (by kernel_rfl) h_plex_Solve) false
def X_slices_Reverse_byte : Ctx := ⟨tyT, lookC [], lookD [], false, { join := [], blk := [], loop := [(1, [0, 2, 3])], own := [], frz := [], buf := [] }⟩
theorem e_slices_Reverse_byte : (fun a0 => evBody X_slices_Reverse_byte Go.Proofs.Tryz.f114 [a0]) = fun a0 => B_slices_Reverse_byte [a0] := by kernel_rfl
theorem h_slices_Reverse_byte : ∀ args, B_slices_Reverse_byte args = evBody X_slices_Reverse_byte Go.Proofs.Tryz.f114 args ∨ B_slices_Reverse_byte args = .leaf failM
  | [] => .inr rfl
  | [a0] => .inl (congrFun e_slices_Reverse_byte a0).symm
  | _ :: _ :: _ => .inr rfl
theorem s_slices_Reverse_byte : SoundS Go.Proofs.Tryz.prog 114 F_slices_Reverse_byte := soundS_print (ctxOk_of tyT_ok .nil .nil _ _) fol Go.Proofs.Tryz.func114 (by kernel_rfl) (by kernel_rfl) h_slices_Reverse_byte
def X_nat_Text : Ctx := ⟨tyT, lookC [(97, .P F_nat_Right), (113, .P F_nat_small), (114, .S F_slices_Reverse_byte)], lookD [], false, { join := [], blk := [], loop := [(6, [0, 4]), (10, [0, 4, 5, 6])], own := [], frz := [], buf := [] }⟩
theorem e_nat_Text : (fun a0 => evBody X_nat_Text Go.Proofs.Tryz.f79 [a0]) = fun a0 => B_nat_Text [a0] := by kernel_rfl
theorem h_nat_Text : ∀ args, B_nat_Text args = evBody X_nat_Text Go.Proofs.Tryz.f79 args ∨ B_nat_Text args = .leaf failM
  | [] => .inr rfl
  | [a0] => .inl (congrFun e_nat_Text a0).symm
  | _ :: _ :: _ => .inr rfl
theorem s_nat_Text : SoundP Go.Proofs.Tryz.prog 79 F_nat_Text := soundP_of (soundS_print (ctxOk_of tyT_ok (.consP s_nat_Right (.consP s_nat_small (.consS s_slices_Reverse_byte .nil))) .nil _ _) fol Go.Proofs.Tryz.func79 (by kernel_rfl) (by kernel_rfl) h_nat_Text) false
def X_signed_Text : Ctx := ⟨tyT, lookC [(78, .P F_signed_Right), (79, .P F_nat_Text)], lookD [], false, { join := [], blk := [], loop := [], own := [], frz := [], buf := [] }⟩
theorem e_signed_Text : (fun a0 => evBody X_signed_Text Go.Proofs.Tryz.f43 [a0]) = fun a0 => B_signed_Text [a0] := by kernel_rfl
theorem h_signed_Text : ∀ args, B_signed_Text args = evBody X_signed_Text Go.Proofs.Tryz.f43 args ∨ B_signed_Text args = .leaf failM
  | [] => .inr rfl
  | [a0] => .inl (congrFun e_signed_Text a0).symm
  | _ :: _ :: _ => .inr rfl
theorem s_signed_Text : SoundP Go.Proofs.Tryz.prog 43 F_signed_Text := soundP_of (soundS_print (ctxOk_of tyT_ok (.consP s_signed_Right (.consP s_nat_Text .nil)) .nil _ _) fol Go.Proofs.Tryz.func43 (by kernel_rfl) (by kernel_rfl) h_signed_Text) false
def X_ratio_Text : Ctx := ⟨tyT, lookC [(42, .P F_ratio_Right), (43, .P F_signed_Text), (44, .P F_ratio_is)], lookD [], false, { join := [], blk := [], loop := [], own := [], frz := [], buf := [] }⟩
theorem e_ratio_Text : (fun a0 => evBody X_ratio_Text Go.Proofs.Tryz.f21 [a0]) = fun a0 => B_ratio_Text [a0] := by kernel_rfl
theorem h_ratio_Text : ∀ args, B_ratio_Text args = evBody X_ratio_Text Go.Proofs.Tryz.f21 args ∨ B_ratio_Text args = .leaf failM
  | [] => .inr rfl
  | [a0] => .inl (congrFun e_ratio_Text a0).symm
  | _ :: _ :: _ => .inr rfl
theorem s_ratio_Text : SoundP Go.Proofs.Tryz.prog 21 F_ratio_Text := soundP_of (soundS_print (ctxOk_of tyT_ok (.consP s_ratio_Right (.consP s_signed_Text (.consP s_ratio_is .nil))) .nil _ _) fol Go.Proofs.Tryz.func21 (by kernel_rfl) (by kernel_rfl) h_ratio_Text) false
def X_plex_Proved : Ctx := ⟨tyT, lookC [(23, .P F_plex_Right), (25, .S F_plex_guarded)], lookD [], false, { join := [], blk := [], loop := [], own := [], frz := [], buf := [] }⟩
theorem e_plex_Proved : (fun a0 a1 => evBody X_plex_Proved Go.Proofs.Tryz.f22 [a0, a1]) = fun a0 a1 => B_plex_Proved [a0, a1] := by kernel_rfl
theorem h_plex_Proved : ∀ args, B_plex_Proved args = evBody X_plex_Proved Go.Proofs.Tryz.f22 args ∨ B_plex_Proved args = .leaf failM
  | [] => .inr rfl
  | [_] => .inr rfl
  | [a0, a1] => .inl (congrFun (congrFun e_plex_Proved a0) a1).symm
  | _ :: _ :: _ :: _ => .inr rfl
theorem s_plex_Proved : SoundP Go.Proofs.Tryz.prog 22 F_plex_Proved := soundP_of (soundS_print (ctxOk_of tyT_ok (.consP s_plex_Right (.consS s_plex_guarded .nil)) .nil _ _) fol Go.Proofs.Tryz.func22 (by kernel_rfl) (by kernel_rfl) h_plex_Proved) false
def X_law20_alive : Ctx := ⟨tyT, lookC [(20, .P F_plex_Solve), (21, .P F_ratio_Text), (22, .P F_plex_Proved), (23, .P F_plex_Right)], lookD [], false, { join := [], blk := [], loop := [], own := [], frz := [], buf := [(15, 0), (28, 0)] }⟩
theorem e_law20_alive : evBody X_law20_alive Go.Proofs.Tryz.f6 [] = B_law20_alive [] := by kernel_rfl
theorem h_law20_alive : ∀ args, B_law20_alive args = evBody X_law20_alive Go.Proofs.Tryz.f6 args ∨ B_law20_alive args = .leaf failM
  | [] => .inl e_law20_alive.symm
  | _ :: _ => .inr rfl
theorem s_law20_alive : SoundP Go.Proofs.Tryz.prog 6 F_law20_alive := soundP_of (soundS_print (ctxOk_of tyT_ok (.consP s_plex_Solve (.consP s_ratio_Text (.consP s_plex_Proved (.consP s_plex_Right .nil)))) .nil _ _) fol Go.Proofs.Tryz.func6 (by kernel_rfl) (by kernel_rfl) h_law20_alive) false
def X_law20_fits : Ctx := ⟨tyT, lookC [], lookD [], false, { join := [], blk := [], loop := [(4, [1, 34, 35])], own := [], frz := [], buf := [] }⟩
theorem e_law20_fits : (fun a0 => evBody X_law20_fits Go.Proofs.Tryz.f7 [a0]) = fun a0 => B_law20_fits [a0] := by kernel_rfl
theorem h_law20_fits : ∀ args, B_law20_fits args = evBody X_law20_fits Go.Proofs.Tryz.f7 args ∨ B_law20_fits args = .leaf failM
  | [] => .inr rfl
  | [a0] => .inl (congrFun e_law20_fits a0).symm
  | _ :: _ :: _ => .inr rfl
theorem s_law20_fits : SoundP Go.Proofs.Tryz.prog 7 F_law20_fits := soundP_of (soundS_print (ctxOk_of tyT_ok .nil .nil _ _) fol Go.Proofs.Tryz.func7 (by kernel_rfl) (by kernel_rfl) h_law20_fits) false
def X_law20_few : Ctx := ⟨tyT, lookC [], lookD [], false, { join := [], blk := [], loop := [(4, [8, 9, 10])], own := [], frz := [], buf := [] }⟩
theorem e_law20_few : (fun a0 => evBody X_law20_few Go.Proofs.Tryz.f8 [a0]) = fun a0 => B_law20_few [a0] := by kernel_rfl
theorem h_law20_few : ∀ args, B_law20_few args = evBody X_law20_few Go.Proofs.Tryz.f8 args ∨ B_law20_few args = .leaf failM
  | [] => .inr rfl
  | [a0] => .inl (congrFun e_law20_few a0).symm
  | _ :: _ :: _ => .inr rfl
theorem s_law20_few : SoundP Go.Proofs.Tryz.prog 8 F_law20_few := soundP_of (soundS_print (ctxOk_of tyT_ok .nil .nil _ _) fol Go.Proofs.Tryz.func8 (by kernel_rfl) (by kernel_rfl) h_law20_few) false
def X_law20_Theirs : Ctx := ⟨tyT, lookC [], lookD [], false, { join := [], blk := [], loop := [], own := [], frz := [], buf := [] }⟩
theorem e_law20_Theirs : (fun a0 => evBody X_law20_Theirs Go.Proofs.Tryz.f10 [a0]) = fun a0 => B_law20_Theirs [a0] := by kernel_rfl
theorem h_law20_Theirs : ∀ args, B_law20_Theirs args = evBody X_law20_Theirs Go.Proofs.Tryz.f10 args ∨ B_law20_Theirs args = .leaf failM
  | [] => .inr rfl
  | [a0] => .inl (congrFun e_law20_Theirs a0).symm
  | _ :: _ :: _ => .inr rfl
theorem s_law20_Theirs : SoundP Go.Proofs.Tryz.prog 10 F_law20_Theirs := soundP_of (soundS_print (ctxOk_of tyT_ok .nil .nil _ _) fol Go.Proofs.Tryz.func10 (by kernel_rfl) (by kernel_rfl) h_law20_Theirs) false
def X_law04_whole : Ctx := ⟨tyT, lookC [], lookD [], false, { join := [], blk := [], loop := [], own := [], frz := [], buf := [] }⟩
theorem e_law04_whole : (fun a0 => evBody X_law04_whole Go.Proofs.Tryz.f56 [a0]) = fun a0 => B_law04_whole [a0] := by kernel_rfl
theorem h_law04_whole : ∀ args, B_law04_whole args = evBody X_law04_whole Go.Proofs.Tryz.f56 args ∨ B_law04_whole args = .leaf failM
  | [] => .inr rfl
  | [a0] => .inl (congrFun e_law04_whole a0).symm
  | _ :: _ :: _ => .inr rfl
theorem s_law04_whole : SoundP Go.Proofs.Tryz.prog 56 F_law04_whole := soundP_of (soundS_print (ctxOk_of tyT_ok .nil .nil _ _) fol Go.Proofs.Tryz.func56 (by kernel_rfl) (by kernel_rfl) h_law04_whole) false
def X_law04_Theirs : Ctx := ⟨tyT, lookC [(56, .P F_law04_whole)], lookD [], false, { join := [], blk := [], loop := [], own := [], frz := [], buf := [] }⟩
theorem e_law04_Theirs : (fun a0 => evBody X_law04_Theirs Go.Proofs.Tryz.f28 [a0]) = fun a0 => B_law04_Theirs [a0] := by kernel_rfl
theorem h_law04_Theirs : ∀ args, B_law04_Theirs args = evBody X_law04_Theirs Go.Proofs.Tryz.f28 args ∨ B_law04_Theirs args = .leaf failM
  | [] => .inr rfl
  | [a0] => .inl (congrFun e_law04_Theirs a0).symm
  | _ :: _ :: _ => .inr rfl
theorem s_law04_Theirs : SoundP Go.Proofs.Tryz.prog 28 F_law04_Theirs := soundP_of (soundS_print (ctxOk_of tyT_ok (.consP s_law04_whole .nil) .nil _ _) fol Go.Proofs.Tryz.func28 (by kernel_rfl) (by kernel_rfl) h_law04_Theirs) false
def X_law20_Rats : Ctx := ⟨tyT, lookC [(28, .P F_law04_Theirs)], lookD [], false, { join := [], blk := [], loop := [(3, [3, 6, 7, 8])], own := [], frz := [], buf := [] }⟩
theorem e_law20_Rats : (fun a0 => evBody X_law20_Rats Go.Proofs.Tryz.f11 [a0]) = fun a0 => B_law20_Rats [a0] := by kernel_rfl
theorem h_law20_Rats : ∀ args, B_law20_Rats args = evBody X_law20_Rats Go.Proofs.Tryz.f11 args ∨ B_law20_Rats args = .leaf failM
  | [] => .inr rfl
  | [a0] => .inl (congrFun e_law20_Rats a0).symm
  | _ :: _ :: _ => .inr rfl
theorem s_law20_Rats : SoundP Go.Proofs.Tryz.prog 11 F_law20_Rats := soundP_of (soundS_print (ctxOk_of tyT_ok (.consP s_law04_Theirs .nil) .nil _ _) fol Go.Proofs.Tryz.func11 (by kernel_rfl) (by kernel_rfl) h_law20_Rats) false
def X_plex_Bound : Ctx := ⟨tyT, lookC [(23, .P F_plex_Right), (24, .P F_plex_numbers), (25, .S F_plex_guarded)], lookD [], false, { join := [], blk := [], loop := [], own := [], frz := [], buf := [] }⟩
theorem e_plex_Bound : (fun a0 a1 => evBody X_plex_Bound Go.Proofs.Tryz.f9 [a0, a1]) = fun a0 a1 => B_plex_Bound [a0, a1] := by kernel_rfl
theorem h_plex_Bound : ∀ args, B_plex_Bound args = evBody X_plex_Bound Go.Proofs.Tryz.f9 args ∨ B_plex_Bound args = .leaf failM
  | [] => .inr rfl
  | [_] => .inr rfl
  | [a0, a1] => .inl (congrFun (congrFun e_plex_Bound a0) a1).symm
  | _ :: _ :: _ :: _ => .inr rfl
theorem s_plex_Bound : SoundP Go.Proofs.Tryz.prog 9 F_plex_Bound := soundP_of (soundS_print (ctxOk_of tyT_ok (.consP s_plex_Right (.consP s_plex_numbers (.consS s_plex_guarded .nil))) .nil _ _) fol Go.Proofs.Tryz.func9 (by kernel_rfl) (by kernel_rfl) h_plex_Bound) false
def X_ref08_Within : Ctx := ⟨tyT, lookC [], lookD [], false, { join := [], blk := [], loop := [], own := [], frz := [], buf := [] }⟩
theorem e_ref08_Within : (fun a0 => evBody X_ref08_Within Go.Proofs.Tryz.f65 [a0]) = fun a0 => B_ref08_Within [a0] := by kernel_rfl
theorem h_ref08_Within : ∀ args, B_ref08_Within args = evBody X_ref08_Within Go.Proofs.Tryz.f65 args ∨ B_ref08_Within args = .leaf failM
  | [] => .inr rfl
  | [a0] => .inl (congrFun e_ref08_Within a0).symm
  | _ :: _ :: _ => .inr rfl
theorem s_ref08_Within : SoundP Go.Proofs.Tryz.prog 65 F_ref08_Within := soundP_of (soundS_print (ctxOk_of tyT_ok .nil .nil _ _) fol Go.Proofs.Tryz.func65 (by kernel_rfl) (by kernel_rfl) h_ref08_Within) false
def X_ref20_within : Ctx := ⟨tyT, lookC [(65, .P F_ref08_Within)], lookD [], false, { join := [], blk := [], loop := [(2, [0, 3])], own := [], frz := [], buf := [] }⟩
theorem e_ref20_within : (fun a0 => evBody X_ref20_within Go.Proofs.Tryz.f34 [a0]) = fun a0 => B_ref20_within [a0] := by kernel_rfl
theorem h_ref20_within : ∀ args, B_ref20_within args = evBody X_ref20_within Go.Proofs.Tryz.f34 args ∨ B_ref20_within args = .leaf failM
  | [] => .inr rfl
  | [a0] => .inl (congrFun e_ref20_within a0).symm
  | _ :: _ :: _ => .inr rfl
theorem s_ref20_within : SoundP Go.Proofs.Tryz.prog 34 F_ref20_within := soundP_of (soundS_print (ctxOk_of tyT_ok (.consP s_ref08_Within .nil) .nil _ _) fol Go.Proofs.Tryz.func34 (by kernel_rfl) (by kernel_rfl) h_ref20_within) false
def X_ref20_Right : Ctx := ⟨tyT, lookC [(34, .P F_ref20_within)], lookD [], false, { join := [], blk := [], loop := [(5, [1, 3, 4]), (10, [1, 3, 5])], own := [], frz := [], buf := [] }⟩
theorem e_ref20_Right : (fun a0 => evBody X_ref20_Right Go.Proofs.Tryz.f16 [a0]) = fun a0 => B_ref20_Right [a0] := by kernel_rfl
theorem h_ref20_Right : ∀ args, B_ref20_Right args = evBody X_ref20_Right Go.Proofs.Tryz.f16 args ∨ B_ref20_Right args = .leaf failM
  | [] => .inr rfl
  | [a0] => .inl (congrFun e_ref20_Right a0).symm
  | _ :: _ :: _ => .inr rfl
theorem s_ref20_Right : SoundP Go.Proofs.Tryz.prog 16 F_ref20_Right := soundP_of (soundS_print (ctxOk_of tyT_ok (.consP s_ref20_within .nil) .nil _ _) fol Go.Proofs.Tryz.func16 (by kernel_rfl) (by kernel_rfl) h_ref20_Right) false
def X_ref02_Right : Ctx := ⟨tyT, lookC [], lookD [], false, { join := [], blk := [], loop := [], own := [], frz := [], buf := [] }⟩
theorem e_ref02_Right : (fun a0 => evBody X_ref02_Right Go.Proofs.Tryz.f119 [a0]) = fun a0 => B_ref02_Right [a0] := by kernel_rfl
theorem h_ref02_Right : ∀ args, B_ref02_Right args = evBody X_ref02_Right Go.Proofs.Tryz.f119 args ∨ B_ref02_Right args = .leaf failM
  | [] => .inr rfl
  | [a0] => .inl (congrFun e_ref02_Right a0).symm
  | _ :: _ :: _ => .inr rfl
theorem s_ref02_Right : SoundP Go.Proofs.Tryz.prog 119 F_ref02_Right := soundP_of (soundS_print (ctxOk_of tyT_ok .nil .nil _ _) fol Go.Proofs.Tryz.func119 (by kernel_rfl) (by kernel_rfl) h_ref02_Right) false
def X_ref03_Right : Ctx := ⟨tyT, lookC [(119, .P F_ref02_Right)], lookD [], false, { join := [], blk := [], loop := [], own := [], frz := [], buf := [] }⟩
theorem e_ref03_Right : (fun a0 => evBody X_ref03_Right Go.Proofs.Tryz.f88 [a0]) = fun a0 => B_ref03_Right [a0] := by kernel_rfl
theorem h_ref03_Right : ∀ args, B_ref03_Right args = evBody X_ref03_Right Go.Proofs.Tryz.f88 args ∨ B_ref03_Right args = .leaf failM
  | [] => .inr rfl
  | [a0] => .inl (congrFun e_ref03_Right a0).symm
  | _ :: _ :: _ => .inr rfl
theorem s_ref03_Right : SoundP Go.Proofs.Tryz.prog 88 F_ref03_Right := soundP_of (soundS_print (ctxOk_of tyT_ok (.consP s_ref02_Right .nil) .nil _ _) fol Go.Proofs.Tryz.func88 (by kernel_rfl) (by kernel_rfl) h_ref03_Right) false
def X_ref02_digit : Ctx := ⟨tyT, lookC [], lookD [], false, { join := [], blk := [], loop := [], own := [], frz := [], buf := [] }⟩
theorem e_ref02_digit : (fun a0 a1 => evBody X_ref02_digit Go.Proofs.Tryz.f143 [a0, a1]) = fun a0 a1 => B_ref02_digit [a0, a1] := by kernel_rfl
theorem h_ref02_digit : ∀ args, B_ref02_digit args = evBody X_ref02_digit Go.Proofs.Tryz.f143 args ∨ B_ref02_digit args = .leaf failM
  | [] => .inr rfl
  | [_] => .inr rfl
  | [a0, a1] => .inl (congrFun (congrFun e_ref02_digit a0) a1).symm
  | _ :: _ :: _ :: _ => .inr rfl
theorem s_ref02_digit : SoundP Go.Proofs.Tryz.prog 143 F_ref02_digit := soundP_of (soundS_print (ctxOk_of tyT_ok .nil .nil _ _) fol Go.Proofs.Tryz.func143 (by kernel_rfl) (by kernel_rfl) h_ref02_digit) false
def X_ref02_trim : Ctx := ⟨tyT, lookC [], lookD [], false, { join := [], blk := [], loop := [(2, [0, 3]), (6, [0, 3, 4, 5])], own := [], frz := [], buf := [] }⟩
theorem e_ref02_trim : (fun a0 => evBody X_ref02_trim Go.Proofs.Tryz.f144 [a0]) = fun a0 => B_ref02_trim [a0] := by kernel_rfl
theorem h_ref02_trim : ∀ args, B_ref02_trim args = evBody X_ref02_trim Go.Proofs.Tryz.f144 args ∨ B_ref02_trim args = .leaf failM
  | [] => .inr rfl
  | [a0] => .inl (congrFun e_ref02_trim a0).symm
  | _ :: _ :: _ => .inr rfl
theorem s_ref02_trim : SoundP Go.Proofs.Tryz.prog 144 F_ref02_trim := soundP_of (soundS_print (ctxOk_of tyT_ok .nil .nil _ _) fol Go.Proofs.Tryz.func144 (by kernel_rfl) (by kernel_rfl) h_ref02_trim) false
def X_ref02_Plus : Ctx := ⟨tyT, lookC [(143, .P F_ref02_digit), (144, .P F_ref02_trim)], lookD [], false, { join := [], blk := [], loop := [(4, [0, 1, 5, 6, 7])], own := [], frz := [37], buf := [] }⟩
theorem e_ref02_Plus : (fun a0 a1 => evBody X_ref02_Plus Go.Proofs.Tryz.f123 [a0, a1]) = fun a0 a1 => B_ref02_Plus [a0, a1] := by kernel_rfl
theorem h_ref02_Plus : ∀ args, B_ref02_Plus args = evBody X_ref02_Plus Go.Proofs.Tryz.f123 args ∨ B_ref02_Plus args = .leaf failM
  | [] => .inr rfl
  | [_] => .inr rfl
  | [a0, a1] => .inl (congrFun (congrFun e_ref02_Plus a0) a1).symm
  | _ :: _ :: _ :: _ => .inr rfl
theorem s_ref02_Plus : SoundP Go.Proofs.Tryz.prog 123 F_ref02_Plus := soundP_of (soundS_print (ctxOk_of tyT_ok (.consP s_ref02_digit (.consP s_ref02_trim .nil)) .nil _ _) fol Go.Proofs.Tryz.func123 (by kernel_rfl) (by kernel_rfl) h_ref02_Plus) false
def X_ref02_Of : Ctx := ⟨tyT, lookC [(144, .P F_ref02_trim)], lookD [], false, { join := [], blk := [], loop := [], own := [], frz := [10], buf := [] }⟩
theorem e_ref02_Of : (fun a0 => evBody X_ref02_Of Go.Proofs.Tryz.f127 [a0]) = fun a0 => B_ref02_Of [a0] := by kernel_rfl
theorem h_ref02_Of : ∀ args, B_ref02_Of args = evBody X_ref02_Of Go.Proofs.Tryz.f127 args ∨ B_ref02_Of args = .leaf failM
  | [] => .inr rfl
  | [a0] => .inl (congrFun e_ref02_Of a0).symm
  | _ :: _ :: _ => .inr rfl
theorem s_ref02_Of : SoundP Go.Proofs.Tryz.prog 127 F_ref02_Of := soundP_of (soundS_print (ctxOk_of tyT_ok (.consP s_ref02_trim .nil) .nil _ _) fol Go.Proofs.Tryz.func127 (by kernel_rfl) (by kernel_rfl) h_ref02_Of) false
def X_ref02_twice : Ctx := ⟨tyT, lookC [(123, .P F_ref02_Plus), (127, .P F_ref02_Of)], lookD [], false, { join := [], blk := [], loop := [], own := [], frz := [], buf := [] }⟩
theorem e_ref02_twice : (fun a0 a1 => evBody X_ref02_twice Go.Proofs.Tryz.f141 [a0, a1]) = fun a0 a1 => B_ref02_twice [a0, a1] := by kernel_rfl
theorem h_ref02_twice : ∀ args, B_ref02_twice args = evBody X_ref02_twice Go.Proofs.Tryz.f141 args ∨ B_ref02_twice args = .leaf failM
  | [] => .inr rfl
  | [_] => .inr rfl
  | [a0, a1] => .inl (congrFun (congrFun e_ref02_twice a0) a1).symm
  | _ :: _ :: _ :: _ => .inr rfl
theorem s_ref02_twice : SoundP Go.Proofs.Tryz.prog 141 F_ref02_twice := soundP_of (soundS_print (ctxOk_of tyT_ok (.consP s_ref02_Plus (.consP s_ref02_Of .nil)) .nil _ _) fol Go.Proofs.Tryz.func141 (by kernel_rfl) (by kernel_rfl) h_ref02_twice) false
def X_ref02_Less : Ctx := ⟨tyT, lookC [], lookD [], false, { join := [], blk := [], loop := [(4, [0, 1, 5])], own := [], frz := [], buf := [] }⟩
theorem e_ref02_Less : (fun a0 a1 => evBody X_ref02_Less Go.Proofs.Tryz.f124 [a0, a1]) = fun a0 a1 => B_ref02_Less [a0, a1] := by kernel_rfl
theorem h_ref02_Less : ∀ args, B_ref02_Less args = evBody X_ref02_Less Go.Proofs.Tryz.f124 args ∨ B_ref02_Less args = .leaf failM
  | [] => .inr rfl
  | [_] => .inr rfl
  | [a0, a1] => .inl (congrFun (congrFun e_ref02_Less a0) a1).symm
  | _ :: _ :: _ :: _ => .inr rfl
theorem s_ref02_Less : SoundP Go.Proofs.Tryz.prog 124 F_ref02_Less := soundP_of (soundS_print (ctxOk_of tyT_ok .nil .nil _ _) fol Go.Proofs.Tryz.func124 (by kernel_rfl) (by kernel_rfl) h_ref02_Less) false
def X_ref02_Minus : Ctx := ⟨tyT, lookC [(143, .P F_ref02_digit), (144, .P F_ref02_trim)], lookD [], false, { join := [], blk := [], loop := [(4, [0, 1, 5, 6, 7])], own := [], frz := [35], buf := [] }⟩
theorem e_ref02_Minus : (fun a0 a1 => evBody X_ref02_Minus Go.Proofs.Tryz.f125 [a0, a1]) = fun a0 a1 => B_ref02_Minus [a0, a1] := by kernel_rfl
theorem h_ref02_Minus : ∀ args, B_ref02_Minus args = evBody X_ref02_Minus Go.Proofs.Tryz.f125 args ∨ B_ref02_Minus args = .leaf failM
  | [] => .inr rfl
  | [_] => .inr rfl
  | [a0, a1] => .inl (congrFun (congrFun e_ref02_Minus a0) a1).symm
  | _ :: _ :: _ :: _ => .inr rfl
theorem s_ref02_Minus : SoundP Go.Proofs.Tryz.prog 125 F_ref02_Minus := soundP_of (soundS_print (ctxOk_of tyT_ok (.consP s_ref02_digit (.consP s_ref02_trim .nil)) .nil _ _) fol Go.Proofs.Tryz.func125 (by kernel_rfl) (by kernel_rfl) h_ref02_Minus) false
def X_ref02_DivMod : Ctx := ⟨tyT, lookC [(119, .P F_ref02_Right), (124, .P F_ref02_Less), (125, .P F_ref02_Minus), (141, .P F_ref02_twice)], lookD [], false, { join := [], blk := [], loop := [(5, [0, 1, 7, 8, 9])], own := [], frz := [], buf := [] }⟩
theorem e_ref02_DivMod : (fun a0 a1 => evBody X_ref02_DivMod Go.Proofs.Tryz.f120 [a0, a1]) = fun a0 a1 => B_ref02_DivMod [a0, a1] := by kernel_rfl
theorem h_ref02_DivMod : ∀ args, B_ref02_DivMod args = evBody X_ref02_DivMod Go.Proofs.Tryz.f120 args ∨ B_ref02_DivMod args = .leaf failM
  | [] => .inr rfl
  | [_] => .inr rfl
  | [a0, a1] => .inl (congrFun (congrFun e_ref02_DivMod a0) a1).symm
  | _ :: _ :: _ :: _ => .inr rfl
theorem s_ref02_DivMod : SoundP Go.Proofs.Tryz.prog 120 F_ref02_DivMod := soundP_of (soundS_print (ctxOk_of tyT_ok (.consP s_ref02_Right (.consP s_ref02_Less (.consP s_ref02_Minus (.consP s_ref02_twice .nil)))) .nil _ _) fol Go.Proofs.Tryz.func120 (by kernel_rfl) (by kernel_rfl) h_ref02_DivMod) false
def X_ref03_made : Ctx := ⟨tyT, lookC [], lookD [], false, { join := [], blk := [], loop := [], own := [], frz := [], buf := [] }⟩
theorem e_ref03_made : (fun a0 a1 => evBody X_ref03_made Go.Proofs.Tryz.f121 [a0, a1]) = fun a0 a1 => B_ref03_made [a0, a1] := by kernel_rfl
theorem h_ref03_made : ∀ args, B_ref03_made args = evBody X_ref03_made Go.Proofs.Tryz.f121 args ∨ B_ref03_made args = .leaf failM
  | [] => .inr rfl
  | [_] => .inr rfl
  | [a0, a1] => .inl (congrFun (congrFun e_ref03_made a0) a1).symm
  | _ :: _ :: _ :: _ => .inr rfl
theorem s_ref03_made : SoundP Go.Proofs.Tryz.prog 121 F_ref03_made := soundP_of (soundS_print (ctxOk_of tyT_ok .nil .nil _ _) fol Go.Proofs.Tryz.func121 (by kernel_rfl) (by kernel_rfl) h_ref03_made) false
def X_ref03_Gcd : Ctx := ⟨tyT, lookC [(88, .P F_ref03_Right), (120, .P F_ref02_DivMod), (121, .P F_ref03_made)], lookD [], false, { join := [], blk := [], loop := [(4, [4, 6, 7])], own := [], frz := [], buf := [] }⟩
theorem e_ref03_Gcd : (fun a0 a1 => evBody X_ref03_Gcd Go.Proofs.Tryz.f89 [a0, a1]) = fun a0 a1 => B_ref03_Gcd [a0, a1] := by kernel_rfl
theorem h_ref03_Gcd : ∀ args, B_ref03_Gcd args = evBody X_ref03_Gcd Go.Proofs.Tryz.f89 args ∨ B_ref03_Gcd args = .leaf failM
  | [] => .inr rfl
  | [_] => .inr rfl
  | [a0, a1] => .inl (congrFun (congrFun e_ref03_Gcd a0) a1).symm
  | _ :: _ :: _ :: _ => .inr rfl
theorem s_ref03_Gcd : SoundP Go.Proofs.Tryz.prog 89 F_ref03_Gcd := soundP_of (soundS_print (ctxOk_of tyT_ok (.consP s_ref03_Right (.consP s_ref02_DivMod (.consP s_ref03_made .nil))) .nil _ _) fol Go.Proofs.Tryz.func89 (by kernel_rfl) (by kernel_rfl) h_ref03_Gcd) false
def X_ref04_one : Ctx := ⟨tyT, lookC [], lookD [], false, { join := [], blk := [], loop := [], own := [], frz := [], buf := [] }⟩
theorem e_ref04_one : (fun a0 => evBody X_ref04_one Go.Proofs.Tryz.f90 [a0]) = fun a0 => B_ref04_one [a0] := by kernel_rfl
theorem h_ref04_one : ∀ args, B_ref04_one args = evBody X_ref04_one Go.Proofs.Tryz.f90 args ∨ B_ref04_one args = .leaf failM
  | [] => .inr rfl
  | [a0] => .inl (congrFun e_ref04_one a0).symm
  | _ :: _ :: _ => .inr rfl
theorem s_ref04_one : SoundP Go.Proofs.Tryz.prog 90 F_ref04_one := soundP_of (soundS_print (ctxOk_of tyT_ok .nil .nil _ _) fol Go.Proofs.Tryz.func90 (by kernel_rfl) (by kernel_rfl) h_ref04_one) false
def X_ref04_Right : Ctx := ⟨tyT, lookC [(88, .P F_ref03_Right), (89, .P F_ref03_Gcd), (90, .P F_ref04_one)], lookD [], false, { join := [], blk := [], loop := [], own := [], frz := [], buf := [] }⟩
theorem e_ref04_Right : (fun a0 => evBody X_ref04_Right Go.Proofs.Tryz.f57 [a0]) = fun a0 => B_ref04_Right [a0] := by kernel_rfl
theorem h_ref04_Right : ∀ args, B_ref04_Right args = evBody X_ref04_Right Go.Proofs.Tryz.f57 args ∨ B_ref04_Right args = .leaf failM
  | [] => .inr rfl
  | [a0] => .inl (congrFun e_ref04_Right a0).symm
  | _ :: _ :: _ => .inr rfl
theorem s_ref04_Right : SoundP Go.Proofs.Tryz.prog 57 F_ref04_Right := soundP_of (soundS_print (ctxOk_of tyT_ok (.consP s_ref03_Right (.consP s_ref03_Gcd (.consP s_ref04_one .nil))) .nil _ _) fol Go.Proofs.Tryz.func57 (by kernel_rfl) (by kernel_rfl) h_ref04_Right) false
def X_ref20_below : Ctx := ⟨tyT, lookC [], lookD [], false, { join := [], blk := [], loop := [], own := [], frz := [], buf := [] }⟩
theorem e_ref20_below : (fun a0 => evBody X_ref20_below Go.Proofs.Tryz.f58 [a0]) = fun a0 => B_ref20_below [a0] := by kernel_rfl
theorem h_ref20_below : ∀ args, B_ref20_below args = evBody X_ref20_below Go.Proofs.Tryz.f58 args ∨ B_ref20_below args = .leaf failM
  | [] => .inr rfl
  | [a0] => .inl (congrFun e_ref20_below a0).symm
  | _ :: _ :: _ => .inr rfl
theorem s_ref20_below : SoundP Go.Proofs.Tryz.prog 58 F_ref20_below := soundP_of (soundS_print (ctxOk_of tyT_ok .nil .nil _ _) fol Go.Proofs.Tryz.func58 (by kernel_rfl) (by kernel_rfl) h_ref20_below) false
def X_ref20_Numbers : Ctx := ⟨tyT, lookC [(57, .P F_ref04_Right), (58, .P F_ref20_below)], lookD [], false, { join := [], blk := [], loop := [(4, [1, 5])], own := [], frz := [], buf := [] }⟩
theorem e_ref20_Numbers : (fun a0 a1 => evBody X_ref20_Numbers Go.Proofs.Tryz.f29 [a0, a1]) = fun a0 a1 => B_ref20_Numbers [a0, a1] := by kernel_rfl
theorem h_ref20_Numbers : ∀ args, B_ref20_Numbers args = evBody X_ref20_Numbers Go.Proofs.Tryz.f29 args ∨ B_ref20_Numbers args = .leaf failM
  | [] => .inr rfl
  | [_] => .inr rfl
  | [a0, a1] => .inl (congrFun (congrFun e_ref20_Numbers a0) a1).symm
  | _ :: _ :: _ :: _ => .inr rfl
theorem s_ref20_Numbers : SoundP Go.Proofs.Tryz.prog 29 F_ref20_Numbers := soundP_of (soundS_print (ctxOk_of tyT_ok (.consP s_ref04_Right (.consP s_ref20_below .nil)) .nil _ _) fol Go.Proofs.Tryz.func29 (by kernel_rfl) (by kernel_rfl) h_ref20_Numbers) false
def X_ref03_Of : Ctx := ⟨tyT, lookC [(121, .P F_ref03_made), (123, .P F_ref02_Plus), (127, .P F_ref02_Of)], lookD [], false, { join := [], blk := [], loop := [], own := [], frz := [11], buf := [] }⟩
theorem e_ref03_Of : (fun a0 => evBody X_ref03_Of Go.Proofs.Tryz.f95 [a0]) = fun a0 => B_ref03_Of [a0] := by kernel_rfl
theorem h_ref03_Of : ∀ args, B_ref03_Of args = evBody X_ref03_Of Go.Proofs.Tryz.f95 args ∨ B_ref03_Of args = .leaf failM
  | [] => .inr rfl
  | [a0] => .inl (congrFun e_ref03_Of a0).symm
  | _ :: _ :: _ => .inr rfl
theorem s_ref03_Of : SoundP Go.Proofs.Tryz.prog 95 F_ref03_Of := soundP_of (soundS_print (ctxOk_of tyT_ok (.consP s_ref03_made (.consP s_ref02_Plus (.consP s_ref02_Of .nil))) .nil _ _) fol Go.Proofs.Tryz.func95 (by kernel_rfl) (by kernel_rfl) h_ref03_Of) false
def X_ref04_Of : Ctx := ⟨tyT, lookC [(95, .P F_ref03_Of)], lookD [], false, { join := [], blk := [], loop := [], own := [], frz := [], buf := [] }⟩
theorem e_ref04_Of : (fun a0 => evBody X_ref04_Of Go.Proofs.Tryz.f61 [a0]) = fun a0 => B_ref04_Of [a0] := by kernel_rfl
theorem h_ref04_Of : ∀ args, B_ref04_Of args = evBody X_ref04_Of Go.Proofs.Tryz.f61 args ∨ B_ref04_Of args = .leaf failM
  | [] => .inr rfl
  | [a0] => .inl (congrFun e_ref04_Of a0).symm
  | _ :: _ :: _ => .inr rfl
theorem s_ref04_Of : SoundP Go.Proofs.Tryz.prog 61 F_ref04_Of := soundP_of (soundS_print (ctxOk_of tyT_ok (.consP s_ref03_Of .nil) .nil _ _) fol Go.Proofs.Tryz.func61 (by kernel_rfl) (by kernel_rfl) h_ref04_Of) false
def X_ref20_column : Ctx := ⟨tyT, lookC [], lookD [], false, { join := [], blk := [], loop := [(3, [1, 2, 5, 6])], own := [], frz := [], buf := [] }⟩
theorem e_ref20_column : (fun a0 a1 => evBody X_ref20_column Go.Proofs.Tryz.f62 [a0, a1]) = fun a0 a1 => B_ref20_column [a0, a1] := by kernel_rfl
theorem h_ref20_column : ∀ args, B_ref20_column args = evBody X_ref20_column Go.Proofs.Tryz.f62 args ∨ B_ref20_column args = .leaf failM
  | [] => .inr rfl
  | [_] => .inr rfl
  | [a0, a1] => .inl (congrFun (congrFun e_ref20_column a0) a1).symm
  | _ :: _ :: _ :: _ => .inr rfl
theorem s_ref20_column : SoundP Go.Proofs.Tryz.prog 62 F_ref20_column := soundP_of (soundS_print (ctxOk_of tyT_ok .nil .nil _ _) fol Go.Proofs.Tryz.func62 (by kernel_rfl) (by kernel_rfl) h_ref20_column) false
def X_ref02_scaled : Ctx := ⟨tyT, lookC [(143, .P F_ref02_digit), (144, .P F_ref02_trim)], lookD [], false, { join := [], blk := [], loop := [(3, [0, 1, 2, 7, 8]), (8, [0, 1, 7, 9, 10])], own := [], frz := [43], buf := [] }⟩
theorem e_ref02_scaled : (fun a0 a1 a2 => evBody X_ref02_scaled Go.Proofs.Tryz.f145 [a0, a1, a2]) = fun a0 a1 a2 => B_ref02_scaled [a0, a1, a2] := by kernel_rfl
theorem h_ref02_scaled : ∀ args, B_ref02_scaled args = evBody X_ref02_scaled Go.Proofs.Tryz.f145 args ∨ B_ref02_scaled args = .leaf failM
  | [] => .inr rfl
  | [_] => .inr rfl
  | [_, _] => .inr rfl
  | [a0, a1, a2] => .inl (congrFun (congrFun (congrFun e_ref02_scaled a0) a1) a2).symm
  | _ :: _ :: _ :: _ :: _ => .inr rfl
theorem s_ref02_scaled : SoundP Go.Proofs.Tryz.prog 145 F_ref02_scaled := soundP_of (soundS_print (ctxOk_of tyT_ok (.consP s_ref02_digit (.consP s_ref02_trim .nil)) .nil _ _) fol Go.Proofs.Tryz.func145 (by kernel_rfl) (by kernel_rfl) h_ref02_scaled) false
def X_ref02_Product : Ctx := ⟨tyT, lookC [(123, .P F_ref02_Plus), (145, .P F_ref02_scaled)], lookD [], false, { join := [], blk := [], loop := [(3, [0, 1, 5, 6])], own := [], frz := [], buf := [] }⟩
theorem e_ref02_Product : (fun a0 a1 => evBody X_ref02_Product Go.Proofs.Tryz.f126 [a0, a1]) = fun a0 a1 => B_ref02_Product [a0, a1] := by kernel_rfl
theorem h_ref02_Product : ∀ args, B_ref02_Product args = evBody X_ref02_Product Go.Proofs.Tryz.f126 args ∨ B_ref02_Product args = .leaf failM
  | [] => .inr rfl
  | [_] => .inr rfl
  | [a0, a1] => .inl (congrFun (congrFun e_ref02_Product a0) a1).symm
  | _ :: _ :: _ :: _ => .inr rfl
theorem s_ref02_Product : SoundP Go.Proofs.Tryz.prog 126 F_ref02_Product := soundP_of (soundS_print (ctxOk_of tyT_ok (.consP s_ref02_Plus (.consP s_ref02_scaled .nil)) .nil _ _) fol Go.Proofs.Tryz.func126 (by kernel_rfl) (by kernel_rfl) h_ref02_Product) false
def X_ref03_Times : Ctx := ⟨tyT, lookC [(121, .P F_ref03_made), (126, .P F_ref02_Product)], lookD [], false, { join := [], blk := [], loop := [], own := [], frz := [], buf := [] }⟩
theorem e_ref03_Times : (fun a0 a1 => evBody X_ref03_Times Go.Proofs.Tryz.f94 [a0, a1]) = fun a0 a1 => B_ref03_Times [a0, a1] := by kernel_rfl
theorem h_ref03_Times : ∀ args, B_ref03_Times args = evBody X_ref03_Times Go.Proofs.Tryz.f94 args ∨ B_ref03_Times args = .leaf failM
  | [] => .inr rfl
  | [_] => .inr rfl
  | [a0, a1] => .inl (congrFun (congrFun e_ref03_Times a0) a1).symm
  | _ :: _ :: _ :: _ => .inr rfl
theorem s_ref03_Times : SoundP Go.Proofs.Tryz.prog 94 F_ref03_Times := soundP_of (soundS_print (ctxOk_of tyT_ok (.consP s_ref03_made (.consP s_ref02_Product .nil)) .nil _ _) fol Go.Proofs.Tryz.func94 (by kernel_rfl) (by kernel_rfl) h_ref03_Times) false
def X_ref03_fit : Ctx := ⟨tyT, lookC [], lookD [], false, { join := [], blk := [], loop := [], own := [], frz := [], buf := [] }⟩
theorem e_ref03_fit : (fun a0 => evBody X_ref03_fit Go.Proofs.Tryz.f142 [a0]) = fun a0 => B_ref03_fit [a0] := by kernel_rfl
theorem h_ref03_fit : ∀ args, B_ref03_fit args = evBody X_ref03_fit Go.Proofs.Tryz.f142 args ∨ B_ref03_fit args = .leaf failM
  | [] => .inr rfl
  | [a0] => .inl (congrFun e_ref03_fit a0).symm
  | _ :: _ :: _ => .inr rfl
theorem s_ref03_fit : SoundP Go.Proofs.Tryz.prog 142 F_ref03_fit := soundP_of (soundS_print (ctxOk_of tyT_ok .nil .nil _ _) fol Go.Proofs.Tryz.func142 (by kernel_rfl) (by kernel_rfl) h_ref03_fit) false
def X_ref03_DivMod : Ctx := ⟨tyT, lookC [(88, .P F_ref03_Right), (120, .P F_ref02_DivMod), (121, .P F_ref03_made), (123, .P F_ref02_Plus), (125, .P F_ref02_Minus), (142, .P F_ref03_fit)], lookD [], false, { join := [(7, [3, 4, 5, 7, 8])], blk := [], loop := [], own := [], frz := [53], buf := [] }⟩
theorem e_ref03_DivMod : (fun a0 a1 => evBody X_ref03_DivMod Go.Proofs.Tryz.f122 [a0, a1]) = fun a0 a1 => B_ref03_DivMod [a0, a1] := by kernel_rfl
theorem h_ref03_DivMod : ∀ args, B_ref03_DivMod args = evBody X_ref03_DivMod Go.Proofs.Tryz.f122 args ∨ B_ref03_DivMod args = .leaf failM
  | [] => .inr rfl
  | [_] => .inr rfl
  | [a0, a1] => .inl (congrFun (congrFun e_ref03_DivMod a0) a1).symm
  | _ :: _ :: _ :: _ => .inr rfl
theorem s_ref03_DivMod : SoundP Go.Proofs.Tryz.prog 122 F_ref03_DivMod := soundP_of (soundS_print (ctxOk_of tyT_ok (.consP s_ref03_Right (.consP s_ref02_DivMod (.consP s_ref03_made (.consP s_ref02_Plus (.consP s_ref02_Minus (.consP s_ref03_fit .nil)))))) .nil _ _) fol Go.Proofs.Tryz.func122 (by kernel_rfl) (by kernel_rfl) h_ref03_DivMod) false
def X_ref03_Neg : Ctx := ⟨tyT, lookC [(88, .P F_ref03_Right), (121, .P F_ref03_made)], lookD [], false, { join := [], blk := [], loop := [], own := [], frz := [], buf := [] }⟩
theorem e_ref03_Neg : (fun a0 => evBody X_ref03_Neg Go.Proofs.Tryz.f91 [a0]) = fun a0 => B_ref03_Neg [a0] := by kernel_rfl
theorem h_ref03_Neg : ∀ args, B_ref03_Neg args = evBody X_ref03_Neg Go.Proofs.Tryz.f91 args ∨ B_ref03_Neg args = .leaf failM
  | [] => .inr rfl
  | [a0] => .inl (congrFun e_ref03_Neg a0).symm
  | _ :: _ :: _ => .inr rfl
theorem s_ref03_Neg : SoundP Go.Proofs.Tryz.prog 91 F_ref03_Neg := soundP_of (soundS_print (ctxOk_of tyT_ok (.consP s_ref03_Right (.consP s_ref03_made .nil)) .nil _ _) fol Go.Proofs.Tryz.func91 (by kernel_rfl) (by kernel_rfl) h_ref03_Neg) false
def X_ref04_made : Ctx := ⟨tyT, lookC [(89, .P F_ref03_Gcd), (91, .P F_ref03_Neg), (122, .P F_ref03_DivMod)], lookD [], false, { join := [(5, [4, 8, 11])], blk := [], loop := [], own := [], frz := [], buf := [] }⟩
theorem e_ref04_made : (fun a0 a1 => evBody X_ref04_made Go.Proofs.Tryz.f92 [a0, a1]) = fun a0 a1 => B_ref04_made [a0, a1] := by kernel_rfl
theorem h_ref04_made : ∀ args, B_ref04_made args = evBody X_ref04_made Go.Proofs.Tryz.f92 args ∨ B_ref04_made args = .leaf failM
  | [] => .inr rfl
  | [_] => .inr rfl
  | [a0, a1] => .inl (congrFun (congrFun e_ref04_made a0) a1).symm
  | _ :: _ :: _ :: _ => .inr rfl
theorem s_ref04_made : SoundP Go.Proofs.Tryz.prog 92 F_ref04_made := soundP_of (soundS_print (ctxOk_of tyT_ok (.consP s_ref03_Gcd (.consP s_ref03_Neg (.consP s_ref03_DivMod .nil))) .nil _ _) fol Go.Proofs.Tryz.func92 (by kernel_rfl) (by kernel_rfl) h_ref04_made) false
def X_ref04_Mul : Ctx := ⟨tyT, lookC [(57, .P F_ref04_Right), (92, .P F_ref04_made), (94, .P F_ref03_Times)], lookD [], false, { join := [], blk := [], loop := [], own := [], frz := [], buf := [] }⟩
theorem e_ref04_Mul : (fun a0 a1 => evBody X_ref04_Mul Go.Proofs.Tryz.f96 [a0, a1]) = fun a0 a1 => B_ref04_Mul [a0, a1] := by kernel_rfl
theorem h_ref04_Mul : ∀ args, B_ref04_Mul args = evBody X_ref04_Mul Go.Proofs.Tryz.f96 args ∨ B_ref04_Mul args = .leaf failM
  | [] => .inr rfl
  | [_] => .inr rfl
  | [a0, a1] => .inl (congrFun (congrFun e_ref04_Mul a0) a1).symm
  | _ :: _ :: _ :: _ => .inr rfl
theorem s_ref04_Mul : SoundP Go.Proofs.Tryz.prog 96 F_ref04_Mul := soundP_of (soundS_print (ctxOk_of tyT_ok (.consP s_ref04_Right (.consP s_ref04_made (.consP s_ref03_Times .nil))) .nil _ _) fol Go.Proofs.Tryz.func96 (by kernel_rfl) (by kernel_rfl) h_ref04_Mul) false
def X_ref03_Sum : Ctx := ⟨tyT, lookC [(121, .P F_ref03_made), (123, .P F_ref02_Plus), (124, .P F_ref02_Less), (125, .P F_ref02_Minus)], lookD [], false, { join := [], blk := [], loop := [], own := [], frz := [], buf := [] }⟩
theorem e_ref03_Sum : (fun a0 a1 => evBody X_ref03_Sum Go.Proofs.Tryz.f93 [a0, a1]) = fun a0 a1 => B_ref03_Sum [a0, a1] := by kernel_rfl
theorem h_ref03_Sum : ∀ args, B_ref03_Sum args = evBody X_ref03_Sum Go.Proofs.Tryz.f93 args ∨ B_ref03_Sum args = .leaf failM
  | [] => .inr rfl
  | [_] => .inr rfl
  | [a0, a1] => .inl (congrFun (congrFun e_ref03_Sum a0) a1).symm
  | _ :: _ :: _ :: _ => .inr rfl
theorem s_ref03_Sum : SoundP Go.Proofs.Tryz.prog 93 F_ref03_Sum := soundP_of (soundS_print (ctxOk_of tyT_ok (.consP s_ref03_made (.consP s_ref02_Plus (.consP s_ref02_Less (.consP s_ref02_Minus .nil)))) .nil _ _) fol Go.Proofs.Tryz.func93 (by kernel_rfl) (by kernel_rfl) h_ref03_Sum) false
def X_ref04_Add : Ctx := ⟨tyT, lookC [(57, .P F_ref04_Right), (92, .P F_ref04_made), (93, .P F_ref03_Sum), (94, .P F_ref03_Times)], lookD [], false, { join := [], blk := [], loop := [], own := [], frz := [], buf := [] }⟩
theorem e_ref04_Add : (fun a0 a1 => evBody X_ref04_Add Go.Proofs.Tryz.f60 [a0, a1]) = fun a0 a1 => B_ref04_Add [a0, a1] := by kernel_rfl
theorem h_ref04_Add : ∀ args, B_ref04_Add args = evBody X_ref04_Add Go.Proofs.Tryz.f60 args ∨ B_ref04_Add args = .leaf failM
  | [] => .inr rfl
  | [_] => .inr rfl
  | [a0, a1] => .inl (congrFun (congrFun e_ref04_Add a0) a1).symm
  | _ :: _ :: _ :: _ => .inr rfl
theorem s_ref04_Add : SoundP Go.Proofs.Tryz.prog 60 F_ref04_Add := soundP_of (soundS_print (ctxOk_of tyT_ok (.consP s_ref04_Right (.consP s_ref04_made (.consP s_ref03_Sum (.consP s_ref03_Times .nil)))) .nil _ _) fol Go.Proofs.Tryz.func60 (by kernel_rfl) (by kernel_rfl) h_ref04_Add) false
def X_ref20_plus : Ctx := ⟨tyT, lookC [(60, .P F_ref04_Add), (61, .P F_ref04_Of), (96, .P F_ref04_Mul)], lookD [], false, { join := [], blk := [], loop := [], own := [], frz := [], buf := [] }⟩
theorem e_ref20_plus : (fun a0 a1 a2 => evBody X_ref20_plus Go.Proofs.Tryz.f63 [a0, a1, a2]) = fun a0 a1 a2 => B_ref20_plus [a0, a1, a2] := by kernel_rfl
theorem h_ref20_plus : ∀ args, B_ref20_plus args = evBody X_ref20_plus Go.Proofs.Tryz.f63 args ∨ B_ref20_plus args = .leaf failM
  | [] => .inr rfl
  | [_] => .inr rfl
  | [_, _] => .inr rfl
  | [a0, a1, a2] => .inl (congrFun (congrFun (congrFun e_ref20_plus a0) a1) a2).symm
  | _ :: _ :: _ :: _ :: _ => .inr rfl
theorem s_ref20_plus : SoundP Go.Proofs.Tryz.prog 63 F_ref20_plus := soundP_of (soundS_print (ctxOk_of tyT_ok (.consP s_ref04_Add (.consP s_ref04_Of (.consP s_ref04_Mul .nil))) .nil _ _) fol Go.Proofs.Tryz.func63 (by kernel_rfl) (by kernel_rfl) h_ref20_plus) false
def X_ref20_dot : Ctx := ⟨tyT, lookC [(61, .P F_ref04_Of), (63, .P F_ref20_plus)], lookD [], false, { join := [], blk := [], loop := [(3, [0, 1, 4, 5, 6])], own := [], frz := [], buf := [] }⟩
theorem e_ref20_dot : (fun a0 a1 => evBody X_ref20_dot Go.Proofs.Tryz.f32 [a0, a1]) = fun a0 a1 => B_ref20_dot [a0, a1] := by kernel_rfl
theorem h_ref20_dot : ∀ args, B_ref20_dot args = evBody X_ref20_dot Go.Proofs.Tryz.f32 args ∨ B_ref20_dot args = .leaf failM
  | [] => .inr rfl
  | [_] => .inr rfl
  | [a0, a1] => .inl (congrFun (congrFun e_ref20_dot a0) a1).symm
  | _ :: _ :: _ :: _ => .inr rfl
theorem s_ref20_dot : SoundP Go.Proofs.Tryz.prog 32 F_ref20_dot := soundP_of (soundS_print (ctxOk_of tyT_ok (.consP s_ref04_Of (.consP s_ref20_plus .nil)) .nil _ _) fol Go.Proofs.Tryz.func32 (by kernel_rfl) (by kernel_rfl) h_ref20_dot) false
def X_ref20_least : Ctx := ⟨tyT, lookC [(32, .P F_ref20_dot), (58, .P F_ref20_below), (61, .P F_ref04_Of), (62, .P F_ref20_column), (63, .P F_ref20_plus)], lookD [], false, { join := [(7, [1, 2, 3, 6, 7, 8, 9]), (10, [1, 2, 3, 6, 7, 8, 9, 10])], blk := [], loop := [(3, [1, 2, 3, 6, 7, 8])], own := [], frz := [], buf := [] }⟩
theorem e_ref20_least : (fun a0 a1 a2 => evBody X_ref20_least Go.Proofs.Tryz.f31 [a0, a1, a2]) = fun a0 a1 a2 => B_ref20_least [a0, a1, a2] := by kernel_rfl
theorem h_ref20_least : ∀ args, B_ref20_least args = evBody X_ref20_least Go.Proofs.Tryz.f31 args ∨ B_ref20_least args = .leaf failM
  | [] => .inr rfl
  | [_] => .inr rfl
  | [_, _] => .inr rfl
  | [a0, a1, a2] => .inl (congrFun (congrFun (congrFun e_ref20_least a0) a1) a2).symm
  | _ :: _ :: _ :: _ :: _ => .inr rfl
theorem s_ref20_least : SoundP Go.Proofs.Tryz.prog 31 F_ref20_least := soundP_of (soundS_print (ctxOk_of tyT_ok (.consP s_ref20_dot (.consP s_ref20_below (.consP s_ref04_Of (.consP s_ref20_column (.consP s_ref20_plus .nil))))) .nil _ _) fol Go.Proofs.Tryz.func31 (by kernel_rfl) (by kernel_rfl) h_ref20_least) false
def X_ref04_Neg : Ctx := ⟨tyT, lookC [(57, .P F_ref04_Right), (91, .P F_ref03_Neg)], lookD [], false, { join := [], blk := [], loop := [], own := [], frz := [], buf := [] }⟩
theorem e_ref04_Neg : (fun a0 => evBody X_ref04_Neg Go.Proofs.Tryz.f59 [a0]) = fun a0 => B_ref04_Neg [a0] := by kernel_rfl
theorem h_ref04_Neg : ∀ args, B_ref04_Neg args = evBody X_ref04_Neg Go.Proofs.Tryz.f59 args ∨ B_ref04_Neg args = .leaf failM
  | [] => .inr rfl
  | [a0] => .inl (congrFun e_ref04_Neg a0).symm
  | _ :: _ :: _ => .inr rfl
theorem s_ref04_Neg : SoundP Go.Proofs.Tryz.prog 59 F_ref04_Neg := soundP_of (soundS_print (ctxOk_of tyT_ok (.consP s_ref04_Right (.consP s_ref03_Neg .nil)) .nil _ _) fol Go.Proofs.Tryz.func59 (by kernel_rfl) (by kernel_rfl) h_ref04_Neg) false
def X_ref20_minus : Ctx := ⟨tyT, lookC [(59, .P F_ref04_Neg), (60, .P F_ref04_Add)], lookD [], false, { join := [], blk := [], loop := [], own := [], frz := [], buf := [] }⟩
theorem e_ref20_minus : (fun a0 a1 => evBody X_ref20_minus Go.Proofs.Tryz.f30 [a0, a1]) = fun a0 a1 => B_ref20_minus [a0, a1] := by kernel_rfl
theorem h_ref20_minus : ∀ args, B_ref20_minus args = evBody X_ref20_minus Go.Proofs.Tryz.f30 args ∨ B_ref20_minus args = .leaf failM
  | [] => .inr rfl
  | [_] => .inr rfl
  | [a0, a1] => .inl (congrFun (congrFun e_ref20_minus a0) a1).symm
  | _ :: _ :: _ :: _ => .inr rfl
theorem s_ref20_minus : SoundP Go.Proofs.Tryz.prog 30 F_ref20_minus := soundP_of (soundS_print (ctxOk_of tyT_ok (.consP s_ref04_Neg (.consP s_ref04_Add .nil)) .nil _ _) fol Go.Proofs.Tryz.func30 (by kernel_rfl) (by kernel_rfl) h_ref20_minus) false
def X_ref20_Bound : Ctx := ⟨tyT, lookC [(16, .P F_ref20_Right), (29, .P F_ref20_Numbers), (30, .P F_ref20_minus), (31, .P F_ref20_least), (32, .P F_ref20_dot)], lookD [], false, { join := [], blk := [], loop := [], own := [], frz := [], buf := [] }⟩
theorem e_ref20_Bound : (fun a0 a1 => evBody X_ref20_Bound Go.Proofs.Tryz.f12 [a0, a1]) = fun a0 a1 => B_ref20_Bound [a0, a1] := by kernel_rfl
theorem h_ref20_Bound : ∀ args, B_ref20_Bound args = evBody X_ref20_Bound Go.Proofs.Tryz.f12 args ∨ B_ref20_Bound args = .leaf failM
  | [] => .inr rfl
  | [_] => .inr rfl
  | [a0, a1] => .inl (congrFun (congrFun e_ref20_Bound a0) a1).symm
  | _ :: _ :: _ :: _ => .inr rfl
theorem s_ref20_Bound : SoundP Go.Proofs.Tryz.prog 12 F_ref20_Bound := soundP_of (soundS_print (ctxOk_of tyT_ok (.consP s_ref20_Right (.consP s_ref20_Numbers (.consP s_ref20_minus (.consP s_ref20_least (.consP s_ref20_dot .nil))))) .nil _ _) fol Go.Proofs.Tryz.func12 (by kernel_rfl) (by kernel_rfl) h_ref20_Bound) false
def X_law04_Ours : Ctx := ⟨tyT, lookC [], lookD [], false, { join := [], blk := [], loop := [], own := [], frz := [], buf := [] }⟩
theorem e_law04_Ours : (fun a0 => evBody X_law04_Ours Go.Proofs.Tryz.f14 [a0]) = fun a0 => B_law04_Ours [a0] := by kernel_rfl
theorem h_law04_Ours : ∀ args, B_law04_Ours args = evBody X_law04_Ours Go.Proofs.Tryz.f14 args ∨ B_law04_Ours args = .leaf failM
  | [] => .inr rfl
  | [a0] => .inl (congrFun e_law04_Ours a0).symm
  | _ :: _ :: _ => .inr rfl
theorem s_law04_Ours : SoundP Go.Proofs.Tryz.prog 14 F_law04_Ours := soundP_of (soundS_print (ctxOk_of tyT_ok .nil .nil _ _) fol Go.Proofs.Tryz.func14 (by kernel_rfl) (by kernel_rfl) h_law04_Ours) false
def X_ref02_Same : Ctx := ⟨tyT, lookC [], lookD [], false, { join := [], blk := [], loop := [(4, [0, 1, 5])], own := [], frz := [], buf := [] }⟩
theorem e_ref02_Same : (fun a0 a1 => evBody X_ref02_Same Go.Proofs.Tryz.f64 [a0, a1]) = fun a0 a1 => B_ref02_Same [a0, a1] := by kernel_rfl
theorem h_ref02_Same : ∀ args, B_ref02_Same args = evBody X_ref02_Same Go.Proofs.Tryz.f64 args ∨ B_ref02_Same args = .leaf failM
  | [] => .inr rfl
  | [_] => .inr rfl
  | [a0, a1] => .inl (congrFun (congrFun e_ref02_Same a0) a1).symm
  | _ :: _ :: _ :: _ => .inr rfl
theorem s_ref02_Same : SoundP Go.Proofs.Tryz.prog 64 F_ref02_Same := soundP_of (soundS_print (ctxOk_of tyT_ok .nil .nil _ _) fol Go.Proofs.Tryz.func64 (by kernel_rfl) (by kernel_rfl) h_ref02_Same) false
def X_ref03_Same : Ctx := ⟨tyT, lookC [(64, .P F_ref02_Same)], lookD [], false, { join := [], blk := [], loop := [], own := [], frz := [], buf := [] }⟩
theorem e_ref03_Same : (fun a0 a1 => evBody X_ref03_Same Go.Proofs.Tryz.f33 [a0, a1]) = fun a0 a1 => B_ref03_Same [a0, a1] := by kernel_rfl
theorem h_ref03_Same : ∀ args, B_ref03_Same args = evBody X_ref03_Same Go.Proofs.Tryz.f33 args ∨ B_ref03_Same args = .leaf failM
  | [] => .inr rfl
  | [_] => .inr rfl
  | [a0, a1] => .inl (congrFun (congrFun e_ref03_Same a0) a1).symm
  | _ :: _ :: _ :: _ => .inr rfl
theorem s_ref03_Same : SoundP Go.Proofs.Tryz.prog 33 F_ref03_Same := soundP_of (soundS_print (ctxOk_of tyT_ok (.consP s_ref02_Same .nil) .nil _ _) fol Go.Proofs.Tryz.func33 (by kernel_rfl) (by kernel_rfl) h_ref03_Same) false
def X_ref04_Same : Ctx := ⟨tyT, lookC [(33, .P F_ref03_Same)], lookD [], false, { join := [], blk := [], loop := [], own := [], frz := [], buf := [] }⟩
theorem e_ref04_Same : (fun a0 a1 => evBody X_ref04_Same Go.Proofs.Tryz.f13 [a0, a1]) = fun a0 a1 => B_ref04_Same [a0, a1] := by kernel_rfl
theorem h_ref04_Same : ∀ args, B_ref04_Same args = evBody X_ref04_Same Go.Proofs.Tryz.f13 args ∨ B_ref04_Same args = .leaf failM
  | [] => .inr rfl
  | [_] => .inr rfl
  | [a0, a1] => .inl (congrFun (congrFun e_ref04_Same a0) a1).symm
  | _ :: _ :: _ :: _ => .inr rfl
theorem s_ref04_Same : SoundP Go.Proofs.Tryz.prog 13 F_ref04_Same := soundP_of (soundS_print (ctxOk_of tyT_ok (.consP s_ref03_Same .nil) .nil _ _) fol Go.Proofs.Tryz.func13 (by kernel_rfl) (by kernel_rfl) h_ref04_Same) false
def X_law20_PlexBounds : Ctx := ⟨tyT, lookC [(6, .P F_law20_alive), (7, .P F_law20_fits), (8, .P F_law20_few), (9, .P F_plex_Bound), (10, .P F_law20_Theirs), (11, .P F_law20_Rats), (12, .P F_ref20_Bound), (13, .P F_ref04_Same), (14, .P F_law04_Ours)], lookD [], false, { join := [], blk := [], loop := [], own := [], frz := [], buf := [] }⟩
theorem e_law20_PlexBounds : (fun a0 a1 => evBody X_law20_PlexBounds Go.Proofs.Tryz.f3 [a0, a1]) = fun a0 a1 => B_law20_PlexBounds [a0, a1] := by kernel_rfl
theorem h_law20_PlexBounds : ∀ args, B_law20_PlexBounds args = evBody X_law20_PlexBounds Go.Proofs.Tryz.f3 args ∨ B_law20_PlexBounds args = .leaf failM
  | [] => .inr rfl
  | [_] => .inr rfl
  | [a0, a1] => .inl (congrFun (congrFun e_law20_PlexBounds a0) a1).symm
  | _ :: _ :: _ :: _ => .inr rfl
theorem s_law20_PlexBounds : SoundP Go.Proofs.Tryz.prog 3 F_law20_PlexBounds := soundP_of (soundS_print (ctxOk_of tyT_ok (.consP s_law20_alive (.consP s_law20_fits (.consP s_law20_few (.consP s_plex_Bound (.consP s_law20_Theirs (.consP s_law20_Rats (.consP s_ref20_Bound (.consP s_ref04_Same (.consP s_law04_Ours .nil))))))))) .nil _ _) fol Go.Proofs.Tryz.func3 (by kernel_rfl) (by kernel_rfl) h_law20_PlexBounds) false
def X_law20_small : Ctx := ⟨tyT, lookC [(7, .P F_law20_fits)], lookD [], false, { join := [], blk := [], loop := [], own := [], frz := [], buf := [] }⟩
theorem e_law20_small : (fun a0 => evBody X_law20_small Go.Proofs.Tryz.f15 [a0]) = fun a0 => B_law20_small [a0] := by kernel_rfl
theorem h_law20_small : ∀ args, B_law20_small args = evBody X_law20_small Go.Proofs.Tryz.f15 args ∨ B_law20_small args = .leaf failM
  | [] => .inr rfl
  | [a0] => .inl (congrFun e_law20_small a0).symm
  | _ :: _ :: _ => .inr rfl
theorem s_law20_small : SoundP Go.Proofs.Tryz.prog 15 F_law20_small := soundP_of (soundS_print (ctxOk_of tyT_ok (.consP s_law20_fits .nil) .nil _ _) fol Go.Proofs.Tryz.func15 (by kernel_rfl) (by kernel_rfl) h_law20_small) false
def X_law20_cost : Ctx := ⟨tyT, lookC [], lookD [], false, { join := [], blk := [], loop := [(5, [1, 2, 6, 19, 20, 21]), (12, [1, 2, 6, 54, 55]), (16, [1, 2, 6, 9, 10, 54, 55, 58, 59, 60])], own := [], frz := [], buf := [] }⟩
theorem e_law20_cost : (fun a0 a1 => evBody X_law20_cost Go.Proofs.Tryz.f17 [a0, a1]) = fun a0 a1 => B_law20_cost [a0, a1] := by kernel_rfl
theorem h_law20_cost : ∀ args, B_law20_cost args = evBody X_law20_cost Go.Proofs.Tryz.f17 args ∨ B_law20_cost args = .leaf failM
  | [] => .inr rfl
  | [_] => .inr rfl
  | [a0, a1] => .inl (congrFun (congrFun e_law20_cost a0) a1).symm
  | _ :: _ :: _ :: _ => .inr rfl
theorem s_law20_cost : SoundP Go.Proofs.Tryz.prog 17 F_law20_cost := soundP_of (soundS_print (ctxOk_of tyT_ok .nil .nil _ _) fol Go.Proofs.Tryz.func17 (by kernel_rfl) (by kernel_rfl) h_law20_cost) false
def X_law20_PlexUnder : Ctx := ⟨tyT, lookC [(6, .P F_law20_alive), (8, .P F_law20_few), (9, .P F_plex_Bound), (10, .P F_law20_Theirs), (11, .P F_law20_Rats), (15, .P F_law20_small), (16, .P F_ref20_Right), (17, .P F_law20_cost), (18, .P F_ratio_Cmp), (19, .P F_ratio_Of)], lookD [], false, { join := [], blk := [], loop := [], own := [], frz := [], buf := [] }⟩
theorem e_law20_PlexUnder : (fun a0 a1 a2 => evBody X_law20_PlexUnder Go.Proofs.Tryz.f4 [a0, a1, a2]) = fun a0 a1 a2 => B_law20_PlexUnder [a0, a1, a2] := by kernel_rfl
theorem h_law20_PlexUnder : ∀ args, B_law20_PlexUnder args = evBody X_law20_PlexUnder Go.Proofs.Tryz.f4 args ∨ B_law20_PlexUnder args = .leaf failM
  | [] => .inr rfl
  | [_] => .inr rfl
  | [_, _] => .inr rfl
  | [a0, a1, a2] => .inl (congrFun (congrFun (congrFun e_law20_PlexUnder a0) a1) a2).symm
  | _ :: _ :: _ :: _ :: _ => .inr rfl
theorem s_law20_PlexUnder : SoundP Go.Proofs.Tryz.prog 4 F_law20_PlexUnder := soundP_of (soundS_print (ctxOk_of tyT_ok (.consP s_law20_alive (.consP s_law20_few (.consP s_plex_Bound (.consP s_law20_Theirs (.consP s_law20_Rats (.consP s_law20_small (.consP s_ref20_Right (.consP s_law20_cost (.consP s_ratio_Cmp (.consP s_ratio_Of .nil)))))))))) .nil _ _) fol Go.Proofs.Tryz.func4 (by kernel_rfl) (by kernel_rfl) h_law20_PlexUnder) false
def X_law20_PlexWeak : Ctx := ⟨tyT, lookC [(6, .P F_law20_alive), (8, .P F_law20_few), (9, .P F_plex_Bound), (10, .P F_law20_Theirs), (11, .P F_law20_Rats), (15, .P F_law20_small), (16, .P F_ref20_Right), (18, .P F_ratio_Cmp), (20, .P F_plex_Solve)], lookD [], false, { join := [], blk := [], loop := [], own := [], frz := [], buf := [] }⟩
theorem e_law20_PlexWeak : (fun a0 a1 => evBody X_law20_PlexWeak Go.Proofs.Tryz.f5 [a0, a1]) = fun a0 a1 => B_law20_PlexWeak [a0, a1] := by kernel_rfl
theorem h_law20_PlexWeak : ∀ args, B_law20_PlexWeak args = evBody X_law20_PlexWeak Go.Proofs.Tryz.f5 args ∨ B_law20_PlexWeak args = .leaf failM
  | [] => .inr rfl
  | [_] => .inr rfl
  | [a0, a1] => .inl (congrFun (congrFun e_law20_PlexWeak a0) a1).symm
  | _ :: _ :: _ :: _ => .inr rfl
theorem s_law20_PlexWeak : SoundP Go.Proofs.Tryz.prog 5 F_law20_PlexWeak := soundP_of (soundS_print (ctxOk_of tyT_ok (.consP s_law20_alive (.consP s_law20_few (.consP s_plex_Bound (.consP s_law20_Theirs (.consP s_law20_Rats (.consP s_law20_small (.consP s_ref20_Right (.consP s_ratio_Cmp (.consP s_plex_Solve .nil))))))))) .nil _ _) fol Go.Proofs.Tryz.func5 (by kernel_rfl) (by kernel_rfl) h_law20_PlexWeak) false
end Go.Abs
