/-
  PRINTED BY gen3.py: what the functions mean.
-/
import Derived.Test.YtliomhbmlclmeaaGreatPTy
set_option maxRecDepth 100000
set_option linter.unusedVariables false
namespace Go.Abs
open Go
/- touchstone/plex.within (P) -/
def L_plex_within_1 (me2 : List PV → M) (t3 : List PV) : Prog :=
   .bnd (binM .lss ty_int (g t3 3) (g t3 2)) fun t4 =>
   .ifP t4
   (.bnd (idxM 1 (g t3 1) (g t3 3)) fun t5 =>
   .bnd (loadM none t5) fun t6 =>
   .bnd (unM .neg (g t3 0)) fun t7 =>
   .bnd (binM .lss ty_int64 t6 t7) fun t8 =>
   .bnd (guardM t8 false (ret t6)) fun t9 =>
   .bnd (guardM t8 false (ret (g t3 0))) fun t10 =>
   .bnd (guardM t8 false (binM .gtr ty_int64 t9 t10)) fun t11 =>
   .bnd (pickM t8 (.bool true) t11) fun t12 =>
   .ifP t12
   (.leaf (ret (.bool false)))
   (.bnd (binM .add ty_int (g t3 3) (I 1)) fun t13 =>
   .leaf (me2 [(g t3 0), (g t3 1), (g t3 2), t13])))
   (.leaf (ret (.bool true)))
def B_plex_within : List PV → Prog
 | [a0, a1] => .bnd (lenM a0) fun t1 =>
   .loop L_plex_within_1
   [a1, a0, t1, (I 0)]
 | _ => .leaf failM
def F_plex_within : List PV → PRes := runP false fun a => (B_plex_within a).run
/- touchstone/plex.Right (P) -/
def L_plex_Right_1 (me66 : List PV → M) (t67 : List PV) : Prog :=
   .bnd (binM .lss ty_int (g t67 3) (g t67 2)) fun t68 =>
   .ifP t68
   (.bnd (idxM 1 (g t67 1) (g t67 3)) fun t69 =>
   .bnd (loadM none t69) fun t70 =>
   .bnd (lenM t70) fun t71 =>
   .bnd (binM .neq ty_int t71 (g t67 0)) fun t72 =>
   .bnd (guardM t72 false (ret t70)) fun t73 =>
   .bnd (guardM t72 false (callP false none true F_plex_within [t73, (I 1048576)])) fun t74 =>
   .bnd (guardM t72 false (unM .not t74)) fun t75 =>
   .bnd (pickM t72 (.bool true) t75) fun t76 =>
   .ifP t76
   (.leaf (ret (.bool false)))
   (.bnd (binM .add ty_int (g t67 3) (I 1)) fun t77 =>
   .leaf (me66 [(g t67 0), (g t67 1), (g t67 2), t77])))
   (.leaf (ret (.bool true)))
def L_plex_Right_2 (me50 : List PV → M) (t51 : List PV) : Prog :=
   .bnd (binM .lss ty_int (g t51 3) (g t51 2)) fun t52 =>
   .ifP t52
   (.bnd (addM 0 (g t51 0)) fun t53 =>
   .bnd (loadM none t53) fun t54 =>
   .bnd (idxM 1 t54 (g t51 3)) fun t55 =>
   .bnd (loadM none t55) fun t56 =>
   .bnd (addM 1 (g t51 0)) fun t57 =>
   .bnd (loadM none t57) fun t58 =>
   .bnd (idxM 1 t58 (g t51 3)) fun t59 =>
   .bnd (loadM none t59) fun t60 =>
   .bnd (binM .gtr ty_int64 t56 t60) fun t61 =>
   .ifP t61
   (.leaf (ret (.bool false)))
   (.bnd (binM .add ty_int (g t51 3) (I 1)) fun t62 =>
   .leaf (me50 [(g t51 0), (g t51 1), (g t51 2), t62])))
   (.bnd (addM 2 (g t51 0)) fun t63 =>
   .bnd (loadM none t63) fun t64 =>
   .bnd (lenM t64) fun t65 =>
   .loop L_plex_Right_1
   [(g t51 1), t64, t65, (I 0)])
def B_plex_Right : List PV → Prog
 | [a0] => .bnd (boxM none 5 a0) fun t1 =>
   .bnd (addM 0 t1) fun t2 =>
   .bnd (loadM none t2) fun t3 =>
   .bnd (lenM t3) fun t4 =>
   .bnd (binM .gtr ty_int t4 (I 64)) fun t5 =>
   .bnd (guardM t5 false (addM 1 t1)) fun t6 =>
   .bnd (guardM t5 false (loadM none t6)) fun t7 =>
   .bnd (guardM t5 false (lenM t7)) fun t8 =>
   .bnd (guardM t5 false (ret t4)) fun t9 =>
   .bnd (guardM t5 false (binM .neq ty_int t8 t9)) fun t10 =>
   .bnd (pickM t5 (.bool true) t10) fun t11 =>
   .bnd (guardM t11 false (addM 4 t1)) fun t12 =>
   .bnd (guardM t11 false (loadM none t12)) fun t13 =>
   .bnd (guardM t11 false (lenM t13)) fun t14 =>
   .bnd (guardM t11 false (ret t4)) fun t15 =>
   .bnd (guardM t11 false (binM .neq ty_int t14 t15)) fun t16 =>
   .bnd (pickM t11 (.bool true) t16) fun t17 =>
   .bnd (guardM t17 false (addM 2 t1)) fun t18 =>
   .bnd (guardM t17 false (loadM none t18)) fun t19 =>
   .bnd (guardM t17 false (lenM t19)) fun t20 =>
   .bnd (guardM t17 false (addM 3 t1)) fun t21 =>
   .bnd (guardM t17 false (loadM none t21)) fun t22 =>
   .bnd (guardM t17 false (lenM t22)) fun t23 =>
   .bnd (guardM t17 false (binM .neq ty_int t20 t23)) fun t24 =>
   .bnd (pickM t17 (.bool true) t24) fun t25 =>
   .bnd (guardM t25 false (addM 2 t1)) fun t26 =>
   .bnd (guardM t25 false (loadM none t26)) fun t27 =>
   .bnd (guardM t25 false (lenM t27)) fun t28 =>
   .bnd (guardM t25 false (binM .gtr ty_int t28 (I 160))) fun t29 =>
   .bnd (pickM t25 (.bool true) t29) fun t30 =>
   .ifP t30
   (.leaf (ret (.bool false)))
   (.bnd (addM 0 t1) fun t31 =>
   .bnd (loadM none t31) fun t32 =>
   .bnd (callP false none true F_plex_within [t32, (I 1048576)]) fun t33 =>
   .bnd (unM .not t33) fun t34 =>
   .bnd (guardM t34 false (addM 1 t1)) fun t35 =>
   .bnd (guardM t34 false (loadM none t35)) fun t36 =>
   .bnd (guardM t34 false (callP false none true F_plex_within [t36, (I 1048576)])) fun t37 =>
   .bnd (guardM t34 false (unM .not t37)) fun t38 =>
   .bnd (pickM t34 (.bool true) t38) fun t39 =>
   .bnd (guardM t39 false (addM 4 t1)) fun t40 =>
   .bnd (guardM t39 false (loadM none t40)) fun t41 =>
   .bnd (guardM t39 false (callP false none true F_plex_within [t41, (I 1048576)])) fun t42 =>
   .bnd (guardM t39 false (unM .not t42)) fun t43 =>
   .bnd (pickM t39 (.bool true) t43) fun t44 =>
   .bnd (guardM t44 false (addM 3 t1)) fun t45 =>
   .bnd (guardM t44 false (loadM none t45)) fun t46 =>
   .bnd (guardM t44 false (callP false none true F_plex_within [t46, (I 1099511627776)])) fun t47 =>
   .bnd (guardM t44 false (unM .not t47)) fun t48 =>
   .bnd (pickM t44 (.bool true) t48) fun t49 =>
   .ifP t49
   (.leaf (ret (.bool false)))
   (.loop L_plex_Right_2
   [t1, t4, t4, (I 0)]))
 | _ => .leaf failM
def F_plex_Right : List PV → PRes := runP false fun a => (B_plex_Right a).run
/- touchstone/nat.trim (P) -/
def L_nat_trim_1 (me1 : List PV → M) (t2 : List PV) : Prog :=
   .bnd (lenM (g t2 0)) fun t3 =>
   .bnd (binM .gtr ty_int t3 (I 0)) fun t4 =>
   .bnd (guardM t4 true (ret (g t2 0))) fun t5 =>
   .bnd (guardM t4 true (ret (g t2 0))) fun t6 =>
   .bnd (guardM t4 true (lenM t6)) fun t7 =>
   .bnd (guardM t4 true (binM .sub ty_int t7 (I 1))) fun t8 =>
   .bnd (guardM t4 true (idxM 1 t5 t8)) fun t9 =>
   .bnd (guardM t4 true (loadM none t9)) fun t10 =>
   .bnd (guardM t4 true (binM .eql ty_uint32 t10 (.int .u32 0))) fun t11 =>
   .bnd (pickM t4 t11 (.bool false)) fun t12 =>
   .ifP t12
   (.bnd (lenM (g t2 0)) fun t13 =>
   .bnd (binM .sub ty_int t13 (I 1)) fun t14 =>
   .bnd (sliceM 1 (g t2 0) none (some t14) none) fun t15 =>
   .leaf (me1 [t15]))
   (.leaf (ret (g t2 0)))
def B_nat_trim : List PV → Prog
 | [a0] => .loop L_nat_trim_1
   [a0]
 | _ => .leaf failM
def F_nat_trim : List PV → PRes := runP false fun a => (B_nat_trim a).run
/- touchstone/nat.Of (P) -/
def B_nat_Of : List PV → Prog
 | [a0] => .bnd (convM .u32 a0) fun t1 =>
   .bnd (binM .shr ty_uint64 a0 (.int .u64 32)) fun t2 =>
   .bnd (convM .u32 t2) fun t3 =>
   .bnd (buildSliceM none 1 false (.int .u32 0) 2 [(0, t1), (1, t3)]) fun t4 =>
   .bnd (callP true none true F_nat_trim [t4]) fun t5 =>
   .leaf (ret t5)
 | _ => .leaf failM
def F_nat_Of : List PV → PRes := runP false fun a => (B_nat_Of a).run
/- touchstone/signed.Of (P) -/
def B_signed_Of : List PV → Prog
 | [a0] => .bnd (boxM none 2 (.agg [(.bool false), .nilS])) fun t1 =>
   .bnd (binM .lss ty_int64 a0 (I 0)) fun t2 =>
   .ifP t2
   (.bnd (convM .u64 a0) fun t3 =>
   .bnd (unM .neg t3) fun t4 =>
   .bnd (callP false none true F_nat_Of [t4]) fun t5 =>
   .bnd (buildM [(.bool false), .nilS] [(0, 1, (.bool true)), (1, 1, t5)]) fun t6 =>
   .bnd (storeM 2 t1 t6) fun _ =>
   .bnd (loadM (some 2) t1) fun t8 =>
   .leaf (ret t8))
   (.bnd (convM .u64 a0) fun t9 =>
   .bnd (callP false none true F_nat_Of [t9]) fun t10 =>
   .bnd (buildM [(.bool false), .nilS] [(0, 1, (.bool false)), (1, 1, t10)]) fun t11 =>
   .bnd (storeM 2 t1 t11) fun _ =>
   .bnd (loadM (some 2) t1) fun t13 =>
   .leaf (ret t13))
 | _ => .leaf failM
def F_signed_Of : List PV → PRes := runP false fun a => (B_signed_Of a).run
/- touchstone/ratio.Of (P) -/
def B_ratio_Of : List PV → Prog
 | [a0] => .bnd (boxM none 4 (.agg [(.bool false), .nilS, (.bool false), .nilS])) fun t1 =>
   .bnd (callP false none true F_signed_Of [a0]) fun t2 =>
   .bnd (callP false none true F_signed_Of [(I 1)]) fun t3 =>
   .bnd (buildM [(.bool false), .nilS, (.bool false), .nilS] [(0, 2, t2), (2, 2, t3)]) fun t4 =>
   .bnd (storeM 4 t1 t4) fun _ =>
   .bnd (loadM (some 4) t1) fun t6 =>
   .leaf (ret t6)
 | _ => .leaf failM
def F_ratio_Of : List PV → PRes := runP false fun a => (B_ratio_Of a).run
/- touchstone/nat.Right (P) -/
def B_nat_Right : List PV → Prog
 | [a0] => .bnd (lenM a0) fun t1 =>
   .bnd (binM .leq ty_int t1 (I 256)) fun t2 =>
   .bnd (guardM t2 true (ret a0)) fun t3 =>
   .bnd (guardM t2 true (lenM t3)) fun t4 =>
   .bnd (guardM t2 true (binM .eql ty_int t4 (I 0))) fun t5 =>
   .bnd (guardM t2 true (ret t5)) fun t6 =>
   .bnd (guardM t6 false (ret a0)) fun t7 =>
   .bnd (guardM t6 false (ret a0)) fun t8 =>
   .bnd (guardM t6 false (lenM t8)) fun t9 =>
   .bnd (guardM t6 false (binM .sub ty_int t9 (I 1))) fun t10 =>
   .bnd (guardM t6 false (idxM 1 t7 t10)) fun t11 =>
   .bnd (guardM t6 false (loadM none t11)) fun t12 =>
   .bnd (guardM t6 false (binM .neq ty_uint32 t12 (.int .u32 0))) fun t13 =>
   .bnd (guardM t2 true (pickM t6 (.bool true) t13)) fun t14 =>
   .bnd (pickM t2 t14 (.bool false)) fun t15 =>
   .leaf (ret t15)
 | _ => .leaf failM
def F_nat_Right : List PV → PRes := runP false fun a => (B_nat_Right a).run
/- touchstone/signed.Right (P) -/
def B_signed_Right : List PV → Prog
 | [a0] => .bnd (boxM none 2 a0) fun t1 =>
   .bnd (addM 1 t1) fun t2 =>
   .bnd (loadM none t2) fun t3 =>
   .bnd (callP false none true F_nat_Right [t3]) fun t4 =>
   .bnd (guardM t4 true (addM 0 t1)) fun t5 =>
   .bnd (guardM t4 true (loadM none t5)) fun t6 =>
   .bnd (guardM t4 true (unM .not t6)) fun t7 =>
   .bnd (guardM t4 true (ret t7)) fun t8 =>
   .bnd (guardM t8 false (addM 1 t1)) fun t9 =>
   .bnd (guardM t8 false (loadM none t9)) fun t10 =>
   .bnd (guardM t8 false (lenM t10)) fun t11 =>
   .bnd (guardM t8 false (binM .gtr ty_int t11 (I 0))) fun t12 =>
   .bnd (guardM t4 true (pickM t8 (.bool true) t12)) fun t13 =>
   .bnd (pickM t4 t13 (.bool false)) fun t14 =>
   .leaf (ret t14)
 | _ => .leaf failM
def F_signed_Right : List PV → PRes := runP false fun a => (B_signed_Right a).run
/- touchstone/signed.both (P) -/
def B_signed_both : List PV → Prog
 | [a0, a1] => .bnd (boxM none 2 a0) fun t1 =>
   .bnd (boxM none 2 a1) fun t2 =>
   .bnd (loadM (some 2) t1) fun t3 =>
   .bnd (callP false none true F_signed_Right [t3]) fun t4 =>
   .bnd (guardM t4 true (loadM (some 2) t2)) fun t5 =>
   .bnd (guardM t4 true (callP false none true F_signed_Right [t5])) fun t6 =>
   .bnd (pickM t4 t6 (.bool false)) fun t7 =>
   .leaf (ret t7)
 | _ => .leaf failM
def F_signed_both : List PV → PRes := runP false fun a => (B_signed_both a).run
/- touchstone/nat.order (P) -/
def L_nat_order_1 (me11 : List PV → M) (t12 : List PV) : Prog :=
   .bnd (binM .geq ty_int (g t12 2) (I 0)) fun t13 =>
   .ifP t13
   (.bnd (idxM 1 (g t12 0) (g t12 2)) fun t14 =>
   .bnd (loadM none t14) fun t15 =>
   .bnd (idxM 1 (g t12 1) (g t12 2)) fun t16 =>
   .bnd (loadM none t16) fun t17 =>
   .bnd (binM .lss ty_uint32 t15 t17) fun t18 =>
   .ifP t18
   (.leaf (ret (I (-1))))
   (.bnd (idxM 1 (g t12 0) (g t12 2)) fun t19 =>
   .bnd (loadM none t19) fun t20 =>
   .bnd (idxM 1 (g t12 1) (g t12 2)) fun t21 =>
   .bnd (loadM none t21) fun t22 =>
   .bnd (binM .gtr ty_uint32 t20 t22) fun t23 =>
   .ifP t23
   (.leaf (ret (I 1)))
   (.bnd (binM .sub ty_int (g t12 2) (I 1)) fun t24 =>
   .leaf (me11 [(g t12 0), (g t12 1), t24]))))
   (.leaf (ret (I 0)))
def B_nat_order : List PV → Prog
 | [a0, a1] => .bnd (lenM a0) fun t1 =>
   .bnd (lenM a1) fun t2 =>
   .bnd (binM .neq ty_int t1 t2) fun t3 =>
   .ifP t3
   (.bnd (lenM a0) fun t4 =>
   .bnd (lenM a1) fun t5 =>
   .bnd (binM .sub ty_int t4 t5) fun t6 =>
   .bnd (opt (maxI [t6, (I (-1))])) fun t7 =>
   .bnd (opt (minI [t7, (I 1)])) fun t8 =>
   .leaf (ret t8))
   (.bnd (lenM a0) fun t9 =>
   .bnd (binM .sub ty_int t9 (I 1)) fun t10 =>
   .loop L_nat_order_1
   [a0, a1, t10])
 | _ => .leaf failM
def F_nat_order : List PV → PRes := runP false fun a => (B_nat_order a).run
/- slices.Clone[[]uint32,uint32] (P) -/
def B_slices_Clone_uint32 : List PV → Prog
 | [a0] => .bnd (binM .eql ty_sl_uint32 a0 .nilS) fun t1 =>
   .ifP t1
   (.leaf (ret .nilS))
   (.bnd (buildSliceM none 1 false (.int .u32 0) 0 []) fun t2 =>
   .bnd (appendM 1 4 t2 a0) fun t3 =>
   .leaf (ret t3))
 | _ => .leaf failM
def F0_slices_Clone_uint32 : List PV → PRes := runP true fun a => (B_slices_Clone_uint32 a).run
def F_slices_Clone_uint32 : List PV → PRes := cloneW 1 F0_slices_Clone_uint32
/- math/bits.Div32 (P) -/
def J_bits_Div32_1 (t6 : List PV) : Prog :=
   .bnd (convM .u64 (g t6 0)) fun t8 =>
   .bnd (binM .shl ty_uint64 t8 (.int .u64 32)) fun t9 =>
   .bnd (convM .u64 (g t6 1)) fun t10 =>
   .bnd (binM .or ty_uint64 t9 t10) fun t11 =>
   .bnd (convM .u64 (g t6 2)) fun t12 =>
   .bnd (binM .quo ty_uint64 t11 t12) fun t13 =>
   .bnd (convM .u32 t13) fun t14 =>
   .bnd (convM .u64 (g t6 2)) fun t15 =>
   .bnd (binM .rem ty_uint64 t11 t15) fun t16 =>
   .bnd (convM .u32 t16) fun t17 =>
   .leaf (ret (.tup [t14, t17]))
def B_bits_Div32 : List PV → Prog
 | [a0, a1, a2] => .bnd (binM .neq ty_uint32 a2 (.int .u32 0)) fun t1 =>
   .bnd (guardM t1 true (ret a2)) fun t2 =>
   .bnd (guardM t1 true (ret a0)) fun t3 =>
   .bnd (guardM t1 true (binM .leq ty_uint32 t2 t3)) fun t4 =>
   .bnd (pickM t1 t4 (.bool false)) fun t5 =>
   .join J_bits_Div32_1 fun jn7 =>
   .ifP t5 (.bnd (loadM none .junk) fun t18 =>
   .bnd (panicM true t18) fun _ =>
   .leaf (jn7 [a0, a1, a2])) (.leaf (jn7 [a0, a1, a2]))
 | _ => .leaf failM
def F_bits_Div32 : List PV → PRes := runP false fun a => (B_bits_Div32 a).run
/- touchstone/nat.small (P) -/
def L_nat_small_1 (me5 : List PV → M) (t6 : List PV) : Prog :=
   .bnd (binM .geq ty_int (g t6 4) (I 0)) fun t7 =>
   .ifP t7
   (.bnd (idxM 1 (g t6 0) (g t6 4)) fun t8 =>
   .bnd (loadM none t8) fun t9 =>
   .bnd (callP false none true F_bits_Div32 [(g t6 3), t9, (g t6 1)]) fun t10 =>
   .bnd (extractM t10 0) fun t11 =>
   .bnd (extractM t10 1) fun t12 =>
   .bnd (idxM 1 (g t6 2) (g t6 4)) fun t13 =>
   .bnd (storeM 1 t13 t11) fun _ =>
   .bnd (binM .sub ty_int (g t6 4) (I 1)) fun t15 =>
   .leaf (me5 [(g t6 0), (g t6 1), (g t6 2), t12, t15]))
   (.bnd (callP true none true F_nat_trim [(g t6 2)]) fun t16 =>
   .leaf (ret (.tup [t16, (g t6 3)])))
def B_nat_small : List PV → Prog
 | [a0, a1] => .bnd (lenM a0) fun t1 =>
   .bnd (makeSliceM none 1 4 (.int .u32 0) t1 t1) fun t2 =>
   .bnd (lenM a0) fun t3 =>
   .bnd (binM .sub ty_int t3 (I 1)) fun t4 =>
   .loop L_nat_small_1
   [a0, a1, t2, (.int .u32 0), t4]
 | _ => .leaf failM
def F_nat_small : List PV → PRes := runP false fun a => (B_nat_small a).run
/- math/bits.Len32 (P) -/
def J_bits_Len32_1 (t5 : List PV) : Prog :=
   .bnd (convM .u8 (g t5 0)) fun t7 =>
   .bnd (byteM (.str ⟨#[0, 1, 2, 2, 3, 3, 3, 3, 4, 4, 4, 4, 4, 4, 4, 4, 5, 5, 5, 5, 5, 5, 5, 5, 5, 5, 5, 5, 5, 5, 5, 5, 6, 6, 6, 6, 6, 6, 6, 6, 6, 6, 6, 6, 6, 6, 6, 6, 6, 6, 6, 6, 6, 6, 6, 6, 6, 6, 6, 6, 6, 6, 6, 6, 7, 7, 7, 7, 7, 7, 7, 7, 7, 7, 7, 7, 7, 7, 7, 7, 7, 7, 7, 7, 7, 7, 7, 7, 7, 7, 7, 7, 7, 7, 7, 7, 7, 7, 7, 7, 7, 7, 7, 7, 7, 7, 7, 7, 7, 7, 7, 7, 7, 7, 7, 7, 7, 7, 7, 7, 7, 7, 7, 7, 7, 7, 7, 7, 8, 8, 8, 8, 8, 8, 8, 8, 8, 8, 8, 8, 8, 8, 8, 8, 8, 8, 8, 8, 8, 8, 8, 8, 8, 8, 8, 8, 8, 8, 8, 8, 8, 8, 8, 8, 8, 8, 8, 8, 8, 8, 8, 8, 8, 8, 8, 8, 8, 8, 8, 8, 8, 8, 8, 8, 8, 8, 8, 8, 8, 8, 8, 8, 8, 8, 8, 8, 8, 8, 8, 8, 8, 8, 8, 8, 8, 8, 8, 8, 8, 8, 8, 8, 8, 8, 8, 8, 8, 8, 8, 8, 8, 8, 8, 8, 8, 8, 8, 8, 8, 8, 8, 8, 8, 8, 8, 8, 8, 8, 8, 8, 8, 8, 8, 8, 8, 8, 8, 8, 8, 8, 8, 8, 8, 8, 8, 8]⟩) t7) fun t8 =>
   .bnd (convM .i64 t8) fun t9 =>
   .bnd (binM .add ty_int (g t5 1) t9) fun t10 =>
   .leaf (ret t10)
def J_bits_Len32_2 (t2 : List PV) : Prog :=
   .bnd (binM .geq ty_uint32 (g t2 0) (.int .u32 256)) fun t4 =>
   .join J_bits_Len32_1 fun jn6 =>
   .ifP t4 (.bnd (binM .shr ty_uint32 (g t2 0) (.int .u64 8)) fun t11 =>
   .bnd (binM .add ty_int (g t2 1) (I 8)) fun t12 =>
   .leaf (jn6 [t11, t12])) (.leaf (jn6 [(g t2 0), (g t2 1)]))
def B_bits_Len32 : List PV → Prog
 | [a0] => .bnd (binM .geq ty_uint32 a0 (.int .u32 65536)) fun t1 =>
   .join J_bits_Len32_2 fun jn3 =>
   .ifP t1 (.bnd (binM .shr ty_uint32 a0 (.int .u64 16)) fun t13 =>
   .leaf (jn3 [t13, (I 16)])) (.leaf (jn3 [a0, (I 0)]))
 | _ => .leaf failM
def F_bits_Len32 : List PV → PRes := runP false fun a => (B_bits_Len32 a).run
/- math/bits.LeadingZeros32 (P) -/
def B_bits_LeadingZeros32 : List PV → Prog
 | [a0] => .bnd (callP false none true F_bits_Len32 [a0]) fun t1 =>
   .bnd (binM .sub ty_int (I 32) t1) fun t2 =>
   .leaf (ret t2)
 | _ => .leaf failM
def F_bits_LeadingZeros32 : List PV → PRes := runP false fun a => (B_bits_LeadingZeros32 a).run
/- touchstone/nat.shift (P) -/
def L_nat_shift_1 (me5 : List PV → M) (t6 : List PV) : Prog :=
   .bnd (binM .lss ty_int (g t6 4) (g t6 3)) fun t7 =>
   .ifP t7
   (.bnd (idxM 1 (g t6 2) (g t6 4)) fun t8 =>
   .bnd (loadM none t8) fun t9 =>
   .bnd (convM .u64 t9) fun t10 =>
   .bnd (binM .shl ty_uint64 t10 (g t6 0)) fun t11 =>
   .bnd (idxM 1 (g t6 1) (g t6 4)) fun t12 =>
   .bnd (loadM none t12) fun t13 =>
   .bnd (convM .u32 t11) fun t14 =>
   .bnd (binM .or ty_uint32 t13 t14) fun t15 =>
   .bnd (idxM 1 (g t6 1) (g t6 4)) fun t16 =>
   .bnd (storeM 1 t16 t15) fun _ =>
   .bnd (binM .add ty_int (g t6 4) (I 1)) fun t18 =>
   .bnd (binM .shr ty_uint64 t11 (.int .u64 32)) fun t19 =>
   .bnd (convM .u32 t19) fun t20 =>
   .bnd (idxM 1 (g t6 1) t18) fun t21 =>
   .bnd (storeM 1 t21 t20) fun _ =>
   .bnd (binM .add ty_int (g t6 4) (I 1)) fun t23 =>
   .leaf (me5 [(g t6 0), (g t6 1), (g t6 2), (g t6 3), t23]))
   (.leaf (ret (g t6 1)))
def B_nat_shift : List PV → Prog
 | [a0, a1] => .bnd (lenM a0) fun t1 =>
   .bnd (binM .add ty_int t1 (I 1)) fun t2 =>
   .bnd (makeSliceM none 1 4 (.int .u32 0) t2 t2) fun t3 =>
   .bnd (lenM a0) fun t4 =>
   .loop L_nat_shift_1
   [a1, t3, a0, t4, (I 0)]
 | _ => .leaf failM
def F_nat_shift : List PV → PRes := runP true fun a => (B_nat_shift a).run
/- touchstone/nat.guess (P) -/
def L_nat_guess_1 (me23 : List PV → M) (t24 : List PV) : Prog :=
   .bnd (binM .geq ty_uint64 (g t24 4) (.int .u64 4294967296)) fun t25 =>
   .bnd (guardM t25 false (ret (g t24 4))) fun t26 =>
   .bnd (guardM t25 false (ret (g t24 1))) fun t27 =>
   .bnd (guardM t25 false (ret (g t24 3))) fun t28 =>
   .bnd (guardM t25 false (binM .sub ty_int t28 (I 2))) fun t29 =>
   .bnd (guardM t25 false (idxM 1 t27 t29)) fun t30 =>
   .bnd (guardM t25 false (loadM none t30)) fun t31 =>
   .bnd (guardM t25 false (convM .u64 t31)) fun t32 =>
   .bnd (guardM t25 false (binM .mul ty_uint64 t26 t32)) fun t33 =>
   .bnd (guardM t25 false (ret (g t24 5))) fun t34 =>
   .bnd (guardM t25 false (binM .shl ty_uint64 t34 (.int .u64 32))) fun t35 =>
   .bnd (guardM t25 false (ret (g t24 0))) fun t36 =>
   .bnd (guardM t25 false (ret (g t24 2))) fun t37 =>
   .bnd (guardM t25 false (binM .sub ty_int t37 (I 3))) fun t38 =>
   .bnd (guardM t25 false (idxM 1 t36 t38)) fun t39 =>
   .bnd (guardM t25 false (loadM none t39)) fun t40 =>
   .bnd (guardM t25 false (convM .u64 t40)) fun t41 =>
   .bnd (guardM t25 false (binM .or ty_uint64 t35 t41)) fun t42 =>
   .bnd (guardM t25 false (binM .gtr ty_uint64 t33 t42)) fun t43 =>
   .bnd (pickM t25 (.bool true) t43) fun t44 =>
   .ifP t44
   (.bnd (binM .sub ty_uint64 (g t24 4) (.int .u64 1)) fun t45 =>
   .bnd (binM .sub ty_int (g t24 3) (I 1)) fun t46 =>
   .bnd (idxM 1 (g t24 1) t46) fun t47 =>
   .bnd (loadM none t47) fun t48 =>
   .bnd (convM .u64 t48) fun t49 =>
   .bnd (binM .add ty_uint64 (g t24 5) t49) fun t50 =>
   .bnd (binM .geq ty_uint64 t50 (.int .u64 4294967296)) fun t51 =>
   .ifP t51
   (.leaf (ret t45))
   (.leaf (me23 [(g t24 0), (g t24 1), (g t24 2), (g t24 3), t45, t50])))
   (.leaf (ret (g t24 4)))
def B_nat_guess : List PV → Prog
 | [a0, a1] => .bnd (lenM a0) fun t1 =>
   .bnd (lenM a1) fun t2 =>
   .bnd (binM .sub ty_int t1 (I 1)) fun t3 =>
   .bnd (idxM 1 a0 t3) fun t4 =>
   .bnd (loadM none t4) fun t5 =>
   .bnd (convM .u64 t5) fun t6 =>
   .bnd (binM .shl ty_uint64 t6 (.int .u64 32)) fun t7 =>
   .bnd (binM .sub ty_int t1 (I 2)) fun t8 =>
   .bnd (idxM 1 a0 t8) fun t9 =>
   .bnd (loadM none t9) fun t10 =>
   .bnd (convM .u64 t10) fun t11 =>
   .bnd (binM .or ty_uint64 t7 t11) fun t12 =>
   .bnd (binM .sub ty_int t2 (I 1)) fun t13 =>
   .bnd (idxM 1 a1 t13) fun t14 =>
   .bnd (loadM none t14) fun t15 =>
   .bnd (convM .u64 t15) fun t16 =>
   .bnd (binM .quo ty_uint64 t12 t16) fun t17 =>
   .bnd (binM .sub ty_int t2 (I 1)) fun t18 =>
   .bnd (idxM 1 a1 t18) fun t19 =>
   .bnd (loadM none t19) fun t20 =>
   .bnd (convM .u64 t20) fun t21 =>
   .bnd (binM .rem ty_uint64 t12 t21) fun t22 =>
   .loop L_nat_guess_1
   [a0, a1, t1, t2, t17, t22]
 | _ => .leaf failM
def F_nat_guess : List PV → PRes := runP false fun a => (B_nat_guess a).run
/- math/bits.Sub32 (P) -/
def B_bits_Sub32 : List PV → Prog
 | [a0, a1, a2] => .bnd (binM .sub ty_uint32 a0 a1) fun t1 =>
   .bnd (binM .sub ty_uint32 t1 a2) fun t2 =>
   .bnd (unM .xor a0) fun t3 =>
   .bnd (binM .and ty_uint32 t3 a1) fun t4 =>
   .bnd (binM .xor ty_uint32 a0 a1) fun t5 =>
   .bnd (unM .xor t5) fun t6 =>
   .bnd (binM .and ty_uint32 t6 t2) fun t7 =>
   .bnd (binM .or ty_uint32 t4 t7) fun t8 =>
   .bnd (binM .shr ty_uint32 t8 (.int .u64 31)) fun t9 =>
   .leaf (ret (.tup [t2, t9]))
 | _ => .leaf failM
def F_bits_Sub32 : List PV → PRes := runP false fun a => (B_bits_Sub32 a).run
/- touchstone/nat.less (S) -/
def L_nat_less_1 (me2 : List PV → M) (t3 : List PV) : Prog :=
   .bnd (binM .lss ty_int (g t3 7) (g t3 6)) fun t4 =>
   .ifP t4
   (.bnd (idxM 1 (g t3 5) (g t3 7)) fun t5 =>
   .bnd (loadM none t5) fun t6 =>
   .bnd (convM .u64 t6) fun t7 =>
   .bnd (binM .mul ty_uint64 (g t3 2) t7) fun t8 =>
   .bnd (binM .add ty_uint64 (g t3 3) t8) fun t9 =>
   .bnd (idxM 1 (g t3 0) (g t3 7)) fun t10 =>
   .bnd (loadM none t10) fun t11 =>
   .bnd (convM .u32 t9) fun t12 =>
   .bnd (callP false none true F_bits_Sub32 [t11, t12, (g t3 4)]) fun t13 =>
   .bnd (extractM t13 0) fun t14 =>
   .bnd (extractM t13 1) fun t15 =>
   .bnd (idxM 1 (g t3 0) (g t3 7)) fun t16 =>
   .bnd (storeM 1 t16 t14) fun _ =>
   .bnd (binM .shr ty_uint64 t9 (.int .u64 32)) fun t18 =>
   .bnd (binM .add ty_int (g t3 7) (I 1)) fun t19 =>
   .leaf (me2 [(g t3 0), (g t3 1), (g t3 2), t18, t15, (g t3 5), (g t3 6), t19]))
   (.bnd (lenM (g t3 1)) fun t20 =>
   .bnd (lenM (g t3 1)) fun t21 =>
   .bnd (idxM 1 (g t3 0) t21) fun t22 =>
   .bnd (loadM none t22) fun t23 =>
   .bnd (convM .u32 (g t3 3)) fun t24 =>
   .bnd (callP false none true F_bits_Sub32 [t23, t24, (g t3 4)]) fun t25 =>
   .bnd (extractM t25 0) fun t26 =>
   .bnd (extractM t25 1) fun t27 =>
   .bnd (idxM 1 (g t3 0) t20) fun t28 =>
   .bnd (storeM 1 t28 t26) fun _ =>
   .bnd (binM .neq ty_uint32 t27 (.int .u32 0)) fun t30 =>
   .leaf (ret t30))
def B_nat_less : List PV → Prog
 | [a0, a1, a2] => .bnd (lenM a1) fun t1 =>
   .loop L_nat_less_1
   [a0, a1, a2, (.int .u64 0), (.int .u32 0), a1, t1, (I 0)]
 | _ => .leaf failM
def F_nat_less : List PV → M := fun a => (B_nat_less a).run
/- math/bits.Add32 (P) -/
def B_bits_Add32 : List PV → Prog
 | [a0, a1, a2] => .bnd (convM .u64 a0) fun t1 =>
   .bnd (convM .u64 a1) fun t2 =>
   .bnd (binM .add ty_uint64 t1 t2) fun t3 =>
   .bnd (convM .u64 a2) fun t4 =>
   .bnd (binM .add ty_uint64 t3 t4) fun t5 =>
   .bnd (convM .u32 t5) fun t6 =>
   .bnd (binM .shr ty_uint64 t5 (.int .u64 32)) fun t7 =>
   .bnd (convM .u32 t7) fun t8 =>
   .leaf (ret (.tup [t6, t8]))
 | _ => .leaf failM
def F_bits_Add32 : List PV → PRes := runP false fun a => (B_bits_Add32 a).run
/- touchstone/nat.again (S) -/
def L_nat_again_1 (me2 : List PV → M) (t3 : List PV) : Prog :=
   .bnd (binM .lss ty_int (g t3 5) (g t3 4)) fun t4 =>
   .ifP t4
   (.bnd (idxM 1 (g t3 3) (g t3 5)) fun t5 =>
   .bnd (loadM none t5) fun t6 =>
   .bnd (idxM 1 (g t3 0) (g t3 5)) fun t7 =>
   .bnd (loadM none t7) fun t8 =>
   .bnd (callP false none true F_bits_Add32 [t8, t6, (g t3 2)]) fun t9 =>
   .bnd (extractM t9 0) fun t10 =>
   .bnd (extractM t9 1) fun t11 =>
   .bnd (idxM 1 (g t3 0) (g t3 5)) fun t12 =>
   .bnd (storeM 1 t12 t10) fun _ =>
   .bnd (binM .add ty_int (g t3 5) (I 1)) fun t14 =>
   .leaf (me2 [(g t3 0), (g t3 1), t11, (g t3 3), (g t3 4), t14]))
   (.bnd (lenM (g t3 1)) fun t15 =>
   .bnd (idxM 1 (g t3 0) t15) fun t16 =>
   .bnd (loadM none t16) fun t17 =>
   .bnd (binM .add ty_uint32 t17 (g t3 2)) fun t18 =>
   .bnd (idxM 1 (g t3 0) t15) fun t19 =>
   .bnd (storeM 1 t19 t18) fun _ =>
   .leaf (ret (.tup [])))
def B_nat_again : List PV → Prog
 | [a0, a1] => .bnd (lenM a1) fun t1 =>
   .loop L_nat_again_1
   [a0, a1, (.int .u32 0), a1, t1, (I 0)]
 | _ => .leaf failM
def F_nat_again : List PV → M := fun a => (B_nat_again a).run
/- touchstone/nat.long (P) -/
def J_nat_long_1 (me15 : List PV → M) (t24 : List PV) : Prog :=
   .bnd (convM .u32 (g t24 6)) fun t26 =>
   .bnd (idxM 1 (g t24 4) (g t24 5)) fun t27 =>
   .bnd (storeM 1 t27 t26) fun _ =>
   .bnd (binM .sub ty_int (g t24 5) (I 1)) fun t29 =>
   .leaf (me15 [(g t24 0), (g t24 1), (g t24 2), (g t24 3), (g t24 4), t29])
def L_nat_long_1 (me35 : List PV → M) (t36 : List PV) : Prog :=
   .bnd (binM .lss ty_int (g t36 5) (g t36 4)) fun t37 =>
   .ifP t37
   (.bnd (binM .add ty_int (g t36 5) (I 1)) fun t38 =>
   .bnd (idxM 1 (g t36 1) t38) fun t39 =>
   .bnd (loadM none t39) fun t40 =>
   .bnd (convM .u64 t40) fun t41 =>
   .bnd (binM .shl ty_uint64 t41 (.int .u64 32)) fun t42 =>
   .bnd (idxM 1 (g t36 1) (g t36 5)) fun t43 =>
   .bnd (loadM none t43) fun t44 =>
   .bnd (convM .u64 t44) fun t45 =>
   .bnd (binM .or ty_uint64 t42 t45) fun t46 =>
   .bnd (binM .shr ty_uint64 t46 (g t36 0)) fun t47 =>
   .bnd (convM .u32 t47) fun t48 =>
   .bnd (idxM 1 (g t36 3) (g t36 5)) fun t49 =>
   .bnd (storeM 1 t49 t48) fun _ =>
   .bnd (binM .add ty_int (g t36 5) (I 1)) fun t51 =>
   .leaf (me35 [(g t36 0), (g t36 1), (g t36 2), (g t36 3), (g t36 4), t51]))
   (.bnd (callP true none true F_nat_trim [(g t36 2)]) fun t52 =>
   .bnd (callP true none true F_nat_trim [(g t36 3)]) fun t53 =>
   .leaf (ret (.tup [t52, t53])))
def L_nat_long_2 (me15 : List PV → M) (t16 : List PV) : Prog :=
   .bnd (binM .geq ty_int (g t16 5) (I 0)) fun t17 =>
   .ifP t17
   (.bnd (binM .add ty_int (g t16 5) (g t16 3)) fun t18 =>
   .bnd (binM .add ty_int t18 (I 1)) fun t19 =>
   .bnd (sliceM 1 (g t16 2) none (some t19) none) fun t20 =>
   .bnd (callP false none true F_nat_guess [t20, (g t16 1)]) fun t21 =>
   .bnd (sliceM 1 (g t16 2) (some (g t16 5)) none none) fun t22 =>
   .bnd (calm true (F_nat_less [t22, (g t16 1), t21])) fun t23 =>
   .join (J_nat_long_1 me15) fun jn25 =>
   .ifP t23 (.bnd (binM .sub ty_uint64 t21 (.int .u64 1)) fun t30 =>
   .bnd (sliceM 1 (g t16 2) (some (g t16 5)) none none) fun t31 =>
   .bnd (calm true (F_nat_again [t31, (g t16 1)])) fun _ =>
   .leaf (jn25 [(g t16 0), (g t16 1), (g t16 2), (g t16 3), (g t16 4), (g t16 5), t30])) (.leaf (jn25 [(g t16 0), (g t16 1), (g t16 2), (g t16 3), (g t16 4), (g t16 5), t21])))
   (.bnd (makeSliceM none 1 4 (.int .u32 0) (g t16 3) (g t16 3)) fun t33 =>
   .bnd (lenM t33) fun t34 =>
   .loop L_nat_long_1
   [(g t16 0), (g t16 2), (g t16 4), t33, t34, (I 0)])
def B_nat_long : List PV → Prog
 | [a0, a1] => .bnd (lenM a1) fun t1 =>
   .bnd (binM .sub ty_int t1 (I 1)) fun t2 =>
   .bnd (idxM 1 a1 t2) fun t3 =>
   .bnd (loadM none t3) fun t4 =>
   .bnd (callP false none true F_bits_LeadingZeros32 [t4]) fun t5 =>
   .bnd (callP false none true F_nat_shift [a1, t5]) fun t6 =>
   .bnd (callP false none true F_nat_trim [t6]) fun t7 =>
   .bnd (callP false (some 1) true F_nat_shift [a0, t5]) fun t8 =>
   .bnd (lenM t7) fun t9 =>
   .bnd (lenM t8) fun t10 =>
   .bnd (binM .sub ty_int t10 t9) fun t11 =>
   .bnd (makeSliceM none 1 4 (.int .u32 0) t11 t11) fun t12 =>
   .bnd (lenM t12) fun t13 =>
   .bnd (binM .sub ty_int t13 (I 1)) fun t14 =>
   .loop L_nat_long_2
   [t5, t7, t8, t9, t12, t14]
 | _ => .leaf failM
def F_nat_long : List PV → PRes := runP false fun a => (B_nat_long a).run
/- touchstone/nat.DivMod (P) -/
def B_nat_DivMod : List PV → Prog
 | [a0, a1] => .bnd (callP false none true F_nat_Right [a0]) fun t1 =>
   .bnd (unM .not t1) fun t2 =>
   .bnd (guardM t2 false (ret a1)) fun t3 =>
   .bnd (guardM t2 false (callP false none true F_nat_Right [t3])) fun t4 =>
   .bnd (guardM t2 false (unM .not t4)) fun t5 =>
   .bnd (pickM t2 (.bool true) t5) fun t6 =>
   .bnd (guardM t6 false (ret a1)) fun t7 =>
   .bnd (guardM t6 false (lenM t7)) fun t8 =>
   .bnd (guardM t6 false (binM .eql ty_int t8 (I 0))) fun t9 =>
   .bnd (pickM t6 (.bool true) t9) fun t10 =>
   .ifP t10
   (.leaf (ret (.tup [.nilS, .nilS, (I 2)])))
   (.bnd (callP false none true F_nat_order [a0, a1]) fun t11 =>
   .bnd (binM .lss ty_int t11 (I 0)) fun t12 =>
   .ifP t12
   (.bnd (callP false none true F_slices_Clone_uint32 [a0]) fun t13 =>
   .leaf (ret (.tup [.nilS, t13, (I 0)])))
   (.bnd (lenM a1) fun t14 =>
   .bnd (binM .eql ty_int t14 (I 1)) fun t15 =>
   .ifP t15
   (.bnd (idxM 1 a1 (I 0)) fun t16 =>
   .bnd (loadM none t16) fun t17 =>
   .bnd (callP false none true F_nat_small [a0, t17]) fun t18 =>
   .bnd (extractM t18 0) fun t19 =>
   .bnd (extractM t18 1) fun t20 =>
   .bnd (convM .u64 t20) fun t21 =>
   .bnd (callP false none true F_nat_Of [t21]) fun t22 =>
   .leaf (ret (.tup [t19, t22, (I 0)])))
   (.bnd (callP false none true F_nat_long [a0, a1]) fun t23 =>
   .bnd (extractM t23 0) fun t24 =>
   .bnd (extractM t23 1) fun t25 =>
   .leaf (ret (.tup [t24, t25, (I 0)])))))
 | _ => .leaf failM
def F_nat_DivMod : List PV → PRes := runP false fun a => (B_nat_DivMod a).run
/- touchstone/signed.made (P) -/
def B_signed_made : List PV → Prog
 | [a0, a1, a2] => .bnd (boxM none 2 (.agg [(.bool false), .nilS])) fun t1 =>
   .bnd (binM .neq ty_api_Errno a2 (I 0)) fun t2 =>
   .ifP t2
   (.bnd (buildM [(.bool false), .nilS] []) fun t3 =>
   .bnd (storeM 2 t1 t3) fun _ =>
   .bnd (loadM (some 2) t1) fun t5 =>
   .leaf (ret (.tup [t5, a2])))
   (.bnd (guardM a0 true (ret a1)) fun t6 =>
   .bnd (guardM a0 true (lenM t6)) fun t7 =>
   .bnd (guardM a0 true (binM .gtr ty_int t7 (I 0))) fun t8 =>
   .bnd (pickM a0 t8 (.bool false)) fun t9 =>
   .bnd (appendM 1 4 .nilS a1) fun t10 =>
   .bnd (buildM [(.bool false), .nilS] [(0, 1, t9), (1, 1, t10)]) fun t11 =>
   .bnd (storeM 2 t1 t11) fun _ =>
   .bnd (loadM (some 2) t1) fun t13 =>
   .leaf (ret (.tup [t13, (I 0)])))
 | _ => .leaf failM
def F_signed_made : List PV → PRes := runP false fun a => (B_signed_made a).run
/- touchstone/signed.Gcd (P) -/
def L_signed_Gcd_1 (me15 : List PV → M) (t16 : List PV) : Prog :=
   .bnd (lenM (g t16 2)) fun t17 =>
   .bnd (binM .gtr ty_int t17 (I 0)) fun t18 =>
   .ifP t18
   (.bnd (callP false none true F_nat_DivMod [(g t16 1), (g t16 2)]) fun t19 =>
   .bnd (extractM t19 0) fun _ =>
   .bnd (extractM t19 1) fun t21 =>
   .bnd (extractM t19 2) fun _ =>
   .leaf (me15 [(g t16 0), (g t16 2), t21]))
   (.bnd (callP false none true F_signed_made [(.bool false), (g t16 1), (I 0)]) fun t23 =>
   .bnd (extractM t23 0) fun t24 =>
   .bnd (extractM t23 1) fun t25 =>
   .bnd (storeM 2 (g t16 0) t24) fun _ =>
   .bnd (loadM (some 2) (g t16 0)) fun t27 =>
   .leaf (ret (.tup [t27, t25])))
def B_signed_Gcd : List PV → Prog
 | [a0, a1] => .bnd (boxM none 2 a0) fun t1 =>
   .bnd (boxM none 2 a1) fun t2 =>
   .bnd (boxM none 2 (.agg [(.bool false), .nilS])) fun t3 =>
   .bnd (loadM (some 2) t1) fun t4 =>
   .bnd (loadM (some 2) t2) fun t5 =>
   .bnd (callP false none true F_signed_both [t4, t5]) fun t6 =>
   .bnd (unM .not t6) fun t7 =>
   .ifP t7
   (.bnd (buildM [(.bool false), .nilS] []) fun t8 =>
   .bnd (storeM 2 t3 t8) fun _ =>
   .bnd (loadM (some 2) t3) fun t10 =>
   .leaf (ret (.tup [t10, (I 2)])))
   (.bnd (addM 1 t1) fun t11 =>
   .bnd (loadM none t11) fun t12 =>
   .bnd (addM 1 t2) fun t13 =>
   .bnd (loadM none t13) fun t14 =>
   .loop L_signed_Gcd_1
   [t3, t12, t14])
 | _ => .leaf failM
def F_signed_Gcd : List PV → PRes := runP false fun a => (B_signed_Gcd a).run
/- touchstone/nat.Uint (P) -/
def L_nat_Uint_1 (me6 : List PV → M) (t7 : List PV) : Prog :=
   .bnd (binM .lss ty_int (g t7 3) (g t7 2)) fun t8 =>
   .ifP t8
   (.bnd (idxM 1 (g t7 1) (g t7 3)) fun t9 =>
   .bnd (loadM none t9) fun t10 =>
   .bnd (convM .u64 t10) fun t11 =>
   .bnd (binM .mul ty_int (I 32) (g t7 3)) fun t12 =>
   .bnd (binM .shl ty_uint64 t11 t12) fun t13 =>
   .bnd (binM .or ty_uint64 (g t7 0) t13) fun t14 =>
   .bnd (binM .add ty_int (g t7 3) (I 1)) fun t15 =>
   .leaf (me6 [t14, (g t7 1), (g t7 2), t15]))
   (.leaf (ret (.tup [(g t7 0), (I 0)])))
def B_nat_Uint : List PV → Prog
 | [a0] => .bnd (callP false none true F_nat_Right [a0]) fun t1 =>
   .bnd (unM .not t1) fun t2 =>
   .ifP t2
   (.leaf (ret (.tup [(.int .u64 0), (I 2)])))
   (.bnd (lenM a0) fun t3 =>
   .bnd (binM .gtr ty_int t3 (I 2)) fun t4 =>
   .ifP t4
   (.leaf (ret (.tup [(.int .u64 0), (I 4)])))
   (.bnd (lenM a0) fun t5 =>
   .loop L_nat_Uint_1
   [(.int .u64 0), a0, t5, (I 0)]))
 | _ => .leaf failM
def F_nat_Uint : List PV → PRes := runP false fun a => (B_nat_Uint a).run
/- touchstone/signed.Small (P) -/
def J_signed_Small_1 (t11 : List PV) : Prog :=
   .ifP (g t11 2)
   (.leaf (ret (.tup [(I 0), (I 4)])))
   (.bnd (addM 0 (g t11 0)) fun t13 =>
   .bnd (loadM none t13) fun t14 =>
   .ifP t14
   (.bnd (unM .neg (g t11 1)) fun t15 =>
   .bnd (convM .i64 t15) fun t16 =>
   .leaf (ret (.tup [t16, (I 0)])))
   (.bnd (convM .i64 (g t11 1)) fun t17 =>
   .leaf (ret (.tup [t17, (I 0)]))))
def B_signed_Small : List PV → Prog
 | [a0] => .bnd (boxM none 2 a0) fun t1 =>
   .bnd (loadM (some 2) t1) fun t2 =>
   .bnd (callP false none true F_signed_Right [t2]) fun t3 =>
   .bnd (unM .not t3) fun t4 =>
   .ifP t4
   (.leaf (ret (.tup [(I 0), (I 2)])))
   (.bnd (addM 1 t1) fun t5 =>
   .bnd (loadM none t5) fun t6 =>
   .bnd (callP false none true F_nat_Uint [t6]) fun t7 =>
   .bnd (extractM t7 0) fun t8 =>
   .bnd (extractM t7 1) fun t9 =>
   .bnd (binM .neq ty_api_Errno t9 (I 0)) fun t10 =>
   .join J_signed_Small_1 fun jn12 =>
   .ifP t10 (.leaf (jn12 [t1, t8, t10])) (.bnd (addM 0 t1) fun t18 =>
   .bnd (loadM none t18) fun t19 =>
   .bnd (unM .not t19) fun t20 =>
   .bnd (guardM t20 true (ret t8)) fun t21 =>
   .bnd (guardM t20 true (binM .gtr ty_uint64 t21 (.int .u64 9223372036854775807))) fun t22 =>
   .bnd (pickM t20 t22 (.bool false)) fun t23 =>
   .ifP t23
   (.leaf (jn12 [t1, t8, t23]))
   (.bnd (addM 0 t1) fun t24 =>
   .bnd (loadM none t24) fun t25 =>
   .bnd (guardM t25 true (ret t8)) fun t26 =>
   .bnd (guardM t25 true (binM .gtr ty_uint64 t26 (.int .u64 9223372036854775808))) fun t27 =>
   .bnd (pickM t25 t27 (.bool false)) fun t28 =>
   .leaf (jn12 [t1, t8, t28]))))
 | _ => .leaf failM
def F_signed_Small : List PV → PRes := runP false fun a => (B_signed_Small a).run
/- touchstone/ratio.is (P) -/
def B_ratio_is : List PV → Prog
 | [a0, a1] => .bnd (boxM none 2 a0) fun t1 =>
   .bnd (loadM (some 2) t1) fun t2 =>
   .bnd (callP false none true F_signed_Small [t2]) fun t3 =>
   .bnd (extractM t3 0) fun t4 =>
   .bnd (extractM t3 1) fun t5 =>
   .bnd (binM .eql ty_api_Errno t5 (I 0)) fun t6 =>
   .bnd (guardM t6 true (ret t4)) fun t7 =>
   .bnd (guardM t6 true (ret a1)) fun t8 =>
   .bnd (guardM t6 true (binM .eql ty_int64 t7 t8)) fun t9 =>
   .bnd (pickM t6 t9 (.bool false)) fun t10 =>
   .leaf (ret t10)
 | _ => .leaf failM
def F_ratio_is : List PV → PRes := runP false fun a => (B_ratio_is a).run
/- touchstone/ratio.Right (P) -/
def B_ratio_Right : List PV → Prog
 | [a0] => .bnd (boxM none 4 a0) fun t1 =>
   .bnd (addM 0 t1) fun t2 =>
   .bnd (addM 1 t2) fun t3 =>
   .bnd (loadM none t3) fun t4 =>
   .bnd (lenM t4) fun t5 =>
   .bnd (binM .gtr ty_int t5 (I 64)) fun t6 =>
   .bnd (guardM t6 false (addM 2 t1)) fun t7 =>
   .bnd (guardM t6 false (addM 1 t7)) fun t8 =>
   .bnd (guardM t6 false (loadM none t8)) fun t9 =>
   .bnd (guardM t6 false (lenM t9)) fun t10 =>
   .bnd (guardM t6 false (binM .gtr ty_int t10 (I 64))) fun t11 =>
   .bnd (pickM t6 (.bool true) t11) fun t12 =>
   .bnd (guardM t12 false (addM 2 t1)) fun t13 =>
   .bnd (guardM t12 false (addM 1 t13)) fun t14 =>
   .bnd (guardM t12 false (loadM none t14)) fun t15 =>
   .bnd (guardM t12 false (lenM t15)) fun t16 =>
   .bnd (guardM t12 false (binM .eql ty_int t16 (I 0))) fun t17 =>
   .bnd (pickM t12 (.bool true) t17) fun t18 =>
   .bnd (guardM t18 false (addM 2 t1)) fun t19 =>
   .bnd (guardM t18 false (addM 0 t19)) fun t20 =>
   .bnd (guardM t18 false (loadM none t20)) fun t21 =>
   .bnd (pickM t18 (.bool true) t21) fun t22 =>
   .ifP t22
   (.leaf (ret (.bool false)))
   (.bnd (addM 0 t1) fun t23 =>
   .bnd (loadM (some 2) t23) fun t24 =>
   .bnd (addM 2 t1) fun t25 =>
   .bnd (loadM (some 2) t25) fun t26 =>
   .bnd (callP false none true F_signed_Gcd [t24, t26]) fun t27 =>
   .bnd (extractM t27 0) fun t28 =>
   .bnd (extractM t27 1) fun t29 =>
   .bnd (boxM none 2 (.agg [(.bool false), .nilS])) fun t30 =>
   .bnd (storeM 2 t30 t28) fun _ =>
   .bnd (binM .eql ty_api_Errno t29 (I 0)) fun t32 =>
   .bnd (guardM t32 true (loadM (some 2) t30)) fun t33 =>
   .bnd (guardM t32 true (callP false none true F_ratio_is [t33, (I 1)])) fun t34 =>
   .bnd (pickM t32 t34 (.bool false)) fun t35 =>
   .leaf (ret t35))
 | _ => .leaf failM
def F_ratio_Right : List PV → PRes := runP false fun a => (B_ratio_Right a).run
/- touchstone/ratio.both (P) -/
def B_ratio_both : List PV → Prog
 | [a0, a1] => .bnd (boxM none 4 a0) fun t1 =>
   .bnd (boxM none 4 a1) fun t2 =>
   .bnd (loadM (some 4) t1) fun t3 =>
   .bnd (callP false none true F_ratio_Right [t3]) fun t4 =>
   .bnd (guardM t4 true (loadM (some 4) t2)) fun t5 =>
   .bnd (guardM t4 true (callP false none true F_ratio_Right [t5])) fun t6 =>
   .bnd (pickM t4 t6 (.bool false)) fun t7 =>
   .leaf (ret t7)
 | _ => .leaf failM
def F_ratio_both : List PV → PRes := runP false fun a => (B_ratio_both a).run
/- touchstone/nat.fit (P) -/
def B_nat_fit : List PV → Prog
 | [a0] => .bnd (callP false none true F_nat_trim [a0]) fun t1 =>
   .bnd (lenM t1) fun t2 =>
   .bnd (binM .gtr ty_int t2 (I 256)) fun t3 =>
   .ifP t3
   (.leaf (ret (.tup [.nilS, (I 3)])))
   (.leaf (ret (.tup [t1, (I 0)])))
 | _ => .leaf failM
def F_nat_fit : List PV → PRes := runP false fun a => (B_nat_fit a).run
/- touchstone/nat.Mul (P) -/
def L_nat_Mul_1 (me12 : List PV → M) (me18 : List PV → M) (t19 : List PV) : Prog :=
   .bnd (binM .lss ty_int (g t19 10) (g t19 9)) fun t20 =>
   .ifP t20
   (.bnd (idxM 1 (g t19 8) (g t19 10)) fun t21 =>
   .bnd (loadM none t21) fun t22 =>
   .bnd (convM .u64 (g t19 3)) fun t23 =>
   .bnd (convM .u64 t22) fun t24 =>
   .bnd (binM .mul ty_uint64 t23 t24) fun t25 =>
   .bnd (binM .add ty_int (g t19 2) (g t19 10)) fun t26 =>
   .bnd (idxM 1 (g t19 1) t26) fun t27 =>
   .bnd (loadM none t27) fun t28 =>
   .bnd (convM .u64 t28) fun t29 =>
   .bnd (binM .add ty_uint64 t25 t29) fun t30 =>
   .bnd (binM .add ty_uint64 (g t19 4) t30) fun t31 =>
   .bnd (binM .add ty_int (g t19 2) (g t19 10)) fun t32 =>
   .bnd (convM .u32 t31) fun t33 =>
   .bnd (idxM 1 (g t19 1) t32) fun t34 =>
   .bnd (storeM 1 t34 t33) fun _ =>
   .bnd (binM .shr ty_uint64 t31 (.int .u64 32)) fun t36 =>
   .bnd (binM .add ty_int (g t19 10) (I 1)) fun t37 =>
   .leaf (me18 [(g t19 0), (g t19 1), (g t19 2), (g t19 3), t36, (g t19 5), (g t19 6), (g t19 7), (g t19 8), (g t19 9), t37]))
   (.bnd (lenM (g t19 0)) fun t38 =>
   .bnd (binM .add ty_int (g t19 2) t38) fun t39 =>
   .bnd (convM .u32 (g t19 4)) fun t40 =>
   .bnd (idxM 1 (g t19 1) t39) fun t41 =>
   .bnd (storeM 1 t41 t40) fun _ =>
   .bnd (binM .add ty_int (g t19 7) (I 1)) fun t43 =>
   .leaf (me12 [(g t19 0), (g t19 1), (g t19 5), (g t19 6), t43]))
def L_nat_Mul_2 (me12 : List PV → M) (t13 : List PV) : Prog :=
   .bnd (binM .lss ty_int (g t13 4) (g t13 3)) fun t14 =>
   .ifP t14
   (.bnd (idxM 1 (g t13 2) (g t13 4)) fun t15 =>
   .bnd (loadM none t15) fun t16 =>
   .bnd (lenM (g t13 0)) fun t17 =>
   .loop (L_nat_Mul_1 me12)
   [(g t13 0), (g t13 1), (g t13 4), t16, (.int .u64 0), (g t13 2), (g t13 3), (g t13 4), (g t13 0), t17, (I 0)])
   (.bnd (callP true none true F_nat_fit [(g t13 1)]) fun t44 =>
   .bnd (extractM t44 0) fun t45 =>
   .bnd (extractM t44 1) fun t46 =>
   .leaf (ret (.tup [t45, t46])))
def B_nat_Mul : List PV → Prog
 | [a0, a1] => .bnd (callP false none true F_nat_Right [a0]) fun t1 =>
   .bnd (unM .not t1) fun t2 =>
   .bnd (guardM t2 false (ret a1)) fun t3 =>
   .bnd (guardM t2 false (callP false none true F_nat_Right [t3])) fun t4 =>
   .bnd (guardM t2 false (unM .not t4)) fun t5 =>
   .bnd (pickM t2 (.bool true) t5) fun t6 =>
   .ifP t6
   (.leaf (ret (.tup [.nilS, (I 2)])))
   (.bnd (lenM a0) fun t7 =>
   .bnd (lenM a1) fun t8 =>
   .bnd (binM .add ty_int t7 t8) fun t9 =>
   .bnd (makeSliceM none 1 4 (.int .u32 0) t9 t9) fun t10 =>
   .bnd (lenM a0) fun t11 =>
   .loop L_nat_Mul_2
   [a1, t10, a0, t11, (I 0)])
 | _ => .leaf failM
def F_nat_Mul : List PV → PRes := runP false fun a => (B_nat_Mul a).run
/- touchstone/signed.Mul (P) -/
def B_signed_Mul : List PV → Prog
 | [a0, a1] => .bnd (boxM none 2 a0) fun t1 =>
   .bnd (boxM none 2 a1) fun t2 =>
   .bnd (boxM none 2 (.agg [(.bool false), .nilS])) fun t3 =>
   .bnd (loadM (some 2) t1) fun t4 =>
   .bnd (loadM (some 2) t2) fun t5 =>
   .bnd (callP false none true F_signed_both [t4, t5]) fun t6 =>
   .bnd (unM .not t6) fun t7 =>
   .ifP t7
   (.bnd (buildM [(.bool false), .nilS] []) fun t8 =>
   .bnd (storeM 2 t3 t8) fun _ =>
   .bnd (loadM (some 2) t3) fun t10 =>
   .leaf (ret (.tup [t10, (I 2)])))
   (.bnd (addM 1 t1) fun t11 =>
   .bnd (loadM none t11) fun t12 =>
   .bnd (addM 1 t2) fun t13 =>
   .bnd (loadM none t13) fun t14 =>
   .bnd (callP false none true F_nat_Mul [t12, t14]) fun t15 =>
   .bnd (extractM t15 0) fun t16 =>
   .bnd (extractM t15 1) fun t17 =>
   .bnd (addM 0 t1) fun t18 =>
   .bnd (loadM none t18) fun t19 =>
   .bnd (addM 0 t2) fun t20 =>
   .bnd (loadM none t20) fun t21 =>
   .bnd (binM .neq ty_bool t19 t21) fun t22 =>
   .bnd (callP false none true F_signed_made [t22, t16, t17]) fun t23 =>
   .bnd (extractM t23 0) fun t24 =>
   .bnd (extractM t23 1) fun t25 =>
   .bnd (storeM 2 t3 t24) fun _ =>
   .bnd (loadM (some 2) t3) fun t27 =>
   .leaf (ret (.tup [t27, t25])))
 | _ => .leaf failM
def F_signed_Mul : List PV → PRes := runP false fun a => (B_signed_Mul a).run
/- touchstone/ratio.times (P) -/
def B_ratio_times : List PV → Prog
 | [a0, a1] => .bnd (boxM none 2 a0) fun t1 =>
   .bnd (boxM none 2 a1) fun t2 =>
   .bnd (boxM none 3 (.agg [(.bool false), .nilS, (.int .i64 0)])) fun t3 =>
   .bnd (loadM (some 2) t1) fun t4 =>
   .bnd (loadM (some 2) t2) fun t5 =>
   .bnd (callP false none true F_signed_Mul [t4, t5]) fun t6 =>
   .bnd (extractM t6 0) fun t7 =>
   .bnd (extractM t6 1) fun t8 =>
   .bnd (boxM none 2 (.agg [(.bool false), .nilS])) fun t9 =>
   .bnd (storeM 2 t9 t7) fun _ =>
   .bnd (loadM (some 2) t9) fun t11 =>
   .bnd (buildM [(.bool false), .nilS, (.int .i64 0)] [(0, 2, t11), (2, 1, t8)]) fun t12 =>
   .bnd (storeM 3 t3 t12) fun _ =>
   .bnd (loadM (some 3) t3) fun t14 =>
   .leaf (ret t14)
 | _ => .leaf failM
def F_ratio_times : List PV → PRes := runP false fun a => (B_ratio_times a).run
/- touchstone/signed.Neg (P) -/
def B_signed_Neg : List PV → Prog
 | [a0] => .bnd (boxM none 2 a0) fun t1 =>
   .bnd (boxM none 2 (.agg [(.bool false), .nilS])) fun t2 =>
   .bnd (loadM (some 2) t1) fun t3 =>
   .bnd (callP false none true F_signed_Right [t3]) fun t4 =>
   .bnd (unM .not t4) fun t5 =>
   .ifP t5
   (.bnd (buildM [(.bool false), .nilS] []) fun t6 =>
   .bnd (storeM 2 t2 t6) fun _ =>
   .bnd (loadM (some 2) t2) fun t8 =>
   .leaf (ret (.tup [t8, (I 2)])))
   (.bnd (addM 0 t1) fun t9 =>
   .bnd (loadM none t9) fun t10 =>
   .bnd (unM .not t10) fun t11 =>
   .bnd (addM 1 t1) fun t12 =>
   .bnd (loadM none t12) fun t13 =>
   .bnd (callP false none true F_signed_made [t11, t13, (I 0)]) fun t14 =>
   .bnd (extractM t14 0) fun t15 =>
   .bnd (extractM t14 1) fun t16 =>
   .bnd (storeM 2 t2 t15) fun _ =>
   .bnd (loadM (some 2) t2) fun t18 =>
   .leaf (ret (.tup [t18, t16])))
 | _ => .leaf failM
def F_signed_Neg : List PV → PRes := runP false fun a => (B_signed_Neg a).run
/- touchstone/nat.Add (P) -/
def J_nat_Add_1 (me16 : List PV → M) (t23 : List PV) : Prog :=
   .bnd (callP false none true F_bits_Add32 [(g t23 3), (g t23 4), (g t23 2)]) fun t25 =>
   .bnd (extractM t25 0) fun t26 =>
   .bnd (extractM t25 1) fun t27 =>
   .bnd (buildSliceM none 1 false (.int .u32 0) 1 [(0, t26)]) fun t28 =>
   .bnd (appendM 1 4 (g t23 1) t28) fun t29 =>
   .bnd (binM .add ty_int (g t23 7) (I 1)) fun t30 =>
   .leaf (me16 [(g t23 0), t29, t27, (g t23 5), (g t23 6), t30])
def L_nat_Add_1 (me16 : List PV → M) (t17 : List PV) : Prog :=
   .bnd (binM .lss ty_int (g t17 5) (g t17 4)) fun t18 =>
   .ifP t18
   (.bnd (idxM 1 (g t17 3) (g t17 5)) fun t19 =>
   .bnd (loadM none t19) fun t20 =>
   .bnd (lenM (g t17 0)) fun t21 =>
   .bnd (binM .lss ty_int (g t17 5) t21) fun t22 =>
   .join (J_nat_Add_1 me16) fun jn24 =>
   .ifP t22 (.bnd (idxM 1 (g t17 0) (g t17 5)) fun t31 =>
   .bnd (loadM none t31) fun t32 =>
   .leaf (jn24 [(g t17 0), (g t17 1), (g t17 2), t20, t32, (g t17 3), (g t17 4), (g t17 5)])) (.leaf (jn24 [(g t17 0), (g t17 1), (g t17 2), t20, (.int .u32 0), (g t17 3), (g t17 4), (g t17 5)])))
   (.bnd (buildSliceM none 1 false (.int .u32 0) 1 [(0, (g t17 2))]) fun t33 =>
   .bnd (appendM 1 4 (g t17 1) t33) fun t34 =>
   .bnd (callP true none true F_nat_fit [t34]) fun t35 =>
   .bnd (extractM t35 0) fun t36 =>
   .bnd (extractM t35 1) fun t37 =>
   .leaf (ret (.tup [t36, t37])))
def J_nat_Add_2 (t10 : List PV) : Prog :=
   .bnd (lenM (g t10 0)) fun t12 =>
   .bnd (binM .add ty_int t12 (I 1)) fun t13 =>
   .bnd (makeSliceM none 1 4 (.int .u32 0) (I 0) t13) fun t14 =>
   .bnd (lenM (g t10 0)) fun t15 =>
   .loop L_nat_Add_1
   [(g t10 1), t14, (.int .u32 0), (g t10 0), t15, (I 0)]
def B_nat_Add : List PV → Prog
 | [a0, a1] => .bnd (callP false none true F_nat_Right [a0]) fun t1 =>
   .bnd (unM .not t1) fun t2 =>
   .bnd (guardM t2 false (ret a1)) fun t3 =>
   .bnd (guardM t2 false (callP false none true F_nat_Right [t3])) fun t4 =>
   .bnd (guardM t2 false (unM .not t4)) fun t5 =>
   .bnd (pickM t2 (.bool true) t5) fun t6 =>
   .ifP t6
   (.leaf (ret (.tup [.nilS, (I 2)])))
   (.bnd (lenM a0) fun t7 =>
   .bnd (lenM a1) fun t8 =>
   .bnd (binM .lss ty_int t7 t8) fun t9 =>
   .join J_nat_Add_2 fun jn11 =>
   .ifP t9 (.leaf (jn11 [a1, a0])) (.leaf (jn11 [a0, a1])))
 | _ => .leaf failM
def F_nat_Add : List PV → PRes := runP false fun a => (B_nat_Add a).run
/- touchstone/nat.Sub (P) -/
def J_nat_Sub_1 (me15 : List PV → M) (t22 : List PV) : Prog :=
   .bnd (callP false none true F_bits_Sub32 [(g t22 3), (g t22 4), (g t22 2)]) fun t24 =>
   .bnd (extractM t24 0) fun t25 =>
   .bnd (extractM t24 1) fun t26 =>
   .bnd (buildSliceM none 1 false (.int .u32 0) 1 [(0, t25)]) fun t27 =>
   .bnd (appendM 1 4 (g t22 1) t27) fun t28 =>
   .bnd (binM .add ty_int (g t22 7) (I 1)) fun t29 =>
   .leaf (me15 [(g t22 0), t28, t26, (g t22 5), (g t22 6), t29])
def L_nat_Sub_1 (me15 : List PV → M) (t16 : List PV) : Prog :=
   .bnd (binM .lss ty_int (g t16 5) (g t16 4)) fun t17 =>
   .ifP t17
   (.bnd (idxM 1 (g t16 3) (g t16 5)) fun t18 =>
   .bnd (loadM none t18) fun t19 =>
   .bnd (lenM (g t16 0)) fun t20 =>
   .bnd (binM .lss ty_int (g t16 5) t20) fun t21 =>
   .join (J_nat_Sub_1 me15) fun jn23 =>
   .ifP t21 (.bnd (idxM 1 (g t16 0) (g t16 5)) fun t30 =>
   .bnd (loadM none t30) fun t31 =>
   .leaf (jn23 [(g t16 0), (g t16 1), (g t16 2), t19, t31, (g t16 3), (g t16 4), (g t16 5)])) (.leaf (jn23 [(g t16 0), (g t16 1), (g t16 2), t19, (.int .u32 0), (g t16 3), (g t16 4), (g t16 5)])))
   (.bnd (callP true none true F_nat_fit [(g t16 1)]) fun t32 =>
   .bnd (extractM t32 0) fun t33 =>
   .bnd (extractM t32 1) fun t34 =>
   .leaf (ret (.tup [t33, t34])))
def B_nat_Sub : List PV → Prog
 | [a0, a1] => .bnd (callP false none true F_nat_Right [a0]) fun t1 =>
   .bnd (unM .not t1) fun t2 =>
   .bnd (guardM t2 false (ret a1)) fun t3 =>
   .bnd (guardM t2 false (callP false none true F_nat_Right [t3])) fun t4 =>
   .bnd (guardM t2 false (unM .not t4)) fun t5 =>
   .bnd (pickM t2 (.bool true) t5) fun t6 =>
   .bnd (guardM t6 false (ret a0)) fun t7 =>
   .bnd (guardM t6 false (ret a1)) fun t8 =>
   .bnd (guardM t6 false (callP false none true F_nat_order [t7, t8])) fun t9 =>
   .bnd (guardM t6 false (binM .lss ty_int t9 (I 0))) fun t10 =>
   .bnd (pickM t6 (.bool true) t10) fun t11 =>
   .ifP t11
   (.leaf (ret (.tup [.nilS, (I 2)])))
   (.bnd (lenM a0) fun t12 =>
   .bnd (makeSliceM none 1 4 (.int .u32 0) (I 0) t12) fun t13 =>
   .bnd (lenM a0) fun t14 =>
   .loop L_nat_Sub_1
   [a1, t13, (.int .u32 0), a0, t14, (I 0)])
 | _ => .leaf failM
def F_nat_Sub : List PV → PRes := runP false fun a => (B_nat_Sub a).run
/- touchstone/signed.DivMod (P) -/
def J_signed_DivMod_1 (t37 : List PV) : Prog :=
   .bnd (addM 0 (g t37 0)) fun t39 =>
   .bnd (loadM none t39) fun t40 =>
   .bnd (addM 0 (g t37 1)) fun t41 =>
   .bnd (loadM none t41) fun t42 =>
   .bnd (binM .neq ty_bool t40 t42) fun t43 =>
   .bnd (callP false none true F_signed_made [t43, (g t37 4), (I 0)]) fun t44 =>
   .bnd (extractM t44 0) fun t45 =>
   .bnd (extractM t44 1) fun _ =>
   .bnd (boxM none 2 (.agg [(.bool false), .nilS])) fun t47 =>
   .bnd (storeM 2 t47 t45) fun _ =>
   .bnd (addM 0 (g t37 1)) fun t49 =>
   .bnd (loadM none t49) fun t50 =>
   .bnd (callP false none true F_signed_made [t50, (g t37 5), (I 0)]) fun t51 =>
   .bnd (extractM t51 0) fun t52 =>
   .bnd (extractM t51 1) fun _ =>
   .bnd (boxM none 2 (.agg [(.bool false), .nilS])) fun t54 =>
   .bnd (storeM 2 t54 t52) fun _ =>
   .bnd (loadM (some 2) t47) fun t56 =>
   .bnd (loadM (some 2) t54) fun t57 =>
   .bnd (storeM 2 (g t37 2) t56) fun _ =>
   .bnd (storeM 2 (g t37 3) t57) fun _ =>
   .bnd (apartM t54 (g t37 2)) fun _ =>
   .bnd (loadM (some 2) (g t37 2)) fun t60 =>
   .bnd (loadM (some 2) (g t37 3)) fun t61 =>
   .leaf (ret (.tup [t60, t61, (I 0)]))
def B_signed_DivMod : List PV → Prog
 | [a0, a1] => .bnd (boxM none 2 a0) fun t1 =>
   .bnd (boxM none 2 a1) fun t2 =>
   .bnd (boxM none 2 (.agg [(.bool false), .nilS])) fun t3 =>
   .bnd (boxM none 2 (.agg [(.bool false), .nilS])) fun t4 =>
   .bnd (loadM (some 2) t1) fun t5 =>
   .bnd (loadM (some 2) t2) fun t6 =>
   .bnd (callP false none true F_signed_both [t5, t6]) fun t7 =>
   .bnd (unM .not t7) fun t8 =>
   .bnd (guardM t8 false (addM 1 t2)) fun t9 =>
   .bnd (guardM t8 false (loadM none t9)) fun t10 =>
   .bnd (guardM t8 false (lenM t10)) fun t11 =>
   .bnd (guardM t8 false (binM .eql ty_int t11 (I 0))) fun t12 =>
   .bnd (pickM t8 (.bool true) t12) fun t13 =>
   .ifP t13
   (.bnd (buildM [(.bool false), .nilS] []) fun t14 =>
   .bnd (buildM [(.bool false), .nilS] []) fun t15 =>
   .bnd (storeM 2 t3 t14) fun _ =>
   .bnd (storeM 2 t4 t15) fun _ =>
   .bnd (loadM (some 2) t3) fun t18 =>
   .bnd (loadM (some 2) t4) fun t19 =>
   .leaf (ret (.tup [t18, t19, (I 2)])))
   (.bnd (addM 1 t1) fun t20 =>
   .bnd (loadM none t20) fun t21 =>
   .bnd (addM 1 t2) fun t22 =>
   .bnd (loadM none t22) fun t23 =>
   .bnd (callP false none true F_nat_DivMod [t21, t23]) fun t24 =>
   .bnd (extractM t24 0) fun t25 =>
   .bnd (extractM t24 1) fun t26 =>
   .bnd (extractM t24 2) fun _ =>
   .bnd (addM 0 t1) fun t28 =>
   .bnd (loadM none t28) fun t29 =>
   .bnd (addM 0 t2) fun t30 =>
   .bnd (loadM none t30) fun t31 =>
   .bnd (binM .neq ty_bool t29 t31) fun t32 =>
   .bnd (guardM t32 true (ret t26)) fun t33 =>
   .bnd (guardM t32 true (lenM t33)) fun t34 =>
   .bnd (guardM t32 true (binM .gtr ty_int t34 (I 0))) fun t35 =>
   .bnd (pickM t32 t35 (.bool false)) fun t36 =>
   .join J_signed_DivMod_1 fun jn38 =>
   .ifP t36 (.bnd (callP false none true F_nat_Of [(.int .u64 1)]) fun t62 =>
   .bnd (callP false none true F_nat_Add [t25, t62]) fun t63 =>
   .bnd (extractM t63 0) fun t64 =>
   .bnd (extractM t63 1) fun t65 =>
   .bnd (binM .neq ty_api_Errno t65 (I 0)) fun t66 =>
   .ifP t66
   (.bnd (buildM [(.bool false), .nilS] []) fun t67 =>
   .bnd (buildM [(.bool false), .nilS] []) fun t68 =>
   .bnd (storeM 2 t3 t67) fun _ =>
   .bnd (storeM 2 t4 t68) fun _ =>
   .bnd (loadM (some 2) t3) fun t71 =>
   .bnd (loadM (some 2) t4) fun t72 =>
   .leaf (ret (.tup [t71, t72, t65])))
   (.bnd (addM 1 t2) fun t73 =>
   .bnd (loadM none t73) fun t74 =>
   .bnd (callP false none true F_nat_Sub [t74, t26]) fun t75 =>
   .bnd (extractM t75 0) fun t76 =>
   .bnd (extractM t75 1) fun _ =>
   .leaf (jn38 [t1, t2, t3, t4, t64, t76]))) (.leaf (jn38 [t1, t2, t3, t4, t25, t26])))
 | _ => .leaf failM
def F_signed_DivMod : List PV → PRes := runP false fun a => (B_signed_DivMod a).run
/- touchstone/ratio.Make (P) -/
def J_ratio_Make_1 (t22 : List PV) : Prog :=
   .bnd (loadM (some 2) (g t22 0)) fun t24 =>
   .bnd (loadM (some 2) (g t22 3)) fun t25 =>
   .bnd (callP false none true F_signed_DivMod [t24, t25]) fun t26 =>
   .bnd (extractM t26 0) fun t27 =>
   .bnd (extractM t26 1) fun t28 =>
   .bnd (extractM t26 2) fun _ =>
   .bnd (boxM none 2 (.agg [(.bool false), .nilS])) fun t30 =>
   .bnd (boxM none 2 (.agg [(.bool false), .nilS])) fun t31 =>
   .bnd (storeM 2 t30 t27) fun _ =>
   .bnd (storeM 2 t31 t28) fun _ =>
   .bnd (loadM (some 2) (g t22 1)) fun t34 =>
   .bnd (loadM (some 2) (g t22 3)) fun t35 =>
   .bnd (callP false none true F_signed_DivMod [t34, t35]) fun t36 =>
   .bnd (extractM t36 0) fun t37 =>
   .bnd (extractM t36 1) fun t38 =>
   .bnd (extractM t36 2) fun _ =>
   .bnd (boxM none 2 (.agg [(.bool false), .nilS])) fun t40 =>
   .bnd (boxM none 2 (.agg [(.bool false), .nilS])) fun t41 =>
   .bnd (storeM 2 t40 t37) fun _ =>
   .bnd (storeM 2 t41 t38) fun _ =>
   .bnd (addM 1 t30) fun t44 =>
   .bnd (loadM none t44) fun t45 =>
   .bnd (lenM t45) fun t46 =>
   .bnd (binM .gtr ty_int t46 (I 64)) fun t47 =>
   .bnd (guardM t47 false (addM 1 t40)) fun t48 =>
   .bnd (guardM t47 false (loadM none t48)) fun t49 =>
   .bnd (guardM t47 false (lenM t49)) fun t50 =>
   .bnd (guardM t47 false (binM .gtr ty_int t50 (I 64))) fun t51 =>
   .bnd (pickM t47 (.bool true) t51) fun t52 =>
   .ifP t52
   (.bnd (buildM [(.bool false), .nilS, (.bool false), .nilS] []) fun t53 =>
   .bnd (storeM 4 (g t22 2) t53) fun _ =>
   .bnd (loadM (some 4) (g t22 2)) fun t55 =>
   .leaf (ret (.tup [t55, (I 3)])))
   (.bnd (loadM (some 2) t30) fun t56 =>
   .bnd (loadM (some 2) t40) fun t57 =>
   .bnd (buildM [(.bool false), .nilS, (.bool false), .nilS] [(0, 2, t56), (2, 2, t57)]) fun t58 =>
   .bnd (storeM 4 (g t22 2) t58) fun _ =>
   .bnd (loadM (some 4) (g t22 2)) fun t60 =>
   .leaf (ret (.tup [t60, (I 0)])))
def B_ratio_Make : List PV → Prog
 | [a0, a1] => .bnd (boxM none 2 a0) fun t1 =>
   .bnd (boxM none 2 a1) fun t2 =>
   .bnd (boxM none 4 (.agg [(.bool false), .nilS, (.bool false), .nilS])) fun t3 =>
   .bnd (loadM (some 2) t1) fun t4 =>
   .bnd (loadM (some 2) t2) fun t5 =>
   .bnd (callP false none true F_signed_Gcd [t4, t5]) fun t6 =>
   .bnd (extractM t6 0) fun t7 =>
   .bnd (extractM t6 1) fun t8 =>
   .bnd (boxM none 2 (.agg [(.bool false), .nilS])) fun t9 =>
   .bnd (storeM 2 t9 t7) fun _ =>
   .bnd (binM .neq ty_api_Errno t8 (I 0)) fun t11 =>
   .bnd (guardM t11 false (addM 1 t2)) fun t12 =>
   .bnd (guardM t11 false (loadM none t12)) fun t13 =>
   .bnd (guardM t11 false (lenM t13)) fun t14 =>
   .bnd (guardM t11 false (binM .eql ty_int t14 (I 0))) fun t15 =>
   .bnd (pickM t11 (.bool true) t15) fun t16 =>
   .ifP t16
   (.bnd (buildM [(.bool false), .nilS, (.bool false), .nilS] []) fun t17 =>
   .bnd (storeM 4 t3 t17) fun _ =>
   .bnd (loadM (some 4) t3) fun t19 =>
   .leaf (ret (.tup [t19, (I 2)])))
   (.bnd (addM 0 t2) fun t20 =>
   .bnd (loadM none t20) fun t21 =>
   .join J_ratio_Make_1 fun jn23 =>
   .ifP t21 (.bnd (loadM (some 2) t9) fun t61 =>
   .bnd (callP false none true F_signed_Neg [t61]) fun t62 =>
   .bnd (extractM t62 0) fun t63 =>
   .bnd (extractM t62 1) fun _ =>
   .bnd (storeM 2 t9 t63) fun _ =>
   .leaf (jn23 [t1, t2, t3, t9])) (.leaf (jn23 [t1, t2, t3, t9])))
 | _ => .leaf failM
def F_ratio_Make : List PV → PRes := runP false fun a => (B_ratio_Make a).run
/- (touchstone/ratio.term).over (P) -/
def B_ratio_term_over : List PV → Prog
 | [a0, a1] => .bnd (boxM none 3 a0) fun t1 =>
   .bnd (boxM none 3 a1) fun t2 =>
   .bnd (boxM none 4 (.agg [(.bool false), .nilS, (.bool false), .nilS])) fun t3 =>
   .bnd (addM 2 t1) fun t4 =>
   .bnd (loadM none t4) fun t5 =>
   .bnd (binM .neq ty_api_Errno t5 (I 0)) fun t6 =>
   .bnd (guardM t6 false (addM 2 t2)) fun t7 =>
   .bnd (guardM t6 false (loadM none t7)) fun t8 =>
   .bnd (guardM t6 false (binM .neq ty_api_Errno t8 (I 0))) fun t9 =>
   .bnd (pickM t6 (.bool true) t9) fun t10 =>
   .ifP t10
   (.bnd (buildM [(.bool false), .nilS, (.bool false), .nilS] []) fun t11 =>
   .bnd (addM 2 t1) fun t12 =>
   .bnd (loadM none t12) fun t13 =>
   .bnd (addM 2 t2) fun t14 =>
   .bnd (loadM none t14) fun t15 =>
   .bnd (opt (maxI [t13, t15])) fun t16 =>
   .bnd (storeM 4 t3 t11) fun _ =>
   .bnd (apartM t12 t3) fun _ =>
   .bnd (apartM t14 t3) fun _ =>
   .bnd (loadM (some 4) t3) fun t18 =>
   .leaf (ret (.tup [t18, t16])))
   (.bnd (addM 0 t1) fun t19 =>
   .bnd (loadM (some 2) t19) fun t20 =>
   .bnd (addM 0 t2) fun t21 =>
   .bnd (loadM (some 2) t21) fun t22 =>
   .bnd (callP false none true F_ratio_Make [t20, t22]) fun t23 =>
   .bnd (extractM t23 0) fun t24 =>
   .bnd (extractM t23 1) fun t25 =>
   .bnd (storeM 4 t3 t24) fun _ =>
   .bnd (loadM (some 4) t3) fun t27 =>
   .leaf (ret (.tup [t27, t25])))
 | _ => .leaf failM
def F_ratio_term_over : List PV → PRes := runP false fun a => (B_ratio_term_over a).run
/- touchstone/ratio.Mul (P) -/
def B_ratio_Mul : List PV → Prog
 | [a0, a1] => .bnd (boxM none 4 a0) fun t1 =>
   .bnd (boxM none 4 a1) fun t2 =>
   .bnd (boxM none 4 (.agg [(.bool false), .nilS, (.bool false), .nilS])) fun t3 =>
   .bnd (loadM (some 4) t1) fun t4 =>
   .bnd (loadM (some 4) t2) fun t5 =>
   .bnd (callP false none true F_ratio_both [t4, t5]) fun t6 =>
   .bnd (unM .not t6) fun t7 =>
   .ifP t7
   (.bnd (buildM [(.bool false), .nilS, (.bool false), .nilS] []) fun t8 =>
   .bnd (storeM 4 t3 t8) fun _ =>
   .bnd (loadM (some 4) t3) fun t10 =>
   .leaf (ret (.tup [t10, (I 2)])))
   (.bnd (addM 0 t1) fun t11 =>
   .bnd (loadM (some 2) t11) fun t12 =>
   .bnd (addM 0 t2) fun t13 =>
   .bnd (loadM (some 2) t13) fun t14 =>
   .bnd (callP false none false F_ratio_times [t12, t14]) fun t15 =>
   .bnd (addM 2 t1) fun t16 =>
   .bnd (loadM (some 2) t16) fun t17 =>
   .bnd (addM 2 t2) fun t18 =>
   .bnd (loadM (some 2) t18) fun t19 =>
   .bnd (callP false none true F_ratio_times [t17, t19]) fun t20 =>
   .bnd (callP false none true F_ratio_term_over [t15, t20]) fun t21 =>
   .bnd (extractM t21 0) fun t22 =>
   .bnd (extractM t21 1) fun t23 =>
   .bnd (storeM 4 t3 t22) fun _ =>
   .bnd (loadM (some 4) t3) fun t25 =>
   .leaf (ret (.tup [t25, t23])))
 | _ => .leaf failM
def F_ratio_Mul : List PV → PRes := runP false fun a => (B_ratio_Mul a).run
/- touchstone/plex.must (P) -/
def B_plex_must : List PV → Prog
 | [a0, a1] => .bnd (boxM none 4 a0) fun t1 =>
   .bnd (boxM none 4 (.agg [(.bool false), .nilS, (.bool false), .nilS])) fun t2 =>
   .bnd (binM .neq ty_api_Errno a1 (I 0)) fun t3 =>
   .ifP t3
   (.bnd (buildM [] []) fun t4 =>
   .bnd (ret (.iface tid_plex_tooBig t4)) fun t5 =>
   .bnd (panicM true t5) fun _ =>
   .bnd (loadM (some 4) t1) fun t7 =>
   .bnd (storeM 4 t2 t7) fun _ =>
   .bnd (loadM (some 4) t2) fun t9 =>
   .leaf (ret t9))
   (.bnd (loadM (some 4) t1) fun t10 =>
   .bnd (storeM 4 t2 t10) fun _ =>
   .bnd (loadM (some 4) t2) fun t12 =>
   .leaf (ret t12))
 | _ => .leaf failM
def F_plex_must : List PV → PRes := runP false fun a => (B_plex_must a).run
/- touchstone/plex.mul (P) -/
def B_plex_mul : List PV → Prog
 | [a0, a1] => .bnd (boxM none 4 a0) fun t1 =>
   .bnd (boxM none 4 a1) fun t2 =>
   .bnd (boxM none 4 (.agg [(.bool false), .nilS, (.bool false), .nilS])) fun t3 =>
   .bnd (loadM (some 4) t1) fun t4 =>
   .bnd (loadM (some 4) t2) fun t5 =>
   .bnd (callP false none true F_ratio_Mul [t4, t5]) fun t6 =>
   .bnd (extractM t6 0) fun t7 =>
   .bnd (extractM t6 1) fun t8 =>
   .bnd (callP false none true F_plex_must [t7, t8]) fun t9 =>
   .bnd (storeM 4 t3 t9) fun _ =>
   .bnd (loadM (some 4) t3) fun t11 =>
   .leaf (ret t11)
 | _ => .leaf failM
def F_plex_mul : List PV → PRes := runP false fun a => (B_plex_mul a).run
/- touchstone/nat.Cmp (P) -/
def B_nat_Cmp : List PV → Prog
 | [a0, a1] => .bnd (callP false none true F_nat_Right [a0]) fun t1 =>
   .bnd (unM .not t1) fun t2 =>
   .bnd (guardM t2 false (ret a1)) fun t3 =>
   .bnd (guardM t2 false (callP false none true F_nat_Right [t3])) fun t4 =>
   .bnd (guardM t2 false (unM .not t4)) fun t5 =>
   .bnd (pickM t2 (.bool true) t5) fun t6 =>
   .ifP t6
   (.leaf (ret (.tup [(I 0), (I 2)])))
   (.bnd (callP false none true F_nat_order [a0, a1]) fun t7 =>
   .leaf (ret (.tup [t7, (I 0)])))
 | _ => .leaf failM
def F_nat_Cmp : List PV → PRes := runP false fun a => (B_nat_Cmp a).run
/- touchstone/signed.Add (P) -/
def J_signed_Add_1 (t38 : List PV) : Prog :=
   .bnd (addM 1 (g t38 0)) fun t40 =>
   .bnd (loadM none t40) fun t41 =>
   .bnd (addM 1 (g t38 1)) fun t42 =>
   .bnd (loadM none t42) fun t43 =>
   .bnd (callP false none true F_nat_Sub [t41, t43]) fun t44 =>
   .bnd (extractM t44 0) fun t45 =>
   .bnd (extractM t44 1) fun t46 =>
   .bnd (addM 0 (g t38 0)) fun t47 =>
   .bnd (loadM none t47) fun t48 =>
   .bnd (callP false none true F_signed_made [t48, t45, t46]) fun t49 =>
   .bnd (extractM t49 0) fun t50 =>
   .bnd (extractM t49 1) fun t51 =>
   .bnd (storeM 2 (g t38 2) t50) fun _ =>
   .bnd (loadM (some 2) (g t38 2)) fun t53 =>
   .leaf (ret (.tup [t53, t51]))
def B_signed_Add : List PV → Prog
 | [a0, a1] => .bnd (boxM none 2 a0) fun t1 =>
   .bnd (boxM none 2 a1) fun t2 =>
   .bnd (boxM none 2 (.agg [(.bool false), .nilS])) fun t3 =>
   .bnd (loadM (some 2) t1) fun t4 =>
   .bnd (loadM (some 2) t2) fun t5 =>
   .bnd (callP false none true F_signed_both [t4, t5]) fun t6 =>
   .bnd (unM .not t6) fun t7 =>
   .ifP t7
   (.bnd (buildM [(.bool false), .nilS] []) fun t8 =>
   .bnd (storeM 2 t3 t8) fun _ =>
   .bnd (loadM (some 2) t3) fun t10 =>
   .leaf (ret (.tup [t10, (I 2)])))
   (.bnd (addM 0 t1) fun t11 =>
   .bnd (loadM none t11) fun t12 =>
   .bnd (addM 0 t2) fun t13 =>
   .bnd (loadM none t13) fun t14 =>
   .bnd (binM .eql ty_bool t12 t14) fun t15 =>
   .ifP t15
   (.bnd (addM 1 t1) fun t16 =>
   .bnd (loadM none t16) fun t17 =>
   .bnd (addM 1 t2) fun t18 =>
   .bnd (loadM none t18) fun t19 =>
   .bnd (callP false none true F_nat_Add [t17, t19]) fun t20 =>
   .bnd (extractM t20 0) fun t21 =>
   .bnd (extractM t20 1) fun t22 =>
   .bnd (addM 0 t1) fun t23 =>
   .bnd (loadM none t23) fun t24 =>
   .bnd (callP false none true F_signed_made [t24, t21, t22]) fun t25 =>
   .bnd (extractM t25 0) fun t26 =>
   .bnd (extractM t25 1) fun t27 =>
   .bnd (storeM 2 t3 t26) fun _ =>
   .bnd (loadM (some 2) t3) fun t29 =>
   .leaf (ret (.tup [t29, t27])))
   (.bnd (addM 1 t1) fun t30 =>
   .bnd (loadM none t30) fun t31 =>
   .bnd (addM 1 t2) fun t32 =>
   .bnd (loadM none t32) fun t33 =>
   .bnd (callP false none true F_nat_Cmp [t31, t33]) fun t34 =>
   .bnd (extractM t34 0) fun t35 =>
   .bnd (extractM t34 1) fun _ =>
   .bnd (binM .lss ty_int t35 (I 0)) fun t37 =>
   .join J_signed_Add_1 fun jn39 =>
   .ifP t37 (.bnd (loadM (some 2) t2) fun t54 =>
   .bnd (loadM (some 2) t1) fun t55 =>
   .bnd (storeM 2 t1 t54) fun _ =>
   .bnd (storeM 2 t2 t55) fun _ =>
   .leaf (jn39 [t1, t2, t3])) (.leaf (jn39 [t1, t2, t3]))))
 | _ => .leaf failM
def F_signed_Add : List PV → PRes := runP false fun a => (B_signed_Add a).run
/- (touchstone/ratio.term).plus (P) -/
def B_ratio_term_plus : List PV → Prog
 | [a0, a1] => .bnd (boxM none 3 a0) fun t1 =>
   .bnd (boxM none 3 a1) fun t2 =>
   .bnd (boxM none 3 (.agg [(.bool false), .nilS, (.int .i64 0)])) fun t3 =>
   .bnd (addM 2 t1) fun t4 =>
   .bnd (loadM none t4) fun t5 =>
   .bnd (binM .neq ty_api_Errno t5 (I 0)) fun t6 =>
   .bnd (guardM t6 false (addM 2 t2)) fun t7 =>
   .bnd (guardM t6 false (loadM none t7)) fun t8 =>
   .bnd (guardM t6 false (binM .neq ty_api_Errno t8 (I 0))) fun t9 =>
   .bnd (pickM t6 (.bool true) t9) fun t10 =>
   .ifP t10
   (.bnd (buildM [(.bool false), .nilS] []) fun t11 =>
   .bnd (addM 2 t1) fun t12 =>
   .bnd (loadM none t12) fun t13 =>
   .bnd (addM 2 t2) fun t14 =>
   .bnd (loadM none t14) fun t15 =>
   .bnd (opt (maxI [t13, t15])) fun t16 =>
   .bnd (buildM [(.bool false), .nilS, (.int .i64 0)] [(0, 2, t11), (2, 1, t16)]) fun t17 =>
   .bnd (storeM 3 t3 t17) fun _ =>
   .bnd (loadM (some 3) t3) fun t19 =>
   .leaf (ret t19))
   (.bnd (addM 0 t1) fun t20 =>
   .bnd (loadM (some 2) t20) fun t21 =>
   .bnd (addM 0 t2) fun t22 =>
   .bnd (loadM (some 2) t22) fun t23 =>
   .bnd (callP false none true F_signed_Add [t21, t23]) fun t24 =>
   .bnd (extractM t24 0) fun t25 =>
   .bnd (extractM t24 1) fun t26 =>
   .bnd (boxM none 2 (.agg [(.bool false), .nilS])) fun t27 =>
   .bnd (storeM 2 t27 t25) fun _ =>
   .bnd (loadM (some 2) t27) fun t29 =>
   .bnd (buildM [(.bool false), .nilS, (.int .i64 0)] [(0, 2, t29), (2, 1, t26)]) fun t30 =>
   .bnd (storeM 3 t3 t30) fun _ =>
   .bnd (loadM (some 3) t3) fun t32 =>
   .leaf (ret t32))
 | _ => .leaf failM
def F_ratio_term_plus : List PV → PRes := runP false fun a => (B_ratio_term_plus a).run
/- touchstone/ratio.Add (P) -/
def B_ratio_Add : List PV → Prog
 | [a0, a1] => .bnd (boxM none 4 a0) fun t1 =>
   .bnd (boxM none 4 a1) fun t2 =>
   .bnd (boxM none 4 (.agg [(.bool false), .nilS, (.bool false), .nilS])) fun t3 =>
   .bnd (loadM (some 4) t1) fun t4 =>
   .bnd (loadM (some 4) t2) fun t5 =>
   .bnd (callP false none true F_ratio_both [t4, t5]) fun t6 =>
   .bnd (unM .not t6) fun t7 =>
   .ifP t7
   (.bnd (buildM [(.bool false), .nilS, (.bool false), .nilS] []) fun t8 =>
   .bnd (storeM 4 t3 t8) fun _ =>
   .bnd (loadM (some 4) t3) fun t10 =>
   .leaf (ret (.tup [t10, (I 2)])))
   (.bnd (addM 0 t1) fun t11 =>
   .bnd (loadM (some 2) t11) fun t12 =>
   .bnd (addM 2 t2) fun t13 =>
   .bnd (loadM (some 2) t13) fun t14 =>
   .bnd (callP false none false F_ratio_times [t12, t14]) fun t15 =>
   .bnd (addM 0 t2) fun t16 =>
   .bnd (loadM (some 2) t16) fun t17 =>
   .bnd (addM 2 t1) fun t18 =>
   .bnd (loadM (some 2) t18) fun t19 =>
   .bnd (callP false none false F_ratio_times [t17, t19]) fun t20 =>
   .bnd (callP false none false F_ratio_term_plus [t15, t20]) fun t21 =>
   .bnd (addM 2 t1) fun t22 =>
   .bnd (loadM (some 2) t22) fun t23 =>
   .bnd (addM 2 t2) fun t24 =>
   .bnd (loadM (some 2) t24) fun t25 =>
   .bnd (callP false none true F_ratio_times [t23, t25]) fun t26 =>
   .bnd (callP false none true F_ratio_term_over [t21, t26]) fun t27 =>
   .bnd (extractM t27 0) fun t28 =>
   .bnd (extractM t27 1) fun t29 =>
   .bnd (storeM 4 t3 t28) fun _ =>
   .bnd (loadM (some 4) t3) fun t31 =>
   .leaf (ret (.tup [t31, t29])))
 | _ => .leaf failM
def F_ratio_Add : List PV → PRes := runP false fun a => (B_ratio_Add a).run
/- touchstone/plex.add (P) -/
def B_plex_add : List PV → Prog
 | [a0, a1] => .bnd (boxM none 4 a0) fun t1 =>
   .bnd (boxM none 4 a1) fun t2 =>
   .bnd (boxM none 4 (.agg [(.bool false), .nilS, (.bool false), .nilS])) fun t3 =>
   .bnd (loadM (some 4) t1) fun t4 =>
   .bnd (loadM (some 4) t2) fun t5 =>
   .bnd (callP false none true F_ratio_Add [t4, t5]) fun t6 =>
   .bnd (extractM t6 0) fun t7 =>
   .bnd (extractM t6 1) fun t8 =>
   .bnd (callP false none true F_plex_must [t7, t8]) fun t9 =>
   .bnd (storeM 4 t3 t9) fun _ =>
   .bnd (loadM (some 4) t3) fun t11 =>
   .leaf (ret t11)
 | _ => .leaf failM
def F_plex_add : List PV → PRes := runP false fun a => (B_plex_add a).run
/- touchstone/plex.least$1 (S) -/
def B_plex_least_c1 : List PV → Prog
 | [a0, a1, a2] => .bnd (addM 2 a1) fun t1 =>
   .bnd (loadM none t1) fun t2 =>
   .bnd (idxM 1 t2 a0) fun t3 =>
   .bnd (loadM none t3) fun t4 =>
   .bnd (loadM none a2) fun t5 =>
   .bnd (idxM 1 t4 t5) fun t6 =>
   .bnd (loadM none t6) fun t7 =>
   .leaf (ret t7)
 | _ => .leaf failM
def F_plex_least_c1 : List PV → M := fun a => (B_plex_least_c1 a).run
/- touchstone/plex.least$2 (S) -/
def B_plex_least_c2 : List PV → Prog
 | [a0, a1] => .bnd (addM 3 a1) fun t1 =>
   .bnd (loadM none t1) fun t2 =>
   .bnd (idxM 1 t2 a0) fun t3 =>
   .bnd (loadM none t3) fun t4 =>
   .leaf (ret t4)
 | _ => .leaf failM
def F_plex_least_c2 : List PV → M := fun a => (B_plex_least_c2 a).run
/- (*touchstone/plex.tableau).answer$1 (S) -/
def B_plex_tableau_answer_c1 : List PV → Prog
 | [a0, a1] => .bnd (addM 4 a1) fun t1 =>
   .bnd (loadM none t1) fun t2 =>
   .bnd (idxM 1 t2 a0) fun t3 =>
   .bnd (loadM none t3) fun t4 =>
   .leaf (ret t4)
 | _ => .leaf failM
def F_plex_tableau_answer_c1 : List PV → M := fun a => (B_plex_tableau_answer_c1 a).run
/- touchstone/plex.proved$1 (S) -/
def B_plex_proved_c1 : List PV → Prog
 | [a0, a1] => .bnd (addM 4 a1) fun t1 =>
   .bnd (loadM none t1) fun t2 =>
   .bnd (idxM 1 t2 a0) fun t3 =>
   .bnd (loadM none t3) fun t4 =>
   .leaf (ret t4)
 | _ => .leaf failM
def F_plex_proved_c1 : List PV → M := fun a => (B_plex_proved_c1 a).run
/- touchstone/plex.fit$1 (S) -/
def B_plex_fit_c1 : List PV → Prog
 | [a0, a1] => .bnd (loadM none a1) fun t1 =>
   .bnd (idxM 1 t1 a0) fun t2 =>
   .bnd (loadM none t2) fun t3 =>
   .leaf (ret t3)
 | _ => .leaf failM
def F_plex_fit_c1 : List PV → M := fun a => (B_plex_fit_c1 a).run
/- touchstone/plex.dot (R) -/
def D_plex_dot : FuncId → List PV → M := lookD [(fid_plex_least_c1, F_plex_least_c1), (fid_plex_least_c2, F_plex_least_c2), (fid_plex_tableau_answer_c1, F_plex_tableau_answer_c1), (fid_plex_proved_c1, F_plex_proved_c1), (fid_plex_fit_c1, F_plex_fit_c1)]
theorem D_plex_dot_plex_least_c1 : D_plex_dot fid_plex_least_c1 = F_plex_least_c1 := (rfl)
theorem D_plex_dot_plex_least_c2 : D_plex_dot fid_plex_least_c2 = F_plex_least_c2 := (rfl)
theorem D_plex_dot_plex_tableau_answer_c1 : D_plex_dot fid_plex_tableau_answer_c1 = F_plex_tableau_answer_c1 := (rfl)
theorem D_plex_dot_plex_proved_c1 : D_plex_dot fid_plex_proved_c1 = F_plex_proved_c1 := (rfl)
theorem D_plex_dot_plex_fit_c1 : D_plex_dot fid_plex_fit_c1 = F_plex_fit_c1 := (rfl)
def L_plex_dot_1 (me6 : List PV → M) (t7 : List PV) : Prog :=
   .bnd (binM .lss ty_int (g t7 5) (g t7 4)) fun t8 =>
   .ifP t8
   (.bnd (idxM 4 (g t7 3) (g t7 5)) fun t9 =>
   .bnd (loadM (some 4) t9) fun t10 =>
   .bnd (boxM none 4 (.agg [(.bool false), .nilS, (.bool false), .nilS])) fun t11 =>
   .bnd (storeM 4 t11 t10) fun _ =>
   .bnd (loadM (some 4) (g t7 2)) fun t13 =>
   .bnd (loadM (some 4) t11) fun t14 =>
   .bnd (dynC D_plex_dot true true (g t7 0) [(g t7 5)]) fun t15 =>
   .bnd (callP false none true F_ratio_Of [t15]) fun t16 =>
   .bnd (callP false none true F_plex_mul [t14, t16]) fun t17 =>
   .bnd (callP false none true F_plex_add [t13, t17]) fun t18 =>
   .bnd (storeM 4 (g t7 2) t18) fun _ =>
   .bnd (binM .add ty_int (g t7 5) (I 1)) fun t20 =>
   .leaf (me6 [(g t7 0), (g t7 1), (g t7 2), (g t7 3), (g t7 4), t20]))
   (.bnd (loadM (some 4) (g t7 2)) fun t21 =>
   .bnd (storeM 4 (g t7 1) t21) fun _ =>
   .bnd (loadM (some 4) (g t7 1)) fun t23 =>
   .leaf (ret t23))
def B_plex_dot : List PV → Prog
 | [a0, a1] => .bnd (boxM none 4 (.agg [(.bool false), .nilS, (.bool false), .nilS])) fun t1 =>
   .bnd (callP false none true F_ratio_Of [(I 0)]) fun t2 =>
   .bnd (boxM none 4 (.agg [(.bool false), .nilS, (.bool false), .nilS])) fun t3 =>
   .bnd (storeM 4 t3 t2) fun _ =>
   .bnd (lenM a0) fun t5 =>
   .loop L_plex_dot_1
   [a1, t1, t3, a0, t5, (I 0)]
 | _ => .leaf failM
def F_plex_dot : List PV → M := fun a => (B_plex_dot a).run
/- touchstone/plex.sign (P) -/
def B_plex_sign : List PV → Prog
 | [a0] => .bnd (boxM none 4 a0) fun t1 =>
   .bnd (addM 0 t1) fun t2 =>
   .bnd (addM 1 t2) fun t3 =>
   .bnd (loadM none t3) fun t4 =>
   .bnd (lenM t4) fun t5 =>
   .bnd (binM .eql ty_int t5 (I 0)) fun t6 =>
   .ifP t6
   (.leaf (ret (I 0)))
   (.bnd (addM 0 t1) fun t7 =>
   .bnd (addM 0 t7) fun t8 =>
   .bnd (loadM none t8) fun t9 =>
   .ifP t9
   (.leaf (ret (I (-1))))
   (.leaf (ret (I 1))))
 | _ => .leaf failM
def F_plex_sign : List PV → PRes := runP false fun a => (B_plex_sign a).run
/- touchstone/ratio.Neg (P) -/
def B_ratio_Neg : List PV → Prog
 | [a0] => .bnd (boxM none 4 a0) fun t1 =>
   .bnd (boxM none 4 (.agg [(.bool false), .nilS, (.bool false), .nilS])) fun t2 =>
   .bnd (loadM (some 4) t1) fun t3 =>
   .bnd (callP false none true F_ratio_Right [t3]) fun t4 =>
   .bnd (unM .not t4) fun t5 =>
   .ifP t5
   (.bnd (buildM [(.bool false), .nilS, (.bool false), .nilS] []) fun t6 =>
   .bnd (storeM 4 t2 t6) fun _ =>
   .bnd (loadM (some 4) t2) fun t8 =>
   .leaf (ret (.tup [t8, (I 2)])))
   (.bnd (addM 0 t1) fun t9 =>
   .bnd (loadM (some 2) t9) fun t10 =>
   .bnd (callP false none true F_signed_Neg [t10]) fun t11 =>
   .bnd (extractM t11 0) fun t12 =>
   .bnd (extractM t11 1) fun t13 =>
   .bnd (boxM none 2 (.agg [(.bool false), .nilS])) fun t14 =>
   .bnd (storeM 2 t14 t12) fun _ =>
   .bnd (addM 2 t1) fun t16 =>
   .bnd (loadM (some 2) t16) fun t17 =>
   .bnd (buildM [(.bool false), .nilS] []) fun t18 =>
   .bnd (callP false none true F_signed_Add [t17, t18]) fun t19 =>
   .bnd (extractM t19 0) fun t20 =>
   .bnd (extractM t19 1) fun _ =>
   .bnd (boxM none 2 (.agg [(.bool false), .nilS])) fun t22 =>
   .bnd (storeM 2 t22 t20) fun _ =>
   .bnd (loadM (some 2) t14) fun t24 =>
   .bnd (loadM (some 2) t22) fun t25 =>
   .bnd (buildM [(.bool false), .nilS, (.bool false), .nilS] [(0, 2, t24), (2, 2, t25)]) fun t26 =>
   .bnd (storeM 4 t2 t26) fun _ =>
   .bnd (loadM (some 4) t2) fun t28 =>
   .leaf (ret (.tup [t28, t13])))
 | _ => .leaf failM
def F_ratio_Neg : List PV → PRes := runP false fun a => (B_ratio_Neg a).run
/- touchstone/plex.neg (P) -/
def B_plex_neg : List PV → Prog
 | [a0] => .bnd (boxM none 4 a0) fun t1 =>
   .bnd (boxM none 4 (.agg [(.bool false), .nilS, (.bool false), .nilS])) fun t2 =>
   .bnd (loadM (some 4) t1) fun t3 =>
   .bnd (callP false none true F_ratio_Neg [t3]) fun t4 =>
   .bnd (extractM t4 0) fun t5 =>
   .bnd (extractM t4 1) fun t6 =>
   .bnd (callP false none true F_plex_must [t5, t6]) fun t7 =>
   .bnd (storeM 4 t2 t7) fun _ =>
   .bnd (loadM (some 4) t2) fun t9 =>
   .leaf (ret t9)
 | _ => .leaf failM
def F_plex_neg : List PV → PRes := runP false fun a => (B_plex_neg a).run
/- touchstone/plex.sub (P) -/
def B_plex_sub : List PV → Prog
 | [a0, a1] => .bnd (boxM none 4 a0) fun t1 =>
   .bnd (boxM none 4 a1) fun t2 =>
   .bnd (boxM none 4 (.agg [(.bool false), .nilS, (.bool false), .nilS])) fun t3 =>
   .bnd (loadM (some 4) t1) fun t4 =>
   .bnd (loadM (some 4) t2) fun t5 =>
   .bnd (callP false none true F_plex_neg [t5]) fun t6 =>
   .bnd (callP false none true F_plex_add [t4, t6]) fun t7 =>
   .bnd (storeM 4 t3 t7) fun _ =>
   .bnd (loadM (some 4) t3) fun t9 =>
   .leaf (ret t9)
 | _ => .leaf failM
def F_plex_sub : List PV → PRes := runP false fun a => (B_plex_sub a).run
/- touchstone/plex.least (R) -/
def J_plex_least_1 (me9 : List PV → M) (t29 : List PV) : Prog :=
   .bnd (loadM (some 4) (g t29 4)) fun t31 =>
   .bnd (loadM (some 4) (g t29 5)) fun t32 =>
   .bnd (callP false none true F_ratio_Of [(g t29 6)]) fun t33 =>
   .bnd (callP false none true F_plex_mul [t32, t33]) fun t34 =>
   .bnd (callP false none true F_plex_add [t31, t34]) fun t35 =>
   .bnd (storeM 4 (g t29 4) t35) fun _ =>
   .bnd (binM .add ty_int (g t29 8) (I 1)) fun t37 =>
   .leaf (me9 [(g t29 0), (g t29 1), (g t29 2), (g t29 3), (g t29 4), (g t29 7), t37])
def J_plex_least_2 (me9 : List PV → M) (t19 : List PV) : Prog :=
   .bnd (addM 0 (g t19 2)) fun t21 =>
   .bnd (loadM none t21) fun t22 =>
   .bnd (loadM none (g t19 5)) fun t23 =>
   .bnd (idxM 1 t22 t23) fun t24 =>
   .bnd (loadM none t24) fun t25 =>
   .bnd (loadM (some 4) (g t19 6)) fun t26 =>
   .bnd (callP false none true F_plex_sign [t26]) fun t27 =>
   .bnd (binM .lss ty_int t27 (I 0)) fun t28 =>
   .join (J_plex_least_1 me9) fun jn30 =>
   .ifP t28 (.bnd (addM 1 (g t19 2)) fun t38 =>
   .bnd (loadM none t38) fun t39 =>
   .bnd (loadM none (g t19 5)) fun t40 =>
   .bnd (idxM 1 t39 t40) fun t41 =>
   .bnd (loadM none t41) fun t42 =>
   .leaf (jn30 [(g t19 0), (g t19 1), (g t19 2), (g t19 3), (g t19 4), (g t19 6), t42, (g t19 7), (g t19 8)])) (.leaf (jn30 [(g t19 0), (g t19 1), (g t19 2), (g t19 3), (g t19 4), (g t19 6), t25, (g t19 7), (g t19 8)]))
def L_plex_least_1 (me9 : List PV → M) (t10 : List PV) : Prog :=
   .bnd (binM .lss ty_int (g t10 6) (g t10 5)) fun t11 =>
   .ifP t11
   (.bnd (boxM none 1 (.int .i64 0)) fun t12 =>
   .bnd (storeM 1 t12 (g t10 6)) fun _ =>
   .bnd (ret (.func fid_plex_least_c1 [] [(g t10 2), t12])) fun t14 =>
   .bnd (calm true (callR F_plex_dot [(g t10 0), t14])) fun t15 =>
   .bnd (boxM none 4 (.agg [(.bool false), .nilS, (.bool false), .nilS])) fun t16 =>
   .bnd (storeM 4 t16 t15) fun _ =>
   .bnd (binM .neq ty_sl_int64 (g t10 1) .nilS) fun t18 =>
   .join (J_plex_least_2 me9) fun jn20 =>
   .ifP t18 (.bnd (loadM (some 4) t16) fun t43 =>
   .bnd (loadM none t12) fun t44 =>
   .bnd (idxM 1 (g t10 1) t44) fun t45 =>
   .bnd (loadM none t45) fun t46 =>
   .bnd (callP false none true F_ratio_Of [t46]) fun t47 =>
   .bnd (callP false none true F_plex_add [t43, t47]) fun t48 =>
   .bnd (storeM 4 t16 t48) fun _ =>
   .leaf (jn20 [(g t10 0), (g t10 1), (g t10 2), (g t10 3), (g t10 4), t12, t16, (g t10 5), (g t10 6)])) (.leaf (jn20 [(g t10 0), (g t10 1), (g t10 2), (g t10 3), (g t10 4), t12, t16, (g t10 5), (g t10 6)])))
   (.bnd (loadM (some 4) (g t10 4)) fun t50 =>
   .bnd (ret (.func fid_plex_least_c2 [] [(g t10 2)])) fun t51 =>
   .bnd (calm true (callR F_plex_dot [(g t10 0), t51])) fun t52 =>
   .bnd (callP false none true F_plex_sub [t50, t52]) fun t53 =>
   .bnd (storeM 4 (g t10 3) t53) fun _ =>
   .bnd (loadM (some 4) (g t10 3)) fun t55 =>
   .leaf (ret t55))
def B_plex_least : List PV → Prog
 | [a0, a1, a2] => .bnd (boxM none 5 a0) fun t1 =>
   .bnd (boxM none 4 (.agg [(.bool false), .nilS, (.bool false), .nilS])) fun t2 =>
   .bnd (callP false none true F_ratio_Of [(I 0)]) fun t3 =>
   .bnd (boxM none 4 (.agg [(.bool false), .nilS, (.bool false), .nilS])) fun t4 =>
   .bnd (storeM 4 t4 t3) fun _ =>
   .bnd (addM 0 t1) fun t6 =>
   .bnd (loadM none t6) fun t7 =>
   .bnd (lenM t7) fun t8 =>
   .loop L_plex_least_1
   [a1, a2, t1, t2, t4, t8, (I 0)]
 | _ => .leaf failM
def F_plex_least : List PV → M := fun a => (B_plex_least a).run
/- touchstone/plex.Bound$1 (S) -/
def B_plex_Bound_c1 : List PV → Prog
 | [a0, a1, a2] => .bnd (loadM (some 5) a0) fun t1 =>
   .bnd (loadM none a1) fun t2 =>
   .bnd (addM 4 a0) fun t3 =>
   .bnd (loadM none t3) fun t4 =>
   .bnd (calm true (callR F_plex_least [t1, t2, t4])) fun t5 =>
   .bnd (storeM 4 a2 t5) fun _ =>
   .leaf (ret (.tup []))
 | _ => .leaf failM
def F_plex_Bound_c1 : List PV → M := fun a => (B_plex_Bound_c1 a).run
/- (*touchstone/plex.tableau).sum (S) -/
def L_plex_tableau_sum_1 (me11 : List PV → M) (t12 : List PV) : Prog :=
   .bnd (binM .lss ty_int (g t12 5) (g t12 4)) fun t13 =>
   .ifP t13
   (.bnd (idxM 4 (g t12 3) (g t12 5)) fun t14 =>
   .bnd (loadM (some 4) t14) fun t15 =>
   .bnd (boxM none 4 (.agg [(.bool false), .nilS, (.bool false), .nilS])) fun t16 =>
   .bnd (storeM 4 t16 t15) fun _ =>
   .bnd (loadM (some 4) (g t12 2)) fun t18 =>
   .bnd (loadM (some 4) t16) fun t19 =>
   .bnd (nilCheckM (g t12 0)) fun t20 =>
   .bnd (addM 1 t20) fun t21 =>
   .bnd (loadM none t21) fun t22 =>
   .bnd (nilCheckM (g t12 0)) fun t23 =>
   .bnd (addM 3 t23) fun t24 =>
   .bnd (loadM none t24) fun t25 =>
   .bnd (idxM 1 t25 (g t12 5)) fun t26 =>
   .bnd (loadM none t26) fun t27 =>
   .bnd (idxM 1 t22 t27) fun t28 =>
   .bnd (loadM none t28) fun t29 =>
   .bnd (nilCheckM t29) fun t30 =>
   .bnd (addM 10 t30) fun t31 =>
   .bnd (loadM (some 4) t31) fun t32 =>
   .bnd (callP false none true F_plex_mul [t19, t32]) fun t33 =>
   .bnd (callP false none true F_plex_add [t18, t33]) fun t34 =>
   .bnd (storeM 4 (g t12 2) t34) fun _ =>
   .bnd (binM .add ty_int (g t12 5) (I 1)) fun t36 =>
   .leaf (me11 [(g t12 0), (g t12 1), (g t12 2), (g t12 3), (g t12 4), t36]))
   (.bnd (loadM (some 4) (g t12 2)) fun t37 =>
   .bnd (storeM 4 (g t12 1) t37) fun _ =>
   .bnd (loadM (some 4) (g t12 1)) fun t39 =>
   .leaf (ret t39))
def B_plex_tableau_sum : List PV → Prog
 | [a0, a1] => .bnd (boxM none 4 (.agg [(.bool false), .nilS, (.bool false), .nilS])) fun t1 =>
   .bnd (callP false none true F_ratio_Of [(I 0)]) fun t2 =>
   .bnd (boxM none 4 (.agg [(.bool false), .nilS, (.bool false), .nilS])) fun t3 =>
   .bnd (storeM 4 t3 t2) fun _ =>
   .bnd (nilCheckM a0) fun t5 =>
   .bnd (addM 4 t5) fun t6 =>
   .bnd (loadM none t6) fun t7 =>
   .bnd (idxM 1 t7 a1) fun t8 =>
   .bnd (loadM none t8) fun t9 =>
   .bnd (lenM t9) fun t10 =>
   .loop L_plex_tableau_sum_1
   [a0, t1, t3, t9, t10, (I 0)]
 | _ => .leaf failM
def F_plex_tableau_sum : List PV → M := fun a => (B_plex_tableau_sum a).run
/- touchstone/plex.begin (N) -/
def L_plex_begin_1 (me68 : List PV → M) (me82 : List PV → M) (t83 : List PV) : Prog :=
   .bnd (binM .lss ty_int (g t83 11) (g t83 10)) fun t84 =>
   .ifP t84
   (.bnd (idxM 1 (g t83 9) (g t83 11)) fun t85 =>
   .bnd (loadM none t85) fun t86 =>
   .bnd (callP false none true F_ratio_Of [t86]) fun t87 =>
   .bnd (buildSliceM none 4 true (.agg [(.bool false), .nilS, (.bool false), .nilS]) 1 [(0, t87)]) fun t88 =>
   .bnd (appendM 4 64 (g t83 5) t88) fun t89 =>
   .bnd (binM .add ty_int (g t83 11) (I 1)) fun t90 =>
   .leaf (me82 [(g t83 0), (g t83 1), (g t83 2), (g t83 3), (g t83 4), t89, (g t83 6), (g t83 7), (g t83 8), (g t83 9), (g t83 10), t90]))
   (.bnd (nilCheckM (g t83 2)) fun t91 =>
   .bnd (addM 1 t91) fun t92 =>
   .bnd (loadM none t92) fun t93 =>
   .bnd (buildSliceM none 1 false .nilP 1 [(0, (g t83 4))]) fun t94 =>
   .bnd (appendM 1 8 t93 t94) fun t95 =>
   .bnd (nilCheckM (g t83 2)) fun t96 =>
   .bnd (addM 1 t96) fun t97 =>
   .bnd (storeM 1 t97 t95) fun _ =>
   .bnd (nilCheckM (g t83 2)) fun t99 =>
   .bnd (addM 2 t99) fun t100 =>
   .bnd (loadM none t100) fun t101 =>
   .bnd (binM .add ty_int (g t83 1) (g t83 3)) fun t102 =>
   .bnd (buildSliceM none 1 false (.int .i64 0) 1 [(0, t102)]) fun t103 =>
   .bnd (appendM 1 8 t101 t103) fun t104 =>
   .bnd (nilCheckM (g t83 2)) fun t105 =>
   .bnd (addM 2 t105) fun t106 =>
   .bnd (storeM 1 t106 t104) fun _ =>
   .bnd (nilCheckM (g t83 2)) fun t108 =>
   .bnd (addM 4 t108) fun t109 =>
   .bnd (loadM none t109) fun t110 =>
   .bnd (buildSliceM none 1 false .nilS 1 [(0, (g t83 5))]) fun t111 =>
   .bnd (appendM 1 24 t110 t111) fun t112 =>
   .bnd (nilCheckM (g t83 2)) fun t113 =>
   .bnd (addM 4 t113) fun t114 =>
   .bnd (storeM 1 t114 t112) fun _ =>
   .bnd (calm true (F_plex_tableau_sum [(g t83 2), (g t83 3)])) fun t116 =>
   .bnd (nilCheckM (g t83 4)) fun t117 =>
   .bnd (addM 10 t117) fun t118 =>
   .bnd (storeM 4 t118 t116) fun _ =>
   .bnd (binM .add ty_int (g t83 8) (I 1)) fun t120 =>
   .leaf (me68 [(g t83 0), (g t83 1), (g t83 2), (g t83 6), (g t83 7), t120]))
def L_plex_begin_2 (me68 : List PV → M) (t69 : List PV) : Prog :=
   .bnd (binM .lss ty_int (g t69 5) (g t69 4)) fun t70 =>
   .ifP t70
   (.bnd (idxM 1 (g t69 3) (g t69 5)) fun t71 =>
   .bnd (loadM none t71) fun t72 =>
   .bnd (addM 3 (g t69 0)) fun t73 =>
   .bnd (loadM none t73) fun t74 =>
   .bnd (idxM 1 t74 (g t69 5)) fun t75 =>
   .bnd (loadM none t75) fun t76 =>
   .bnd (callP false none true F_ratio_Of [t76]) fun t77 =>
   .bnd (buildM [(.bool false), (.bool false), .nilS, (.bool false), .nilS] [(0, 1, (.bool true)), (1, 4, t77)]) fun t78 =>
   .bnd (buildM [(.bool false), (.bool false), .nilS, (.bool false), .nilS, (.bool false), (.bool false), .nilS, (.bool false), .nilS, (.bool false), .nilS, (.bool false), .nilS] [(5, 5, t78)]) fun t79 =>
   .bnd (boxM none 14 t79) fun t80 =>
   .bnd (lenM t72) fun t81 =>
   .loop (L_plex_begin_1 me68)
   [(g t69 0), (g t69 1), (g t69 2), (g t69 5), t80, .nilS, (g t69 3), (g t69 4), (g t69 5), t72, t81, (I 0)])
   (.leaf (ret (g t69 2)))
def L_plex_begin_3 (me8 : List PV → M) (t9 : List PV) : Prog :=
   .bnd (binM .lss ty_int (g t9 4) (g t9 3)) fun t10 =>
   .ifP t10
   (.base 16 fun t11 =>
   .bnd (addM 0 (g t9 0)) fun t12 =>
   .bnd (loadM none t12) fun t13 =>
   .bnd (idxM 1 t13 (g t9 4)) fun t14 =>
   .bnd (loadM none t14) fun t15 =>
   .bnd (callP false none false F_ratio_Of [t15]) fun t16 =>
   .bnd (addM 1 (g t9 0)) fun t17 =>
   .bnd (loadM none t17) fun t18 =>
   .bnd (idxM 1 t18 (g t9 4)) fun t19 =>
   .bnd (loadM none t19) fun t20 =>
   .bnd (callP false none false F_ratio_Of [t20]) fun t21 =>
   .bnd (boxM (some (t11 + 12)) 4 (.agg [(.bool false), .nilS, (.bool false), .nilS])) fun t22 =>
   .bnd (boxM (some (t11 + 13)) 4 (.agg [(.bool false), .nilS, (.bool false), .nilS])) fun t23 =>
   .bnd (storeM 4 t22 t16) fun _ =>
   .bnd (storeM 4 t23 t21) fun _ =>
   .base 17 fun t26 =>
   .bnd (nilCheckM (g t9 2)) fun t27 =>
   .bnd (addM 1 t27) fun t28 =>
   .bnd (loadM none t28) fun t29 =>
   .bnd (loadM (some 4) t22) fun t30 =>
   .bnd (buildM [(.bool false), (.bool false), .nilS, (.bool false), .nilS] [(0, 1, (.bool true)), (1, 4, t30)]) fun t31 =>
   .bnd (loadM (some 4) t23) fun t32 =>
   .bnd (buildM [(.bool false), (.bool false), .nilS, (.bool false), .nilS] [(0, 1, (.bool true)), (1, 4, t32)]) fun t33 =>
   .bnd (loadM (some 4) t22) fun t34 =>
   .bnd (buildM [(.bool false), (.bool false), .nilS, (.bool false), .nilS, (.bool false), (.bool false), .nilS, (.bool false), .nilS, (.bool false), .nilS, (.bool false), .nilS] [(0, 5, t31), (5, 5, t33), (10, 4, t34)]) fun t35 =>
   .bnd (boxM (some (t26 + 11)) 14 t35) fun t36 =>
   .bnd (buildSliceM (some (t26 + 12)) 1 false .nilP 1 [(0, t36)]) fun t37 =>
   .bnd (appendM 1 8 t29 t37) fun t38 =>
   .bnd (nilCheckM (g t9 2)) fun t39 =>
   .bnd (addM 1 t39) fun t40 =>
   .bnd (storeM 1 t40 t38) fun _ =>
   .bnd (nilCheckM (g t9 2)) fun t42 =>
   .bnd (addM 3 t42) fun t43 =>
   .bnd (loadM none t43) fun t44 =>
   .bnd (buildSliceM none 1 false (.int .i64 0) 1 [(0, (g t9 4))]) fun t45 =>
   .bnd (appendM 1 8 t44 t45) fun t46 =>
   .bnd (nilCheckM (g t9 2)) fun t47 =>
   .bnd (addM 3 t47) fun t48 =>
   .bnd (storeM 1 t48 t46) fun _ =>
   .base 16 fun t50 =>
   .bnd (nilCheckM (g t9 2)) fun t51 =>
   .bnd (addM 5 t51) fun t52 =>
   .bnd (loadM none t52) fun t53 =>
   .bnd (addM 4 (g t9 0)) fun t54 =>
   .bnd (loadM none t54) fun t55 =>
   .bnd (idxM 1 t55 (g t9 4)) fun t56 =>
   .bnd (loadM none t56) fun t57 =>
   .bnd (callP false none true F_ratio_Of [t57]) fun t58 =>
   .bnd (buildSliceM (some (t50 + 11)) 4 true (.agg [(.bool false), .nilS, (.bool false), .nilS]) 1 [(0, t58)]) fun t59 =>
   .bnd (appendM 4 64 t53 t59) fun t60 =>
   .bnd (nilCheckM (g t9 2)) fun t61 =>
   .bnd (addM 5 t61) fun t62 =>
   .bnd (storeM 1 t62 t60) fun _ =>
   .bnd (binM .add ty_int (g t9 4) (I 1)) fun t64 =>
   .leaf (me8 [(g t9 0), (g t9 1), (g t9 2), (g t9 3), t64]))
   (.bnd (addM 2 (g t9 0)) fun t65 =>
   .bnd (loadM none t65) fun t66 =>
   .bnd (lenM t66) fun t67 =>
   .loop L_plex_begin_2
   [(g t9 0), (g t9 1), (g t9 2), t66, t67, (I 0)])
def B_plex_begin : List PV → Prog
 | [a0, a1] => .bnd (boxM none 5 a0) fun t1 =>
   .bnd (addM 0 t1) fun t2 =>
   .bnd (loadM none t2) fun t3 =>
   .bnd (lenM t3) fun t4 =>
   .bnd (opt (minI [a1, (I 10000)])) fun t5 =>
   .bnd (buildM [(.int .i64 0), .nilS, .nilS, .nilS, .nilS, .nilS, (.int .i64 0)] [(0, 1, t4), (6, 1, t5)]) fun t6 =>
   .bnd (boxM none 7 t6) fun t7 =>
   .loop L_plex_begin_3
   [t1, t4, t7, t4, (I 0)]
 | _ => .leaf failM
def F_plex_begin : List PV → M := fun a => (B_plex_begin a).run
/- touchstone/signed.Cmp (P) -/
def B_signed_Cmp : List PV → Prog
 | [a0, a1] => .bnd (boxM none 2 a0) fun t1 =>
   .bnd (boxM none 2 a1) fun t2 =>
   .bnd (loadM (some 2) t1) fun t3 =>
   .bnd (loadM (some 2) t2) fun t4 =>
   .bnd (callP false none true F_signed_both [t3, t4]) fun t5 =>
   .bnd (unM .not t5) fun t6 =>
   .ifP t6
   (.leaf (ret (.tup [(I 0), (I 2)])))
   (.bnd (addM 1 t1) fun t7 =>
   .bnd (loadM none t7) fun t8 =>
   .bnd (addM 1 t2) fun t9 =>
   .bnd (loadM none t9) fun t10 =>
   .bnd (callP false none true F_nat_Cmp [t8, t10]) fun t11 =>
   .bnd (extractM t11 0) fun t12 =>
   .bnd (extractM t11 1) fun _ =>
   .bnd (addM 0 t1) fun t14 =>
   .bnd (loadM none t14) fun t15 =>
   .bnd (guardM t15 true (addM 0 t2)) fun t16 =>
   .bnd (guardM t15 true (loadM none t16)) fun t17 =>
   .bnd (pickM t15 t17 (.bool false)) fun t18 =>
   .ifP t18
   (.bnd (unM .neg t12) fun t19 =>
   .leaf (ret (.tup [t19, (I 0)])))
   (.bnd (addM 0 t1) fun t20 =>
   .bnd (loadM none t20) fun t21 =>
   .ifP t21
   (.leaf (ret (.tup [(I (-1)), (I 0)])))
   (.bnd (addM 0 t2) fun t22 =>
   .bnd (loadM none t22) fun t23 =>
   .ifP t23
   (.leaf (ret (.tup [(I 1), (I 0)])))
   (.leaf (ret (.tup [t12, (I 0)]))))))
 | _ => .leaf failM
def F_signed_Cmp : List PV → PRes := runP false fun a => (B_signed_Cmp a).run
/- touchstone/ratio.Cmp (P) -/
def B_ratio_Cmp : List PV → Prog
 | [a0, a1] => .bnd (boxM none 4 a0) fun t1 =>
   .bnd (boxM none 4 a1) fun t2 =>
   .bnd (loadM (some 4) t1) fun t3 =>
   .bnd (loadM (some 4) t2) fun t4 =>
   .bnd (callP false none true F_ratio_both [t3, t4]) fun t5 =>
   .bnd (unM .not t5) fun t6 =>
   .ifP t6
   (.leaf (ret (.tup [(I 0), (I 2)])))
   (.bnd (addM 0 t1) fun t7 =>
   .bnd (loadM (some 2) t7) fun t8 =>
   .bnd (addM 2 t2) fun t9 =>
   .bnd (loadM (some 2) t9) fun t10 =>
   .bnd (callP false none false F_ratio_times [t8, t10]) fun t11 =>
   .bnd (fieldM (some 2) 0 t11) fun t12 =>
   .bnd (addM 0 t2) fun t13 =>
   .bnd (loadM (some 2) t13) fun t14 =>
   .bnd (addM 2 t1) fun t15 =>
   .bnd (loadM (some 2) t15) fun t16 =>
   .bnd (callP false none true F_ratio_times [t14, t16]) fun t17 =>
   .bnd (fieldM (some 2) 0 t17) fun t18 =>
   .bnd (callP false none true F_signed_Cmp [t12, t18]) fun t19 =>
   .bnd (extractM t19 0) fun t20 =>
   .bnd (extractM t19 1) fun t21 =>
   .leaf (ret (.tup [t20, t21])))
 | _ => .leaf failM
def F_ratio_Cmp : List PV → PRes := runP false fun a => (B_ratio_Cmp a).run
/- touchstone/plex.cmp (P) -/
def B_plex_cmp : List PV → Prog
 | [a0, a1] => .bnd (boxM none 4 a0) fun t1 =>
   .bnd (boxM none 4 a1) fun t2 =>
   .bnd (loadM (some 4) t1) fun t3 =>
   .bnd (loadM (some 4) t2) fun t4 =>
   .bnd (callP false none true F_ratio_Cmp [t3, t4]) fun t5 =>
   .bnd (extractM t5 0) fun t6 =>
   .bnd (extractM t5 1) fun t7 =>
   .bnd (binM .neq ty_api_Errno t7 (I 0)) fun t8 =>
   .ifP t8
   (.bnd (buildM [] []) fun t9 =>
   .bnd (ret (.iface tid_plex_tooBig t9)) fun t10 =>
   .bnd (panicM true t10) fun _ =>
   .leaf (ret t6))
   (.leaf (ret t6))
 | _ => .leaf failM
def F_plex_cmp : List PV → PRes := runP false fun a => (B_plex_cmp a).run
/- (*touchstone/plex.variable).below (S) -/
def B_plex_variable_below : List PV → Prog
 | [a0] => .bnd (nilCheckM a0) fun t1 =>
   .bnd (addM 0 t1) fun t2 =>
   .bnd (addM 0 t2) fun t3 =>
   .bnd (loadM none t3) fun t4 =>
   .bnd (guardM t4 true (ret a0)) fun t5 =>
   .bnd (guardM t4 true (nilCheckM t5)) fun t6 =>
   .bnd (guardM t4 true (addM 10 t6)) fun t7 =>
   .bnd (guardM t4 true (loadM (some 4) t7)) fun t8 =>
   .bnd (guardM t4 true (ret a0)) fun t9 =>
   .bnd (guardM t4 true (nilCheckM t9)) fun t10 =>
   .bnd (guardM t4 true (addM 0 t10)) fun t11 =>
   .bnd (guardM t4 true (addM 1 t11)) fun t12 =>
   .bnd (guardM t4 true (loadM (some 4) t12)) fun t13 =>
   .bnd (guardM t4 true (callP false none true F_plex_cmp [t8, t13])) fun t14 =>
   .bnd (guardM t4 true (binM .lss ty_int t14 (I 0))) fun t15 =>
   .bnd (pickM t4 t15 (.bool false)) fun t16 =>
   .leaf (ret t16)
 | _ => .leaf failM
def F_plex_variable_below : List PV → M := fun a => (B_plex_variable_below a).run
/- (*touchstone/plex.variable).above (S) -/
def B_plex_variable_above : List PV → Prog
 | [a0] => .bnd (nilCheckM a0) fun t1 =>
   .bnd (addM 5 t1) fun t2 =>
   .bnd (addM 0 t2) fun t3 =>
   .bnd (loadM none t3) fun t4 =>
   .bnd (guardM t4 true (ret a0)) fun t5 =>
   .bnd (guardM t4 true (nilCheckM t5)) fun t6 =>
   .bnd (guardM t4 true (addM 10 t6)) fun t7 =>
   .bnd (guardM t4 true (loadM (some 4) t7)) fun t8 =>
   .bnd (guardM t4 true (ret a0)) fun t9 =>
   .bnd (guardM t4 true (nilCheckM t9)) fun t10 =>
   .bnd (guardM t4 true (addM 5 t10)) fun t11 =>
   .bnd (guardM t4 true (addM 1 t11)) fun t12 =>
   .bnd (guardM t4 true (loadM (some 4) t12)) fun t13 =>
   .bnd (guardM t4 true (callP false none true F_plex_cmp [t8, t13])) fun t14 =>
   .bnd (guardM t4 true (binM .gtr ty_int t14 (I 0))) fun t15 =>
   .bnd (pickM t4 t15 (.bool false)) fun t16 =>
   .leaf (ret t16)
 | _ => .leaf failM
def F_plex_variable_above : List PV → M := fun a => (B_plex_variable_above a).run
/- (*touchstone/plex.tableau).beyond (S) -/
def L_plex_tableau_beyond_1 (me5 : List PV → M) (t6 : List PV) : Prog :=
   .bnd (binM .lss ty_int (g t6 4) (g t6 3)) fun t7 =>
   .ifP t7
   (.bnd (idxM 1 (g t6 2) (g t6 4)) fun t8 =>
   .bnd (loadM none t8) fun t9 =>
   .bnd (nilCheckM (g t6 0)) fun t10 =>
   .bnd (addM 1 t10) fun t11 =>
   .bnd (loadM none t11) fun t12 =>
   .bnd (idxM 1 t12 t9) fun t13 =>
   .bnd (loadM none t13) fun t14 =>
   .bnd (calm true (F_plex_variable_below [t14])) fun t15 =>
   .bnd (guardM t15 false (ret t14)) fun t16 =>
   .bnd (guardM t15 false (calm true (F_plex_variable_above [t16]))) fun t17 =>
   .bnd (pickM t15 (.bool true) t17) fun t18 =>
   .bnd (guardM t18 true (ret (g t6 1))) fun t19 =>
   .bnd (guardM t18 true (binM .lss ty_int t19 (I 0))) fun t20 =>
   .bnd (guardM t18 true (ret t20)) fun t21 =>
   .bnd (guardM t21 false (ret t9)) fun t22 =>
   .bnd (guardM t21 false (ret (g t6 0))) fun t23 =>
   .bnd (guardM t21 false (nilCheckM t23)) fun t24 =>
   .bnd (guardM t21 false (addM 2 t24)) fun t25 =>
   .bnd (guardM t21 false (loadM none t25)) fun t26 =>
   .bnd (guardM t21 false (ret (g t6 1))) fun t27 =>
   .bnd (guardM t21 false (idxM 1 t26 t27)) fun t28 =>
   .bnd (guardM t21 false (loadM none t28)) fun t29 =>
   .bnd (guardM t21 false (binM .lss ty_int t22 t29)) fun t30 =>
   .bnd (guardM t18 true (pickM t21 (.bool true) t30)) fun t31 =>
   .bnd (pickM t18 t31 (.bool false)) fun t32 =>
   .ifP t32
   (.bnd (binM .add ty_int (g t6 4) (I 1)) fun t33 =>
   .leaf (me5 [(g t6 0), (g t6 4), (g t6 2), (g t6 3), t33]))
   (.bnd (binM .add ty_int (g t6 4) (I 1)) fun t34 =>
   .leaf (me5 [(g t6 0), (g t6 1), (g t6 2), (g t6 3), t34])))
   (.leaf (ret (g t6 1)))
def B_plex_tableau_beyond : List PV → Prog
 | [a0] => .bnd (nilCheckM a0) fun t1 =>
   .bnd (addM 2 t1) fun t2 =>
   .bnd (loadM none t2) fun t3 =>
   .bnd (lenM t3) fun t4 =>
   .loop L_plex_tableau_beyond_1
   [a0, (I (-1)), t3, t4, (I 0)]
 | _ => .leaf failM
def F_plex_tableau_beyond : List PV → M := fun a => (B_plex_tableau_beyond a).run
/- (*touchstone/plex.tableau).step (S) -/
def J_plex_tableau_step_1 (t5 : List PV) : Prog :=
   .bnd (nilCheckM (g t5 0)) fun t7 =>
   .bnd (addM 6 t7) fun t8 =>
   .bnd (loadM none t8) fun t9 =>
   .bnd (binM .sub ty_int t9 (I 1)) fun t10 =>
   .bnd (nilCheckM (g t5 0)) fun t11 =>
   .bnd (addM 6 t11) fun t12 =>
   .bnd (storeM 1 t12 t10) fun _ =>
   .leaf (ret (.tup []))
def B_plex_tableau_step : List PV → Prog
 | [a0] => .bnd (nilCheckM a0) fun t1 =>
   .bnd (addM 6 t1) fun t2 =>
   .bnd (loadM none t2) fun t3 =>
   .bnd (binM .eql ty_int t3 (I 0)) fun t4 =>
   .join J_plex_tableau_step_1 fun jn6 =>
   .ifP t4 (.bnd (buildM [] []) fun t14 =>
   .bnd (ret (.iface tid_plex_spent t14)) fun t15 =>
   .bnd (panicM true t15) fun _ =>
   .leaf (jn6 [a0])) (.leaf (jn6 [a0]))
 | _ => .leaf failM
def F_plex_tableau_step : List PV → M := fun a => (B_plex_tableau_step a).run
/- (*touchstone/plex.variable).mayFall (S) -/
def B_plex_variable_mayFall : List PV → Prog
 | [a0] => .bnd (nilCheckM a0) fun t1 =>
   .bnd (addM 0 t1) fun t2 =>
   .bnd (addM 0 t2) fun t3 =>
   .bnd (loadM none t3) fun t4 =>
   .bnd (unM .not t4) fun t5 =>
   .bnd (guardM t5 false (ret a0)) fun t6 =>
   .bnd (guardM t5 false (nilCheckM t6)) fun t7 =>
   .bnd (guardM t5 false (addM 10 t7)) fun t8 =>
   .bnd (guardM t5 false (loadM (some 4) t8)) fun t9 =>
   .bnd (guardM t5 false (ret a0)) fun t10 =>
   .bnd (guardM t5 false (nilCheckM t10)) fun t11 =>
   .bnd (guardM t5 false (addM 0 t11)) fun t12 =>
   .bnd (guardM t5 false (addM 1 t12)) fun t13 =>
   .bnd (guardM t5 false (loadM (some 4) t13)) fun t14 =>
   .bnd (guardM t5 false (callP false none true F_plex_cmp [t9, t14])) fun t15 =>
   .bnd (guardM t5 false (binM .gtr ty_int t15 (I 0))) fun t16 =>
   .bnd (pickM t5 (.bool true) t16) fun t17 =>
   .leaf (ret t17)
 | _ => .leaf failM
def F_plex_variable_mayFall : List PV → M := fun a => (B_plex_variable_mayFall a).run
/- (*touchstone/plex.variable).mayRise (S) -/
def B_plex_variable_mayRise : List PV → Prog
 | [a0] => .bnd (nilCheckM a0) fun t1 =>
   .bnd (addM 5 t1) fun t2 =>
   .bnd (addM 0 t2) fun t3 =>
   .bnd (loadM none t3) fun t4 =>
   .bnd (unM .not t4) fun t5 =>
   .bnd (guardM t5 false (ret a0)) fun t6 =>
   .bnd (guardM t5 false (nilCheckM t6)) fun t7 =>
   .bnd (guardM t5 false (addM 10 t7)) fun t8 =>
   .bnd (guardM t5 false (loadM (some 4) t8)) fun t9 =>
   .bnd (guardM t5 false (ret a0)) fun t10 =>
   .bnd (guardM t5 false (nilCheckM t10)) fun t11 =>
   .bnd (guardM t5 false (addM 5 t11)) fun t12 =>
   .bnd (guardM t5 false (addM 1 t12)) fun t13 =>
   .bnd (guardM t5 false (loadM (some 4) t13)) fun t14 =>
   .bnd (guardM t5 false (callP false none true F_plex_cmp [t9, t14])) fun t15 =>
   .bnd (guardM t5 false (binM .lss ty_int t15 (I 0))) fun t16 =>
   .bnd (pickM t5 (.bool true) t16) fun t17 =>
   .leaf (ret t17)
 | _ => .leaf failM
def F_plex_variable_mayRise : List PV → M := fun a => (B_plex_variable_mayRise a).run
/- (*touchstone/plex.tableau).helps (S) -/
def J_plex_tableau_helps_1 (me5 : List PV → M) (t34 : List PV) : Prog :=
   .bnd (guardM (g t34 6) true (ret (g t34 3))) fun t36 =>
   .bnd (guardM (g t34 6) true (binM .lss ty_int t36 (I 0))) fun t37 =>
   .bnd (guardM (g t34 6) true (ret t37)) fun t38 =>
   .bnd (guardM t38 false (ret (g t34 5))) fun t39 =>
   .bnd (guardM t38 false (ret (g t34 0))) fun t40 =>
   .bnd (guardM t38 false (nilCheckM t40)) fun t41 =>
   .bnd (guardM t38 false (addM 3 t41)) fun t42 =>
   .bnd (guardM t38 false (loadM none t42)) fun t43 =>
   .bnd (guardM t38 false (ret (g t34 3))) fun t44 =>
   .bnd (guardM t38 false (idxM 1 t43 t44)) fun t45 =>
   .bnd (guardM t38 false (loadM none t45)) fun t46 =>
   .bnd (guardM t38 false (binM .lss ty_int t39 t46)) fun t47 =>
   .bnd (guardM (g t34 6) true (pickM t38 (.bool true) t47)) fun t48 =>
   .bnd (pickM (g t34 6) t48 (.bool false)) fun t49 =>
   .ifP t49
   (.bnd (binM .add ty_int (g t34 9) (I 1)) fun t50 =>
   .leaf (me5 [(g t34 0), (g t34 1), (g t34 2), (g t34 4), (g t34 7), (g t34 8), t50]))
   (.bnd (binM .add ty_int (g t34 9) (I 1)) fun t51 =>
   .leaf (me5 [(g t34 0), (g t34 1), (g t34 2), (g t34 3), (g t34 7), (g t34 8), t51]))
def L_plex_tableau_helps_1 (me5 : List PV → M) (t6 : List PV) : Prog :=
   .bnd (binM .lss ty_int (g t6 6) (g t6 5)) fun t7 =>
   .ifP t7
   (.bnd (idxM 1 (g t6 4) (g t6 6)) fun t8 =>
   .bnd (loadM none t8) fun t9 =>
   .bnd (nilCheckM (g t6 0)) fun t10 =>
   .bnd (addM 4 t10) fun t11 =>
   .bnd (loadM none t11) fun t12 =>
   .bnd (idxM 1 t12 (g t6 1)) fun t13 =>
   .bnd (loadM none t13) fun t14 =>
   .bnd (idxM 4 t14 (g t6 6)) fun t15 =>
   .bnd (loadM (some 4) t15) fun t16 =>
   .bnd (callP false none true F_plex_sign [t16]) fun t17 =>
   .bnd (nilCheckM (g t6 0)) fun t18 =>
   .bnd (addM 1 t18) fun t19 =>
   .bnd (loadM none t19) fun t20 =>
   .bnd (idxM 1 t20 t9) fun t21 =>
   .bnd (loadM none t21) fun t22 =>
   .bnd (binM .gtr ty_int t17 (I 0)) fun t23 =>
   .bnd (guardM t23 true (ret t22)) fun t24 =>
   .bnd (guardM t23 true (calm true (F_plex_variable_mayFall [t24]))) fun t25 =>
   .bnd (pickM t23 t25 (.bool false)) fun t26 =>
   .bnd (guardM t26 false (ret t17)) fun t27 =>
   .bnd (guardM t26 false (binM .lss ty_int t27 (I 0))) fun t28 =>
   .bnd (guardM t26 false (ret t28)) fun t29 =>
   .bnd (guardM t29 true (ret t22)) fun t30 =>
   .bnd (guardM t29 true (calm true (F_plex_variable_mayRise [t30]))) fun t31 =>
   .bnd (guardM t26 false (pickM t29 t31 (.bool false))) fun t32 =>
   .bnd (pickM t26 (.bool true) t32) fun t33 =>
   .join (J_plex_tableau_helps_1 me5) fun jn35 =>
   .ifP (g t6 2) (.bnd (binM .gtr ty_int t17 (I 0)) fun t52 =>
   .bnd (guardM t52 true (ret t22)) fun t53 =>
   .bnd (guardM t52 true (calm true (F_plex_variable_mayRise [t53]))) fun t54 =>
   .bnd (pickM t52 t54 (.bool false)) fun t55 =>
   .bnd (guardM t55 false (ret t17)) fun t56 =>
   .bnd (guardM t55 false (binM .lss ty_int t56 (I 0))) fun t57 =>
   .bnd (guardM t55 false (ret t57)) fun t58 =>
   .bnd (guardM t58 true (ret t22)) fun t59 =>
   .bnd (guardM t58 true (calm true (F_plex_variable_mayFall [t59]))) fun t60 =>
   .bnd (guardM t55 false (pickM t58 t60 (.bool false))) fun t61 =>
   .bnd (pickM t55 (.bool true) t61) fun t62 =>
   .leaf (jn35 [(g t6 0), (g t6 1), (g t6 2), (g t6 3), (g t6 6), t9, t62, (g t6 4), (g t6 5), (g t6 6)])) (.leaf (jn35 [(g t6 0), (g t6 1), (g t6 2), (g t6 3), (g t6 6), t9, t33, (g t6 4), (g t6 5), (g t6 6)])))
   (.leaf (ret (g t6 3)))
def B_plex_tableau_helps : List PV → Prog
 | [a0, a1, a2] => .bnd (nilCheckM a0) fun t1 =>
   .bnd (addM 3 t1) fun t2 =>
   .bnd (loadM none t2) fun t3 =>
   .bnd (lenM t3) fun t4 =>
   .loop L_plex_tableau_helps_1
   [a0, a1, a2, (I (-1)), t3, t4, (I 0)]
 | _ => .leaf failM
def F_plex_tableau_helps : List PV → M := fun a => (B_plex_tableau_helps a).run
/- touchstone/ratio.Div (P) -/
def B_ratio_Div : List PV → Prog
 | [a0, a1] => .bnd (boxM none 4 a0) fun t1 =>
   .bnd (boxM none 4 a1) fun t2 =>
   .bnd (boxM none 4 (.agg [(.bool false), .nilS, (.bool false), .nilS])) fun t3 =>
   .bnd (loadM (some 4) t1) fun t4 =>
   .bnd (loadM (some 4) t2) fun t5 =>
   .bnd (callP false none true F_ratio_both [t4, t5]) fun t6 =>
   .bnd (unM .not t6) fun t7 =>
   .bnd (guardM t7 false (addM 0 t2)) fun t8 =>
   .bnd (guardM t7 false (addM 1 t8)) fun t9 =>
   .bnd (guardM t7 false (loadM none t9)) fun t10 =>
   .bnd (guardM t7 false (lenM t10)) fun t11 =>
   .bnd (guardM t7 false (binM .eql ty_int t11 (I 0))) fun t12 =>
   .bnd (pickM t7 (.bool true) t12) fun t13 =>
   .ifP t13
   (.bnd (buildM [(.bool false), .nilS, (.bool false), .nilS] []) fun t14 =>
   .bnd (storeM 4 t3 t14) fun _ =>
   .bnd (loadM (some 4) t3) fun t16 =>
   .leaf (ret (.tup [t16, (I 2)])))
   (.bnd (addM 0 t1) fun t17 =>
   .bnd (loadM (some 2) t17) fun t18 =>
   .bnd (addM 2 t2) fun t19 =>
   .bnd (loadM (some 2) t19) fun t20 =>
   .bnd (callP false none false F_ratio_times [t18, t20]) fun t21 =>
   .bnd (addM 2 t1) fun t22 =>
   .bnd (loadM (some 2) t22) fun t23 =>
   .bnd (addM 0 t2) fun t24 =>
   .bnd (loadM (some 2) t24) fun t25 =>
   .bnd (callP false none true F_ratio_times [t23, t25]) fun t26 =>
   .bnd (callP false none true F_ratio_term_over [t21, t26]) fun t27 =>
   .bnd (extractM t27 0) fun t28 =>
   .bnd (extractM t27 1) fun t29 =>
   .bnd (storeM 4 t3 t28) fun _ =>
   .bnd (loadM (some 4) t3) fun t31 =>
   .leaf (ret (.tup [t31, t29])))
 | _ => .leaf failM
def F_ratio_Div : List PV → PRes := runP false fun a => (B_ratio_Div a).run
/- touchstone/plex.div (P) -/
def B_plex_div : List PV → Prog
 | [a0, a1] => .bnd (boxM none 4 a0) fun t1 =>
   .bnd (boxM none 4 a1) fun t2 =>
   .bnd (boxM none 4 (.agg [(.bool false), .nilS, (.bool false), .nilS])) fun t3 =>
   .bnd (loadM (some 4) t1) fun t4 =>
   .bnd (loadM (some 4) t2) fun t5 =>
   .bnd (callP false none true F_ratio_Div [t4, t5]) fun t6 =>
   .bnd (extractM t6 0) fun t7 =>
   .bnd (extractM t6 1) fun t8 =>
   .bnd (callP false none true F_plex_must [t7, t8]) fun t9 =>
   .bnd (storeM 4 t3 t9) fun _ =>
   .bnd (loadM (some 4) t3) fun t11 =>
   .leaf (ret t11)
 | _ => .leaf failM
def F_plex_div : List PV → PRes := runP false fun a => (B_plex_div a).run
/- (*touchstone/plex.tableau).move (S) -/
def L_plex_tableau_move_1 (me24 : List PV → M) (t25 : List PV) : Prog :=
   .bnd (binM .lss ty_int (g t25 4) (g t25 3)) fun t26 =>
   .ifP t26
   (.bnd (nilCheckM (g t25 0)) fun t27 =>
   .bnd (addM 1 t27) fun t28 =>
   .bnd (loadM none t28) fun t29 =>
   .bnd (nilCheckM (g t25 0)) fun t30 =>
   .bnd (addM 2 t30) fun t31 =>
   .bnd (loadM none t31) fun t32 =>
   .bnd (idxM 1 t32 (g t25 4)) fun t33 =>
   .bnd (loadM none t33) fun t34 =>
   .bnd (idxM 1 t29 t34) fun t35 =>
   .bnd (loadM none t35) fun t36 =>
   .bnd (nilCheckM t36) fun t37 =>
   .bnd (addM 10 t37) fun t38 =>
   .bnd (loadM (some 4) t38) fun t39 =>
   .bnd (nilCheckM (g t25 0)) fun t40 =>
   .bnd (addM 4 t40) fun t41 =>
   .bnd (loadM none t41) fun t42 =>
   .bnd (idxM 1 t42 (g t25 4)) fun t43 =>
   .bnd (loadM none t43) fun t44 =>
   .bnd (idxM 4 t44 (g t25 1)) fun t45 =>
   .bnd (loadM (some 4) t45) fun t46 =>
   .bnd (loadM (some 4) (g t25 2)) fun t47 =>
   .bnd (callP false none true F_plex_mul [t46, t47]) fun t48 =>
   .bnd (callP false none true F_plex_add [t39, t48]) fun t49 =>
   .bnd (nilCheckM t36) fun t50 =>
   .bnd (addM 10 t50) fun t51 =>
   .bnd (storeM 4 t51 t49) fun _ =>
   .bnd (binM .add ty_int (g t25 4) (I 1)) fun t53 =>
   .leaf (me24 [(g t25 0), (g t25 1), (g t25 2), (g t25 3), t53]))
   (.leaf (ret (.tup [])))
def B_plex_tableau_move : List PV → Prog
 | [a0, a1, a2] => .bnd (boxM none 4 a2) fun t1 =>
   .bnd (nilCheckM a0) fun t2 =>
   .bnd (addM 1 t2) fun t3 =>
   .bnd (loadM none t3) fun t4 =>
   .bnd (nilCheckM a0) fun t5 =>
   .bnd (addM 3 t5) fun t6 =>
   .bnd (loadM none t6) fun t7 =>
   .bnd (idxM 1 t7 a1) fun t8 =>
   .bnd (loadM none t8) fun t9 =>
   .bnd (idxM 1 t4 t9) fun t10 =>
   .bnd (loadM none t10) fun t11 =>
   .bnd (nilCheckM t11) fun t12 =>
   .bnd (addM 10 t12) fun t13 =>
   .bnd (loadM (some 4) t13) fun t14 =>
   .bnd (loadM (some 4) t1) fun t15 =>
   .bnd (callP false none true F_plex_add [t14, t15]) fun t16 =>
   .bnd (nilCheckM t11) fun t17 =>
   .bnd (addM 10 t17) fun t18 =>
   .bnd (storeM 4 t18 t16) fun _ =>
   .bnd (nilCheckM a0) fun t20 =>
   .bnd (addM 4 t20) fun t21 =>
   .bnd (loadM none t21) fun t22 =>
   .bnd (lenM t22) fun t23 =>
   .loop L_plex_tableau_move_1
   [a0, a1, t1, t23, (I 0)]
 | _ => .leaf failM
def F_plex_tableau_move : List PV → M := fun a => (B_plex_tableau_move a).run
/- (*touchstone/plex.tableau).replace (S) -/
def L_plex_tableau_replace_1 (me6 : List PV → M) (t7 : List PV) : Prog :=
   .bnd (binM .lss ty_int (g t7 5) (g t7 4)) fun t8 =>
   .ifP t8
   (.bnd (binM .eql ty_int (g t7 5) (g t7 2)) fun t9 =>
   .ifP t9
   (.bnd (loadM (some 4) (g t7 3)) fun t10 =>
   .bnd (idxM 4 (g t7 1) (g t7 5)) fun t11 =>
   .bnd (loadM (some 4) t11) fun t12 =>
   .bnd (callP false none true F_plex_mul [t10, t12]) fun t13 =>
   .bnd (idxM 4 (g t7 0) (g t7 5)) fun t14 =>
   .bnd (storeM 4 t14 t13) fun _ =>
   .bnd (binM .add ty_int (g t7 5) (I 1)) fun t16 =>
   .leaf (me6 [(g t7 0), (g t7 1), (g t7 2), (g t7 3), (g t7 4), t16]))
   (.bnd (idxM 4 (g t7 0) (g t7 5)) fun t17 =>
   .bnd (loadM (some 4) t17) fun t18 =>
   .bnd (loadM (some 4) (g t7 3)) fun t19 =>
   .bnd (idxM 4 (g t7 1) (g t7 5)) fun t20 =>
   .bnd (loadM (some 4) t20) fun t21 =>
   .bnd (callP false none true F_plex_mul [t19, t21]) fun t22 =>
   .bnd (callP false none true F_plex_add [t18, t22]) fun t23 =>
   .bnd (idxM 4 (g t7 0) (g t7 5)) fun t24 =>
   .bnd (storeM 4 t24 t23) fun _ =>
   .bnd (binM .add ty_int (g t7 5) (I 1)) fun t26 =>
   .leaf (me6 [(g t7 0), (g t7 1), (g t7 2), (g t7 3), (g t7 4), t26])))
   (.leaf (ret (.tup [])))
def B_plex_tableau_replace : List PV → Prog
 | [a0, a1, a2, a3] => .bnd (idxM 4 a1 a3) fun t1 =>
   .bnd (loadM (some 4) t1) fun t2 =>
   .bnd (boxM none 4 (.agg [(.bool false), .nilS, (.bool false), .nilS])) fun t3 =>
   .bnd (storeM 4 t3 t2) fun _ =>
   .bnd (lenM a1) fun t5 =>
   .loop L_plex_tableau_replace_1
   [a1, a2, a3, t3, t5, (I 0)]
 | _ => .leaf failM
def F_plex_tableau_replace : List PV → M := fun a => (B_plex_tableau_replace a).run
/- (*touchstone/plex.tableau).pivot (S) -/
def L_plex_tableau_pivot_1 (me38 : List PV → M) (t39 : List PV) : Prog :=
   .bnd (binM .lss ty_int (g t39 5) (g t39 4)) fun t40 =>
   .ifP t40
   (.bnd (binM .neq ty_int (g t39 5) (g t39 1)) fun t41 =>
   .ifP t41
   (.bnd (nilCheckM (g t39 0)) fun t42 =>
   .bnd (addM 4 t42) fun t43 =>
   .bnd (loadM none t43) fun t44 =>
   .bnd (idxM 1 t44 (g t39 5)) fun t45 =>
   .bnd (loadM none t45) fun t46 =>
   .bnd (calm true (F_plex_tableau_replace [(g t39 0), t46, (g t39 3), (g t39 2)])) fun _ =>
   .bnd (binM .add ty_int (g t39 5) (I 1)) fun t48 =>
   .leaf (me38 [(g t39 0), (g t39 1), (g t39 2), (g t39 3), (g t39 4), t48]))
   (.bnd (binM .add ty_int (g t39 5) (I 1)) fun t49 =>
   .leaf (me38 [(g t39 0), (g t39 1), (g t39 2), (g t39 3), (g t39 4), t49])))
   (.bnd (nilCheckM (g t39 0)) fun t50 =>
   .bnd (addM 5 t50) fun t51 =>
   .bnd (loadM none t51) fun t52 =>
   .bnd (calm true (F_plex_tableau_replace [(g t39 0), t52, (g t39 3), (g t39 2)])) fun _ =>
   .bnd (nilCheckM (g t39 0)) fun t54 =>
   .bnd (addM 2 t54) fun t55 =>
   .bnd (loadM none t55) fun t56 =>
   .bnd (nilCheckM (g t39 0)) fun t57 =>
   .bnd (addM 3 t57) fun t58 =>
   .bnd (loadM none t58) fun t59 =>
   .bnd (nilCheckM (g t39 0)) fun t60 =>
   .bnd (addM 3 t60) fun t61 =>
   .bnd (loadM none t61) fun t62 =>
   .bnd (idxM 1 t62 (g t39 2)) fun t63 =>
   .bnd (loadM none t63) fun t64 =>
   .bnd (nilCheckM (g t39 0)) fun t65 =>
   .bnd (addM 2 t65) fun t66 =>
   .bnd (loadM none t66) fun t67 =>
   .bnd (idxM 1 t67 (g t39 1)) fun t68 =>
   .bnd (loadM none t68) fun t69 =>
   .bnd (idxM 1 t56 (g t39 1)) fun t70 =>
   .bnd (storeM 1 t70 t64) fun _ =>
   .bnd (idxM 1 t59 (g t39 2)) fun t72 =>
   .bnd (storeM 1 t72 t69) fun _ =>
   .leaf (ret (.tup [])))
def L_plex_tableau_pivot_2 (me16 : List PV → M) (t17 : List PV) : Prog :=
   .bnd (binM .lss ty_int (g t17 6) (g t17 5)) fun t18 =>
   .ifP t18
   (.bnd (binM .eql ty_int (g t17 6) (g t17 2)) fun t19 =>
   .ifP t19
   (.bnd (callP false none false F_ratio_Of [(I 1)]) fun t20 =>
   .bnd (loadM (some 4) (g t17 3)) fun t21 =>
   .bnd (callP false none true F_plex_div [t20, t21]) fun t22 =>
   .bnd (idxM 4 (g t17 4) (g t17 6)) fun t23 =>
   .bnd (storeM 4 t23 t22) fun _ =>
   .bnd (binM .add ty_int (g t17 6) (I 1)) fun t25 =>
   .leaf (me16 [(g t17 0), (g t17 1), (g t17 2), (g t17 3), (g t17 4), (g t17 5), t25]))
   (.bnd (idxM 4 (g t17 4) (g t17 6)) fun t26 =>
   .bnd (loadM (some 4) t26) fun t27 =>
   .bnd (loadM (some 4) (g t17 3)) fun t28 =>
   .bnd (callP false none true F_plex_div [t27, t28]) fun t29 =>
   .bnd (callP false none true F_plex_neg [t29]) fun t30 =>
   .bnd (idxM 4 (g t17 4) (g t17 6)) fun t31 =>
   .bnd (storeM 4 t31 t30) fun _ =>
   .bnd (binM .add ty_int (g t17 6) (I 1)) fun t33 =>
   .leaf (me16 [(g t17 0), (g t17 1), (g t17 2), (g t17 3), (g t17 4), (g t17 5), t33])))
   (.bnd (nilCheckM (g t17 0)) fun t34 =>
   .bnd (addM 4 t34) fun t35 =>
   .bnd (loadM none t35) fun t36 =>
   .bnd (lenM t36) fun t37 =>
   .loop L_plex_tableau_pivot_1
   [(g t17 0), (g t17 1), (g t17 2), (g t17 4), t37, (I 0)])
def B_plex_tableau_pivot : List PV → Prog
 | [a0, a1, a2] => .bnd (nilCheckM a0) fun t1 =>
   .bnd (addM 4 t1) fun t2 =>
   .bnd (loadM none t2) fun t3 =>
   .bnd (idxM 1 t3 a1) fun t4 =>
   .bnd (loadM none t4) fun t5 =>
   .bnd (idxM 4 t5 a2) fun t6 =>
   .bnd (loadM (some 4) t6) fun t7 =>
   .bnd (boxM none 4 (.agg [(.bool false), .nilS, (.bool false), .nilS])) fun t8 =>
   .bnd (storeM 4 t8 t7) fun _ =>
   .bnd (nilCheckM a0) fun t10 =>
   .bnd (addM 4 t10) fun t11 =>
   .bnd (loadM none t11) fun t12 =>
   .bnd (idxM 1 t12 a1) fun t13 =>
   .bnd (loadM none t13) fun t14 =>
   .bnd (lenM t14) fun t15 =>
   .loop L_plex_tableau_pivot_2
   [a0, a1, a2, t8, t14, t15, (I 0)]
 | _ => .leaf failM
def F_plex_tableau_pivot : List PV → M := fun a => (B_plex_tableau_pivot a).run
/- (*touchstone/plex.tableau).feasible (S) -/
def J_plex_tableau_feasible_1 (me1 : List PV → M) (t25 : List PV) : Prog :=
   .bnd (loadM (some 4) (g t25 4)) fun t27 =>
   .bnd (nilCheckM (g t25 2)) fun t28 =>
   .bnd (addM 10 t28) fun t29 =>
   .bnd (loadM (some 4) t29) fun t30 =>
   .bnd (callP false none false F_plex_sub [t27, t30]) fun t31 =>
   .bnd (nilCheckM (g t25 0)) fun t32 =>
   .bnd (addM 4 t32) fun t33 =>
   .bnd (loadM none t33) fun t34 =>
   .bnd (idxM 1 t34 (g t25 1)) fun t35 =>
   .bnd (loadM none t35) fun t36 =>
   .bnd (idxM 4 t36 (g t25 3)) fun t37 =>
   .bnd (loadM (some 4) t37) fun t38 =>
   .bnd (callP false none true F_plex_div [t31, t38]) fun t39 =>
   .bnd (calm true (F_plex_tableau_move [(g t25 0), (g t25 3), t39])) fun _ =>
   .bnd (calm true (F_plex_tableau_pivot [(g t25 0), (g t25 1), (g t25 3)])) fun _ =>
   .leaf (me1 [(g t25 0)])
def L_plex_tableau_feasible_1 (me1 : List PV → M) (t2 : List PV) : Prog :=
   .bnd (calm true (F_plex_tableau_beyond [(g t2 0)])) fun t3 =>
   .bnd (binM .lss ty_int t3 (I 0)) fun t4 =>
   .ifP t4
   (.leaf (ret (I (-1))))
   (.bnd (calm true (F_plex_tableau_step [(g t2 0)])) fun _ =>
   .bnd (nilCheckM (g t2 0)) fun t6 =>
   .bnd (addM 1 t6) fun t7 =>
   .bnd (loadM none t7) fun t8 =>
   .bnd (nilCheckM (g t2 0)) fun t9 =>
   .bnd (addM 2 t9) fun t10 =>
   .bnd (loadM none t10) fun t11 =>
   .bnd (idxM 1 t11 t3) fun t12 =>
   .bnd (loadM none t12) fun t13 =>
   .bnd (idxM 1 t8 t13) fun t14 =>
   .bnd (loadM none t14) fun t15 =>
   .bnd (calm true (F_plex_variable_below [t15])) fun t16 =>
   .bnd (calm true (F_plex_tableau_helps [(g t2 0), t3, t16])) fun t17 =>
   .bnd (binM .lss ty_int t17 (I 0)) fun t18 =>
   .ifP t18
   (.leaf (ret t3))
   (.bnd (nilCheckM t15) fun t19 =>
   .bnd (addM 5 t19) fun t20 =>
   .bnd (addM 1 t20) fun t21 =>
   .bnd (loadM (some 4) t21) fun t22 =>
   .bnd (boxM none 4 (.agg [(.bool false), .nilS, (.bool false), .nilS])) fun t23 =>
   .bnd (storeM 4 t23 t22) fun _ =>
   .join (J_plex_tableau_feasible_1 me1) fun jn26 =>
   .ifP t16 (.bnd (nilCheckM t15) fun t42 =>
   .bnd (addM 0 t42) fun t43 =>
   .bnd (addM 1 t43) fun t44 =>
   .bnd (loadM (some 4) t44) fun t45 =>
   .bnd (storeM 4 t23 t45) fun _ =>
   .leaf (jn26 [(g t2 0), t3, t15, t17, t23])) (.leaf (jn26 [(g t2 0), t3, t15, t17, t23]))))
def B_plex_tableau_feasible : List PV → Prog
 | [a0] => .loop L_plex_tableau_feasible_1
   [a0]
 | _ => .leaf failM
def F_plex_tableau_feasible : List PV → M := fun a => (B_plex_tableau_feasible a).run
/- (*touchstone/plex.tableau).zeros (S) -/
def L_plex_tableau_zeros_1 (me9 : List PV → M) (t10 : List PV) : Prog :=
   .bnd (binM .lss ty_int (g t10 2) (g t10 1)) fun t11 =>
   .ifP t11
   (.bnd (callP false none true F_ratio_Of [(I 0)]) fun t12 =>
   .bnd (buildSliceM none 4 true (.agg [(.bool false), .nilS, (.bool false), .nilS]) 1 [(0, t12)]) fun t13 =>
   .bnd (appendM 4 64 (g t10 0) t13) fun t14 =>
   .bnd (binM .add ty_int (g t10 2) (I 1)) fun t15 =>
   .leaf (me9 [t14, (g t10 1), t15]))
   (.leaf (ret (g t10 0)))
def B_plex_tableau_zeros : List PV → Prog
 | [a0] => .bnd (nilCheckM a0) fun t1 =>
   .bnd (addM 1 t1) fun t2 =>
   .bnd (loadM none t2) fun t3 =>
   .bnd (lenM t3) fun t4 =>
   .bnd (nilCheckM a0) fun t5 =>
   .bnd (addM 0 t5) fun t6 =>
   .bnd (loadM none t6) fun t7 =>
   .bnd (binM .sub ty_int t4 t7) fun t8 =>
   .loop L_plex_tableau_zeros_1
   [.nilS, t8, (I 0)]
 | _ => .leaf failM
def F_plex_tableau_zeros : List PV → M := fun a => (B_plex_tableau_zeros a).run
/- (*touchstone/plex.tableau).proof (S) -/
def J_plex_tableau_proof_1 (me17 : List PV → M) (t37 : List PV) : Prog :=
   .bnd (nilCheckM (g t37 0)) fun t39 =>
   .bnd (addM 0 t39) fun t40 =>
   .bnd (loadM none t40) fun t41 =>
   .bnd (binM .sub ty_int (g t37 4) t41) fun t42 =>
   .bnd (loadM (some 4) (g t37 5)) fun t43 =>
   .bnd (idxM 4 (g t37 2) t42) fun t44 =>
   .bnd (storeM 4 t44 t43) fun _ =>
   .bnd (binM .add ty_int (g t37 8) (I 1)) fun t46 =>
   .leaf (me17 [(g t37 0), (g t37 1), (g t37 2), (g t37 3), (g t37 6), (g t37 7), t46])
def L_plex_tableau_proof_1 (me17 : List PV → M) (t18 : List PV) : Prog :=
   .bnd (binM .lss ty_int (g t18 6) (g t18 5)) fun t19 =>
   .ifP t19
   (.bnd (idxM 1 (g t18 4) (g t18 6)) fun t20 =>
   .bnd (loadM none t20) fun t21 =>
   .bnd (nilCheckM (g t18 0)) fun t22 =>
   .bnd (addM 0 t22) fun t23 =>
   .bnd (loadM none t23) fun t24 =>
   .bnd (binM .lss ty_int t21 t24) fun t25 =>
   .ifP t25
   (.bnd (binM .add ty_int (g t18 6) (I 1)) fun t26 =>
   .leaf (me17 [(g t18 0), (g t18 1), (g t18 2), (g t18 3), (g t18 4), (g t18 5), t26]))
   (.bnd (nilCheckM (g t18 0)) fun t27 =>
   .bnd (addM 4 t27) fun t28 =>
   .bnd (loadM none t28) fun t29 =>
   .bnd (idxM 1 t29 (g t18 1)) fun t30 =>
   .bnd (loadM none t30) fun t31 =>
   .bnd (idxM 4 t31 (g t18 6)) fun t32 =>
   .bnd (loadM (some 4) t32) fun t33 =>
   .bnd (boxM none 4 (.agg [(.bool false), .nilS, (.bool false), .nilS])) fun t34 =>
   .bnd (storeM 4 t34 t33) fun _ =>
   .bnd (unM .not (g t18 3)) fun t36 =>
   .join (J_plex_tableau_proof_1 me17) fun jn38 =>
   .ifP t36 (.bnd (loadM (some 4) t34) fun t47 =>
   .bnd (callP false none true F_plex_neg [t47]) fun t48 =>
   .bnd (storeM 4 t34 t48) fun _ =>
   .leaf (jn38 [(g t18 0), (g t18 1), (g t18 2), (g t18 3), t21, t34, (g t18 4), (g t18 5), (g t18 6)])) (.leaf (jn38 [(g t18 0), (g t18 1), (g t18 2), (g t18 3), t21, t34, (g t18 4), (g t18 5), (g t18 6)]))))
   (.bnd (nilCheckM (g t18 0)) fun t50 =>
   .bnd (addM 2 t50) fun t51 =>
   .bnd (loadM none t51) fun t52 =>
   .bnd (idxM 1 t52 (g t18 1)) fun t53 =>
   .bnd (loadM none t53) fun t54 =>
   .bnd (nilCheckM (g t18 0)) fun t55 =>
   .bnd (addM 0 t55) fun t56 =>
   .bnd (loadM none t56) fun t57 =>
   .bnd (binM .geq ty_int t54 t57) fun t58 =>
   .ifP t58
   (.bnd (nilCheckM (g t18 0)) fun t59 =>
   .bnd (addM 0 t59) fun t60 =>
   .bnd (loadM none t60) fun t61 =>
   .bnd (binM .sub ty_int t54 t61) fun t62 =>
   .bnd (callP false none true F_ratio_Of [(I 1)]) fun t63 =>
   .bnd (idxM 4 (g t18 2) t62) fun t64 =>
   .bnd (storeM 4 t64 t63) fun _ =>
   .leaf (ret (g t18 2)))
   (.leaf (ret (g t18 2))))
def B_plex_tableau_proof : List PV → Prog
 | [a0, a1] => .bnd (calm true (F_plex_tableau_zeros [a0])) fun t1 =>
   .bnd (nilCheckM a0) fun t2 =>
   .bnd (addM 1 t2) fun t3 =>
   .bnd (loadM none t3) fun t4 =>
   .bnd (nilCheckM a0) fun t5 =>
   .bnd (addM 2 t5) fun t6 =>
   .bnd (loadM none t6) fun t7 =>
   .bnd (idxM 1 t7 a1) fun t8 =>
   .bnd (loadM none t8) fun t9 =>
   .bnd (idxM 1 t4 t9) fun t10 =>
   .bnd (loadM none t10) fun t11 =>
   .bnd (calm true (F_plex_variable_below [t11])) fun t12 =>
   .bnd (nilCheckM a0) fun t13 =>
   .bnd (addM 3 t13) fun t14 =>
   .bnd (loadM none t14) fun t15 =>
   .bnd (lenM t15) fun t16 =>
   .loop L_plex_tableau_proof_1
   [a0, a1, t1, t12, t15, t16, (I 0)]
 | _ => .leaf failM
def F_plex_tableau_proof : List PV → M := fun a => (B_plex_tableau_proof a).run
/- (*touchstone/plex.tableau).cheaper (S) -/
def L_plex_tableau_cheaper_1 (me5 : List PV → M) (t6 : List PV) : Prog :=
   .bnd (binM .lss ty_int (g t6 5) (g t6 4)) fun t7 =>
   .ifP t7
   (.bnd (idxM 1 (g t6 3) (g t6 5)) fun t8 =>
   .bnd (loadM none t8) fun t9 =>
   .bnd (nilCheckM (g t6 0)) fun t10 =>
   .bnd (addM 5 t10) fun t11 =>
   .bnd (loadM none t11) fun t12 =>
   .bnd (idxM 4 t12 (g t6 5)) fun t13 =>
   .bnd (loadM (some 4) t13) fun t14 =>
   .bnd (callP false none true F_plex_sign [t14]) fun t15 =>
   .bnd (nilCheckM (g t6 0)) fun t16 =>
   .bnd (addM 1 t16) fun t17 =>
   .bnd (loadM none t17) fun t18 =>
   .bnd (idxM 1 t18 t9) fun t19 =>
   .bnd (loadM none t19) fun t20 =>
   .bnd (binM .lss ty_int t15 (I 0)) fun t21 =>
   .bnd (guardM t21 true (ret t20)) fun t22 =>
   .bnd (guardM t21 true (calm true (F_plex_variable_mayRise [t22]))) fun t23 =>
   .bnd (pickM t21 t23 (.bool false)) fun t24 =>
   .bnd (guardM t24 false (ret t15)) fun t25 =>
   .bnd (guardM t24 false (binM .gtr ty_int t25 (I 0))) fun t26 =>
   .bnd (guardM t24 false (ret t26)) fun t27 =>
   .bnd (guardM t27 true (ret t20)) fun t28 =>
   .bnd (guardM t27 true (calm true (F_plex_variable_mayFall [t28]))) fun t29 =>
   .bnd (guardM t24 false (pickM t27 t29 (.bool false))) fun t30 =>
   .bnd (pickM t24 (.bool true) t30) fun t31 =>
   .bnd (guardM t31 true (ret (g t6 1))) fun t32 =>
   .bnd (guardM t31 true (binM .lss ty_int t32 (I 0))) fun t33 =>
   .bnd (guardM t31 true (ret t33)) fun t34 =>
   .bnd (guardM t34 false (ret t9)) fun t35 =>
   .bnd (guardM t34 false (ret (g t6 0))) fun t36 =>
   .bnd (guardM t34 false (nilCheckM t36)) fun t37 =>
   .bnd (guardM t34 false (addM 3 t37)) fun t38 =>
   .bnd (guardM t34 false (loadM none t38)) fun t39 =>
   .bnd (guardM t34 false (ret (g t6 1))) fun t40 =>
   .bnd (guardM t34 false (idxM 1 t39 t40)) fun t41 =>
   .bnd (guardM t34 false (loadM none t41)) fun t42 =>
   .bnd (guardM t34 false (binM .lss ty_int t35 t42)) fun t43 =>
   .bnd (guardM t31 true (pickM t34 (.bool true) t43)) fun t44 =>
   .bnd (pickM t31 t44 (.bool false)) fun t45 =>
   .ifP t45
   (.bnd (binM .add ty_int (g t6 5) (I 1)) fun t46 =>
   .leaf (me5 [(g t6 0), (g t6 5), t24, (g t6 3), (g t6 4), t46]))
   (.bnd (binM .add ty_int (g t6 5) (I 1)) fun t47 =>
   .leaf (me5 [(g t6 0), (g t6 1), (g t6 2), (g t6 3), (g t6 4), t47])))
   (.leaf (ret (.tup [(g t6 1), (g t6 2)])))
def B_plex_tableau_cheaper : List PV → Prog
 | [a0] => .bnd (nilCheckM a0) fun t1 =>
   .bnd (addM 3 t1) fun t2 =>
   .bnd (loadM none t2) fun t3 =>
   .bnd (lenM t3) fun t4 =>
   .loop L_plex_tableau_cheaper_1
   [a0, (I (-1)), (.bool false), t3, t4, (I 0)]
 | _ => .leaf failM
def F_plex_tableau_cheaper : List PV → M := fun a => (B_plex_tableau_cheaper a).run
/- (*touchstone/plex.block).nearer (S) -/
def J_plex_block_nearer_1 (t5 : List PV) : Prog :=
   .bnd (loadM (some 4) (g t5 3)) fun t7 =>
   .bnd (buildM [(.bool false), (.bool false), .nilS, (.bool false), .nilS, (.int .i64 0), (.int .i64 0)] [(0, 1, (.bool true)), (1, 4, t7), (5, 1, (g t5 1)), (6, 1, (g t5 2))]) fun t8 =>
   .bnd (nilCheckM (g t5 0)) fun t9 =>
   .bnd (storeM 7 t9 t8) fun _ =>
   .leaf (ret (.tup []))
def B_plex_block_nearer : List PV → Prog
 | [a0, a1, a2, a3] => .bnd (boxM none 4 a1) fun t1 =>
   .bnd (nilCheckM a0) fun t2 =>
   .bnd (addM 0 t2) fun t3 =>
   .bnd (loadM none t3) fun t4 =>
   .join J_plex_block_nearer_1 fun jn6 =>
   .ifP t4 (.bnd (loadM (some 4) t1) fun t11 =>
   .bnd (nilCheckM a0) fun t12 =>
   .bnd (addM 1 t12) fun t13 =>
   .bnd (loadM (some 4) t13) fun t14 =>
   .bnd (callP false none true F_plex_cmp [t11, t14]) fun t15 =>
   .bnd (binM .gtr ty_int t15 (I 0)) fun t16 =>
   .bnd (guardM t16 false (ret t15)) fun t17 =>
   .bnd (guardM t16 false (binM .eql ty_int t17 (I 0))) fun t18 =>
   .bnd (guardM t16 false (ret t18)) fun t19 =>
   .bnd (guardM t19 true (ret a3)) fun t20 =>
   .bnd (guardM t19 true (ret a0)) fun t21 =>
   .bnd (guardM t19 true (nilCheckM t21)) fun t22 =>
   .bnd (guardM t19 true (addM 6 t22)) fun t23 =>
   .bnd (guardM t19 true (loadM none t23)) fun t24 =>
   .bnd (guardM t19 true (binM .gtr ty_int t20 t24)) fun t25 =>
   .bnd (guardM t16 false (pickM t19 t25 (.bool false))) fun t26 =>
   .bnd (pickM t16 (.bool true) t26) fun t27 =>
   .ifP t27
   (.leaf (ret (.tup [])))
   (.leaf (jn6 [a0, a2, a3, t1]))) (.leaf (jn6 [a0, a2, a3, t1]))
 | _ => .leaf failM
def F_plex_block_nearer : List PV → M := fun a => (B_plex_block_nearer a).run
/- (*touchstone/plex.tableau).stops (S) -/
def J_plex_tableau_stops_1 (me25 : List PV → M) (t40 : List PV) : Prog :=
   .bnd (nilCheckM (g t40 0)) fun t42 =>
   .bnd (addM 1 t42) fun t43 =>
   .bnd (loadM none t43) fun t44 =>
   .bnd (idxM 1 t44 (g t40 6)) fun t45 =>
   .bnd (loadM none t45) fun t46 =>
   .bnd (loadM (some 4) (g t40 7)) fun t47 =>
   .bnd (callP false none true F_plex_sign [t47]) fun t48 =>
   .bnd (binM .gtr ty_int t48 (I 0)) fun t49 =>
   .bnd (guardM t49 true (ret t46)) fun t50 =>
   .bnd (guardM t49 true (nilCheckM t50)) fun t51 =>
   .bnd (guardM t49 true (addM 5 t51)) fun t52 =>
   .bnd (guardM t49 true (addM 0 t52)) fun t53 =>
   .bnd (guardM t49 true (loadM none t53)) fun t54 =>
   .bnd (pickM t49 t54 (.bool false)) fun t55 =>
   .ifP t55
   (.bnd (nilCheckM t46) fun t56 =>
   .bnd (addM 5 t56) fun t57 =>
   .bnd (addM 1 t57) fun t58 =>
   .bnd (loadM (some 4) t58) fun t59 =>
   .bnd (nilCheckM t46) fun t60 =>
   .bnd (addM 10 t60) fun t61 =>
   .bnd (loadM (some 4) t61) fun t62 =>
   .bnd (callP false none false F_plex_sub [t59, t62]) fun t63 =>
   .bnd (loadM (some 4) (g t40 7)) fun t64 =>
   .bnd (callP false none false F_plex_div [t63, t64]) fun t65 =>
   .bnd (calm true (F_plex_block_nearer [(g t40 4), t65, (g t40 5), (g t40 6)])) fun _ =>
   .bnd (binM .add ty_int (g t40 10) (I 1)) fun t67 =>
   .leaf (me25 [(g t40 0), (g t40 1), (g t40 2), (g t40 3), (g t40 4), (g t40 8), (g t40 9), t67]))
   (.bnd (binM .lss ty_int t48 (I 0)) fun t68 =>
   .bnd (guardM t68 true (ret t46)) fun t69 =>
   .bnd (guardM t68 true (nilCheckM t69)) fun t70 =>
   .bnd (guardM t68 true (addM 0 t70)) fun t71 =>
   .bnd (guardM t68 true (addM 0 t71)) fun t72 =>
   .bnd (guardM t68 true (loadM none t72)) fun t73 =>
   .bnd (pickM t68 t73 (.bool false)) fun t74 =>
   .ifP t74
   (.bnd (nilCheckM t46) fun t75 =>
   .bnd (addM 0 t75) fun t76 =>
   .bnd (addM 1 t76) fun t77 =>
   .bnd (loadM (some 4) t77) fun t78 =>
   .bnd (nilCheckM t46) fun t79 =>
   .bnd (addM 10 t79) fun t80 =>
   .bnd (loadM (some 4) t80) fun t81 =>
   .bnd (callP false none false F_plex_sub [t78, t81]) fun t82 =>
   .bnd (loadM (some 4) (g t40 7)) fun t83 =>
   .bnd (callP false none false F_plex_div [t82, t83]) fun t84 =>
   .bnd (calm true (F_plex_block_nearer [(g t40 4), t84, (g t40 5), (g t40 6)])) fun _ =>
   .bnd (binM .add ty_int (g t40 10) (I 1)) fun t86 =>
   .leaf (me25 [(g t40 0), (g t40 1), (g t40 2), (g t40 3), (g t40 4), (g t40 8), (g t40 9), t86]))
   (.bnd (binM .add ty_int (g t40 10) (I 1)) fun t87 =>
   .leaf (me25 [(g t40 0), (g t40 1), (g t40 2), (g t40 3), (g t40 4), (g t40 8), (g t40 9), t87])))
def L_plex_tableau_stops_1 (me25 : List PV → M) (t26 : List PV) : Prog :=
   .bnd (binM .lss ty_int (g t26 7) (g t26 6)) fun t27 =>
   .ifP t27
   (.bnd (idxM 1 (g t26 5) (g t26 7)) fun t28 =>
   .bnd (loadM none t28) fun t29 =>
   .bnd (nilCheckM (g t26 0)) fun t30 =>
   .bnd (addM 4 t30) fun t31 =>
   .bnd (loadM none t31) fun t32 =>
   .bnd (idxM 1 t32 (g t26 7)) fun t33 =>
   .bnd (loadM none t33) fun t34 =>
   .bnd (idxM 4 t34 (g t26 1)) fun t35 =>
   .bnd (loadM (some 4) t35) fun t36 =>
   .bnd (boxM none 4 (.agg [(.bool false), .nilS, (.bool false), .nilS])) fun t37 =>
   .bnd (storeM 4 t37 t36) fun _ =>
   .bnd (unM .not (g t26 2)) fun t39 =>
   .join (J_plex_tableau_stops_1 me25) fun jn41 =>
   .ifP t39 (.bnd (loadM (some 4) t37) fun t88 =>
   .bnd (callP false none true F_plex_neg [t88]) fun t89 =>
   .bnd (storeM 4 t37 t89) fun _ =>
   .leaf (jn41 [(g t26 0), (g t26 1), (g t26 2), (g t26 3), (g t26 4), (g t26 7), t29, t37, (g t26 5), (g t26 6), (g t26 7)])) (.leaf (jn41 [(g t26 0), (g t26 1), (g t26 2), (g t26 3), (g t26 4), (g t26 7), t29, t37, (g t26 5), (g t26 6), (g t26 7)])))
   (.bnd (loadM (some 7) (g t26 4)) fun t91 =>
   .bnd (storeM 7 (g t26 3) t91) fun _ =>
   .bnd (loadM (some 7) (g t26 3)) fun t93 =>
   .leaf (ret t93))
def J_plex_tableau_stops_2 (t19 : List PV) : Prog :=
   .bnd (nilCheckM (g t19 0)) fun t21 =>
   .bnd (addM 2 t21) fun t22 =>
   .bnd (loadM none t22) fun t23 =>
   .bnd (lenM t23) fun t24 =>
   .loop L_plex_tableau_stops_1
   [(g t19 0), (g t19 1), (g t19 2), (g t19 3), (g t19 4), t23, t24, (I 0)]
def B_plex_tableau_stops : List PV → Prog
 | [a0, a1, a2] => .bnd (boxM none 7 (.agg [(.bool false), (.bool false), .nilS, (.bool false), .nilS, (.int .i64 0), (.int .i64 0)])) fun t1 =>
   .bnd (boxM none 7 (.agg [(.bool false), (.bool false), .nilS, (.bool false), .nilS, (.int .i64 0), (.int .i64 0)])) fun t2 =>
   .bnd (nilCheckM a0) fun t3 =>
   .bnd (addM 1 t3) fun t4 =>
   .bnd (loadM none t4) fun t5 =>
   .bnd (nilCheckM a0) fun t6 =>
   .bnd (addM 3 t6) fun t7 =>
   .bnd (loadM none t7) fun t8 =>
   .bnd (idxM 1 t8 a1) fun t9 =>
   .bnd (loadM none t9) fun t10 =>
   .bnd (idxM 1 t5 t10) fun t11 =>
   .bnd (loadM none t11) fun t12 =>
   .bnd (guardM a2 true (ret t12)) fun t13 =>
   .bnd (guardM a2 true (nilCheckM t13)) fun t14 =>
   .bnd (guardM a2 true (addM 5 t14)) fun t15 =>
   .bnd (guardM a2 true (addM 0 t15)) fun t16 =>
   .bnd (guardM a2 true (loadM none t16)) fun t17 =>
   .bnd (pickM a2 t17 (.bool false)) fun t18 =>
   .join J_plex_tableau_stops_2 fun jn20 =>
   .ifP t18 (.bnd (nilCheckM t12) fun t94 =>
   .bnd (addM 5 t94) fun t95 =>
   .bnd (addM 1 t95) fun t96 =>
   .bnd (loadM (some 4) t96) fun t97 =>
   .bnd (nilCheckM t12) fun t98 =>
   .bnd (addM 10 t98) fun t99 =>
   .bnd (loadM (some 4) t99) fun t100 =>
   .bnd (callP false none false F_plex_sub [t97, t100]) fun t101 =>
   .bnd (nilCheckM a0) fun t102 =>
   .bnd (addM 3 t102) fun t103 =>
   .bnd (loadM none t103) fun t104 =>
   .bnd (idxM 1 t104 a1) fun t105 =>
   .bnd (loadM none t105) fun t106 =>
   .bnd (calm true (F_plex_block_nearer [t2, t101, (I (-1)), t106])) fun _ =>
   .leaf (jn20 [a0, a1, a2, t1, t2])) (.bnd (unM .not a2) fun t108 =>
   .bnd (guardM t108 true (ret t12)) fun t109 =>
   .bnd (guardM t108 true (nilCheckM t109)) fun t110 =>
   .bnd (guardM t108 true (addM 0 t110)) fun t111 =>
   .bnd (guardM t108 true (addM 0 t111)) fun t112 =>
   .bnd (guardM t108 true (loadM none t112)) fun t113 =>
   .bnd (pickM t108 t113 (.bool false)) fun t114 =>
   .ifP t114
   (.bnd (nilCheckM t12) fun t115 =>
   .bnd (addM 10 t115) fun t116 =>
   .bnd (loadM (some 4) t116) fun t117 =>
   .bnd (nilCheckM t12) fun t118 =>
   .bnd (addM 0 t118) fun t119 =>
   .bnd (addM 1 t119) fun t120 =>
   .bnd (loadM (some 4) t120) fun t121 =>
   .bnd (callP false none false F_plex_sub [t117, t121]) fun t122 =>
   .bnd (nilCheckM a0) fun t123 =>
   .bnd (addM 3 t123) fun t124 =>
   .bnd (loadM none t124) fun t125 =>
   .bnd (idxM 1 t125 a1) fun t126 =>
   .bnd (loadM none t126) fun t127 =>
   .bnd (calm true (F_plex_block_nearer [t2, t122, (I (-1)), t127])) fun _ =>
   .leaf (jn20 [a0, a1, a2, t1, t2]))
   (.leaf (jn20 [a0, a1, a2, t1, t2])))
 | _ => .leaf failM
def F_plex_tableau_stops : List PV → M := fun a => (B_plex_tableau_stops a).run
/- (*touchstone/plex.tableau).optimize (S) -/
def J_plex_tableau_optimize_1 (me1 : List PV → M) (t21 : List PV) : Prog :=
   .bnd (loadM (some 4) (g t21 3)) fun t23 =>
   .bnd (calm true (F_plex_tableau_move [(g t21 0), (g t21 1), t23])) fun _ =>
   .bnd (addM 5 (g t21 2)) fun t25 =>
   .bnd (loadM none t25) fun t26 =>
   .bnd (binM .geq ty_int t26 (I 0)) fun t27 =>
   .ifP t27
   (.bnd (addM 5 (g t21 2)) fun t28 =>
   .bnd (loadM none t28) fun t29 =>
   .bnd (calm true (F_plex_tableau_pivot [(g t21 0), t29, (g t21 1)])) fun _ =>
   .leaf (me1 [(g t21 0)]))
   (.leaf (me1 [(g t21 0)]))
def J_plex_tableau_optimize_2 (me1 : List PV → M) (t14 : List PV) : Prog :=
   .bnd (addM 1 (g t14 3)) fun t16 =>
   .bnd (loadM (some 4) t16) fun t17 =>
   .bnd (boxM none 4 (.agg [(.bool false), .nilS, (.bool false), .nilS])) fun t18 =>
   .bnd (storeM 4 t18 t17) fun _ =>
   .bnd (unM .not (g t14 2)) fun t20 =>
   .join (J_plex_tableau_optimize_1 me1) fun jn22 =>
   .ifP t20 (.bnd (loadM (some 4) t18) fun t31 =>
   .bnd (callP false none true F_plex_neg [t31]) fun t32 =>
   .bnd (storeM 4 t18 t32) fun _ =>
   .leaf (jn22 [(g t14 0), (g t14 1), (g t14 3), t18])) (.leaf (jn22 [(g t14 0), (g t14 1), (g t14 3), t18]))
def L_plex_tableau_optimize_1 (me1 : List PV → M) (t2 : List PV) : Prog :=
   .bnd (calm true (F_plex_tableau_cheaper [(g t2 0)])) fun t3 =>
   .bnd (extractM t3 0) fun t4 =>
   .bnd (extractM t3 1) fun t5 =>
   .bnd (binM .lss ty_int t4 (I 0)) fun t6 =>
   .ifP t6
   (.leaf (ret (.tup [])))
   (.bnd (calm true (F_plex_tableau_step [(g t2 0)])) fun _ =>
   .bnd (calm true (F_plex_tableau_stops [(g t2 0), t4, t5])) fun t8 =>
   .bnd (boxM none 7 (.agg [(.bool false), (.bool false), .nilS, (.bool false), .nilS, (.int .i64 0), (.int .i64 0)])) fun t9 =>
   .bnd (storeM 7 t9 t8) fun _ =>
   .bnd (addM 0 t9) fun t11 =>
   .bnd (loadM none t11) fun t12 =>
   .bnd (unM .not t12) fun t13 =>
   .join (J_plex_tableau_optimize_2 me1) fun jn15 =>
   .ifP t13 (.bnd (buildM [] []) fun t34 =>
   .bnd (ret (.iface tid_plex_spent t34)) fun t35 =>
   .bnd (panicM true t35) fun _ =>
   .leaf (jn15 [(g t2 0), t4, t5, t9])) (.leaf (jn15 [(g t2 0), t4, t5, t9])))
def B_plex_tableau_optimize : List PV → Prog
 | [a0] => .loop L_plex_tableau_optimize_1
   [a0]
 | _ => .leaf failM
def F_plex_tableau_optimize : List PV → M := fun a => (B_plex_tableau_optimize a).run
/- (*touchstone/plex.tableau).answer (S) -/
def L_plex_tableau_answer_1 (me48 : List PV → M) (t49 : List PV) : Prog :=
   .bnd (binM .lss ty_int (g t49 5) (g t49 4)) fun t50 =>
   .ifP t50
   (.bnd (idxM 1 (g t49 3) (g t49 5)) fun t51 =>
   .bnd (loadM none t51) fun t52 =>
   .bnd (nilCheckM (g t49 0)) fun t53 =>
   .bnd (addM 0 t53) fun t54 =>
   .bnd (loadM none t54) fun t55 =>
   .bnd (binM .geq ty_int t52 t55) fun t56 =>
   .ifP t56
   (.bnd (addM 6 (g t49 2)) fun t57 =>
   .bnd (loadM none t57) fun t58 =>
   .bnd (nilCheckM (g t49 0)) fun t59 =>
   .bnd (addM 0 t59) fun t60 =>
   .bnd (loadM none t60) fun t61 =>
   .bnd (binM .sub ty_int t52 t61) fun t62 =>
   .bnd (nilCheckM (g t49 0)) fun t63 =>
   .bnd (addM 5 t63) fun t64 =>
   .bnd (loadM none t64) fun t65 =>
   .bnd (idxM 4 t65 (g t49 5)) fun t66 =>
   .bnd (loadM (some 4) t66) fun t67 =>
   .bnd (callP false none true F_plex_neg [t67]) fun t68 =>
   .bnd (idxM 4 t58 t62) fun t69 =>
   .bnd (storeM 4 t69 t68) fun _ =>
   .bnd (binM .add ty_int (g t49 5) (I 1)) fun t71 =>
   .leaf (me48 [(g t49 0), (g t49 1), (g t49 2), (g t49 3), (g t49 4), t71]))
   (.bnd (binM .add ty_int (g t49 5) (I 1)) fun t72 =>
   .leaf (me48 [(g t49 0), (g t49 1), (g t49 2), (g t49 3), (g t49 4), t72])))
   (.bnd (loadM (some 7) (g t49 2)) fun t73 =>
   .bnd (storeM 7 (g t49 1) t73) fun _ =>
   .bnd (loadM (some 7) (g t49 1)) fun t75 =>
   .leaf (ret t75))
def L_plex_tableau_answer_2 (me22 : List PV → M) (t23 : List PV) : Prog :=
   .bnd (binM .lss ty_int (g t23 6) (g t23 5)) fun t24 =>
   .ifP t24
   (.bnd (idxM 1 (g t23 4) (g t23 6)) fun t25 =>
   .bnd (loadM none t25) fun t26 =>
   .base 10 fun t27 =>
   .bnd (addM 1 (g t23 3)) fun t28 =>
   .bnd (loadM none t28) fun t29 =>
   .bnd (nilCheckM t26) fun t30 =>
   .bnd (addM 10 t30) fun t31 =>
   .bnd (loadM (some 4) t31) fun t32 =>
   .bnd (buildSliceM (some (t27 + 6)) 4 true (.agg [(.bool false), .nilS, (.bool false), .nilS]) 1 [(0, t32)]) fun t33 =>
   .bnd (appendM 4 64 t29 t33) fun t34 =>
   .bnd (addM 1 (g t23 3)) fun t35 =>
   .bnd (storeM 1 t35 t34) fun _ =>
   .bnd (binM .add ty_int (g t23 6) (I 1)) fun t37 =>
   .leaf (me22 [(g t23 0), (g t23 1), (g t23 2), (g t23 3), (g t23 4), (g t23 5), t37]))
   (.bnd (addM 1 (g t23 3)) fun t38 =>
   .bnd (loadM none t38) fun t39 =>
   .bnd (ret (.func fid_plex_tableau_answer_c1 [] [(g t23 1)])) fun t40 =>
   .bnd (calm true (callR F_plex_dot [t39, t40])) fun t41 =>
   .bnd (addM 2 (g t23 3)) fun t42 =>
   .bnd (storeM 4 t42 t41) fun _ =>
   .bnd (nilCheckM (g t23 0)) fun t44 =>
   .bnd (addM 3 t44) fun t45 =>
   .bnd (loadM none t45) fun t46 =>
   .bnd (lenM t46) fun t47 =>
   .loop L_plex_tableau_answer_1
   [(g t23 0), (g t23 2), (g t23 3), t46, t47, (I 0)])
def B_plex_tableau_answer : List PV → Prog
 | [a0, a1] => .bnd (boxM none 5 a1) fun t1 =>
   .bnd (boxM none 7 (.agg [(.int .i64 0), .nilS, (.bool false), .nilS, (.bool false), .nilS, .nilS])) fun t2 =>
   .bnd (calm true (F_plex_tableau_feasible [a0])) fun t3 =>
   .bnd (binM .geq ty_int t3 (I 0)) fun t4 =>
   .ifP t4
   (.bnd (calm true (F_plex_tableau_proof [a0, t3])) fun t5 =>
   .bnd (buildM [(.int .i64 0), .nilS, (.bool false), .nilS, (.bool false), .nilS, .nilS] [(0, 1, (I 2)), (6, 1, t5)]) fun t6 =>
   .bnd (storeM 7 t2 t6) fun _ =>
   .bnd (loadM (some 7) t2) fun t8 =>
   .leaf (ret t8))
   (.bnd (calm true (F_plex_tableau_optimize [a0])) fun _ =>
   .bnd (calm true (F_plex_tableau_zeros [a0])) fun t10 =>
   .bnd (buildM [(.int .i64 0), .nilS, (.bool false), .nilS, (.bool false), .nilS, .nilS] [(0, 1, (I 1)), (6, 1, t10)]) fun t11 =>
   .bnd (boxM none 7 (.agg [(.int .i64 0), .nilS, (.bool false), .nilS, (.bool false), .nilS, .nilS])) fun t12 =>
   .bnd (storeM 7 t12 t11) fun _ =>
   .bnd (nilCheckM a0) fun t14 =>
   .bnd (addM 1 t14) fun t15 =>
   .bnd (loadM none t15) fun t16 =>
   .bnd (nilCheckM a0) fun t17 =>
   .bnd (addM 0 t17) fun t18 =>
   .bnd (loadM none t18) fun t19 =>
   .bnd (sliceM 1 t16 none (some t19) none) fun t20 =>
   .bnd (lenM t20) fun t21 =>
   .loop L_plex_tableau_answer_2
   [a0, t1, t2, t12, t20, t21, (I 0)])
 | _ => .leaf failM
def F_plex_tableau_answer : List PV → M := fun a => (B_plex_tableau_answer a).run
/- touchstone/plex.Solve$1 (S) -/
def B_plex_Solve_c1 : List PV → Prog
 | [a0, a1, a2] => .bnd (loadM (some 5) a0) fun t1 =>
   .bnd (loadM none a1) fun t2 =>
   .bnd (calm false (callN F_plex_begin [t1, t2])) fun t3 =>
   .bnd (loadM (some 5) a0) fun t4 =>
   .bnd (calm true (F_plex_tableau_answer [t3, t4])) fun t5 =>
   .bnd (storeM 7 a2 t5) fun _ =>
   .leaf (ret (.tup []))
 | _ => .leaf failM
def F_plex_Solve_c1 : List PV → M := fun a => (B_plex_Solve_c1 a).run
/- touchstone/plex.fit (P) -/
def L_plex_fit_1 (me42 : List PV → M) (t43 : List PV) : Prog :=
   .bnd (binM .lss ty_int (g t43 4) (g t43 3)) fun t44 =>
   .ifP t44
   (.bnd (idxM 1 (g t43 2) (g t43 4)) fun t45 =>
   .bnd (loadM none t45) fun t46 =>
   .bnd (boxM none 1 .nilS) fun t47 =>
   .bnd (storeM 1 t47 t46) fun _ =>
   .bnd (ret (.func fid_plex_fit_c1 [] [t47])) fun t49 =>
   .bnd (calm false (callR F_plex_dot [(g t43 0), t49])) fun t50 =>
   .bnd (addM 3 (g t43 1)) fun t51 =>
   .bnd (loadM none t51) fun t52 =>
   .bnd (idxM 1 t52 (g t43 4)) fun t53 =>
   .bnd (loadM none t53) fun t54 =>
   .bnd (callP false none true F_ratio_Of [t54]) fun t55 =>
   .bnd (callP false none true F_plex_cmp [t50, t55]) fun t56 =>
   .bnd (binM .gtr ty_int t56 (I 0)) fun t57 =>
   .ifP t57
   (.leaf (ret (.bool false)))
   (.bnd (binM .add ty_int (g t43 4) (I 1)) fun t58 =>
   .leaf (me42 [(g t43 0), (g t43 1), (g t43 2), (g t43 3), t58])))
   (.leaf (ret (.bool true)))
def L_plex_fit_2 (me8 : List PV → M) (t9 : List PV) : Prog :=
   .bnd (binM .lss ty_int (g t9 4) (g t9 3)) fun t10 =>
   .ifP t10
   (.bnd (idxM 4 (g t9 2) (g t9 4)) fun t11 =>
   .bnd (loadM (some 4) t11) fun t12 =>
   .bnd (boxM none 4 (.agg [(.bool false), .nilS, (.bool false), .nilS])) fun t13 =>
   .bnd (storeM 4 t13 t12) fun _ =>
   .bnd (loadM (some 4) t13) fun t15 =>
   .bnd (callP false none true F_ratio_Right [t15]) fun t16 =>
   .bnd (unM .not t16) fun t17 =>
   .bnd (guardM t17 false (loadM (some 4) t13)) fun t18 =>
   .bnd (guardM t17 false (addM 0 (g t9 1))) fun t19 =>
   .bnd (guardM t17 false (loadM none t19)) fun t20 =>
   .bnd (guardM t17 false (ret (g t9 4))) fun t21 =>
   .bnd (guardM t17 false (idxM 1 t20 t21)) fun t22 =>
   .bnd (guardM t17 false (loadM none t22)) fun t23 =>
   .bnd (guardM t17 false (callP false none true F_ratio_Of [t23])) fun t24 =>
   .bnd (guardM t17 false (callP false none true F_plex_cmp [t18, t24])) fun t25 =>
   .bnd (guardM t17 false (binM .lss ty_int t25 (I 0))) fun t26 =>
   .bnd (pickM t17 (.bool true) t26) fun t27 =>
   .bnd (guardM t27 false (loadM (some 4) t13)) fun t28 =>
   .bnd (guardM t27 false (addM 1 (g t9 1))) fun t29 =>
   .bnd (guardM t27 false (loadM none t29)) fun t30 =>
   .bnd (guardM t27 false (ret (g t9 4))) fun t31 =>
   .bnd (guardM t27 false (idxM 1 t30 t31)) fun t32 =>
   .bnd (guardM t27 false (loadM none t32)) fun t33 =>
   .bnd (guardM t27 false (callP false none true F_ratio_Of [t33])) fun t34 =>
   .bnd (guardM t27 false (callP false none true F_plex_cmp [t28, t34])) fun t35 =>
   .bnd (guardM t27 false (binM .gtr ty_int t35 (I 0))) fun t36 =>
   .bnd (pickM t27 (.bool true) t36) fun t37 =>
   .ifP t37
   (.leaf (ret (.bool false)))
   (.bnd (binM .add ty_int (g t9 4) (I 1)) fun t38 =>
   .leaf (me8 [(g t9 0), (g t9 1), (g t9 2), (g t9 3), t38])))
   (.bnd (addM 2 (g t9 1)) fun t39 =>
   .bnd (loadM none t39) fun t40 =>
   .bnd (lenM t40) fun t41 =>
   .loop L_plex_fit_1
   [(g t9 0), (g t9 1), t40, t41, (I 0)])
def B_plex_fit : List PV → Prog
 | [a0, a1] => .bnd (boxM none 5 a0) fun t1 =>
   .bnd (lenM a1) fun t2 =>
   .bnd (addM 0 t1) fun t3 =>
   .bnd (loadM none t3) fun t4 =>
   .bnd (lenM t4) fun t5 =>
   .bnd (binM .neq ty_int t2 t5) fun t6 =>
   .ifP t6
   (.leaf (ret (.bool false)))
   (.bnd (lenM a1) fun t7 =>
   .loop L_plex_fit_2
   [a1, t1, a1, t7, (I 0)])
 | _ => .leaf failM
def F_plex_fit : List PV → PRes := runP false fun a => (B_plex_fit a).run
/- touchstone/plex.numbers (P) -/
def L_plex_numbers_1 (me8 : List PV → M) (t9 : List PV) : Prog :=
   .bnd (binM .lss ty_int (g t9 2) (g t9 1)) fun t10 =>
   .ifP t10
   (.bnd (idxM 4 (g t9 0) (g t9 2)) fun t11 =>
   .bnd (loadM (some 4) t11) fun t12 =>
   .bnd (boxM none 4 (.agg [(.bool false), .nilS, (.bool false), .nilS])) fun t13 =>
   .bnd (storeM 4 t13 t12) fun _ =>
   .bnd (loadM (some 4) t13) fun t15 =>
   .bnd (callP false none true F_ratio_Right [t15]) fun t16 =>
   .bnd (unM .not t16) fun t17 =>
   .bnd (guardM t17 false (loadM (some 4) t13)) fun t18 =>
   .bnd (guardM t17 false (callP false none true F_plex_sign [t18])) fun t19 =>
   .bnd (guardM t17 false (binM .lss ty_int t19 (I 0))) fun t20 =>
   .bnd (pickM t17 (.bool true) t20) fun t21 =>
   .ifP t21
   (.leaf (ret (.bool false)))
   (.bnd (binM .add ty_int (g t9 2) (I 1)) fun t22 =>
   .leaf (me8 [(g t9 0), (g t9 1), t22])))
   (.leaf (ret (.bool true)))
def B_plex_numbers : List PV → Prog
 | [a0, a1] => .bnd (boxM none 5 a0) fun t1 =>
   .bnd (lenM a1) fun t2 =>
   .bnd (addM 2 t1) fun t3 =>
   .bnd (loadM none t3) fun t4 =>
   .bnd (lenM t4) fun t5 =>
   .bnd (binM .neq ty_int t2 t5) fun t6 =>
   .ifP t6
   (.leaf (ret (.bool false)))
   (.bnd (lenM a1) fun t7 =>
   .loop L_plex_numbers_1
   [a1, t7, (I 0)])
 | _ => .leaf failM
def F_plex_numbers : List PV → PRes := runP false fun a => (B_plex_numbers a).run
/- touchstone/plex.none (P) -/
def B_plex_none : List PV → Prog
 | [a0] => .bnd (boxM none 4 a0) fun t1 =>
   .bnd (addM 0 t1) fun t2 =>
   .bnd (addM 1 t2) fun t3 =>
   .bnd (loadM none t3) fun t4 =>
   .bnd (lenM t4) fun t5 =>
   .bnd (binM .eql ty_int t5 (I 0)) fun t6 =>
   .bnd (guardM t6 true (addM 2 t1)) fun t7 =>
   .bnd (guardM t6 true (addM 1 t7)) fun t8 =>
   .bnd (guardM t6 true (loadM none t8)) fun t9 =>
   .bnd (guardM t6 true (lenM t9)) fun t10 =>
   .bnd (guardM t6 true (binM .eql ty_int t10 (I 0))) fun t11 =>
   .bnd (pickM t6 t11 (.bool false)) fun t12 =>
   .bnd (guardM t12 true (addM 0 t1)) fun t13 =>
   .bnd (guardM t12 true (addM 0 t13)) fun t14 =>
   .bnd (guardM t12 true (loadM none t14)) fun t15 =>
   .bnd (guardM t12 true (unM .not t15)) fun t16 =>
   .bnd (pickM t12 t16 (.bool false)) fun t17 =>
   .bnd (guardM t17 true (addM 2 t1)) fun t18 =>
   .bnd (guardM t17 true (addM 0 t18)) fun t19 =>
   .bnd (guardM t17 true (loadM none t19)) fun t20 =>
   .bnd (guardM t17 true (unM .not t20)) fun t21 =>
   .bnd (pickM t17 t21 (.bool false)) fun t22 =>
   .leaf (ret t22)
 | _ => .leaf failM
def F_plex_none : List PV → PRes := runP false fun a => (B_plex_none a).run
/- touchstone/plex.proved (P) -/
def B_plex_proved : List PV → Prog
 | [a0, a1] => .bnd (boxM none 5 a0) fun t1 =>
   .bnd (boxM none 7 a1) fun t2 =>
   .bnd (addM 0 t2) fun t3 =>
   .bnd (loadM none t3) fun t4 =>
   .bnd (binM .eql ty_int t4 (I 1)) fun t5 =>
   .ifP t5
   (.bnd (loadM (some 5) t1) fun t6 =>
   .bnd (addM 1 t2) fun t7 =>
   .bnd (loadM none t7) fun t8 =>
   .bnd (callP false none true F_plex_fit [t6, t8]) fun t9 =>
   .bnd (unM .not t9) fun t10 =>
   .bnd (guardM t10 false (loadM (some 5) t1)) fun t11 =>
   .bnd (guardM t10 false (addM 6 t2)) fun t12 =>
   .bnd (guardM t10 false (loadM none t12)) fun t13 =>
   .bnd (guardM t10 false (callP false none true F_plex_numbers [t11, t13])) fun t14 =>
   .bnd (guardM t10 false (unM .not t14)) fun t15 =>
   .bnd (pickM t10 (.bool true) t15) fun t16 =>
   .bnd (guardM t16 false (addM 2 t2)) fun t17 =>
   .bnd (guardM t16 false (loadM (some 4) t17)) fun t18 =>
   .bnd (guardM t16 false (callP false none true F_ratio_Right [t18])) fun t19 =>
   .bnd (guardM t16 false (unM .not t19)) fun t20 =>
   .bnd (pickM t16 (.bool true) t20) fun t21 =>
   .ifP t21
   (.leaf (ret (.bool false)))
   (.bnd (addM 1 t2) fun t22 =>
   .bnd (loadM none t22) fun t23 =>
   .bnd (ret (.func fid_plex_proved_c1 [] [t1])) fun t24 =>
   .bnd (calm true (callR F_plex_dot [t23, t24])) fun t25 =>
   .bnd (boxM none 4 (.agg [(.bool false), .nilS, (.bool false), .nilS])) fun t26 =>
   .bnd (storeM 4 t26 t25) fun _ =>
   .bnd (loadM (some 4) t26) fun t28 =>
   .bnd (addM 2 t2) fun t29 =>
   .bnd (loadM (some 4) t29) fun t30 =>
   .bnd (callP false none true F_plex_cmp [t28, t30]) fun t31 =>
   .bnd (binM .eql ty_int t31 (I 0)) fun t32 =>
   .bnd (guardM t32 true (loadM (some 5) t1)) fun t33 =>
   .bnd (guardM t32 true (addM 6 t2)) fun t34 =>
   .bnd (guardM t32 true (loadM none t34)) fun t35 =>
   .bnd (guardM t32 true (addM 4 t1)) fun t36 =>
   .bnd (guardM t32 true (loadM none t36)) fun t37 =>
   .bnd (guardM t32 true (calm false (callR F_plex_least [t33, t35, t37]))) fun t38 =>
   .bnd (guardM t32 true (addM 2 t2)) fun t39 =>
   .bnd (guardM t32 true (loadM (some 4) t39)) fun t40 =>
   .bnd (guardM t32 true (callP false none true F_plex_cmp [t38, t40])) fun t41 =>
   .bnd (guardM t32 true (binM .eql ty_int t41 (I 0))) fun t42 =>
   .bnd (pickM t32 t42 (.bool false)) fun t43 =>
   .leaf (ret t43)))
   (.bnd (binM .eql ty_int t4 (I 2)) fun t44 =>
   .ifP t44
   (.bnd (addM 1 t2) fun t45 =>
   .bnd (loadM none t45) fun t46 =>
   .bnd (lenM t46) fun t47 =>
   .bnd (binM .eql ty_int t47 (I 0)) fun t48 =>
   .bnd (guardM t48 true (addM 2 t2)) fun t49 =>
   .bnd (guardM t48 true (loadM (some 4) t49)) fun t50 =>
   .bnd (guardM t48 true (callP false none true F_plex_none [t50])) fun t51 =>
   .bnd (pickM t48 t51 (.bool false)) fun t52 =>
   .bnd (guardM t52 true (loadM (some 5) t1)) fun t53 =>
   .bnd (guardM t52 true (addM 6 t2)) fun t54 =>
   .bnd (guardM t52 true (loadM none t54)) fun t55 =>
   .bnd (guardM t52 true (callP false none true F_plex_numbers [t53, t55])) fun t56 =>
   .bnd (pickM t52 t56 (.bool false)) fun t57 =>
   .bnd (guardM t57 true (loadM (some 5) t1)) fun t58 =>
   .bnd (guardM t57 true (addM 6 t2)) fun t59 =>
   .bnd (guardM t57 true (loadM none t59)) fun t60 =>
   .bnd (guardM t57 true (calm true (callR F_plex_least [t58, t60, .nilS]))) fun t61 =>
   .bnd (guardM t57 true (callP false none true F_plex_sign [t61])) fun t62 =>
   .bnd (guardM t57 true (binM .gtr ty_int t62 (I 0))) fun t63 =>
   .bnd (pickM t57 t63 (.bool false)) fun t64 =>
   .leaf (ret t64))
   (.bnd (binM .eql ty_int t4 (I 3)) fun t65 =>
   .ifP t65
   (.bnd (addM 1 t2) fun t66 =>
   .bnd (loadM none t66) fun t67 =>
   .bnd (lenM t67) fun t68 =>
   .bnd (binM .eql ty_int t68 (I 0)) fun t69 =>
   .bnd (guardM t69 true (addM 6 t2)) fun t70 =>
   .bnd (guardM t69 true (loadM none t70)) fun t71 =>
   .bnd (guardM t69 true (lenM t71)) fun t72 =>
   .bnd (guardM t69 true (binM .eql ty_int t72 (I 0))) fun t73 =>
   .bnd (pickM t69 t73 (.bool false)) fun t74 =>
   .bnd (guardM t74 true (addM 2 t2)) fun t75 =>
   .bnd (guardM t74 true (loadM (some 4) t75)) fun t76 =>
   .bnd (guardM t74 true (callP false none true F_plex_none [t76])) fun t77 =>
   .bnd (pickM t74 t77 (.bool false)) fun t78 =>
   .leaf (ret t78))
   (.leaf (ret (.bool false)))))
 | _ => .leaf failM
def F_plex_proved : List PV → PRes := runP false fun a => (B_plex_proved a).run
/- touchstone/plex.Proved$1 (S) -/
def B_plex_Proved_c1 : List PV → Prog
 | [a0, a1, a2] => .bnd (loadM (some 5) a0) fun t1 =>
   .bnd (loadM (some 7) a1) fun t2 =>
   .bnd (callP false none true F_plex_proved [t1, t2]) fun t3 =>
   .bnd (storeM 1 a2 t3) fun _ =>
   .leaf (ret (.tup []))
 | _ => .leaf failM
def F_plex_Proved_c1 : List PV → M := fun a => (B_plex_Proved_c1 a).run
/- touchstone/plex.guarded (by hand) -/
def D_plex_guarded : FuncId → List PV → M := lookD [(fid_plex_Bound_c1, F_plex_Bound_c1), (fid_plex_Solve_c1, F_plex_Solve_c1), (fid_plex_Proved_c1, F_plex_Proved_c1)]
theorem D_plex_guarded_plex_Bound_c1 : D_plex_guarded fid_plex_Bound_c1 = F_plex_Bound_c1 := (rfl)
theorem D_plex_guarded_plex_Solve_c1 : D_plex_guarded fid_plex_Solve_c1 = F_plex_Solve_c1 := (rfl)
theorem D_plex_guarded_plex_Proved_c1 : D_plex_guarded fid_plex_Proved_c1 = F_plex_Proved_c1 := (rfl)
def F_plex_guarded : List PV → M := guardedF D_plex_guarded
/- touchstone/plex.Solve (P) -/
def B_plex_Solve : List PV → Prog
 | [a0, a1] => .bnd (boxM none 5 a0) fun t1 =>
   .bnd (boxM none 1 a1) fun t2 =>
   .bnd (boxM none 7 (.agg [(.int .i64 0), .nilS, (.bool false), .nilS, (.bool false), .nilS, .nilS])) fun t3 =>
   .bnd (loadM (some 5) t1) fun t4 =>
   .bnd (callP false none true F_plex_Right [t4]) fun t5 =>
   .bnd (unM .not t5) fun t6 =>
   .bnd (guardM t6 false (loadM none t2)) fun t7 =>
   .bnd (guardM t6 false (binM .lss ty_int t7 (I 0))) fun t8 =>
   .bnd (pickM t6 (.bool true) t8) fun t9 =>
   .ifP t9
   (.bnd (buildM [(.int .i64 0), .nilS, (.bool false), .nilS, (.bool false), .nilS, .nilS] []) fun t10 =>
   .bnd (storeM 7 t3 t10) fun _ =>
   .bnd (loadM (some 7) t3) fun t12 =>
   .leaf (ret (.tup [t12, (I 2)])))
   (.bnd (boxM none 7 (.agg [(.int .i64 0), .nilS, (.bool false), .nilS, (.bool false), .nilS, .nilS])) fun t13 =>
   .bnd (ret (.func fid_plex_Solve_c1 [] [t1, t2, t13])) fun t14 =>
   .bnd (calm true (F_plex_guarded [t14])) fun t15 =>
   .bnd (unM .not t15) fun t16 =>
   .ifP t16
   (.bnd (buildM [(.int .i64 0), .nilS, (.bool false), .nilS, (.bool false), .nilS, .nilS] [(0, 1, (I 3))]) fun t17 =>
   .bnd (storeM 7 t3 t17) fun _ =>
   .bnd (loadM (some 7) t3) fun t19 =>
   .leaf (ret (.tup [t19, (I 0)])))
   (.bnd (loadM (some 7) t13) fun t20 =>
   .bnd (storeM 7 t3 t20) fun _ =>
   .bnd (loadM (some 7) t3) fun t22 =>
   .leaf (ret (.tup [t22, (I 0)]))))
 | _ => .leaf failM
def F_plex_Solve : List PV → PRes := runP false fun a => (B_plex_Solve a).run
/- slices.Reverse[[]byte,byte] (S) -/
def L_slices_Reverse_byte_1 (me3 : List PV → M) (t4 : List PV) : Prog :=
   .bnd (binM .lss ty_int (g t4 1) (g t4 2)) fun t5 =>
   .ifP t5
   (.bnd (idxM 1 (g t4 0) (g t4 2)) fun t6 =>
   .bnd (loadM none t6) fun t7 =>
   .bnd (idxM 1 (g t4 0) (g t4 1)) fun t8 =>
   .bnd (loadM none t8) fun t9 =>
   .bnd (idxM 1 (g t4 0) (g t4 1)) fun t10 =>
   .bnd (storeM 1 t10 t7) fun _ =>
   .bnd (idxM 1 (g t4 0) (g t4 2)) fun t12 =>
   .bnd (storeM 1 t12 t9) fun _ =>
   .bnd (binM .add ty_int (g t4 1) (I 1)) fun t14 =>
   .bnd (binM .sub ty_int (g t4 2) (I 1)) fun t15 =>
   .leaf (me3 [(g t4 0), t14, t15]))
   (.leaf (ret (.tup [])))
def B_slices_Reverse_byte : List PV → Prog
 | [a0] => .bnd (lenM a0) fun t1 =>
   .bnd (binM .sub ty_int t1 (I 1)) fun t2 =>
   .loop L_slices_Reverse_byte_1
   [a0, (I 0), t2]
 | _ => .leaf failM
def F_slices_Reverse_byte : List PV → M := fun a => (B_slices_Reverse_byte a).run
/- touchstone/nat.Text (P) -/
def L_nat_Text_1 (me5 : List PV → M) (me12 : List PV → M) (t13 : List PV) : Prog :=
   .bnd (binM .lss ty_int (g t13 3) (I 9)) fun t14 =>
   .bnd (guardM t14 true (ret (g t13 0))) fun t15 =>
   .bnd (guardM t14 true (lenM t15)) fun t16 =>
   .bnd (guardM t14 true (binM .gtr ty_int t16 (I 0))) fun t17 =>
   .bnd (guardM t14 true (ret t17)) fun t18 =>
   .bnd (guardM t18 false (ret (g t13 2))) fun t19 =>
   .bnd (guardM t18 false (binM .gtr ty_uint32 t19 (.int .u32 0))) fun t20 =>
   .bnd (guardM t14 true (pickM t18 (.bool true) t20)) fun t21 =>
   .bnd (pickM t14 t21 (.bool false)) fun t22 =>
   .ifP t22
   (.bnd (binM .rem ty_uint32 (g t13 2) (.int .u32 10)) fun t23 =>
   .bnd (binM .add ty_uint32 (.int .u32 48) t23) fun t24 =>
   .bnd (convM .u8 t24) fun t25 =>
   .bnd (buildSliceM none 1 false (.int .u8 0) 1 [(0, t25)]) fun t26 =>
   .bnd (appendM 1 1 (g t13 1) t26) fun t27 =>
   .bnd (binM .quo ty_uint32 (g t13 2) (.int .u32 10)) fun t28 =>
   .bnd (binM .add ty_int (g t13 3) (I 1)) fun t29 =>
   .leaf (me12 [(g t13 0), t27, t28, t29]))
   (.leaf (me5 [(g t13 0), (g t13 1)]))
def L_nat_Text_2 (me5 : List PV → M) (t6 : List PV) : Prog :=
   .bnd (lenM (g t6 0)) fun t7 =>
   .bnd (binM .gtr ty_int t7 (I 0)) fun t8 =>
   .ifP t8
   (.bnd (callP false none true F_nat_small [(g t6 0), (.int .u32 1000000000)]) fun t9 =>
   .bnd (extractM t9 0) fun t10 =>
   .bnd (extractM t9 1) fun t11 =>
   .loop (L_nat_Text_1 me5)
   [t10, (g t6 1), t11, (I 0)])
   (.bnd (calm true (F_slices_Reverse_byte [(g t6 1)])) fun _ =>
   .bnd (strOfM (g t6 1)) fun t31 =>
   .leaf (ret (.tup [t31, (I 0)])))
def B_nat_Text : List PV → Prog
 | [a0] => .bnd (callP false none true F_nat_Right [a0]) fun t1 =>
   .bnd (unM .not t1) fun t2 =>
   .ifP t2
   (.leaf (ret (.tup [(.str ⟨#[]⟩), (I 2)])))
   (.bnd (lenM a0) fun t3 =>
   .bnd (binM .eql ty_int t3 (I 0)) fun t4 =>
   .ifP t4
   (.leaf (ret (.tup [(.str ⟨#[48]⟩), (I 0)])))
   (.loop L_nat_Text_2
   [a0, .nilS]))
 | _ => .leaf failM
def F_nat_Text : List PV → PRes := runP false fun a => (B_nat_Text a).run
/- touchstone/signed.Text (P) -/
def B_signed_Text : List PV → Prog
 | [a0] => .bnd (boxM none 2 a0) fun t1 =>
   .bnd (loadM (some 2) t1) fun t2 =>
   .bnd (callP false none true F_signed_Right [t2]) fun t3 =>
   .bnd (unM .not t3) fun t4 =>
   .ifP t4
   (.leaf (ret (.tup [(.str ⟨#[]⟩), (I 2)])))
   (.bnd (addM 1 t1) fun t5 =>
   .bnd (loadM none t5) fun t6 =>
   .bnd (callP false none true F_nat_Text [t6]) fun t7 =>
   .bnd (extractM t7 0) fun t8 =>
   .bnd (extractM t7 1) fun _ =>
   .bnd (addM 0 t1) fun t10 =>
   .bnd (loadM none t10) fun t11 =>
   .ifP t11
   (.bnd (binM .add ty_string (.str ⟨#[45]⟩) t8) fun t12 =>
   .leaf (ret (.tup [t12, (I 0)])))
   (.leaf (ret (.tup [t8, (I 0)]))))
 | _ => .leaf failM
def F_signed_Text : List PV → PRes := runP false fun a => (B_signed_Text a).run
/- touchstone/ratio.Text (P) -/
def B_ratio_Text : List PV → Prog
 | [a0] => .bnd (boxM none 4 a0) fun t1 =>
   .bnd (loadM (some 4) t1) fun t2 =>
   .bnd (callP false none true F_ratio_Right [t2]) fun t3 =>
   .bnd (unM .not t3) fun t4 =>
   .ifP t4
   (.leaf (ret (.tup [(.str ⟨#[]⟩), (I 2)])))
   (.bnd (addM 0 t1) fun t5 =>
   .bnd (loadM (some 2) t5) fun t6 =>
   .bnd (callP false none true F_signed_Text [t6]) fun t7 =>
   .bnd (extractM t7 0) fun t8 =>
   .bnd (extractM t7 1) fun _ =>
   .bnd (addM 2 t1) fun t10 =>
   .bnd (loadM (some 2) t10) fun t11 =>
   .bnd (callP false none true F_ratio_is [t11, (I 1)]) fun t12 =>
   .ifP t12
   (.leaf (ret (.tup [t8, (I 0)])))
   (.bnd (addM 2 t1) fun t13 =>
   .bnd (loadM (some 2) t13) fun t14 =>
   .bnd (callP false none true F_signed_Text [t14]) fun t15 =>
   .bnd (extractM t15 0) fun t16 =>
   .bnd (extractM t15 1) fun _ =>
   .bnd (binM .add ty_string t8 (.str ⟨#[47]⟩)) fun t18 =>
   .bnd (binM .add ty_string t18 t16) fun t19 =>
   .leaf (ret (.tup [t19, (I 0)]))))
 | _ => .leaf failM
def F_ratio_Text : List PV → PRes := runP false fun a => (B_ratio_Text a).run
/- touchstone/plex.Proved (P) -/
def B_plex_Proved : List PV → Prog
 | [a0, a1] => .bnd (boxM none 5 a0) fun t1 =>
   .bnd (boxM none 7 a1) fun t2 =>
   .bnd (boxM none 1 (.bool false)) fun t3 =>
   .bnd (storeM 1 t3 (.bool false)) fun _ =>
   .bnd (loadM (some 5) t1) fun t5 =>
   .bnd (callP false none true F_plex_Right [t5]) fun t6 =>
   .bnd (guardM t6 true (ret (.func fid_plex_Proved_c1 [] [t1, t2, t3]))) fun t7 =>
   .bnd (guardM t6 true (calm true (F_plex_guarded [t7]))) fun t8 =>
   .bnd (pickM t6 t8 (.bool false)) fun t9 =>
   .bnd (guardM t9 true (loadM none t3)) fun t10 =>
   .bnd (pickM t9 t10 (.bool false)) fun t11 =>
   .leaf (ret t11)
 | _ => .leaf failM
def F_plex_Proved : List PV → PRes := runP false fun a => (B_plex_Proved a).run
/- touchstone/touchstonelaw20.alive (P) -/
def B_law20_alive : List PV → Prog
 | [] => .bnd (buildSliceM none 1 false (.int .i64 0) 2 [(0, (I 0)), (1, (I 0))]) fun t1 =>
   .bnd (buildSliceM none 1 false (.int .i64 0) 2 [(0, (I 3)), (1, (I 3))]) fun t2 =>
   .bnd (buildSliceM none 1 false (.int .i64 0) 2 [(0, (I 1)), (1, (I 2))]) fun t3 =>
   .bnd (buildSliceM none 1 false (.int .i64 0) 2 [(0, (I 2)), (1, (I 1))]) fun t4 =>
   .bnd (buildSliceM none 1 false .nilS 2 [(0, t3), (1, t4)]) fun t5 =>
   .bnd (buildSliceM none 1 false (.int .i64 0) 2 [(0, (I 4)), (1, (I 4))]) fun t6 =>
   .bnd (buildSliceM none 1 false (.int .i64 0) 2 [(0, (I (-1))), (1, (I (-1)))]) fun t7 =>
   .bnd (M.b (buildM [.nilS, .nilS, .nilS, .nilS, .nilS] [(0, 1, t1), (1, 1, t2), (2, 1, t5), (3, 1, t6), (4, 1, t7)]) frzM) fun t8 =>
   .bnd (boxM none 5 (.agg [.nilS, .nilS, .nilS, .nilS, .nilS])) fun t9 =>
   .bnd (storeM 5 t9 t8) fun _ =>
   .bnd (loadM (some 5) t9) fun t11 =>
   .bnd (callP false none true F_plex_Solve [t11, (I 100)]) fun t12 =>
   .bnd (extractM t12 0) fun t13 =>
   .bnd (extractM t12 1) fun t14 =>
   .bnd (boxM none 7 (.agg [(.int .i64 0), .nilS, (.bool false), .nilS, (.bool false), .nilS, .nilS])) fun t15 =>
   .bnd (storeM 7 t15 t13) fun _ =>
   .bnd (buildSliceM none 1 false (.int .i64 0) 1 [(0, (I 2))]) fun t17 =>
   .bnd (buildSliceM none 1 false (.int .i64 0) 1 [(0, (I 3))]) fun t18 =>
   .bnd (buildSliceM none 1 false (.int .i64 0) 1 [(0, (I 1))]) fun t19 =>
   .bnd (buildSliceM none 1 false .nilS 1 [(0, t19)]) fun t20 =>
   .bnd (buildSliceM none 1 false (.int .i64 0) 1 [(0, (I 1))]) fun t21 =>
   .bnd (buildSliceM none 1 false (.int .i64 0) 1 [(0, (I 0))]) fun t22 =>
   .bnd (M.b (buildM [.nilS, .nilS, .nilS, .nilS, .nilS] [(0, 1, t17), (1, 1, t18), (2, 1, t20), (3, 1, t21), (4, 1, t22)]) frzM) fun t23 =>
   .bnd (callP false none true F_plex_Solve [t23, (I 100)]) fun t24 =>
   .bnd (extractM t24 0) fun t25 =>
   .bnd (extractM t24 1) fun t26 =>
   .bnd (boxM none 7 (.agg [(.int .i64 0), .nilS, (.bool false), .nilS, (.bool false), .nilS, .nilS])) fun t27 =>
   .bnd (storeM 7 t27 t25) fun _ =>
   .bnd (addM 2 t15) fun t29 =>
   .bnd (loadM (some 4) t29) fun t30 =>
   .bnd (callP false none true F_ratio_Text [t30]) fun t31 =>
   .bnd (extractM t31 0) fun t32 =>
   .bnd (extractM t31 1) fun t33 =>
   .bnd (binM .eql ty_api_Errno t14 (I 0)) fun t34 =>
   .bnd (guardM t34 true (addM 0 t15)) fun t35 =>
   .bnd (guardM t34 true (loadM none t35)) fun t36 =>
   .bnd (guardM t34 true (binM .eql ty_int t36 (I 1))) fun t37 =>
   .bnd (pickM t34 t37 (.bool false)) fun t38 =>
   .bnd (guardM t38 true (ret t33)) fun t39 =>
   .bnd (guardM t38 true (binM .eql ty_api_Errno t39 (I 0))) fun t40 =>
   .bnd (pickM t38 t40 (.bool false)) fun t41 =>
   .bnd (guardM t41 true (ret t32)) fun t42 =>
   .bnd (guardM t41 true (binM .eql ty_string t42 (.str ⟨#[45, 56, 47, 51]⟩))) fun t43 =>
   .bnd (pickM t41 t43 (.bool false)) fun t44 =>
   .bnd (guardM t44 true (loadM (some 5) t9)) fun t45 =>
   .bnd (guardM t44 true (loadM (some 7) t15)) fun t46 =>
   .bnd (guardM t44 true (callP false none true F_plex_Proved [t45, t46])) fun t47 =>
   .bnd (pickM t44 t47 (.bool false)) fun t48 =>
   .bnd (guardM t48 true (ret t26)) fun t49 =>
   .bnd (guardM t48 true (binM .eql ty_api_Errno t49 (I 0))) fun t50 =>
   .bnd (pickM t48 t50 (.bool false)) fun t51 =>
   .bnd (guardM t51 true (addM 0 t27)) fun t52 =>
   .bnd (guardM t51 true (loadM none t52)) fun t53 =>
   .bnd (guardM t51 true (binM .eql ty_int t53 (I 2))) fun t54 =>
   .bnd (pickM t51 t54 (.bool false)) fun t55 =>
   .bnd (guardM t55 true (addM 6 t27)) fun t56 =>
   .bnd (guardM t55 true (loadM none t56)) fun t57 =>
   .bnd (guardM t55 true (lenM t57)) fun t58 =>
   .bnd (guardM t55 true (binM .eql ty_int t58 (I 1))) fun t59 =>
   .bnd (pickM t55 t59 (.bool false)) fun t60 =>
   .bnd (guardM t60 true (loadM (some 5) t9)) fun t61 =>
   .bnd (guardM t60 true (callP false none true F_plex_Right [t61])) fun t62 =>
   .bnd (pickM t60 t62 (.bool false)) fun t63 =>
   .leaf (ret t63)
 | _ => .leaf failM
def F_law20_alive : List PV → PRes := runP false fun a => (B_law20_alive a).run
/- touchstone/touchstonelaw20.fits (P) -/
def L_law20_fits_1 (me29 : List PV → M) (t30 : List PV) : Prog :=
   .bnd (binM .lss ty_int (g t30 2) (g t30 1)) fun t31 =>
   .ifP t31
   (.bnd (addM 2 (g t30 0)) fun t32 =>
   .bnd (loadM none t32) fun t33 =>
   .bnd (idxM 1 t33 (g t30 2)) fun t34 =>
   .bnd (loadM none t34) fun t35 =>
   .bnd (lenM t35) fun t36 =>
   .bnd (binM .gtr ty_int t36 (I 200)) fun t37 =>
   .ifP t37
   (.leaf (ret (.bool false)))
   (.bnd (binM .add ty_int (g t30 2) (I 1)) fun t38 =>
   .leaf (me29 [(g t30 0), (g t30 1), t38])))
   (.leaf (ret (.bool true)))
def B_law20_fits : List PV → Prog
 | [a0] => .bnd (boxM none 5 a0) fun t1 =>
   .bnd (addM 0 t1) fun t2 =>
   .bnd (loadM none t2) fun t3 =>
   .bnd (lenM t3) fun t4 =>
   .bnd (binM .gtr ty_int t4 (I 200)) fun t5 =>
   .bnd (guardM t5 false (addM 1 t1)) fun t6 =>
   .bnd (guardM t5 false (loadM none t6)) fun t7 =>
   .bnd (guardM t5 false (lenM t7)) fun t8 =>
   .bnd (guardM t5 false (binM .gtr ty_int t8 (I 200))) fun t9 =>
   .bnd (pickM t5 (.bool true) t9) fun t10 =>
   .bnd (guardM t10 false (addM 4 t1)) fun t11 =>
   .bnd (guardM t10 false (loadM none t11)) fun t12 =>
   .bnd (guardM t10 false (lenM t12)) fun t13 =>
   .bnd (guardM t10 false (binM .gtr ty_int t13 (I 200))) fun t14 =>
   .bnd (pickM t10 (.bool true) t14) fun t15 =>
   .bnd (guardM t15 false (addM 2 t1)) fun t16 =>
   .bnd (guardM t15 false (loadM none t16)) fun t17 =>
   .bnd (guardM t15 false (lenM t17)) fun t18 =>
   .bnd (guardM t15 false (binM .gtr ty_int t18 (I 200))) fun t19 =>
   .bnd (pickM t15 (.bool true) t19) fun t20 =>
   .bnd (guardM t20 false (addM 3 t1)) fun t21 =>
   .bnd (guardM t20 false (loadM none t21)) fun t22 =>
   .bnd (guardM t20 false (lenM t22)) fun t23 =>
   .bnd (guardM t20 false (binM .gtr ty_int t23 (I 200))) fun t24 =>
   .bnd (pickM t20 (.bool true) t24) fun t25 =>
   .ifP t25
   (.leaf (ret (.bool false)))
   (.bnd (addM 2 t1) fun t26 =>
   .bnd (loadM none t26) fun t27 =>
   .bnd (lenM t27) fun t28 =>
   .loop L_law20_fits_1
   [t1, t28, (I 0)])
 | _ => .leaf failM
def F_law20_fits : List PV → PRes := runP false fun a => (B_law20_fits a).run
/- touchstone/touchstonelaw20.few (P) -/
def L_law20_few_1 (me4 : List PV → M) (t5 : List PV) : Prog :=
   .bnd (binM .lss ty_int (g t5 2) (g t5 1)) fun t6 =>
   .ifP t6
   (.bnd (idxM 4 (g t5 0) (g t5 2)) fun t7 =>
   .bnd (loadM (some 4) t7) fun t8 =>
   .bnd (boxM none 4 (.agg [(.bool false), .nilS, (.bool false), .nilS])) fun t9 =>
   .bnd (storeM 4 t9 t8) fun _ =>
   .bnd (addM 0 t9) fun t11 =>
   .bnd (addM 1 t11) fun t12 =>
   .bnd (loadM none t12) fun t13 =>
   .bnd (lenM t13) fun t14 =>
   .bnd (binM .gtr ty_int t14 (I 20)) fun t15 =>
   .bnd (guardM t15 false (addM 2 t9)) fun t16 =>
   .bnd (guardM t15 false (addM 1 t16)) fun t17 =>
   .bnd (guardM t15 false (loadM none t17)) fun t18 =>
   .bnd (guardM t15 false (lenM t18)) fun t19 =>
   .bnd (guardM t15 false (binM .gtr ty_int t19 (I 20))) fun t20 =>
   .bnd (pickM t15 (.bool true) t20) fun t21 =>
   .ifP t21
   (.leaf (ret (.bool false)))
   (.bnd (binM .add ty_int (g t5 2) (I 1)) fun t22 =>
   .leaf (me4 [(g t5 0), (g t5 1), t22])))
   (.leaf (ret (.bool true)))
def B_law20_few : List PV → Prog
 | [a0] => .bnd (lenM a0) fun t1 =>
   .bnd (binM .gtr ty_int t1 (I 200)) fun t2 =>
   .ifP t2
   (.leaf (ret (.bool false)))
   (.bnd (lenM a0) fun t3 =>
   .loop L_law20_few_1
   [a0, t3, (I 0)])
 | _ => .leaf failM
def F_law20_few : List PV → PRes := runP false fun a => (B_law20_few a).run
/- touchstone/touchstonelaw20.Theirs (P) -/
def B_law20_Theirs : List PV → Prog
 | [a0] => .bnd (boxM none 5 a0) fun t1 =>
   .bnd (boxM none 5 (.agg [.nilS, .nilS, .nilS, .nilS, .nilS])) fun t2 =>
   .bnd (addM 0 t1) fun t3 =>
   .bnd (loadM none t3) fun t4 =>
   .bnd (addM 1 t1) fun t5 =>
   .bnd (loadM none t5) fun t6 =>
   .bnd (addM 2 t1) fun t7 =>
   .bnd (loadM none t7) fun t8 =>
   .bnd (addM 3 t1) fun t9 =>
   .bnd (loadM none t9) fun t10 =>
   .bnd (addM 4 t1) fun t11 =>
   .bnd (loadM none t11) fun t12 =>
   .bnd (buildM [.nilS, .nilS, .nilS, .nilS, .nilS] [(0, 1, t4), (1, 1, t6), (2, 1, t8), (3, 1, t10), (4, 1, t12)]) fun t13 =>
   .bnd (storeM 5 t2 t13) fun _ =>
   .bnd (loadM (some 5) t2) fun t15 =>
   .leaf (ret t15)
 | _ => .leaf failM
def F_law20_Theirs : List PV → PRes := runP false fun a => (B_law20_Theirs a).run
/- touchstone/touchstonelaw04.whole (P) -/
def B_law04_whole : List PV → Prog
 | [a0] => .bnd (boxM none 2 a0) fun t1 =>
   .bnd (boxM none 2 (.agg [(.bool false), .nilS])) fun t2 =>
   .bnd (addM 0 t1) fun t3 =>
   .bnd (loadM none t3) fun t4 =>
   .bnd (addM 1 t1) fun t5 =>
   .bnd (loadM none t5) fun t6 =>
   .bnd (buildM [(.bool false), .nilS] [(0, 1, t4), (1, 1, t6)]) fun t7 =>
   .bnd (storeM 2 t2 t7) fun _ =>
   .bnd (loadM (some 2) t2) fun t9 =>
   .leaf (ret t9)
 | _ => .leaf failM
def F_law04_whole : List PV → PRes := runP false fun a => (B_law04_whole a).run
/- touchstone/touchstonelaw04.Theirs (P) -/
def B_law04_Theirs : List PV → Prog
 | [a0] => .bnd (boxM none 4 a0) fun t1 =>
   .bnd (boxM none 4 (.agg [(.bool false), .nilS, (.bool false), .nilS])) fun t2 =>
   .bnd (addM 0 t1) fun t3 =>
   .bnd (loadM (some 2) t3) fun t4 =>
   .bnd (callP false none false F_law04_whole [t4]) fun t5 =>
   .bnd (addM 2 t1) fun t6 =>
   .bnd (loadM (some 2) t6) fun t7 =>
   .bnd (callP false none true F_law04_whole [t7]) fun t8 =>
   .bnd (buildM [(.bool false), .nilS, (.bool false), .nilS] [(0, 2, t5), (2, 2, t8)]) fun t9 =>
   .bnd (storeM 4 t2 t9) fun _ =>
   .bnd (loadM (some 4) t2) fun t11 =>
   .leaf (ret t11)
 | _ => .leaf failM
def F_law04_Theirs : List PV → PRes := runP false fun a => (B_law04_Theirs a).run
/- touchstone/touchstonelaw20.Rats (P) -/
def L_law20_Rats_1 (me2 : List PV → M) (t3 : List PV) : Prog :=
   .bnd (binM .lss ty_int (g t3 3) (g t3 2)) fun t4 =>
   .ifP t4
   (.bnd (idxM 4 (g t3 1) (g t3 3)) fun t5 =>
   .bnd (loadM (some 4) t5) fun t6 =>
   .bnd (boxM none 4 (.agg [(.bool false), .nilS, (.bool false), .nilS])) fun t7 =>
   .bnd (storeM 4 t7 t6) fun _ =>
   .bnd (loadM (some 4) t7) fun t9 =>
   .bnd (callP false none true F_law04_Theirs [t9]) fun t10 =>
   .bnd (buildSliceM none 4 true (.agg [(.bool false), .nilS, (.bool false), .nilS]) 1 [(0, t10)]) fun t11 =>
   .bnd (appendM 4 64 (g t3 0) t11) fun t12 =>
   .bnd (binM .add ty_int (g t3 3) (I 1)) fun t13 =>
   .leaf (me2 [t12, (g t3 1), (g t3 2), t13]))
   (.leaf (ret (g t3 0)))
def B_law20_Rats : List PV → Prog
 | [a0] => .bnd (lenM a0) fun t1 =>
   .loop L_law20_Rats_1
   [.nilS, a0, t1, (I 0)]
 | _ => .leaf failM
def F_law20_Rats : List PV → PRes := runP false fun a => (B_law20_Rats a).run
/- touchstone/plex.Bound (P) -/
def B_plex_Bound : List PV → Prog
 | [a0, a1] => .bnd (boxM none 5 a0) fun t1 =>
   .bnd (boxM none 1 a1) fun t2 =>
   .bnd (boxM none 4 (.agg [(.bool false), .nilS, (.bool false), .nilS])) fun t3 =>
   .bnd (loadM (some 5) t1) fun t4 =>
   .bnd (callP false none true F_plex_Right [t4]) fun t5 =>
   .bnd (unM .not t5) fun t6 =>
   .bnd (guardM t6 false (loadM (some 5) t1)) fun t7 =>
   .bnd (guardM t6 false (loadM none t2)) fun t8 =>
   .bnd (guardM t6 false (callP false none true F_plex_numbers [t7, t8])) fun t9 =>
   .bnd (guardM t6 false (unM .not t9)) fun t10 =>
   .bnd (pickM t6 (.bool true) t10) fun t11 =>
   .ifP t11
   (.bnd (buildM [(.bool false), .nilS, (.bool false), .nilS] []) fun t12 =>
   .bnd (storeM 4 t3 t12) fun _ =>
   .bnd (loadM (some 4) t3) fun t14 =>
   .leaf (ret (.tup [t14, (I 2)])))
   (.bnd (boxM none 4 (.agg [(.bool false), .nilS, (.bool false), .nilS])) fun t15 =>
   .bnd (ret (.func fid_plex_Bound_c1 [] [t1, t2, t15])) fun t16 =>
   .bnd (calm true (F_plex_guarded [t16])) fun t17 =>
   .bnd (unM .not t17) fun t18 =>
   .ifP t18
   (.bnd (buildM [(.bool false), .nilS, (.bool false), .nilS] []) fun t19 =>
   .bnd (storeM 4 t3 t19) fun _ =>
   .bnd (loadM (some 4) t3) fun t21 =>
   .leaf (ret (.tup [t21, (I 3)])))
   (.bnd (loadM (some 4) t15) fun t22 =>
   .bnd (storeM 4 t3 t22) fun _ =>
   .bnd (loadM (some 4) t3) fun t24 =>
   .leaf (ret (.tup [t24, (I 0)]))))
 | _ => .leaf failM
def F_plex_Bound : List PV → PRes := runP false fun a => (B_plex_Bound a).run
/- touchstone/touchstoneref08.Within (P) -/
def B_ref08_Within : List PV → Prog
 | [a0] => .bnd (binM .geq ty_int64 a0 (I (-1048576))) fun t1 =>
   .bnd (guardM t1 true (ret a0)) fun t2 =>
   .bnd (guardM t1 true (binM .leq ty_int64 t2 (I 1048576))) fun t3 =>
   .bnd (pickM t1 t3 (.bool false)) fun t4 =>
   .leaf (ret t4)
 | _ => .leaf failM
def F_ref08_Within : List PV → PRes := runP false fun a => (B_ref08_Within a).run
/- touchstone/touchstoneref20.within (P) -/
def L_ref20_within_1 (me1 : List PV → M) (t2 : List PV) : Prog :=
   .bnd (lenM (g t2 0)) fun t3 =>
   .bnd (binM .lss ty_int (g t2 1) t3) fun t4 =>
   .ifP t4
   (.bnd (idxM 1 (g t2 0) (g t2 1)) fun t5 =>
   .bnd (loadM none t5) fun t6 =>
   .bnd (callP false none true F_ref08_Within [t6]) fun t7 =>
   .bnd (unM .not t7) fun t8 =>
   .ifP t8
   (.leaf (ret (.bool false)))
   (.bnd (binM .add ty_int (g t2 1) (I 1)) fun t9 =>
   .leaf (me1 [(g t2 0), t9])))
   (.leaf (ret (.bool true)))
def B_ref20_within : List PV → Prog
 | [a0] => .loop L_ref20_within_1
   [a0, (I 0)]
 | _ => .leaf failM
def F_ref20_within : List PV → PRes := runP false fun a => (B_ref20_within a).run
/- touchstone/touchstoneref20.Right (P) -/
def L_ref20_Right_1 (me59 : List PV → M) (t60 : List PV) : Prog :=
   .bnd (addM 2 (g t60 0)) fun t61 =>
   .bnd (loadM none t61) fun t62 =>
   .bnd (lenM t62) fun t63 =>
   .bnd (binM .lss ty_int (g t60 2) t63) fun t64 =>
   .ifP t64
   (.bnd (addM 2 (g t60 0)) fun t65 =>
   .bnd (loadM none t65) fun t66 =>
   .bnd (idxM 1 t66 (g t60 2)) fun t67 =>
   .bnd (loadM none t67) fun t68 =>
   .bnd (lenM t68) fun t69 =>
   .bnd (binM .neq ty_int t69 (g t60 1)) fun t70 =>
   .bnd (guardM t70 false (addM 2 (g t60 0))) fun t71 =>
   .bnd (guardM t70 false (loadM none t71)) fun t72 =>
   .bnd (guardM t70 false (ret (g t60 2))) fun t73 =>
   .bnd (guardM t70 false (idxM 1 t72 t73)) fun t74 =>
   .bnd (guardM t70 false (loadM none t74)) fun t75 =>
   .bnd (guardM t70 false (callP false none true F_ref20_within [t75])) fun t76 =>
   .bnd (guardM t70 false (unM .not t76)) fun t77 =>
   .bnd (pickM t70 (.bool true) t77) fun t78 =>
   .bnd (guardM t78 false (addM 3 (g t60 0))) fun t79 =>
   .bnd (guardM t78 false (loadM none t79)) fun t80 =>
   .bnd (guardM t78 false (ret (g t60 2))) fun t81 =>
   .bnd (guardM t78 false (idxM 1 t80 t81)) fun t82 =>
   .bnd (guardM t78 false (loadM none t82)) fun t83 =>
   .bnd (guardM t78 false (binM .lss ty_int64 t83 (I (-1099511627776)))) fun t84 =>
   .bnd (pickM t78 (.bool true) t84) fun t85 =>
   .bnd (guardM t85 false (addM 3 (g t60 0))) fun t86 =>
   .bnd (guardM t85 false (loadM none t86)) fun t87 =>
   .bnd (guardM t85 false (ret (g t60 2))) fun t88 =>
   .bnd (guardM t85 false (idxM 1 t87 t88)) fun t89 =>
   .bnd (guardM t85 false (loadM none t89)) fun t90 =>
   .bnd (guardM t85 false (binM .gtr ty_int64 t90 (I 1099511627776))) fun t91 =>
   .bnd (pickM t85 (.bool true) t91) fun t92 =>
   .ifP t92
   (.leaf (ret (.bool false)))
   (.bnd (binM .add ty_int (g t60 2) (I 1)) fun t93 =>
   .leaf (me59 [(g t60 0), (g t60 1), t93])))
   (.leaf (ret (.bool true)))
def L_ref20_Right_2 (me46 : List PV → M) (t47 : List PV) : Prog :=
   .bnd (binM .lss ty_int (g t47 2) (g t47 1)) fun t48 =>
   .ifP t48
   (.bnd (addM 0 (g t47 0)) fun t49 =>
   .bnd (loadM none t49) fun t50 =>
   .bnd (idxM 1 t50 (g t47 2)) fun t51 =>
   .bnd (loadM none t51) fun t52 =>
   .bnd (addM 1 (g t47 0)) fun t53 =>
   .bnd (loadM none t53) fun t54 =>
   .bnd (idxM 1 t54 (g t47 2)) fun t55 =>
   .bnd (loadM none t55) fun t56 =>
   .bnd (binM .gtr ty_int64 t52 t56) fun t57 =>
   .ifP t57
   (.leaf (ret (.bool false)))
   (.bnd (binM .add ty_int (g t47 2) (I 1)) fun t58 =>
   .leaf (me46 [(g t47 0), (g t47 1), t58])))
   (.loop L_ref20_Right_1
   [(g t47 0), (g t47 1), (I 0)])
def B_ref20_Right : List PV → Prog
 | [a0] => .bnd (boxM none 5 a0) fun t1 =>
   .bnd (addM 0 t1) fun t2 =>
   .bnd (loadM none t2) fun t3 =>
   .bnd (lenM t3) fun t4 =>
   .bnd (binM .gtr ty_int t4 (I 64)) fun t5 =>
   .bnd (guardM t5 false (addM 1 t1)) fun t6 =>
   .bnd (guardM t5 false (loadM none t6)) fun t7 =>
   .bnd (guardM t5 false (lenM t7)) fun t8 =>
   .bnd (guardM t5 false (ret t4)) fun t9 =>
   .bnd (guardM t5 false (binM .neq ty_int t8 t9)) fun t10 =>
   .bnd (pickM t5 (.bool true) t10) fun t11 =>
   .bnd (guardM t11 false (addM 4 t1)) fun t12 =>
   .bnd (guardM t11 false (loadM none t12)) fun t13 =>
   .bnd (guardM t11 false (lenM t13)) fun t14 =>
   .bnd (guardM t11 false (ret t4)) fun t15 =>
   .bnd (guardM t11 false (binM .neq ty_int t14 t15)) fun t16 =>
   .bnd (pickM t11 (.bool true) t16) fun t17 =>
   .bnd (guardM t17 false (addM 2 t1)) fun t18 =>
   .bnd (guardM t17 false (loadM none t18)) fun t19 =>
   .bnd (guardM t17 false (lenM t19)) fun t20 =>
   .bnd (guardM t17 false (addM 3 t1)) fun t21 =>
   .bnd (guardM t17 false (loadM none t21)) fun t22 =>
   .bnd (guardM t17 false (lenM t22)) fun t23 =>
   .bnd (guardM t17 false (binM .neq ty_int t20 t23)) fun t24 =>
   .bnd (pickM t17 (.bool true) t24) fun t25 =>
   .bnd (guardM t25 false (addM 2 t1)) fun t26 =>
   .bnd (guardM t25 false (loadM none t26)) fun t27 =>
   .bnd (guardM t25 false (lenM t27)) fun t28 =>
   .bnd (guardM t25 false (binM .gtr ty_int t28 (I 160))) fun t29 =>
   .bnd (pickM t25 (.bool true) t29) fun t30 =>
   .bnd (guardM t30 false (addM 0 t1)) fun t31 =>
   .bnd (guardM t30 false (loadM none t31)) fun t32 =>
   .bnd (guardM t30 false (callP false none true F_ref20_within [t32])) fun t33 =>
   .bnd (guardM t30 false (unM .not t33)) fun t34 =>
   .bnd (pickM t30 (.bool true) t34) fun t35 =>
   .bnd (guardM t35 false (addM 1 t1)) fun t36 =>
   .bnd (guardM t35 false (loadM none t36)) fun t37 =>
   .bnd (guardM t35 false (callP false none true F_ref20_within [t37])) fun t38 =>
   .bnd (guardM t35 false (unM .not t38)) fun t39 =>
   .bnd (pickM t35 (.bool true) t39) fun t40 =>
   .bnd (guardM t40 false (addM 4 t1)) fun t41 =>
   .bnd (guardM t40 false (loadM none t41)) fun t42 =>
   .bnd (guardM t40 false (callP false none true F_ref20_within [t42])) fun t43 =>
   .bnd (guardM t40 false (unM .not t43)) fun t44 =>
   .bnd (pickM t40 (.bool true) t44) fun t45 =>
   .ifP t45
   (.leaf (ret (.bool false)))
   (.loop L_ref20_Right_2
   [t1, t4, (I 0)])
 | _ => .leaf failM
def F_ref20_Right : List PV → PRes := runP false fun a => (B_ref20_Right a).run
/- touchstone/touchstoneref02.Right (P) -/
def B_ref02_Right : List PV → Prog
 | [a0] => .bnd (lenM a0) fun t1 =>
   .bnd (binM .leq ty_int t1 (I 256)) fun t2 =>
   .bnd (guardM t2 true (ret a0)) fun t3 =>
   .bnd (guardM t2 true (lenM t3)) fun t4 =>
   .bnd (guardM t2 true (binM .eql ty_int t4 (I 0))) fun t5 =>
   .bnd (guardM t2 true (ret t5)) fun t6 =>
   .bnd (guardM t6 false (ret a0)) fun t7 =>
   .bnd (guardM t6 false (ret a0)) fun t8 =>
   .bnd (guardM t6 false (lenM t8)) fun t9 =>
   .bnd (guardM t6 false (binM .sub ty_int t9 (I 1))) fun t10 =>
   .bnd (guardM t6 false (idxM 1 t7 t10)) fun t11 =>
   .bnd (guardM t6 false (loadM none t11)) fun t12 =>
   .bnd (guardM t6 false (binM .neq ty_uint32 t12 (.int .u32 0))) fun t13 =>
   .bnd (guardM t2 true (pickM t6 (.bool true) t13)) fun t14 =>
   .bnd (pickM t2 t14 (.bool false)) fun t15 =>
   .leaf (ret t15)
 | _ => .leaf failM
def F_ref02_Right : List PV → PRes := runP false fun a => (B_ref02_Right a).run
/- touchstone/touchstoneref03.Right (P) -/
def B_ref03_Right : List PV → Prog
 | [a0] => .bnd (boxM none 2 a0) fun t1 =>
   .bnd (addM 1 t1) fun t2 =>
   .bnd (loadM none t2) fun t3 =>
   .bnd (callP false none true F_ref02_Right [t3]) fun t4 =>
   .bnd (guardM t4 true (addM 0 t1)) fun t5 =>
   .bnd (guardM t4 true (loadM none t5)) fun t6 =>
   .bnd (guardM t4 true (ret t6)) fun t7 =>
   .bnd (guardM t7 true (addM 1 t1)) fun t8 =>
   .bnd (guardM t7 true (loadM none t8)) fun t9 =>
   .bnd (guardM t7 true (lenM t9)) fun t10 =>
   .bnd (guardM t7 true (binM .eql ty_int t10 (I 0))) fun t11 =>
   .bnd (guardM t4 true (pickM t7 t11 (.bool false))) fun t12 =>
   .bnd (guardM t4 true (unM .not t12)) fun t13 =>
   .bnd (pickM t4 t13 (.bool false)) fun t14 =>
   .leaf (ret t14)
 | _ => .leaf failM
def F_ref03_Right : List PV → PRes := runP false fun a => (B_ref03_Right a).run
/- touchstone/touchstoneref02.digit (P) -/
def B_ref02_digit : List PV → Prog
 | [a0, a1] => .bnd (binM .geq ty_int a1 (I 0)) fun t1 =>
   .bnd (guardM t1 true (ret a1)) fun t2 =>
   .bnd (guardM t1 true (ret a0)) fun t3 =>
   .bnd (guardM t1 true (lenM t3)) fun t4 =>
   .bnd (guardM t1 true (binM .lss ty_int t2 t4)) fun t5 =>
   .bnd (pickM t1 t5 (.bool false)) fun t6 =>
   .ifP t6
   (.bnd (idxM 1 a0 a1) fun t7 =>
   .bnd (loadM none t7) fun t8 =>
   .bnd (convM .u64 t8) fun t9 =>
   .leaf (ret t9))
   (.leaf (ret (.int .u64 0)))
 | _ => .leaf failM
def F_ref02_digit : List PV → PRes := runP false fun a => (B_ref02_digit a).run
/- touchstone/touchstoneref02.trim (P) -/
def L_ref02_trim_1 (me13 : List PV → M) (t14 : List PV) : Prog :=
   .bnd (binM .lss ty_int (g t14 3) (g t14 1)) fun t15 =>
   .ifP t15
   (.bnd (idxM 1 (g t14 0) (g t14 3)) fun t16 =>
   .bnd (loadM none t16) fun t17 =>
   .bnd (buildSliceM none 1 false (.int .u32 0) 1 [(0, t17)]) fun t18 =>
   .bnd (appendM 1 4 (g t14 2) t18) fun t19 =>
   .bnd (binM .add ty_int (g t14 3) (I 1)) fun t20 =>
   .leaf (me13 [(g t14 0), (g t14 1), t19, t20]))
   (.leaf (ret (g t14 2)))
def L_ref02_trim_2 (me2 : List PV → M) (t3 : List PV) : Prog :=
   .bnd (binM .gtr ty_int (g t3 1) (I 0)) fun t4 =>
   .bnd (guardM t4 true (ret (g t3 0))) fun t5 =>
   .bnd (guardM t4 true (ret (g t3 1))) fun t6 =>
   .bnd (guardM t4 true (binM .sub ty_int t6 (I 1))) fun t7 =>
   .bnd (guardM t4 true (idxM 1 t5 t7)) fun t8 =>
   .bnd (guardM t4 true (loadM none t8)) fun t9 =>
   .bnd (guardM t4 true (binM .eql ty_uint32 t9 (.int .u32 0))) fun t10 =>
   .bnd (pickM t4 t10 (.bool false)) fun t11 =>
   .ifP t11
   (.bnd (binM .sub ty_int (g t3 1) (I 1)) fun t12 =>
   .leaf (me2 [(g t3 0), t12]))
   (.loop L_ref02_trim_1
   [(g t3 0), (g t3 1), .nilS, (I 0)])
def B_ref02_trim : List PV → Prog
 | [a0] => .bnd (lenM a0) fun t1 =>
   .loop L_ref02_trim_2
   [a0, t1]
 | _ => .leaf failM
def F_ref02_trim : List PV → PRes := runP false fun a => (B_ref02_trim a).run
/- touchstone/touchstoneref02.Plus (P) -/
def L_ref02_Plus_1 (me1 : List PV → M) (t2 : List PV) : Prog :=
   .bnd (lenM (g t2 0)) fun t3 =>
   .bnd (lenM (g t2 1)) fun t4 =>
   .bnd (opt (maxI [t3, t4])) fun t5 =>
   .bnd (binM .add ty_int t5 (I 1)) fun t6 =>
   .bnd (binM .lss ty_int (g t2 4) t6) fun t7 =>
   .ifP t7
   (.bnd (callP false none true F_ref02_digit [(g t2 0), (g t2 4)]) fun t8 =>
   .bnd (callP false none true F_ref02_digit [(g t2 1), (g t2 4)]) fun t9 =>
   .bnd (binM .add ty_uint64 t8 t9) fun t10 =>
   .bnd (binM .add ty_uint64 t10 (g t2 3)) fun t11 =>
   .bnd (binM .rem ty_uint64 t11 (.int .u64 4294967296)) fun t12 =>
   .bnd (convM .u32 t12) fun t13 =>
   .bnd (buildSliceM none 1 false (.int .u32 0) 1 [(0, t13)]) fun t14 =>
   .bnd (appendM 1 4 (g t2 2) t14) fun t15 =>
   .bnd (binM .quo ty_uint64 t11 (.int .u64 4294967296)) fun t16 =>
   .bnd (binM .add ty_int (g t2 4) (I 1)) fun t17 =>
   .leaf (me1 [(g t2 0), (g t2 1), t15, t16, t17]))
   (.bnd (callP true none true F_ref02_trim [(g t2 2)]) fun t18 =>
   .leaf (ret t18))
def B_ref02_Plus : List PV → Prog
 | [a0, a1] => .loop L_ref02_Plus_1
   [a0, a1, .nilS, (.int .u64 0), (I 0)]
 | _ => .leaf failM
def F_ref02_Plus : List PV → PRes := runP false fun a => (B_ref02_Plus a).run
/- touchstone/touchstoneref02.Of (P) -/
def B_ref02_Of : List PV → Prog
 | [a0] => .bnd (binM .rem ty_uint64 a0 (.int .u64 4294967296)) fun t1 =>
   .bnd (convM .u32 t1) fun t2 =>
   .bnd (binM .quo ty_uint64 a0 (.int .u64 4294967296)) fun t3 =>
   .bnd (convM .u32 t3) fun t4 =>
   .bnd (buildSliceM none 1 false (.int .u32 0) 2 [(0, t2), (1, t4)]) fun t5 =>
   .bnd (callP true none true F_ref02_trim [t5]) fun t6 =>
   .leaf (ret t6)
 | _ => .leaf failM
def F_ref02_Of : List PV → PRes := runP false fun a => (B_ref02_Of a).run
/- touchstone/touchstoneref02.twice (P) -/
def B_ref02_twice : List PV → Prog
 | [a0, a1] => .bnd (callP false none true F_ref02_Plus [a0, a0]) fun t1 =>
   .bnd (callP false none true F_ref02_Of [a1]) fun t2 =>
   .bnd (callP false none true F_ref02_Plus [t1, t2]) fun t3 =>
   .leaf (ret t3)
 | _ => .leaf failM
def F_ref02_twice : List PV → PRes := runP false fun a => (B_ref02_twice a).run
/- touchstone/touchstoneref02.Less (P) -/
def L_ref02_Less_1 (me9 : List PV → M) (t10 : List PV) : Prog :=
   .bnd (binM .geq ty_int (g t10 2) (I 0)) fun t11 =>
   .ifP t11
   (.bnd (idxM 1 (g t10 0) (g t10 2)) fun t12 =>
   .bnd (loadM none t12) fun t13 =>
   .bnd (idxM 1 (g t10 1) (g t10 2)) fun t14 =>
   .bnd (loadM none t14) fun t15 =>
   .bnd (binM .neq ty_uint32 t13 t15) fun t16 =>
   .ifP t16
   (.bnd (idxM 1 (g t10 0) (g t10 2)) fun t17 =>
   .bnd (loadM none t17) fun t18 =>
   .bnd (idxM 1 (g t10 1) (g t10 2)) fun t19 =>
   .bnd (loadM none t19) fun t20 =>
   .bnd (binM .lss ty_uint32 t18 t20) fun t21 =>
   .leaf (ret t21))
   (.bnd (binM .sub ty_int (g t10 2) (I 1)) fun t22 =>
   .leaf (me9 [(g t10 0), (g t10 1), t22])))
   (.leaf (ret (.bool false)))
def B_ref02_Less : List PV → Prog
 | [a0, a1] => .bnd (lenM a0) fun t1 =>
   .bnd (lenM a1) fun t2 =>
   .bnd (binM .neq ty_int t1 t2) fun t3 =>
   .ifP t3
   (.bnd (lenM a0) fun t4 =>
   .bnd (lenM a1) fun t5 =>
   .bnd (binM .lss ty_int t4 t5) fun t6 =>
   .leaf (ret t6))
   (.bnd (lenM a0) fun t7 =>
   .bnd (binM .sub ty_int t7 (I 1)) fun t8 =>
   .loop L_ref02_Less_1
   [a0, a1, t8])
 | _ => .leaf failM
def F_ref02_Less : List PV → PRes := runP false fun a => (B_ref02_Less a).run
/- touchstone/touchstoneref02.Minus (P) -/
def L_ref02_Minus_1 (me1 : List PV → M) (t2 : List PV) : Prog :=
   .bnd (lenM (g t2 0)) fun t3 =>
   .bnd (binM .lss ty_int (g t2 4) t3) fun t4 =>
   .ifP t4
   (.bnd (callP false none true F_ref02_digit [(g t2 0), (g t2 4)]) fun t5 =>
   .bnd (binM .add ty_uint64 (.int .u64 4294967296) t5) fun t6 =>
   .bnd (callP false none true F_ref02_digit [(g t2 1), (g t2 4)]) fun t7 =>
   .bnd (binM .sub ty_uint64 t6 t7) fun t8 =>
   .bnd (binM .sub ty_uint64 t8 (g t2 3)) fun t9 =>
   .bnd (binM .rem ty_uint64 t9 (.int .u64 4294967296)) fun t10 =>
   .bnd (convM .u32 t10) fun t11 =>
   .bnd (buildSliceM none 1 false (.int .u32 0) 1 [(0, t11)]) fun t12 =>
   .bnd (appendM 1 4 (g t2 2) t12) fun t13 =>
   .bnd (binM .quo ty_uint64 t9 (.int .u64 4294967296)) fun t14 =>
   .bnd (binM .sub ty_uint64 (.int .u64 1) t14) fun t15 =>
   .bnd (binM .add ty_int (g t2 4) (I 1)) fun t16 =>
   .leaf (me1 [(g t2 0), (g t2 1), t13, t15, t16]))
   (.bnd (callP true none true F_ref02_trim [(g t2 2)]) fun t17 =>
   .leaf (ret t17))
def B_ref02_Minus : List PV → Prog
 | [a0, a1] => .loop L_ref02_Minus_1
   [a0, a1, .nilS, (.int .u64 0), (I 0)]
 | _ => .leaf failM
def F_ref02_Minus : List PV → PRes := runP false fun a => (B_ref02_Minus a).run
/- touchstone/touchstoneref02.DivMod (P) -/
def L_ref02_DivMod_1 (me14 : List PV → M) (t15 : List PV) : Prog :=
   .bnd (binM .geq ty_int (g t15 4) (I 0)) fun t16 =>
   .ifP t16
   (.bnd (binM .quo ty_int (g t15 4) (I 32)) fun t17 =>
   .bnd (idxM 1 (g t15 0) t17) fun t18 =>
   .bnd (loadM none t18) fun t19 =>
   .bnd (convM .u64 t19) fun t20 =>
   .bnd (binM .rem ty_int (g t15 4) (I 32)) fun t21 =>
   .bnd (convM .u64 t21) fun t22 =>
   .bnd (binM .shr ty_uint64 t20 t22) fun t23 =>
   .bnd (binM .rem ty_uint64 t23 (.int .u64 2)) fun t24 =>
   .bnd (callP false none true F_ref02_twice [(g t15 3), t24]) fun t25 =>
   .bnd (callP false none true F_ref02_Less [t25, (g t15 1)]) fun t26 =>
   .ifP t26
   (.bnd (callP false none true F_ref02_twice [(g t15 2), (.int .u64 0)]) fun t27 =>
   .bnd (binM .sub ty_int (g t15 4) (I 1)) fun t28 =>
   .leaf (me14 [(g t15 0), (g t15 1), t27, t25, t28]))
   (.bnd (callP false none true F_ref02_Minus [t25, (g t15 1)]) fun t29 =>
   .bnd (callP false none true F_ref02_twice [(g t15 2), (.int .u64 1)]) fun t30 =>
   .bnd (binM .sub ty_int (g t15 4) (I 1)) fun t31 =>
   .leaf (me14 [(g t15 0), (g t15 1), t30, t29, t31])))
   (.leaf (ret (.tup [(g t15 2), (g t15 3), (I 0)])))
def B_ref02_DivMod : List PV → Prog
 | [a0, a1] => .bnd (callP false none true F_ref02_Right [a0]) fun t1 =>
   .bnd (unM .not t1) fun t2 =>
   .bnd (guardM t2 false (ret a1)) fun t3 =>
   .bnd (guardM t2 false (callP false none true F_ref02_Right [t3])) fun t4 =>
   .bnd (guardM t2 false (unM .not t4)) fun t5 =>
   .bnd (pickM t2 (.bool true) t5) fun t6 =>
   .bnd (guardM t6 false (ret a1)) fun t7 =>
   .bnd (guardM t6 false (lenM t7)) fun t8 =>
   .bnd (guardM t6 false (binM .eql ty_int t8 (I 0))) fun t9 =>
   .bnd (pickM t6 (.bool true) t9) fun t10 =>
   .ifP t10
   (.leaf (ret (.tup [.nilS, .nilS, (I 2)])))
   (.bnd (lenM a0) fun t11 =>
   .bnd (binM .mul ty_int (I 32) t11) fun t12 =>
   .bnd (binM .sub ty_int t12 (I 1)) fun t13 =>
   .loop L_ref02_DivMod_1
   [a0, a1, .nilS, .nilS, t13])
 | _ => .leaf failM
def F_ref02_DivMod : List PV → PRes := runP false fun a => (B_ref02_DivMod a).run
/- touchstone/touchstoneref03.made (P) -/
def B_ref03_made : List PV → Prog
 | [a0, a1] => .bnd (boxM none 2 (.agg [(.bool false), .nilS])) fun t1 =>
   .bnd (guardM a0 true (ret a1)) fun t2 =>
   .bnd (guardM a0 true (lenM t2)) fun t3 =>
   .bnd (guardM a0 true (binM .gtr ty_int t3 (I 0))) fun t4 =>
   .bnd (pickM a0 t4 (.bool false)) fun t5 =>
   .bnd (buildM [(.bool false), .nilS] [(0, 1, t5), (1, 1, a1)]) fun t6 =>
   .bnd (storeM 2 t1 t6) fun _ =>
   .bnd (loadM (some 2) t1) fun t8 =>
   .leaf (ret t8)
 | _ => .leaf failM
def F_ref03_made : List PV → PRes := runP false fun a => (B_ref03_made a).run
/- touchstone/touchstoneref03.Gcd (P) -/
def L_ref03_Gcd_1 (me18 : List PV → M) (t19 : List PV) : Prog :=
   .bnd (lenM (g t19 2)) fun t20 =>
   .bnd (binM .gtr ty_int t20 (I 0)) fun t21 =>
   .ifP t21
   (.bnd (callP false none true F_ref02_DivMod [(g t19 1), (g t19 2)]) fun t22 =>
   .bnd (extractM t22 0) fun _ =>
   .bnd (extractM t22 1) fun t24 =>
   .bnd (extractM t22 2) fun _ =>
   .leaf (me18 [(g t19 0), (g t19 2), t24]))
   (.bnd (callP false none true F_ref03_made [(.bool false), (g t19 1)]) fun t26 =>
   .bnd (storeM 2 (g t19 0) t26) fun _ =>
   .bnd (loadM (some 2) (g t19 0)) fun t28 =>
   .leaf (ret (.tup [t28, (I 0)])))
def B_ref03_Gcd : List PV → Prog
 | [a0, a1] => .bnd (boxM none 2 a0) fun t1 =>
   .bnd (boxM none 2 a1) fun t2 =>
   .bnd (boxM none 2 (.agg [(.bool false), .nilS])) fun t3 =>
   .bnd (loadM (some 2) t1) fun t4 =>
   .bnd (callP false none true F_ref03_Right [t4]) fun t5 =>
   .bnd (unM .not t5) fun t6 =>
   .bnd (guardM t6 false (loadM (some 2) t2)) fun t7 =>
   .bnd (guardM t6 false (callP false none true F_ref03_Right [t7])) fun t8 =>
   .bnd (guardM t6 false (unM .not t8)) fun t9 =>
   .bnd (pickM t6 (.bool true) t9) fun t10 =>
   .ifP t10
   (.bnd (buildM [(.bool false), .nilS] []) fun t11 =>
   .bnd (storeM 2 t3 t11) fun _ =>
   .bnd (loadM (some 2) t3) fun t13 =>
   .leaf (ret (.tup [t13, (I 2)])))
   (.bnd (addM 1 t1) fun t14 =>
   .bnd (loadM none t14) fun t15 =>
   .bnd (addM 1 t2) fun t16 =>
   .bnd (loadM none t16) fun t17 =>
   .loop L_ref03_Gcd_1
   [t3, t15, t17])
 | _ => .leaf failM
def F_ref03_Gcd : List PV → PRes := runP false fun a => (B_ref03_Gcd a).run
/- touchstone/touchstoneref04.one (P) -/
def B_ref04_one : List PV → Prog
 | [a0] => .bnd (boxM none 2 a0) fun t1 =>
   .bnd (addM 0 t1) fun t2 =>
   .bnd (loadM none t2) fun t3 =>
   .bnd (unM .not t3) fun t4 =>
   .bnd (guardM t4 true (addM 1 t1)) fun t5 =>
   .bnd (guardM t4 true (loadM none t5)) fun t6 =>
   .bnd (guardM t4 true (lenM t6)) fun t7 =>
   .bnd (guardM t4 true (binM .eql ty_int t7 (I 1))) fun t8 =>
   .bnd (pickM t4 t8 (.bool false)) fun t9 =>
   .bnd (guardM t9 true (addM 1 t1)) fun t10 =>
   .bnd (guardM t9 true (loadM none t10)) fun t11 =>
   .bnd (guardM t9 true (idxM 1 t11 (I 0))) fun t12 =>
   .bnd (guardM t9 true (loadM none t12)) fun t13 =>
   .bnd (guardM t9 true (binM .eql ty_uint32 t13 (.int .u32 1))) fun t14 =>
   .bnd (pickM t9 t14 (.bool false)) fun t15 =>
   .leaf (ret t15)
 | _ => .leaf failM
def F_ref04_one : List PV → PRes := runP false fun a => (B_ref04_one a).run
/- touchstone/touchstoneref04.Right (P) -/
def B_ref04_Right : List PV → Prog
 | [a0] => .bnd (boxM none 4 a0) fun t1 =>
   .bnd (addM 0 t1) fun t2 =>
   .bnd (loadM (some 2) t2) fun t3 =>
   .bnd (callP false none true F_ref03_Right [t3]) fun t4 =>
   .bnd (unM .not t4) fun t5 =>
   .bnd (guardM t5 false (addM 2 t1)) fun t6 =>
   .bnd (guardM t5 false (loadM (some 2) t6)) fun t7 =>
   .bnd (guardM t5 false (callP false none true F_ref03_Right [t7])) fun t8 =>
   .bnd (guardM t5 false (unM .not t8)) fun t9 =>
   .bnd (pickM t5 (.bool true) t9) fun t10 =>
   .bnd (guardM t10 false (addM 0 t1)) fun t11 =>
   .bnd (guardM t10 false (addM 1 t11)) fun t12 =>
   .bnd (guardM t10 false (loadM none t12)) fun t13 =>
   .bnd (guardM t10 false (lenM t13)) fun t14 =>
   .bnd (guardM t10 false (binM .gtr ty_int t14 (I 64))) fun t15 =>
   .bnd (pickM t10 (.bool true) t15) fun t16 =>
   .bnd (guardM t16 false (addM 2 t1)) fun t17 =>
   .bnd (guardM t16 false (addM 1 t17)) fun t18 =>
   .bnd (guardM t16 false (loadM none t18)) fun t19 =>
   .bnd (guardM t16 false (lenM t19)) fun t20 =>
   .bnd (guardM t16 false (binM .gtr ty_int t20 (I 64))) fun t21 =>
   .bnd (pickM t16 (.bool true) t21) fun t22 =>
   .bnd (guardM t22 false (addM 2 t1)) fun t23 =>
   .bnd (guardM t22 false (addM 0 t23)) fun t24 =>
   .bnd (guardM t22 false (loadM none t24)) fun t25 =>
   .bnd (pickM t22 (.bool true) t25) fun t26 =>
   .bnd (guardM t26 false (addM 2 t1)) fun t27 =>
   .bnd (guardM t26 false (addM 1 t27)) fun t28 =>
   .bnd (guardM t26 false (loadM none t28)) fun t29 =>
   .bnd (guardM t26 false (lenM t29)) fun t30 =>
   .bnd (guardM t26 false (binM .eql ty_int t30 (I 0))) fun t31 =>
   .bnd (pickM t26 (.bool true) t31) fun t32 =>
   .ifP t32
   (.leaf (ret (.bool false)))
   (.bnd (addM 0 t1) fun t33 =>
   .bnd (loadM (some 2) t33) fun t34 =>
   .bnd (addM 2 t1) fun t35 =>
   .bnd (loadM (some 2) t35) fun t36 =>
   .bnd (callP false none true F_ref03_Gcd [t34, t36]) fun t37 =>
   .bnd (extractM t37 0) fun t38 =>
   .bnd (extractM t37 1) fun _ =>
   .bnd (boxM none 2 (.agg [(.bool false), .nilS])) fun t40 =>
   .bnd (storeM 2 t40 t38) fun _ =>
   .bnd (loadM (some 2) t40) fun t42 =>
   .bnd (callP false none true F_ref04_one [t42]) fun t43 =>
   .leaf (ret t43))
 | _ => .leaf failM
def F_ref04_Right : List PV → PRes := runP false fun a => (B_ref04_Right a).run
/- touchstone/touchstoneref20.below (P) -/
def B_ref20_below : List PV → Prog
 | [a0] => .bnd (boxM none 4 a0) fun t1 =>
   .bnd (addM 0 t1) fun t2 =>
   .bnd (addM 0 t2) fun t3 =>
   .bnd (loadM none t3) fun t4 =>
   .leaf (ret t4)
 | _ => .leaf failM
def F_ref20_below : List PV → PRes := runP false fun a => (B_ref20_below a).run
/- touchstone/touchstoneref20.Numbers (P) -/
def L_ref20_Numbers_1 (me7 : List PV → M) (t8 : List PV) : Prog :=
   .bnd (lenM (g t8 0)) fun t9 =>
   .bnd (binM .lss ty_int (g t8 1) t9) fun t10 =>
   .ifP t10
   (.bnd (idxM 4 (g t8 0) (g t8 1)) fun t11 =>
   .bnd (loadM (some 4) t11) fun t12 =>
   .bnd (callP false none true F_ref04_Right [t12]) fun t13 =>
   .bnd (unM .not t13) fun t14 =>
   .bnd (guardM t14 false (ret (g t8 0))) fun t15 =>
   .bnd (guardM t14 false (ret (g t8 1))) fun t16 =>
   .bnd (guardM t14 false (idxM 4 t15 t16)) fun t17 =>
   .bnd (guardM t14 false (loadM (some 4) t17)) fun t18 =>
   .bnd (guardM t14 false (callP false none true F_ref20_below [t18])) fun t19 =>
   .bnd (pickM t14 (.bool true) t19) fun t20 =>
   .ifP t20
   (.leaf (ret (.bool false)))
   (.bnd (binM .add ty_int (g t8 1) (I 1)) fun t21 =>
   .leaf (me7 [(g t8 0), t21])))
   (.leaf (ret (.bool true)))
def B_ref20_Numbers : List PV → Prog
 | [a0, a1] => .bnd (boxM none 5 a0) fun t1 =>
   .bnd (lenM a1) fun t2 =>
   .bnd (addM 2 t1) fun t3 =>
   .bnd (loadM none t3) fun t4 =>
   .bnd (lenM t4) fun t5 =>
   .bnd (binM .neq ty_int t2 t5) fun t6 =>
   .ifP t6
   (.leaf (ret (.bool false)))
   (.loop L_ref20_Numbers_1
   [a1, (I 0)])
 | _ => .leaf failM
def F_ref20_Numbers : List PV → PRes := runP false fun a => (B_ref20_Numbers a).run
/- touchstone/touchstoneref03.Of (P) -/
def B_ref03_Of : List PV → Prog
 | [a0] => .bnd (boxM none 2 (.agg [(.bool false), .nilS])) fun t1 =>
   .bnd (binM .lss ty_int64 a0 (I 0)) fun t2 =>
   .ifP t2
   (.bnd (binM .add ty_int64 a0 (I 1)) fun t3 =>
   .bnd (unM .neg t3) fun t4 =>
   .bnd (convM .u64 t4) fun t5 =>
   .bnd (callP false none true F_ref02_Of [t5]) fun t6 =>
   .bnd (buildSliceM none 1 false (.int .u32 0) 1 [(0, (.int .u32 1))]) fun t7 =>
   .bnd (callP true none true F_ref02_Plus [t6, t7]) fun t8 =>
   .bnd (callP false none true F_ref03_made [(.bool true), t8]) fun t9 =>
   .bnd (storeM 2 t1 t9) fun _ =>
   .bnd (loadM (some 2) t1) fun t11 =>
   .leaf (ret t11))
   (.bnd (convM .u64 a0) fun t12 =>
   .bnd (callP false none true F_ref02_Of [t12]) fun t13 =>
   .bnd (callP false none true F_ref03_made [(.bool false), t13]) fun t14 =>
   .bnd (storeM 2 t1 t14) fun _ =>
   .bnd (loadM (some 2) t1) fun t16 =>
   .leaf (ret t16))
 | _ => .leaf failM
def F_ref03_Of : List PV → PRes := runP false fun a => (B_ref03_Of a).run
/- touchstone/touchstoneref04.Of (P) -/
def B_ref04_Of : List PV → Prog
 | [a0] => .bnd (boxM none 4 (.agg [(.bool false), .nilS, (.bool false), .nilS])) fun t1 =>
   .bnd (callP false none true F_ref03_Of [a0]) fun t2 =>
   .bnd (callP false none true F_ref03_Of [(I 1)]) fun t3 =>
   .bnd (buildM [(.bool false), .nilS, (.bool false), .nilS] [(0, 2, t2), (2, 2, t3)]) fun t4 =>
   .bnd (storeM 4 t1 t4) fun _ =>
   .bnd (loadM (some 4) t1) fun t6 =>
   .leaf (ret t6)
 | _ => .leaf failM
def F_ref04_Of : List PV → PRes := runP false fun a => (B_ref04_Of a).run
/- touchstone/touchstoneref20.column (P) -/
def L_ref20_column_1 (me2 : List PV → M) (t3 : List PV) : Prog :=
   .bnd (addM 2 (g t3 1)) fun t4 =>
   .bnd (loadM none t4) fun t5 =>
   .bnd (lenM t5) fun t6 =>
   .bnd (binM .lss ty_int (g t3 3) t6) fun t7 =>
   .ifP t7
   (.bnd (addM 2 (g t3 1)) fun t8 =>
   .bnd (loadM none t8) fun t9 =>
   .bnd (idxM 1 t9 (g t3 3)) fun t10 =>
   .bnd (loadM none t10) fun t11 =>
   .bnd (idxM 1 t11 (g t3 0)) fun t12 =>
   .bnd (loadM none t12) fun t13 =>
   .bnd (buildSliceM none 1 false (.int .i64 0) 1 [(0, t13)]) fun t14 =>
   .bnd (appendM 1 8 (g t3 2) t14) fun t15 =>
   .bnd (binM .add ty_int (g t3 3) (I 1)) fun t16 =>
   .leaf (me2 [(g t3 0), (g t3 1), t15, t16]))
   (.leaf (ret (g t3 2)))
def B_ref20_column : List PV → Prog
 | [a0, a1] => .bnd (boxM none 5 a0) fun t1 =>
   .loop L_ref20_column_1
   [a1, t1, .nilS, (I 0)]
 | _ => .leaf failM
def F_ref20_column : List PV → PRes := runP false fun a => (B_ref20_column a).run
/- touchstone/touchstoneref02.scaled (P) -/
def L_ref02_scaled_1 (me7 : List PV → M) (t8 : List PV) : Prog :=
   .bnd (lenM (g t8 0)) fun t9 =>
   .bnd (binM .add ty_int t9 (I 1)) fun t10 =>
   .bnd (binM .lss ty_int (g t8 4) t10) fun t11 =>
   .ifP t11
   (.bnd (callP false none true F_ref02_digit [(g t8 0), (g t8 4)]) fun t12 =>
   .bnd (binM .mul ty_uint64 t12 (g t8 1)) fun t13 =>
   .bnd (binM .add ty_uint64 t13 (g t8 3)) fun t14 =>
   .bnd (binM .rem ty_uint64 t14 (.int .u64 4294967296)) fun t15 =>
   .bnd (convM .u32 t15) fun t16 =>
   .bnd (buildSliceM none 1 false (.int .u32 0) 1 [(0, t16)]) fun t17 =>
   .bnd (appendM 1 4 (g t8 2) t17) fun t18 =>
   .bnd (binM .quo ty_uint64 t14 (.int .u64 4294967296)) fun t19 =>
   .bnd (binM .add ty_int (g t8 4) (I 1)) fun t20 =>
   .leaf (me7 [(g t8 0), (g t8 1), t18, t19, t20]))
   (.bnd (callP true none true F_ref02_trim [(g t8 2)]) fun t21 =>
   .leaf (ret t21))
def L_ref02_scaled_2 (me1 : List PV → M) (t2 : List PV) : Prog :=
   .bnd (binM .lss ty_int (g t2 4) (g t2 2)) fun t3 =>
   .ifP t3
   (.bnd (buildSliceM none 1 false (.int .u32 0) 1 [(0, (.int .u32 0))]) fun t4 =>
   .bnd (appendM 1 4 (g t2 3) t4) fun t5 =>
   .bnd (binM .add ty_int (g t2 4) (I 1)) fun t6 =>
   .leaf (me1 [(g t2 0), (g t2 1), (g t2 2), t5, t6]))
   (.loop L_ref02_scaled_1
   [(g t2 0), (g t2 1), (g t2 3), (.int .u64 0), (I 0)])
def B_ref02_scaled : List PV → Prog
 | [a0, a1, a2] => .loop L_ref02_scaled_2
   [a0, a1, a2, .nilS, (I 0)]
 | _ => .leaf failM
def F_ref02_scaled : List PV → PRes := runP false fun a => (B_ref02_scaled a).run
/- touchstone/touchstoneref02.Product (P) -/
def L_ref02_Product_1 (me1 : List PV → M) (t2 : List PV) : Prog :=
   .bnd (lenM (g t2 1)) fun t3 =>
   .bnd (binM .lss ty_int (g t2 3) t3) fun t4 =>
   .ifP t4
   (.bnd (idxM 1 (g t2 1) (g t2 3)) fun t5 =>
   .bnd (loadM none t5) fun t6 =>
   .bnd (convM .u64 t6) fun t7 =>
   .bnd (callP false none true F_ref02_scaled [(g t2 0), t7, (g t2 3)]) fun t8 =>
   .bnd (callP false none true F_ref02_Plus [(g t2 2), t8]) fun t9 =>
   .bnd (binM .add ty_int (g t2 3) (I 1)) fun t10 =>
   .leaf (me1 [(g t2 0), (g t2 1), t9, t10]))
   (.leaf (ret (g t2 2)))
def B_ref02_Product : List PV → Prog
 | [a0, a1] => .loop L_ref02_Product_1
   [a0, a1, .nilS, (I 0)]
 | _ => .leaf failM
def F_ref02_Product : List PV → PRes := runP false fun a => (B_ref02_Product a).run
/- touchstone/touchstoneref03.Times (P) -/
def B_ref03_Times : List PV → Prog
 | [a0, a1] => .bnd (boxM none 2 a0) fun t1 =>
   .bnd (boxM none 2 a1) fun t2 =>
   .bnd (boxM none 2 (.agg [(.bool false), .nilS])) fun t3 =>
   .bnd (addM 0 t1) fun t4 =>
   .bnd (loadM none t4) fun t5 =>
   .bnd (addM 0 t2) fun t6 =>
   .bnd (loadM none t6) fun t7 =>
   .bnd (binM .neq ty_bool t5 t7) fun t8 =>
   .bnd (addM 1 t1) fun t9 =>
   .bnd (loadM none t9) fun t10 =>
   .bnd (addM 1 t2) fun t11 =>
   .bnd (loadM none t11) fun t12 =>
   .bnd (callP false none true F_ref02_Product [t10, t12]) fun t13 =>
   .bnd (callP false none true F_ref03_made [t8, t13]) fun t14 =>
   .bnd (storeM 2 t3 t14) fun _ =>
   .bnd (loadM (some 2) t3) fun t16 =>
   .leaf (ret t16)
 | _ => .leaf failM
def F_ref03_Times : List PV → PRes := runP false fun a => (B_ref03_Times a).run
/- touchstone/touchstoneref03.fit (P) -/
def B_ref03_fit : List PV → Prog
 | [a0] => .bnd (boxM none 2 a0) fun t1 =>
   .bnd (boxM none 2 (.agg [(.bool false), .nilS])) fun t2 =>
   .bnd (addM 1 t1) fun t3 =>
   .bnd (loadM none t3) fun t4 =>
   .bnd (lenM t4) fun t5 =>
   .bnd (binM .gtr ty_int t5 (I 256)) fun t6 =>
   .ifP t6
   (.bnd (buildM [(.bool false), .nilS] []) fun t7 =>
   .bnd (storeM 2 t2 t7) fun _ =>
   .bnd (loadM (some 2) t2) fun t9 =>
   .leaf (ret (.tup [t9, (I 3)])))
   (.bnd (loadM (some 2) t1) fun t10 =>
   .bnd (storeM 2 t2 t10) fun _ =>
   .bnd (loadM (some 2) t2) fun t12 =>
   .leaf (ret (.tup [t12, (I 0)])))
 | _ => .leaf failM
def F_ref03_fit : List PV → PRes := runP false fun a => (B_ref03_fit a).run
/- touchstone/touchstoneref03.DivMod (P) -/
def J_ref03_DivMod_1 (t46 : List PV) : Prog :=
   .bnd (callP false none true F_ref03_made [(.bool true), (g t46 3)]) fun t48 =>
   .bnd (callP false none true F_ref03_fit [t48]) fun t49 =>
   .bnd (extractM t49 0) fun t50 =>
   .bnd (extractM t49 1) fun t51 =>
   .bnd (boxM none 2 (.agg [(.bool false), .nilS])) fun t52 =>
   .bnd (storeM 2 t52 t50) fun _ =>
   .bnd (binM .neq ty_int t51 (I 0)) fun t54 =>
   .ifP t54
   (.bnd (buildM [(.bool false), .nilS] []) fun t55 =>
   .bnd (buildM [(.bool false), .nilS] []) fun t56 =>
   .bnd (storeM 2 (g t46 1) t55) fun _ =>
   .bnd (storeM 2 (g t46 2) t56) fun _ =>
   .bnd (loadM (some 2) (g t46 1)) fun t59 =>
   .bnd (loadM (some 2) (g t46 2)) fun t60 =>
   .leaf (ret (.tup [t59, t60, t51])))
   (.bnd (loadM (some 2) t52) fun t61 =>
   .bnd (addM 0 (g t46 0)) fun t62 =>
   .bnd (loadM none t62) fun t63 =>
   .bnd (callP false none true F_ref03_made [t63, (g t46 4)]) fun t64 =>
   .bnd (storeM 2 (g t46 1) t61) fun _ =>
   .bnd (storeM 2 (g t46 2) t64) fun _ =>
   .bnd (loadM (some 2) (g t46 1)) fun t67 =>
   .bnd (loadM (some 2) (g t46 2)) fun t68 =>
   .leaf (ret (.tup [t67, t68, (I 0)])))
def B_ref03_DivMod : List PV → Prog
 | [a0, a1] => .bnd (boxM none 2 a0) fun t1 =>
   .bnd (boxM none 2 a1) fun t2 =>
   .bnd (boxM none 2 (.agg [(.bool false), .nilS])) fun t3 =>
   .bnd (boxM none 2 (.agg [(.bool false), .nilS])) fun t4 =>
   .bnd (loadM (some 2) t1) fun t5 =>
   .bnd (callP false none true F_ref03_Right [t5]) fun t6 =>
   .bnd (unM .not t6) fun t7 =>
   .bnd (guardM t7 false (loadM (some 2) t2)) fun t8 =>
   .bnd (guardM t7 false (callP false none true F_ref03_Right [t8])) fun t9 =>
   .bnd (guardM t7 false (unM .not t9)) fun t10 =>
   .bnd (pickM t7 (.bool true) t10) fun t11 =>
   .bnd (guardM t11 false (addM 1 t2)) fun t12 =>
   .bnd (guardM t11 false (loadM none t12)) fun t13 =>
   .bnd (guardM t11 false (lenM t13)) fun t14 =>
   .bnd (guardM t11 false (binM .eql ty_int t14 (I 0))) fun t15 =>
   .bnd (pickM t11 (.bool true) t15) fun t16 =>
   .ifP t16
   (.bnd (buildM [(.bool false), .nilS] []) fun t17 =>
   .bnd (buildM [(.bool false), .nilS] []) fun t18 =>
   .bnd (storeM 2 t3 t17) fun _ =>
   .bnd (storeM 2 t4 t18) fun _ =>
   .bnd (loadM (some 2) t3) fun t21 =>
   .bnd (loadM (some 2) t4) fun t22 =>
   .leaf (ret (.tup [t21, t22, (I 2)])))
   (.bnd (addM 1 t1) fun t23 =>
   .bnd (loadM none t23) fun t24 =>
   .bnd (addM 1 t2) fun t25 =>
   .bnd (loadM none t25) fun t26 =>
   .bnd (callP false none true F_ref02_DivMod [t24, t26]) fun t27 =>
   .bnd (extractM t27 0) fun t28 =>
   .bnd (extractM t27 1) fun t29 =>
   .bnd (extractM t27 2) fun _ =>
   .bnd (addM 0 t1) fun t31 =>
   .bnd (loadM none t31) fun t32 =>
   .bnd (addM 0 t2) fun t33 =>
   .bnd (loadM none t33) fun t34 =>
   .bnd (binM .eql ty_bool t32 t34) fun t35 =>
   .ifP t35
   (.bnd (callP false none false F_ref03_made [(.bool false), t28]) fun t36 =>
   .bnd (addM 0 t2) fun t37 =>
   .bnd (loadM none t37) fun t38 =>
   .bnd (callP false none true F_ref03_made [t38, t29]) fun t39 =>
   .bnd (storeM 2 t3 t36) fun _ =>
   .bnd (storeM 2 t4 t39) fun _ =>
   .bnd (loadM (some 2) t3) fun t42 =>
   .bnd (loadM (some 2) t4) fun t43 =>
   .leaf (ret (.tup [t42, t43, (I 0)])))
   (.bnd (lenM t29) fun t44 =>
   .bnd (binM .gtr ty_int t44 (I 0)) fun t45 =>
   .join J_ref03_DivMod_1 fun jn47 =>
   .ifP t45 (.bnd (buildSliceM none 1 false (.int .u32 0) 1 [(0, (.int .u32 1))]) fun t69 =>
   .bnd (callP true none true F_ref02_Plus [t28, t69]) fun t70 =>
   .bnd (addM 1 t2) fun t71 =>
   .bnd (loadM none t71) fun t72 =>
   .bnd (callP false none true F_ref02_Minus [t72, t29]) fun t73 =>
   .leaf (jn47 [t2, t3, t4, t70, t73])) (.leaf (jn47 [t2, t3, t4, t28, t29]))))
 | _ => .leaf failM
def F_ref03_DivMod : List PV → PRes := runP false fun a => (B_ref03_DivMod a).run
/- touchstone/touchstoneref03.Neg (P) -/
def B_ref03_Neg : List PV → Prog
 | [a0] => .bnd (boxM none 2 a0) fun t1 =>
   .bnd (boxM none 2 (.agg [(.bool false), .nilS])) fun t2 =>
   .bnd (loadM (some 2) t1) fun t3 =>
   .bnd (callP false none true F_ref03_Right [t3]) fun t4 =>
   .bnd (unM .not t4) fun t5 =>
   .ifP t5
   (.bnd (buildM [(.bool false), .nilS] []) fun t6 =>
   .bnd (storeM 2 t2 t6) fun _ =>
   .bnd (loadM (some 2) t2) fun t8 =>
   .leaf (ret (.tup [t8, (I 2)])))
   (.bnd (addM 0 t1) fun t9 =>
   .bnd (loadM none t9) fun t10 =>
   .bnd (unM .not t10) fun t11 =>
   .bnd (addM 1 t1) fun t12 =>
   .bnd (loadM none t12) fun t13 =>
   .bnd (callP false none true F_ref03_made [t11, t13]) fun t14 =>
   .bnd (storeM 2 t2 t14) fun _ =>
   .bnd (loadM (some 2) t2) fun t16 =>
   .leaf (ret (.tup [t16, (I 0)])))
 | _ => .leaf failM
def F_ref03_Neg : List PV → PRes := runP false fun a => (B_ref03_Neg a).run
/- touchstone/touchstoneref04.made (P) -/
def J_ref04_made_1 (t33 : List PV) : Prog :=
   .bnd (addM 1 (g t33 1)) fun t35 =>
   .bnd (loadM none t35) fun t36 =>
   .bnd (lenM t36) fun t37 =>
   .bnd (binM .gtr ty_int t37 (I 64)) fun t38 =>
   .bnd (guardM t38 false (addM 1 (g t33 2))) fun t39 =>
   .bnd (guardM t38 false (loadM none t39)) fun t40 =>
   .bnd (guardM t38 false (lenM t40)) fun t41 =>
   .bnd (guardM t38 false (binM .gtr ty_int t41 (I 64))) fun t42 =>
   .bnd (pickM t38 (.bool true) t42) fun t43 =>
   .ifP t43
   (.bnd (buildM [(.bool false), .nilS, (.bool false), .nilS] []) fun t44 =>
   .bnd (storeM 4 (g t33 0) t44) fun _ =>
   .bnd (loadM (some 4) (g t33 0)) fun t46 =>
   .leaf (ret (.tup [t46, (I 3)])))
   (.bnd (loadM (some 2) (g t33 1)) fun t47 =>
   .bnd (loadM (some 2) (g t33 2)) fun t48 =>
   .bnd (buildM [(.bool false), .nilS, (.bool false), .nilS] [(0, 2, t47), (2, 2, t48)]) fun t49 =>
   .bnd (storeM 4 (g t33 0) t49) fun _ =>
   .bnd (loadM (some 4) (g t33 0)) fun t51 =>
   .leaf (ret (.tup [t51, (I 0)])))
def B_ref04_made : List PV → Prog
 | [a0, a1] => .bnd (boxM none 2 a0) fun t1 =>
   .bnd (boxM none 2 a1) fun t2 =>
   .bnd (boxM none 4 (.agg [(.bool false), .nilS, (.bool false), .nilS])) fun t3 =>
   .bnd (loadM (some 2) t1) fun t4 =>
   .bnd (loadM (some 2) t2) fun t5 =>
   .bnd (callP false none true F_ref03_Gcd [t4, t5]) fun t6 =>
   .bnd (extractM t6 0) fun t7 =>
   .bnd (extractM t6 1) fun _ =>
   .bnd (boxM none 2 (.agg [(.bool false), .nilS])) fun t9 =>
   .bnd (storeM 2 t9 t7) fun _ =>
   .bnd (loadM (some 2) t1) fun t11 =>
   .bnd (loadM (some 2) t9) fun t12 =>
   .bnd (callP false none true F_ref03_DivMod [t11, t12]) fun t13 =>
   .bnd (extractM t13 0) fun t14 =>
   .bnd (extractM t13 1) fun t15 =>
   .bnd (extractM t13 2) fun _ =>
   .bnd (boxM none 2 (.agg [(.bool false), .nilS])) fun t17 =>
   .bnd (boxM none 2 (.agg [(.bool false), .nilS])) fun t18 =>
   .bnd (storeM 2 t17 t14) fun _ =>
   .bnd (storeM 2 t18 t15) fun _ =>
   .bnd (loadM (some 2) t2) fun t21 =>
   .bnd (loadM (some 2) t9) fun t22 =>
   .bnd (callP false none true F_ref03_DivMod [t21, t22]) fun t23 =>
   .bnd (extractM t23 0) fun t24 =>
   .bnd (extractM t23 1) fun t25 =>
   .bnd (extractM t23 2) fun _ =>
   .bnd (boxM none 2 (.agg [(.bool false), .nilS])) fun t27 =>
   .bnd (boxM none 2 (.agg [(.bool false), .nilS])) fun t28 =>
   .bnd (storeM 2 t27 t24) fun _ =>
   .bnd (storeM 2 t28 t25) fun _ =>
   .bnd (addM 0 t27) fun t31 =>
   .bnd (loadM none t31) fun t32 =>
   .join J_ref04_made_1 fun jn34 =>
   .ifP t32 (.bnd (loadM (some 2) t17) fun t52 =>
   .bnd (callP false none true F_ref03_Neg [t52]) fun t53 =>
   .bnd (extractM t53 0) fun t54 =>
   .bnd (extractM t53 1) fun _ =>
   .bnd (storeM 2 t17 t54) fun _ =>
   .bnd (loadM (some 2) t27) fun t57 =>
   .bnd (callP false none true F_ref03_Neg [t57]) fun t58 =>
   .bnd (extractM t58 0) fun t59 =>
   .bnd (extractM t58 1) fun _ =>
   .bnd (storeM 2 t27 t59) fun _ =>
   .leaf (jn34 [t3, t17, t27])) (.leaf (jn34 [t3, t17, t27]))
 | _ => .leaf failM
def F_ref04_made : List PV → PRes := runP false fun a => (B_ref04_made a).run
/- touchstone/touchstoneref04.Mul (P) -/
def B_ref04_Mul : List PV → Prog
 | [a0, a1] => .bnd (boxM none 4 a0) fun t1 =>
   .bnd (boxM none 4 a1) fun t2 =>
   .bnd (boxM none 4 (.agg [(.bool false), .nilS, (.bool false), .nilS])) fun t3 =>
   .bnd (loadM (some 4) t1) fun t4 =>
   .bnd (callP false none true F_ref04_Right [t4]) fun t5 =>
   .bnd (unM .not t5) fun t6 =>
   .bnd (guardM t6 false (loadM (some 4) t2)) fun t7 =>
   .bnd (guardM t6 false (callP false none true F_ref04_Right [t7])) fun t8 =>
   .bnd (guardM t6 false (unM .not t8)) fun t9 =>
   .bnd (pickM t6 (.bool true) t9) fun t10 =>
   .ifP t10
   (.bnd (buildM [(.bool false), .nilS, (.bool false), .nilS] []) fun t11 =>
   .bnd (storeM 4 t3 t11) fun _ =>
   .bnd (loadM (some 4) t3) fun t13 =>
   .leaf (ret (.tup [t13, (I 2)])))
   (.bnd (addM 0 t1) fun t14 =>
   .bnd (loadM (some 2) t14) fun t15 =>
   .bnd (addM 0 t2) fun t16 =>
   .bnd (loadM (some 2) t16) fun t17 =>
   .bnd (callP false none false F_ref03_Times [t15, t17]) fun t18 =>
   .bnd (addM 2 t1) fun t19 =>
   .bnd (loadM (some 2) t19) fun t20 =>
   .bnd (addM 2 t2) fun t21 =>
   .bnd (loadM (some 2) t21) fun t22 =>
   .bnd (callP false none true F_ref03_Times [t20, t22]) fun t23 =>
   .bnd (callP false none true F_ref04_made [t18, t23]) fun t24 =>
   .bnd (extractM t24 0) fun t25 =>
   .bnd (extractM t24 1) fun t26 =>
   .bnd (storeM 4 t3 t25) fun _ =>
   .bnd (loadM (some 4) t3) fun t28 =>
   .leaf (ret (.tup [t28, t26])))
 | _ => .leaf failM
def F_ref04_Mul : List PV → PRes := runP false fun a => (B_ref04_Mul a).run
/- touchstone/touchstoneref03.Sum (P) -/
def B_ref03_Sum : List PV → Prog
 | [a0, a1] => .bnd (boxM none 2 a0) fun t1 =>
   .bnd (boxM none 2 a1) fun t2 =>
   .bnd (boxM none 2 (.agg [(.bool false), .nilS])) fun t3 =>
   .bnd (addM 0 t1) fun t4 =>
   .bnd (loadM none t4) fun t5 =>
   .bnd (addM 0 t2) fun t6 =>
   .bnd (loadM none t6) fun t7 =>
   .bnd (binM .eql ty_bool t5 t7) fun t8 =>
   .ifP t8
   (.bnd (addM 0 t1) fun t9 =>
   .bnd (loadM none t9) fun t10 =>
   .bnd (addM 1 t1) fun t11 =>
   .bnd (loadM none t11) fun t12 =>
   .bnd (addM 1 t2) fun t13 =>
   .bnd (loadM none t13) fun t14 =>
   .bnd (callP false none true F_ref02_Plus [t12, t14]) fun t15 =>
   .bnd (callP false none true F_ref03_made [t10, t15]) fun t16 =>
   .bnd (storeM 2 t3 t16) fun _ =>
   .bnd (loadM (some 2) t3) fun t18 =>
   .leaf (ret t18))
   (.bnd (addM 1 t1) fun t19 =>
   .bnd (loadM none t19) fun t20 =>
   .bnd (addM 1 t2) fun t21 =>
   .bnd (loadM none t21) fun t22 =>
   .bnd (callP false none true F_ref02_Less [t20, t22]) fun t23 =>
   .ifP t23
   (.bnd (addM 0 t2) fun t24 =>
   .bnd (loadM none t24) fun t25 =>
   .bnd (addM 1 t2) fun t26 =>
   .bnd (loadM none t26) fun t27 =>
   .bnd (addM 1 t1) fun t28 =>
   .bnd (loadM none t28) fun t29 =>
   .bnd (callP false none true F_ref02_Minus [t27, t29]) fun t30 =>
   .bnd (callP false none true F_ref03_made [t25, t30]) fun t31 =>
   .bnd (storeM 2 t3 t31) fun _ =>
   .bnd (loadM (some 2) t3) fun t33 =>
   .leaf (ret t33))
   (.bnd (addM 0 t1) fun t34 =>
   .bnd (loadM none t34) fun t35 =>
   .bnd (addM 1 t1) fun t36 =>
   .bnd (loadM none t36) fun t37 =>
   .bnd (addM 1 t2) fun t38 =>
   .bnd (loadM none t38) fun t39 =>
   .bnd (callP false none true F_ref02_Minus [t37, t39]) fun t40 =>
   .bnd (callP false none true F_ref03_made [t35, t40]) fun t41 =>
   .bnd (storeM 2 t3 t41) fun _ =>
   .bnd (loadM (some 2) t3) fun t43 =>
   .leaf (ret t43)))
 | _ => .leaf failM
def F_ref03_Sum : List PV → PRes := runP false fun a => (B_ref03_Sum a).run
/- touchstone/touchstoneref04.Add (P) -/
def B_ref04_Add : List PV → Prog
 | [a0, a1] => .bnd (boxM none 4 a0) fun t1 =>
   .bnd (boxM none 4 a1) fun t2 =>
   .bnd (boxM none 4 (.agg [(.bool false), .nilS, (.bool false), .nilS])) fun t3 =>
   .bnd (loadM (some 4) t1) fun t4 =>
   .bnd (callP false none true F_ref04_Right [t4]) fun t5 =>
   .bnd (unM .not t5) fun t6 =>
   .bnd (guardM t6 false (loadM (some 4) t2)) fun t7 =>
   .bnd (guardM t6 false (callP false none true F_ref04_Right [t7])) fun t8 =>
   .bnd (guardM t6 false (unM .not t8)) fun t9 =>
   .bnd (pickM t6 (.bool true) t9) fun t10 =>
   .ifP t10
   (.bnd (buildM [(.bool false), .nilS, (.bool false), .nilS] []) fun t11 =>
   .bnd (storeM 4 t3 t11) fun _ =>
   .bnd (loadM (some 4) t3) fun t13 =>
   .leaf (ret (.tup [t13, (I 2)])))
   (.bnd (addM 0 t1) fun t14 =>
   .bnd (loadM (some 2) t14) fun t15 =>
   .bnd (addM 2 t2) fun t16 =>
   .bnd (loadM (some 2) t16) fun t17 =>
   .bnd (callP false none false F_ref03_Times [t15, t17]) fun t18 =>
   .bnd (addM 0 t2) fun t19 =>
   .bnd (loadM (some 2) t19) fun t20 =>
   .bnd (addM 2 t1) fun t21 =>
   .bnd (loadM (some 2) t21) fun t22 =>
   .bnd (callP false none false F_ref03_Times [t20, t22]) fun t23 =>
   .bnd (callP false none false F_ref03_Sum [t18, t23]) fun t24 =>
   .bnd (addM 2 t1) fun t25 =>
   .bnd (loadM (some 2) t25) fun t26 =>
   .bnd (addM 2 t2) fun t27 =>
   .bnd (loadM (some 2) t27) fun t28 =>
   .bnd (callP false none true F_ref03_Times [t26, t28]) fun t29 =>
   .bnd (callP false none true F_ref04_made [t24, t29]) fun t30 =>
   .bnd (extractM t30 0) fun t31 =>
   .bnd (extractM t30 1) fun t32 =>
   .bnd (storeM 4 t3 t31) fun _ =>
   .bnd (loadM (some 4) t3) fun t34 =>
   .leaf (ret (.tup [t34, t32])))
 | _ => .leaf failM
def F_ref04_Add : List PV → PRes := runP false fun a => (B_ref04_Add a).run
/- touchstone/touchstoneref20.plus (P) -/
def B_ref20_plus : List PV → Prog
 | [a0, a1, a2] => .bnd (boxM none 5 a0) fun t1 =>
   .bnd (boxM none 4 a1) fun t2 =>
   .bnd (boxM none 5 (.agg [(.bool false), .nilS, (.bool false), .nilS, (.bool false)])) fun t3 =>
   .base 10 fun t4 =>
   .bnd (loadM (some 4) t2) fun t5 =>
   .bnd (callP false none false F_ref04_Of [a2]) fun t6 =>
   .bnd (callP false none false F_ref04_Mul [t5, t6]) fun t7 =>
   .bnd (extractM t7 0) fun t8 =>
   .bnd (extractM t7 1) fun t9 =>
   .bnd (boxM (some (t4 + 7)) 4 (.agg [(.bool false), .nilS, (.bool false), .nilS])) fun t10 =>
   .bnd (storeM 4 t10 t8) fun _ =>
   .bnd (addM 0 t1) fun t12 =>
   .bnd (loadM (some 4) t12) fun t13 =>
   .bnd (loadM (some 4) t10) fun t14 =>
   .bnd (callP false none true F_ref04_Add [t13, t14]) fun t15 =>
   .bnd (extractM t15 0) fun t16 =>
   .bnd (extractM t15 1) fun t17 =>
   .bnd (boxM none 4 (.agg [(.bool false), .nilS, (.bool false), .nilS])) fun t18 =>
   .bnd (storeM 4 t18 t16) fun _ =>
   .bnd (loadM (some 4) t18) fun t20 =>
   .bnd (addM 4 t1) fun t21 =>
   .bnd (loadM none t21) fun t22 =>
   .bnd (guardM t22 false (ret t9)) fun t23 =>
   .bnd (guardM t22 false (binM .neq ty_int t23 (I 0))) fun t24 =>
   .bnd (pickM t22 (.bool true) t24) fun t25 =>
   .bnd (guardM t25 false (ret t17)) fun t26 =>
   .bnd (guardM t25 false (binM .neq ty_int t26 (I 0))) fun t27 =>
   .bnd (pickM t25 (.bool true) t27) fun t28 =>
   .bnd (buildM [(.bool false), .nilS, (.bool false), .nilS, (.bool false)] [(0, 4, t20), (4, 1, t28)]) fun t29 =>
   .bnd (storeM 5 t3 t29) fun _ =>
   .bnd (loadM (some 5) t3) fun t31 =>
   .leaf (ret t31)
 | _ => .leaf failM
def F_ref20_plus : List PV → PRes := runP false fun a => (B_ref20_plus a).run
/- touchstone/touchstoneref20.dot (P) -/
def L_ref20_dot_1 (me6 : List PV → M) (t7 : List PV) : Prog :=
   .bnd (lenM (g t7 0)) fun t8 =>
   .bnd (binM .lss ty_int (g t7 4) t8) fun t9 =>
   .ifP t9
   (.bnd (loadM (some 5) (g t7 3)) fun t10 =>
   .bnd (idxM 4 (g t7 0) (g t7 4)) fun t11 =>
   .bnd (loadM (some 4) t11) fun t12 =>
   .bnd (idxM 1 (g t7 1) (g t7 4)) fun t13 =>
   .bnd (loadM none t13) fun t14 =>
   .bnd (callP false none true F_ref20_plus [t10, t12, t14]) fun t15 =>
   .bnd (storeM 5 (g t7 3) t15) fun _ =>
   .bnd (binM .add ty_int (g t7 4) (I 1)) fun t17 =>
   .leaf (me6 [(g t7 0), (g t7 1), (g t7 2), (g t7 3), t17]))
   (.bnd (loadM (some 5) (g t7 3)) fun t18 =>
   .bnd (storeM 5 (g t7 2) t18) fun _ =>
   .bnd (loadM (some 5) (g t7 2)) fun t20 =>
   .leaf (ret t20))
def B_ref20_dot : List PV → Prog
 | [a0, a1] => .bnd (boxM none 5 (.agg [(.bool false), .nilS, (.bool false), .nilS, (.bool false)])) fun t1 =>
   .bnd (callP false none true F_ref04_Of [(I 0)]) fun t2 =>
   .bnd (buildM [(.bool false), .nilS, (.bool false), .nilS, (.bool false)] [(0, 4, t2)]) fun t3 =>
   .bnd (boxM none 5 (.agg [(.bool false), .nilS, (.bool false), .nilS, (.bool false)])) fun t4 =>
   .bnd (storeM 5 t4 t3) fun _ =>
   .loop L_ref20_dot_1
   [a0, a1, t1, t4, (I 0)]
 | _ => .leaf failM
def F_ref20_dot : List PV → PRes := runP false fun a => (B_ref20_dot a).run
/- touchstone/touchstoneref20.least (P) -/
def J_ref20_least_1 (me7 : List PV → M) (t27 : List PV) : Prog :=
   .bnd (loadM (some 5) (g t27 4)) fun t29 =>
   .bnd (addM 0 (g t27 6)) fun t30 =>
   .bnd (loadM (some 4) t30) fun t31 =>
   .bnd (callP false none true F_ref20_plus [t29, t31, (g t27 7)]) fun t32 =>
   .bnd (storeM 5 (g t27 4) t32) fun _ =>
   .bnd (addM 4 (g t27 4)) fun t34 =>
   .bnd (loadM none t34) fun t35 =>
   .bnd (guardM t35 false (addM 4 (g t27 6))) fun t36 =>
   .bnd (guardM t35 false (loadM none t36)) fun t37 =>
   .bnd (pickM t35 (.bool true) t37) fun t38 =>
   .bnd (addM 4 (g t27 4)) fun t39 =>
   .bnd (storeM 1 t39 t38) fun _ =>
   .bnd (binM .add ty_int (g t27 5) (I 1)) fun t41 =>
   .leaf (me7 [(g t27 0), (g t27 1), (g t27 2), (g t27 3), (g t27 4), t41])
def J_ref20_least_2 (me7 : List PV → M) (t18 : List PV) : Prog :=
   .bnd (addM 0 (g t18 2)) fun t20 =>
   .bnd (loadM none t20) fun t21 =>
   .bnd (idxM 1 t21 (g t18 5)) fun t22 =>
   .bnd (loadM none t22) fun t23 =>
   .bnd (addM 0 (g t18 6)) fun t24 =>
   .bnd (loadM (some 4) t24) fun t25 =>
   .bnd (callP false none true F_ref20_below [t25]) fun t26 =>
   .join (J_ref20_least_1 me7) fun jn28 =>
   .ifP t26 (.bnd (addM 1 (g t18 2)) fun t42 =>
   .bnd (loadM none t42) fun t43 =>
   .bnd (idxM 1 t43 (g t18 5)) fun t44 =>
   .bnd (loadM none t44) fun t45 =>
   .leaf (jn28 [(g t18 0), (g t18 1), (g t18 2), (g t18 3), (g t18 4), (g t18 5), (g t18 6), t45])) (.leaf (jn28 [(g t18 0), (g t18 1), (g t18 2), (g t18 3), (g t18 4), (g t18 5), (g t18 6), t23]))
def L_ref20_least_1 (me7 : List PV → M) (t8 : List PV) : Prog :=
   .bnd (addM 0 (g t8 2)) fun t9 =>
   .bnd (loadM none t9) fun t10 =>
   .bnd (lenM t10) fun t11 =>
   .bnd (binM .lss ty_int (g t8 5) t11) fun t12 =>
   .ifP t12
   (.bnd (loadM (some 5) (g t8 2)) fun t13 =>
   .bnd (callP false none true F_ref20_column [t13, (g t8 5)]) fun t14 =>
   .bnd (callP false none true F_ref20_dot [(g t8 0), t14]) fun t15 =>
   .bnd (boxM none 5 (.agg [(.bool false), .nilS, (.bool false), .nilS, (.bool false)])) fun t16 =>
   .bnd (storeM 5 t16 t15) fun _ =>
   .join (J_ref20_least_2 me7) fun jn19 =>
   .ifP (g t8 1) (.bnd (loadM (some 5) t16) fun t46 =>
   .bnd (addM 4 (g t8 2)) fun t47 =>
   .bnd (loadM none t47) fun t48 =>
   .bnd (idxM 1 t48 (g t8 5)) fun t49 =>
   .bnd (loadM none t49) fun t50 =>
   .bnd (callP false none true F_ref04_Of [t50]) fun t51 =>
   .bnd (callP false none true F_ref20_plus [t46, t51, (I 1)]) fun t52 =>
   .bnd (storeM 5 t16 t52) fun _ =>
   .leaf (jn19 [(g t8 0), (g t8 1), (g t8 2), (g t8 3), (g t8 4), (g t8 5), t16])) (.leaf (jn19 [(g t8 0), (g t8 1), (g t8 2), (g t8 3), (g t8 4), (g t8 5), t16])))
   (.bnd (loadM (some 5) (g t8 4)) fun t54 =>
   .bnd (storeM 5 (g t8 3) t54) fun _ =>
   .bnd (loadM (some 5) (g t8 3)) fun t56 =>
   .leaf (ret t56))
def B_ref20_least : List PV → Prog
 | [a0, a1, a2] => .bnd (boxM none 5 a0) fun t1 =>
   .bnd (boxM none 5 (.agg [(.bool false), .nilS, (.bool false), .nilS, (.bool false)])) fun t2 =>
   .bnd (callP false none true F_ref04_Of [(I 0)]) fun t3 =>
   .bnd (buildM [(.bool false), .nilS, (.bool false), .nilS, (.bool false)] [(0, 4, t3)]) fun t4 =>
   .bnd (boxM none 5 (.agg [(.bool false), .nilS, (.bool false), .nilS, (.bool false)])) fun t5 =>
   .bnd (storeM 5 t5 t4) fun _ =>
   .loop L_ref20_least_1
   [a1, a2, t1, t2, t5, (I 0)]
 | _ => .leaf failM
def F_ref20_least : List PV → PRes := runP false fun a => (B_ref20_least a).run
/- touchstone/touchstoneref04.Neg (P) -/
def B_ref04_Neg : List PV → Prog
 | [a0] => .bnd (boxM none 4 a0) fun t1 =>
   .bnd (boxM none 4 (.agg [(.bool false), .nilS, (.bool false), .nilS])) fun t2 =>
   .bnd (loadM (some 4) t1) fun t3 =>
   .bnd (callP false none true F_ref04_Right [t3]) fun t4 =>
   .bnd (unM .not t4) fun t5 =>
   .ifP t5
   (.bnd (buildM [(.bool false), .nilS, (.bool false), .nilS] []) fun t6 =>
   .bnd (storeM 4 t2 t6) fun _ =>
   .bnd (loadM (some 4) t2) fun t8 =>
   .leaf (ret (.tup [t8, (I 2)])))
   (.bnd (addM 0 t1) fun t9 =>
   .bnd (loadM (some 2) t9) fun t10 =>
   .bnd (callP false none true F_ref03_Neg [t10]) fun t11 =>
   .bnd (extractM t11 0) fun t12 =>
   .bnd (extractM t11 1) fun _ =>
   .bnd (boxM none 2 (.agg [(.bool false), .nilS])) fun t14 =>
   .bnd (storeM 2 t14 t12) fun _ =>
   .bnd (loadM (some 2) t14) fun t16 =>
   .bnd (addM 2 t1) fun t17 =>
   .bnd (loadM (some 2) t17) fun t18 =>
   .bnd (buildM [(.bool false), .nilS, (.bool false), .nilS] [(0, 2, t16), (2, 2, t18)]) fun t19 =>
   .bnd (storeM 4 t2 t19) fun _ =>
   .bnd (loadM (some 4) t2) fun t21 =>
   .leaf (ret (.tup [t21, (I 0)])))
 | _ => .leaf failM
def F_ref04_Neg : List PV → PRes := runP false fun a => (B_ref04_Neg a).run
/- touchstone/touchstoneref20.minus (P) -/
def B_ref20_minus : List PV → Prog
 | [a0, a1] => .bnd (boxM none 5 a0) fun t1 =>
   .bnd (boxM none 5 a1) fun t2 =>
   .bnd (boxM none 5 (.agg [(.bool false), .nilS, (.bool false), .nilS, (.bool false)])) fun t3 =>
   .bnd (addM 0 t2) fun t4 =>
   .bnd (loadM (some 4) t4) fun t5 =>
   .bnd (callP false none true F_ref04_Neg [t5]) fun t6 =>
   .bnd (extractM t6 0) fun t7 =>
   .bnd (extractM t6 1) fun t8 =>
   .bnd (boxM none 4 (.agg [(.bool false), .nilS, (.bool false), .nilS])) fun t9 =>
   .bnd (storeM 4 t9 t7) fun _ =>
   .bnd (addM 0 t1) fun t11 =>
   .bnd (loadM (some 4) t11) fun t12 =>
   .bnd (loadM (some 4) t9) fun t13 =>
   .bnd (callP false none true F_ref04_Add [t12, t13]) fun t14 =>
   .bnd (extractM t14 0) fun t15 =>
   .bnd (extractM t14 1) fun t16 =>
   .bnd (boxM none 4 (.agg [(.bool false), .nilS, (.bool false), .nilS])) fun t17 =>
   .bnd (storeM 4 t17 t15) fun _ =>
   .bnd (loadM (some 4) t17) fun t19 =>
   .bnd (addM 4 t1) fun t20 =>
   .bnd (loadM none t20) fun t21 =>
   .bnd (guardM t21 false (addM 4 t2)) fun t22 =>
   .bnd (guardM t21 false (loadM none t22)) fun t23 =>
   .bnd (pickM t21 (.bool true) t23) fun t24 =>
   .bnd (guardM t24 false (ret t8)) fun t25 =>
   .bnd (guardM t24 false (binM .neq ty_int t25 (I 0))) fun t26 =>
   .bnd (pickM t24 (.bool true) t26) fun t27 =>
   .bnd (guardM t27 false (ret t16)) fun t28 =>
   .bnd (guardM t27 false (binM .neq ty_int t28 (I 0))) fun t29 =>
   .bnd (pickM t27 (.bool true) t29) fun t30 =>
   .bnd (buildM [(.bool false), .nilS, (.bool false), .nilS, (.bool false)] [(0, 4, t19), (4, 1, t30)]) fun t31 =>
   .bnd (storeM 5 t3 t31) fun _ =>
   .bnd (loadM (some 5) t3) fun t33 =>
   .leaf (ret t33)
 | _ => .leaf failM
def F_ref20_minus : List PV → PRes := runP false fun a => (B_ref20_minus a).run
/- touchstone/touchstoneref20.Bound (P) -/
def B_ref20_Bound : List PV → Prog
 | [a0, a1] => .bnd (boxM none 5 a0) fun t1 =>
   .bnd (boxM none 4 (.agg [(.bool false), .nilS, (.bool false), .nilS])) fun t2 =>
   .bnd (loadM (some 5) t1) fun t3 =>
   .bnd (callP false none true F_ref20_Right [t3]) fun t4 =>
   .bnd (unM .not t4) fun t5 =>
   .bnd (guardM t5 false (loadM (some 5) t1)) fun t6 =>
   .bnd (guardM t5 false (ret a1)) fun t7 =>
   .bnd (guardM t5 false (callP false none true F_ref20_Numbers [t6, t7])) fun t8 =>
   .bnd (guardM t5 false (unM .not t8)) fun t9 =>
   .bnd (pickM t5 (.bool true) t9) fun t10 =>
   .ifP t10
   (.bnd (buildM [(.bool false), .nilS, (.bool false), .nilS] []) fun t11 =>
   .bnd (storeM 4 t2 t11) fun _ =>
   .bnd (loadM (some 4) t2) fun t13 =>
   .leaf (ret (.tup [t13, (I 2)])))
   (.base 10 fun t14 =>
   .bnd (loadM (some 5) t1) fun t15 =>
   .bnd (callP false none false F_ref20_least [t15, a1, (.bool true)]) fun t16 =>
   .bnd (addM 3 t1) fun t17 =>
   .bnd (loadM none t17) fun t18 =>
   .bnd (callP false none false F_ref20_dot [a1, t18]) fun t19 =>
   .bnd (callP false none false F_ref20_minus [t16, t19]) fun t20 =>
   .bnd (boxM (some (t14 + 8)) 5 (.agg [(.bool false), .nilS, (.bool false), .nilS, (.bool false)])) fun t21 =>
   .bnd (storeM 5 t21 t20) fun _ =>
   .bnd (addM 4 t21) fun t23 =>
   .bnd (loadM none t23) fun t24 =>
   .ifP t24
   (.bnd (buildM [(.bool false), .nilS, (.bool false), .nilS] []) fun t25 =>
   .bnd (storeM 4 t2 t25) fun _ =>
   .bnd (loadM (some 4) t2) fun t27 =>
   .leaf (ret (.tup [t27, (I 3)])))
   (.bnd (addM 0 t21) fun t28 =>
   .bnd (loadM (some 4) t28) fun t29 =>
   .bnd (storeM 4 t2 t29) fun _ =>
   .bnd (loadM (some 4) t2) fun t31 =>
   .leaf (ret (.tup [t31, (I 0)]))))
 | _ => .leaf failM
def F_ref20_Bound : List PV → PRes := runP false fun a => (B_ref20_Bound a).run
/- touchstone/touchstonelaw04.Ours (P) -/
def B_law04_Ours : List PV → Prog
 | [a0] => .bnd (boxM none 4 a0) fun t1 =>
   .bnd (boxM none 4 (.agg [(.bool false), .nilS, (.bool false), .nilS])) fun t2 =>
   .bnd (addM 0 t1) fun t3 =>
   .bnd (addM 0 t3) fun t4 =>
   .bnd (loadM none t4) fun t5 =>
   .bnd (addM 0 t1) fun t6 =>
   .bnd (addM 1 t6) fun t7 =>
   .bnd (loadM none t7) fun t8 =>
   .bnd (buildM [(.bool false), .nilS] [(0, 1, t5), (1, 1, t8)]) fun t9 =>
   .bnd (addM 2 t1) fun t10 =>
   .bnd (addM 0 t10) fun t11 =>
   .bnd (loadM none t11) fun t12 =>
   .bnd (addM 2 t1) fun t13 =>
   .bnd (addM 1 t13) fun t14 =>
   .bnd (loadM none t14) fun t15 =>
   .bnd (buildM [(.bool false), .nilS] [(0, 1, t12), (1, 1, t15)]) fun t16 =>
   .bnd (buildM [(.bool false), .nilS, (.bool false), .nilS] [(0, 2, t9), (2, 2, t16)]) fun t17 =>
   .bnd (storeM 4 t2 t17) fun _ =>
   .bnd (loadM (some 4) t2) fun t19 =>
   .leaf (ret t19)
 | _ => .leaf failM
def F_law04_Ours : List PV → PRes := runP false fun a => (B_law04_Ours a).run
/- touchstone/touchstoneref02.Same (P) -/
def L_ref02_Same_1 (me4 : List PV → M) (t5 : List PV) : Prog :=
   .bnd (lenM (g t5 0)) fun t6 =>
   .bnd (binM .lss ty_int (g t5 2) t6) fun t7 =>
   .ifP t7
   (.bnd (idxM 1 (g t5 0) (g t5 2)) fun t8 =>
   .bnd (loadM none t8) fun t9 =>
   .bnd (idxM 1 (g t5 1) (g t5 2)) fun t10 =>
   .bnd (loadM none t10) fun t11 =>
   .bnd (binM .neq ty_uint32 t9 t11) fun t12 =>
   .ifP t12
   (.leaf (ret (.bool false)))
   (.bnd (binM .add ty_int (g t5 2) (I 1)) fun t13 =>
   .leaf (me4 [(g t5 0), (g t5 1), t13])))
   (.leaf (ret (.bool true)))
def B_ref02_Same : List PV → Prog
 | [a0, a1] => .bnd (lenM a0) fun t1 =>
   .bnd (lenM a1) fun t2 =>
   .bnd (binM .neq ty_int t1 t2) fun t3 =>
   .ifP t3
   (.leaf (ret (.bool false)))
   (.loop L_ref02_Same_1
   [a0, a1, (I 0)])
 | _ => .leaf failM
def F_ref02_Same : List PV → PRes := runP false fun a => (B_ref02_Same a).run
/- touchstone/touchstoneref03.Same (P) -/
def B_ref03_Same : List PV → Prog
 | [a0, a1] => .bnd (boxM none 2 a0) fun t1 =>
   .bnd (boxM none 2 a1) fun t2 =>
   .bnd (addM 0 t1) fun t3 =>
   .bnd (loadM none t3) fun t4 =>
   .bnd (addM 0 t2) fun t5 =>
   .bnd (loadM none t5) fun t6 =>
   .bnd (binM .eql ty_bool t4 t6) fun t7 =>
   .bnd (guardM t7 true (addM 1 t1)) fun t8 =>
   .bnd (guardM t7 true (loadM none t8)) fun t9 =>
   .bnd (guardM t7 true (addM 1 t2)) fun t10 =>
   .bnd (guardM t7 true (loadM none t10)) fun t11 =>
   .bnd (guardM t7 true (callP false none true F_ref02_Same [t9, t11])) fun t12 =>
   .bnd (pickM t7 t12 (.bool false)) fun t13 =>
   .leaf (ret t13)
 | _ => .leaf failM
def F_ref03_Same : List PV → PRes := runP false fun a => (B_ref03_Same a).run
/- touchstone/touchstoneref04.Same (P) -/
def B_ref04_Same : List PV → Prog
 | [a0, a1] => .bnd (boxM none 4 a0) fun t1 =>
   .bnd (boxM none 4 a1) fun t2 =>
   .bnd (addM 0 t1) fun t3 =>
   .bnd (loadM (some 2) t3) fun t4 =>
   .bnd (addM 0 t2) fun t5 =>
   .bnd (loadM (some 2) t5) fun t6 =>
   .bnd (callP false none true F_ref03_Same [t4, t6]) fun t7 =>
   .bnd (guardM t7 true (addM 2 t1)) fun t8 =>
   .bnd (guardM t7 true (loadM (some 2) t8)) fun t9 =>
   .bnd (guardM t7 true (addM 2 t2)) fun t10 =>
   .bnd (guardM t7 true (loadM (some 2) t10)) fun t11 =>
   .bnd (guardM t7 true (callP false none true F_ref03_Same [t9, t11])) fun t12 =>
   .bnd (pickM t7 t12 (.bool false)) fun t13 =>
   .leaf (ret t13)
 | _ => .leaf failM
def F_ref04_Same : List PV → PRes := runP false fun a => (B_ref04_Same a).run
/- touchstone/touchstonelaw20.PlexBounds (P) -/
def B_law20_PlexBounds : List PV → Prog
 | [a0, a1] => .bnd (boxM none 5 a0) fun t1 =>
   .bnd (callP false none true F_law20_alive []) fun t2 =>
   .bnd (unM .not t2) fun t3 =>
   .ifP t3
   (.leaf (ret (.bool false)))
   (.bnd (loadM (some 5) t1) fun t4 =>
   .bnd (callP false none true F_law20_fits [t4]) fun t5 =>
   .bnd (unM .not t5) fun t6 =>
   .bnd (guardM t6 false (ret a1)) fun t7 =>
   .bnd (guardM t6 false (callP false none true F_law20_few [t7])) fun t8 =>
   .bnd (guardM t6 false (unM .not t8)) fun t9 =>
   .bnd (pickM t6 (.bool true) t9) fun t10 =>
   .ifP t10
   (.leaf (ret (.bool true)))
   (.bnd (loadM (some 5) t1) fun t11 =>
   .bnd (callP false none true F_law20_Theirs [t11]) fun t12 =>
   .bnd (callP false none true F_law20_Rats [a1]) fun t13 =>
   .bnd (callP false none true F_plex_Bound [t12, t13]) fun t14 =>
   .bnd (extractM t14 0) fun t15 =>
   .bnd (extractM t14 1) fun t16 =>
   .bnd (boxM none 4 (.agg [(.bool false), .nilS, (.bool false), .nilS])) fun t17 =>
   .bnd (storeM 4 t17 t15) fun _ =>
   .bnd (loadM (some 5) t1) fun t19 =>
   .bnd (callP false none true F_ref20_Bound [t19, a1]) fun t20 =>
   .bnd (extractM t20 0) fun t21 =>
   .bnd (extractM t20 1) fun t22 =>
   .bnd (boxM none 4 (.agg [(.bool false), .nilS, (.bool false), .nilS])) fun t23 =>
   .bnd (storeM 4 t23 t21) fun _ =>
   .bnd (loadM (some 4) t17) fun t25 =>
   .bnd (callP false none false F_law04_Ours [t25]) fun t26 =>
   .bnd (loadM (some 4) t23) fun t27 =>
   .bnd (callP false none true F_ref04_Same [t26, t27]) fun t28 =>
   .bnd (guardM t28 true (ret t16)) fun t29 =>
   .bnd (guardM t28 true (ret t22)) fun t30 =>
   .bnd (guardM t28 true (binM .eql ty_int t29 t30)) fun t31 =>
   .bnd (pickM t28 t31 (.bool false)) fun t32 =>
   .leaf (ret t32)))
 | _ => .leaf failM
def F_law20_PlexBounds : List PV → PRes := runP false fun a => (B_law20_PlexBounds a).run
/- touchstone/touchstonelaw20.small (P) -/
def B_law20_small : List PV → Prog
 | [a0] => .bnd (boxM none 5 a0) fun t1 =>
   .bnd (loadM (some 5) t1) fun t2 =>
   .bnd (callP false none true F_law20_fits [t2]) fun t3 =>
   .bnd (guardM t3 true (addM 0 t1)) fun t4 =>
   .bnd (guardM t3 true (loadM none t4)) fun t5 =>
   .bnd (guardM t3 true (lenM t5)) fun t6 =>
   .bnd (guardM t3 true (binM .leq ty_int t6 (I 4))) fun t7 =>
   .bnd (pickM t3 t7 (.bool false)) fun t8 =>
   .bnd (guardM t8 true (addM 2 t1)) fun t9 =>
   .bnd (guardM t8 true (loadM none t9)) fun t10 =>
   .bnd (guardM t8 true (lenM t10)) fun t11 =>
   .bnd (guardM t8 true (binM .leq ty_int t11 (I 5))) fun t12 =>
   .bnd (pickM t8 t12 (.bool false)) fun t13 =>
   .leaf (ret t13)
 | _ => .leaf failM
def F_law20_small : List PV → PRes := runP false fun a => (B_law20_small a).run
/- touchstone/touchstonelaw20.cost (P) -/
def L_law20_cost_1 (me36 : List PV → M) (me40 : List PV → M) (t41 : List PV) : Prog :=
   .bnd (binM .lss ty_int (g t41 9) (g t41 8)) fun t42 =>
   .ifP t42
   (.bnd (idxM 1 (g t41 7) (g t41 9)) fun t43 =>
   .bnd (loadM none t43) fun t44 =>
   .bnd (addM 2 (g t41 1)) fun t45 =>
   .bnd (loadM none t45) fun t46 =>
   .bnd (idxM 1 t46 (g t41 3)) fun t47 =>
   .bnd (loadM none t47) fun t48 =>
   .bnd (idxM 1 t48 (g t41 9)) fun t49 =>
   .bnd (loadM none t49) fun t50 =>
   .bnd (binM .mul ty_int64 t50 t44) fun t51 =>
   .bnd (binM .add ty_int64 (g t41 4) t51) fun t52 =>
   .bnd (binM .add ty_int (g t41 9) (I 1)) fun t53 =>
   .leaf (me40 [(g t41 0), (g t41 1), (g t41 2), (g t41 3), t52, (g t41 5), (g t41 6), (g t41 7), (g t41 8), t53]))
   (.bnd (addM 3 (g t41 1)) fun t54 =>
   .bnd (loadM none t54) fun t55 =>
   .bnd (idxM 1 t55 (g t41 3)) fun t56 =>
   .bnd (loadM none t56) fun t57 =>
   .bnd (binM .gtr ty_int64 (g t41 4) t57) fun t58 =>
   .ifP t58
   (.leaf (ret (.tup [(I 0), (.bool false)])))
   (.bnd (binM .add ty_int (g t41 6) (I 1)) fun t59 =>
   .leaf (me36 [(g t41 0), (g t41 1), (g t41 2), (g t41 5), t59])))
def L_law20_cost_2 (me36 : List PV → M) (t37 : List PV) : Prog :=
   .bnd (binM .lss ty_int (g t37 4) (g t37 3)) fun t38 =>
   .ifP t38
   (.bnd (lenM (g t37 0)) fun t39 =>
   .loop (L_law20_cost_1 me36)
   [(g t37 0), (g t37 1), (g t37 2), (g t37 4), (I 0), (g t37 3), (g t37 4), (g t37 0), t39, (I 0)])
   (.leaf (ret (.tup [(g t37 2), (.bool true)])))
def L_law20_cost_3 (me8 : List PV → M) (t9 : List PV) : Prog :=
   .bnd (binM .lss ty_int (g t9 5) (g t9 4)) fun t10 =>
   .ifP t10
   (.bnd (idxM 1 (g t9 3) (g t9 5)) fun t11 =>
   .bnd (loadM none t11) fun t12 =>
   .bnd (addM 0 (g t9 1)) fun t13 =>
   .bnd (loadM none t13) fun t14 =>
   .bnd (idxM 1 t14 (g t9 5)) fun t15 =>
   .bnd (loadM none t15) fun t16 =>
   .bnd (binM .lss ty_int64 t12 t16) fun t17 =>
   .bnd (guardM t17 false (ret t12)) fun t18 =>
   .bnd (guardM t17 false (addM 1 (g t9 1))) fun t19 =>
   .bnd (guardM t17 false (loadM none t19)) fun t20 =>
   .bnd (guardM t17 false (ret (g t9 5))) fun t21 =>
   .bnd (guardM t17 false (idxM 1 t20 t21)) fun t22 =>
   .bnd (guardM t17 false (loadM none t22)) fun t23 =>
   .bnd (guardM t17 false (binM .gtr ty_int64 t18 t23)) fun t24 =>
   .bnd (pickM t17 (.bool true) t24) fun t25 =>
   .ifP t25
   (.leaf (ret (.tup [(I 0), (.bool false)])))
   (.bnd (addM 4 (g t9 1)) fun t26 =>
   .bnd (loadM none t26) fun t27 =>
   .bnd (idxM 1 t27 (g t9 5)) fun t28 =>
   .bnd (loadM none t28) fun t29 =>
   .bnd (binM .mul ty_int64 t29 t12) fun t30 =>
   .bnd (binM .add ty_int64 (g t9 2) t30) fun t31 =>
   .bnd (binM .add ty_int (g t9 5) (I 1)) fun t32 =>
   .leaf (me8 [(g t9 0), (g t9 1), t31, (g t9 3), (g t9 4), t32])))
   (.bnd (addM 2 (g t9 1)) fun t33 =>
   .bnd (loadM none t33) fun t34 =>
   .bnd (lenM t34) fun t35 =>
   .loop L_law20_cost_2
   [(g t9 0), (g t9 1), (g t9 2), t35, (I 0)])
def B_law20_cost : List PV → Prog
 | [a0, a1] => .bnd (boxM none 5 a0) fun t1 =>
   .bnd (lenM a1) fun t2 =>
   .bnd (addM 0 t1) fun t3 =>
   .bnd (loadM none t3) fun t4 =>
   .bnd (lenM t4) fun t5 =>
   .bnd (binM .neq ty_int t2 t5) fun t6 =>
   .ifP t6
   (.leaf (ret (.tup [(I 0), (.bool false)])))
   (.bnd (lenM a1) fun t7 =>
   .loop L_law20_cost_3
   [a1, t1, (I 0), a1, t7, (I 0)])
 | _ => .leaf failM
def F_law20_cost : List PV → PRes := runP false fun a => (B_law20_cost a).run
/- touchstone/touchstonelaw20.PlexUnder (P) -/
def B_law20_PlexUnder : List PV → Prog
 | [a0, a1, a2] => .bnd (boxM none 5 a0) fun t1 =>
   .bnd (callP false none true F_law20_alive []) fun t2 =>
   .bnd (unM .not t2) fun t3 =>
   .ifP t3
   (.leaf (ret (.bool false)))
   (.bnd (loadM (some 5) t1) fun t4 =>
   .bnd (callP false none true F_law20_small [t4]) fun t5 =>
   .bnd (unM .not t5) fun t6 =>
   .bnd (guardM t6 false (loadM (some 5) t1)) fun t7 =>
   .bnd (guardM t6 false (callP false none true F_ref20_Right [t7])) fun t8 =>
   .bnd (guardM t6 false (unM .not t8)) fun t9 =>
   .bnd (pickM t6 (.bool true) t9) fun t10 =>
   .bnd (guardM t10 false (ret a1)) fun t11 =>
   .bnd (guardM t10 false (callP false none true F_law20_few [t11])) fun t12 =>
   .bnd (guardM t10 false (unM .not t12)) fun t13 =>
   .bnd (pickM t10 (.bool true) t13) fun t14 =>
   .ifP t14
   (.leaf (ret (.bool true)))
   (.bnd (loadM (some 5) t1) fun t15 =>
   .bnd (callP false none true F_law20_cost [t15, a2]) fun t16 =>
   .bnd (extractM t16 0) fun t17 =>
   .bnd (extractM t16 1) fun t18 =>
   .bnd (loadM (some 5) t1) fun t19 =>
   .bnd (callP false none true F_law20_Theirs [t19]) fun t20 =>
   .bnd (callP false none true F_law20_Rats [a1]) fun t21 =>
   .bnd (callP false none true F_plex_Bound [t20, t21]) fun t22 =>
   .bnd (extractM t22 0) fun t23 =>
   .bnd (extractM t22 1) fun t24 =>
   .bnd (boxM none 4 (.agg [(.bool false), .nilS, (.bool false), .nilS])) fun t25 =>
   .bnd (storeM 4 t25 t23) fun _ =>
   .bnd (unM .not t18) fun t27 =>
   .bnd (guardM t27 false (ret t24)) fun t28 =>
   .bnd (guardM t27 false (binM .neq ty_api_Errno t28 (I 0))) fun t29 =>
   .bnd (pickM t27 (.bool true) t29) fun t30 =>
   .ifP t30
   (.leaf (ret (.bool true)))
   (.bnd (loadM (some 4) t25) fun t31 =>
   .bnd (callP false none true F_ratio_Of [t17]) fun t32 =>
   .bnd (callP false none true F_ratio_Cmp [t31, t32]) fun t33 =>
   .bnd (extractM t33 0) fun t34 =>
   .bnd (extractM t33 1) fun t35 =>
   .bnd (binM .eql ty_api_Errno t35 (I 0)) fun t36 =>
   .bnd (guardM t36 true (ret t34)) fun t37 =>
   .bnd (guardM t36 true (binM .leq ty_int t37 (I 0))) fun t38 =>
   .bnd (pickM t36 t38 (.bool false)) fun t39 =>
   .leaf (ret t39))))
 | _ => .leaf failM
def F_law20_PlexUnder : List PV → PRes := runP false fun a => (B_law20_PlexUnder a).run
/- touchstone/touchstonelaw20.PlexWeak (P) -/
def B_law20_PlexWeak : List PV → Prog
 | [a0, a1] => .bnd (boxM none 5 a0) fun t1 =>
   .bnd (callP false none true F_law20_alive []) fun t2 =>
   .bnd (unM .not t2) fun t3 =>
   .ifP t3
   (.leaf (ret (.bool false)))
   (.bnd (loadM (some 5) t1) fun t4 =>
   .bnd (callP false none true F_law20_small [t4]) fun t5 =>
   .bnd (unM .not t5) fun t6 =>
   .bnd (guardM t6 false (loadM (some 5) t1)) fun t7 =>
   .bnd (guardM t6 false (callP false none true F_ref20_Right [t7])) fun t8 =>
   .bnd (guardM t6 false (unM .not t8)) fun t9 =>
   .bnd (pickM t6 (.bool true) t9) fun t10 =>
   .bnd (guardM t10 false (ret a1)) fun t11 =>
   .bnd (guardM t10 false (callP false none true F_law20_few [t11])) fun t12 =>
   .bnd (guardM t10 false (unM .not t12)) fun t13 =>
   .bnd (pickM t10 (.bool true) t13) fun t14 =>
   .ifP t14
   (.leaf (ret (.bool true)))
   (.bnd (loadM (some 5) t1) fun t15 =>
   .bnd (callP false none true F_law20_Theirs [t15]) fun t16 =>
   .bnd (callP false none true F_law20_Rats [a1]) fun t17 =>
   .bnd (callP false none true F_plex_Bound [t16, t17]) fun t18 =>
   .bnd (extractM t18 0) fun t19 =>
   .bnd (extractM t18 1) fun t20 =>
   .bnd (boxM none 4 (.agg [(.bool false), .nilS, (.bool false), .nilS])) fun t21 =>
   .bnd (storeM 4 t21 t19) fun _ =>
   .bnd (loadM (some 5) t1) fun t23 =>
   .bnd (callP false none true F_law20_Theirs [t23]) fun t24 =>
   .bnd (callP false none true F_plex_Solve [t24, (I 10000)]) fun t25 =>
   .bnd (extractM t25 0) fun t26 =>
   .bnd (extractM t25 1) fun t27 =>
   .bnd (boxM none 7 (.agg [(.int .i64 0), .nilS, (.bool false), .nilS, (.bool false), .nilS, .nilS])) fun t28 =>
   .bnd (storeM 7 t28 t26) fun _ =>
   .bnd (binM .neq ty_api_Errno t27 (I 0)) fun t30 =>
   .ifP t30
   (.leaf (ret (.bool false)))
   (.bnd (binM .neq ty_api_Errno t20 (I 0)) fun t31 =>
   .bnd (guardM t31 false (addM 0 t28)) fun t32 =>
   .bnd (guardM t31 false (loadM none t32)) fun t33 =>
   .bnd (guardM t31 false (binM .neq ty_int t33 (I 1))) fun t34 =>
   .bnd (pickM t31 (.bool true) t34) fun t35 =>
   .ifP t35
   (.leaf (ret (.bool true)))
   (.bnd (loadM (some 4) t21) fun t36 =>
   .bnd (addM 2 t28) fun t37 =>
   .bnd (loadM (some 4) t37) fun t38 =>
   .bnd (callP false none true F_ratio_Cmp [t36, t38]) fun t39 =>
   .bnd (extractM t39 0) fun t40 =>
   .bnd (extractM t39 1) fun t41 =>
   .bnd (binM .eql ty_api_Errno t41 (I 0)) fun t42 =>
   .bnd (guardM t42 true (ret t40)) fun t43 =>
   .bnd (guardM t42 true (binM .leq ty_int t43 (I 0))) fun t44 =>
   .bnd (pickM t42 t44 (.bool false)) fun t45 =>
   .leaf (ret t45)))))
 | _ => .leaf failM
def F_law20_PlexWeak : List PV → PRes := runP false fun a => (B_law20_PlexWeak a).run
end Go.Abs
