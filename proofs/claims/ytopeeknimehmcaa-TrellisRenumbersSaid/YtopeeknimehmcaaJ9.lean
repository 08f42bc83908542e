/- slices.partitionCmpFunc, partitionEqualCmpFunc (printed by dev/genZ3.py). Conditions: as stated. -/
import Derived.Test.YtopeeknimehmcaaJ8
set_option linter.unusedVariables false
set_option linter.unusedSimpArgs false
namespace Go.AM
open Go Go.Proofs
attribute [local go_sem] c_skip c_ops c_seq c_ite c_blk c_exit c_ret t_normal t_exit t_ret b_normal b_exit b_ret i_nil i_cons s_guard s_mov s_pick s_new s_zero s_ld s_ldr s_st s_bin s_beq s_isnil s_eqs s_un s_conv s_fa s_fld s_ia s_sli s_ext s_ifc s_mkf s_agg s_len s_mm s_nilchk s_bsl s_mk s_app s_cpy s_call s_inv cells_agg cells_int cells_bool p_get p_none o_s o_c e_0 e_1 e_2 e_3 e_4 iteC_true iteC_false grd_tt grd_tf grd_ft grd_ff grd_und bindV_some pickV_t pickV_f beq_bool conv_int un_not not_dec mm_min mm_max bv_add bv_sub bv_mul bv_eql bv_neq bv_lss bv_leq bv_gtr bv_geq f_normal f_one f_two f_three f_none fa_ptr fld_one ext_tup len_sl len_nils decide_true decide_false not_true_eq_false not_false_eq_true List.map_cons List.map_nil List.append_nil List.cons_append List.nil_append Nat.zero_add Nat.add_zero Nat.mul_one Nat.succ_ne_self if_true if_false List.getElem?_cons_zero List.getElem?_cons_succ

/-- slices.partitionCmpFunc[int], of elements of any size -/
def paC (k : Nat) (ag : Bool) : AF := ⟨178, [(10, none), (11, none)], (.seq (.ops [⟨none, false, (some 10), (.mov (.c (.int .i64 (0))))⟩, ⟨none, false, (some 11), (.mov (.c (.bool false)))⟩]) (.seq (.ops [⟨none, false, (some 14), (.mov (.s 0))⟩, ⟨none, false, (some 15), (.mov (.s 1))⟩, ⟨none, false, (some 16), (.mov (.s 0))⟩, ⟨none, false, (some 17), (.mov (.s 3))⟩, ⟨none, false, (some 18), (.mov (.s 0))⟩, ⟨none, false, (some 19), (.mov (.s 3))⟩, ⟨none, false, (some 20), (.ia k (.s 18) (.s 19))⟩, ⟨none, false, (some 22), (.mov (.s 0))⟩, ⟨none, false, (some 23), (.mov (.s 1))⟩, ⟨none, false, (some 24), (.ia k (.s 22) (.s 23))⟩, ⟨none, false, (some 21), (.ld ag k (.s 20) none)⟩, ⟨none, false, (some 25), (.ld ag k (.s 24) none)⟩, ⟨none, false, (some 26), (.ia k (.s 14) (.s 15))⟩, ⟨none, false, none, (.st k (.s 26) (.s 21) [])⟩, ⟨none, false, (some 27), (.ia k (.s 16) (.s 17))⟩, ⟨none, false, none, (.st k (.s 27) (.s 25) [])⟩]) (.seq (.ops [⟨none, false, (some 28), (.mov (.s 1))⟩, ⟨none, false, (some 29), (.bin .add (.s 28) (.c (.int .i64 (1))))⟩, ⟨none, false, (some 30), (.mov (.s 2))⟩, ⟨none, false, (some 31), (.bin .sub (.s 30) (.c (.int .i64 (1))))⟩, ⟨none, false, (some 12), (.mov (.s 29))⟩, ⟨none, false, (some 13), (.mov (.s 31))⟩]) (.seq (.blk 0 (.loop (.seq (.seq (.ops [⟨none, false, (some 32), (.mov (.s 12))⟩, ⟨none, false, (some 33), (.mov (.s 13))⟩, ⟨none, false, (some 34), (.bin .leq (.s 32) (.s 33))⟩, ⟨none, false, (some 35), (.mov (.s 34))⟩, ⟨(some (35, true)), false, (some 36), (.mov (.s 4))⟩, ⟨(some (35, true)), false, (some 37), (.mov (.s 0))⟩, ⟨(some (35, true)), false, (some 38), (.mov (.s 12))⟩, ⟨(some (35, true)), false, (some 39), (.ia k (.s 37) (.s 38))⟩, ⟨(some (35, true)), false, (some 41), (.mov (.s 0))⟩, ⟨(some (35, true)), false, (some 42), (.mov (.s 1))⟩, ⟨(some (35, true)), false, (some 43), (.ia k (.s 41) (.s 42))⟩, ⟨(some (35, true)), false, (some 40), (.ld ag k (.s 39) none)⟩, ⟨(some (35, true)), false, (some 44), (.ld ag k (.s 43) none)⟩, ⟨(some (35, true)), false, (some 45), (.call (.s 36) [(.s 40), (.s 44)])⟩, ⟨(some (35, true)), false, (some 46), (.bin .lss (.s 45) (.c (.int .i64 (0))))⟩, ⟨none, false, (some 47), (.pick (.s 35) (.s 46) (.c (.bool false)))⟩]) (.ite (.s 47) .skip (.exit 0))) (.blk 1 (.ops [⟨none, false, (some 48), (.mov (.s 12))⟩, ⟨none, false, (some 49), (.bin .add (.s 48) (.c (.int .i64 (1))))⟩, ⟨none, false, (some 12), (.mov (.s 49))⟩]))))) (.seq (.blk 2 (.loop (.seq (.seq (.ops [⟨none, false, (some 50), (.mov (.s 12))⟩, ⟨none, false, (some 51), (.mov (.s 13))⟩, ⟨none, false, (some 52), (.bin .leq (.s 50) (.s 51))⟩, ⟨none, false, (some 53), (.mov (.s 52))⟩, ⟨(some (53, true)), false, (some 54), (.mov (.s 4))⟩, ⟨(some (53, true)), false, (some 55), (.mov (.s 0))⟩, ⟨(some (53, true)), false, (some 56), (.mov (.s 13))⟩, ⟨(some (53, true)), false, (some 57), (.ia k (.s 55) (.s 56))⟩, ⟨(some (53, true)), false, (some 59), (.mov (.s 0))⟩, ⟨(some (53, true)), false, (some 60), (.mov (.s 1))⟩, ⟨(some (53, true)), false, (some 61), (.ia k (.s 59) (.s 60))⟩, ⟨(some (53, true)), false, (some 58), (.ld ag k (.s 57) none)⟩, ⟨(some (53, true)), false, (some 62), (.ld ag k (.s 61) none)⟩, ⟨(some (53, true)), false, (some 63), (.call (.s 54) [(.s 58), (.s 62)])⟩, ⟨(some (53, true)), false, (some 64), (.bin .lss (.s 63) (.c (.int .i64 (0))))⟩, ⟨(some (53, true)), false, (some 65), (.un .not (.s 64))⟩, ⟨none, false, (some 66), (.pick (.s 53) (.s 65) (.c (.bool false)))⟩]) (.ite (.s 66) .skip (.exit 2))) (.blk 3 (.ops [⟨none, false, (some 67), (.mov (.s 13))⟩, ⟨none, false, (some 68), (.bin .sub (.s 67) (.c (.int .i64 (1))))⟩, ⟨none, false, (some 13), (.mov (.s 68))⟩]))))) (.seq (.seq (.ops [⟨none, false, (some 69), (.mov (.s 12))⟩, ⟨none, false, (some 70), (.mov (.s 13))⟩, ⟨none, false, (some 71), (.bin .gtr (.s 69) (.s 70))⟩]) (.ite (.s 71) (.seq (.ops [⟨none, false, (some 72), (.mov (.s 0))⟩, ⟨none, false, (some 73), (.mov (.s 13))⟩, ⟨none, false, (some 74), (.mov (.s 0))⟩, ⟨none, false, (some 75), (.mov (.s 1))⟩, ⟨none, false, (some 76), (.mov (.s 0))⟩, ⟨none, false, (some 77), (.mov (.s 1))⟩, ⟨none, false, (some 78), (.ia k (.s 76) (.s 77))⟩, ⟨none, false, (some 80), (.mov (.s 0))⟩, ⟨none, false, (some 81), (.mov (.s 13))⟩, ⟨none, false, (some 82), (.ia k (.s 80) (.s 81))⟩, ⟨none, false, (some 79), (.ld ag k (.s 78) none)⟩, ⟨none, false, (some 83), (.ld ag k (.s 82) none)⟩, ⟨none, false, (some 84), (.ia k (.s 72) (.s 73))⟩, ⟨none, false, none, (.st k (.s 84) (.s 79) [])⟩, ⟨none, false, (some 85), (.ia k (.s 74) (.s 75))⟩, ⟨none, false, none, (.st k (.s 85) (.s 83) [])⟩]) (.seq (.ops [⟨none, false, (some 86), (.mov (.s 13))⟩, ⟨none, false, (some 10), (.mov (.s 86))⟩, ⟨none, false, (some 11), (.mov (.c (.bool true)))⟩]) .ret)) .skip)) (.seq (.ops [⟨none, false, (some 87), (.mov (.s 0))⟩, ⟨none, false, (some 88), (.mov (.s 12))⟩, ⟨none, false, (some 89), (.mov (.s 0))⟩, ⟨none, false, (some 90), (.mov (.s 13))⟩, ⟨none, false, (some 91), (.mov (.s 0))⟩, ⟨none, false, (some 92), (.mov (.s 13))⟩, ⟨none, false, (some 93), (.ia k (.s 91) (.s 92))⟩, ⟨none, false, (some 95), (.mov (.s 0))⟩, ⟨none, false, (some 96), (.mov (.s 12))⟩, ⟨none, false, (some 97), (.ia k (.s 95) (.s 96))⟩, ⟨none, false, (some 94), (.ld ag k (.s 93) none)⟩, ⟨none, false, (some 98), (.ld ag k (.s 97) none)⟩, ⟨none, false, (some 99), (.ia k (.s 87) (.s 88))⟩, ⟨none, false, none, (.st k (.s 99) (.s 94) [])⟩, ⟨none, false, (some 100), (.ia k (.s 89) (.s 90))⟩, ⟨none, false, none, (.st k (.s 100) (.s 98) [])⟩]) (.seq (.ops [⟨none, false, (some 101), (.mov (.s 12))⟩, ⟨none, false, (some 102), (.bin .add (.s 101) (.c (.int .i64 (1))))⟩, ⟨none, false, (some 12), (.mov (.s 102))⟩]) (.seq (.ops [⟨none, false, (some 103), (.mov (.s 13))⟩, ⟨none, false, (some 104), (.bin .sub (.s 103) (.c (.int .i64 (1))))⟩, ⟨none, false, (some 13), (.mov (.s 104))⟩]) (.seq (.blk 4 (.loop (.blk 5 (.seq (.blk 6 (.loop (.seq (.seq (.ops [⟨none, false, (some 105), (.mov (.s 12))⟩, ⟨none, false, (some 106), (.mov (.s 13))⟩, ⟨none, false, (some 107), (.bin .leq (.s 105) (.s 106))⟩, ⟨none, false, (some 108), (.mov (.s 107))⟩, ⟨(some (108, true)), false, (some 109), (.mov (.s 4))⟩, ⟨(some (108, true)), false, (some 110), (.mov (.s 0))⟩, ⟨(some (108, true)), false, (some 111), (.mov (.s 12))⟩, ⟨(some (108, true)), false, (some 112), (.ia k (.s 110) (.s 111))⟩, ⟨(some (108, true)), false, (some 114), (.mov (.s 0))⟩, ⟨(some (108, true)), false, (some 115), (.mov (.s 1))⟩, ⟨(some (108, true)), false, (some 116), (.ia k (.s 114) (.s 115))⟩, ⟨(some (108, true)), false, (some 113), (.ld ag k (.s 112) none)⟩, ⟨(some (108, true)), false, (some 117), (.ld ag k (.s 116) none)⟩, ⟨(some (108, true)), false, (some 118), (.call (.s 109) [(.s 113), (.s 117)])⟩, ⟨(some (108, true)), false, (some 119), (.bin .lss (.s 118) (.c (.int .i64 (0))))⟩, ⟨none, false, (some 120), (.pick (.s 108) (.s 119) (.c (.bool false)))⟩]) (.ite (.s 120) .skip (.exit 6))) (.blk 7 (.ops [⟨none, false, (some 121), (.mov (.s 12))⟩, ⟨none, false, (some 122), (.bin .add (.s 121) (.c (.int .i64 (1))))⟩, ⟨none, false, (some 12), (.mov (.s 122))⟩]))))) (.seq (.blk 8 (.loop (.seq (.seq (.ops [⟨none, false, (some 123), (.mov (.s 12))⟩, ⟨none, false, (some 124), (.mov (.s 13))⟩, ⟨none, false, (some 125), (.bin .leq (.s 123) (.s 124))⟩, ⟨none, false, (some 126), (.mov (.s 125))⟩, ⟨(some (126, true)), false, (some 127), (.mov (.s 4))⟩, ⟨(some (126, true)), false, (some 128), (.mov (.s 0))⟩, ⟨(some (126, true)), false, (some 129), (.mov (.s 13))⟩, ⟨(some (126, true)), false, (some 130), (.ia k (.s 128) (.s 129))⟩, ⟨(some (126, true)), false, (some 132), (.mov (.s 0))⟩, ⟨(some (126, true)), false, (some 133), (.mov (.s 1))⟩, ⟨(some (126, true)), false, (some 134), (.ia k (.s 132) (.s 133))⟩, ⟨(some (126, true)), false, (some 131), (.ld ag k (.s 130) none)⟩, ⟨(some (126, true)), false, (some 135), (.ld ag k (.s 134) none)⟩, ⟨(some (126, true)), false, (some 136), (.call (.s 127) [(.s 131), (.s 135)])⟩, ⟨(some (126, true)), false, (some 137), (.bin .lss (.s 136) (.c (.int .i64 (0))))⟩, ⟨(some (126, true)), false, (some 138), (.un .not (.s 137))⟩, ⟨none, false, (some 139), (.pick (.s 126) (.s 138) (.c (.bool false)))⟩]) (.ite (.s 139) .skip (.exit 8))) (.blk 9 (.ops [⟨none, false, (some 140), (.mov (.s 13))⟩, ⟨none, false, (some 141), (.bin .sub (.s 140) (.c (.int .i64 (1))))⟩, ⟨none, false, (some 13), (.mov (.s 141))⟩]))))) (.seq (.seq (.ops [⟨none, false, (some 142), (.mov (.s 12))⟩, ⟨none, false, (some 143), (.mov (.s 13))⟩, ⟨none, false, (some 144), (.bin .gtr (.s 142) (.s 143))⟩]) (.ite (.s 144) (.exit 4) .skip)) (.seq (.ops [⟨none, false, (some 145), (.mov (.s 0))⟩, ⟨none, false, (some 146), (.mov (.s 12))⟩, ⟨none, false, (some 147), (.mov (.s 0))⟩, ⟨none, false, (some 148), (.mov (.s 13))⟩, ⟨none, false, (some 149), (.mov (.s 0))⟩, ⟨none, false, (some 150), (.mov (.s 13))⟩, ⟨none, false, (some 151), (.ia k (.s 149) (.s 150))⟩, ⟨none, false, (some 153), (.mov (.s 0))⟩, ⟨none, false, (some 154), (.mov (.s 12))⟩, ⟨none, false, (some 155), (.ia k (.s 153) (.s 154))⟩, ⟨none, false, (some 152), (.ld ag k (.s 151) none)⟩, ⟨none, false, (some 156), (.ld ag k (.s 155) none)⟩, ⟨none, false, (some 157), (.ia k (.s 145) (.s 146))⟩, ⟨none, false, none, (.st k (.s 157) (.s 152) [])⟩, ⟨none, false, (some 158), (.ia k (.s 147) (.s 148))⟩, ⟨none, false, none, (.st k (.s 158) (.s 156) [])⟩]) (.seq (.ops [⟨none, false, (some 159), (.mov (.s 12))⟩, ⟨none, false, (some 160), (.bin .add (.s 159) (.c (.int .i64 (1))))⟩, ⟨none, false, (some 12), (.mov (.s 160))⟩]) (.ops [⟨none, false, (some 161), (.mov (.s 13))⟩, ⟨none, false, (some 162), (.bin .sub (.s 161) (.c (.int .i64 (1))))⟩, ⟨none, false, (some 13), (.mov (.s 162))⟩]))))))))) (.seq (.ops [⟨none, false, (some 163), (.mov (.s 0))⟩, ⟨none, false, (some 164), (.mov (.s 13))⟩, ⟨none, false, (some 165), (.mov (.s 0))⟩, ⟨none, false, (some 166), (.mov (.s 1))⟩, ⟨none, false, (some 167), (.mov (.s 0))⟩, ⟨none, false, (some 168), (.mov (.s 1))⟩, ⟨none, false, (some 169), (.ia k (.s 167) (.s 168))⟩, ⟨none, false, (some 171), (.mov (.s 0))⟩, ⟨none, false, (some 172), (.mov (.s 13))⟩, ⟨none, false, (some 173), (.ia k (.s 171) (.s 172))⟩, ⟨none, false, (some 170), (.ld ag k (.s 169) none)⟩, ⟨none, false, (some 174), (.ld ag k (.s 173) none)⟩, ⟨none, false, (some 175), (.ia k (.s 163) (.s 164))⟩, ⟨none, false, none, (.st k (.s 175) (.s 170) [])⟩, ⟨none, false, (some 176), (.ia k (.s 165) (.s 166))⟩, ⟨none, false, none, (.st k (.s 176) (.s 174) [])⟩]) (.seq (.ops [⟨none, false, (some 177), (.mov (.s 13))⟩, ⟨none, false, (some 10), (.mov (.s 177))⟩, ⟨none, false, (some 11), (.mov (.c (.bool false)))⟩]) .ret))))))))))))⟩
/-- slices.partitionEqualCmpFunc[int], of elements of any size -/
def peC (k : Nat) (ag : Bool) : AF := ⟨90, [(10, none)], (.seq (.ops [⟨none, false, (some 10), (.mov (.c (.int .i64 (0))))⟩]) (.seq (.ops [⟨none, false, (some 13), (.mov (.s 0))⟩, ⟨none, false, (some 14), (.mov (.s 1))⟩, ⟨none, false, (some 15), (.mov (.s 0))⟩, ⟨none, false, (some 16), (.mov (.s 3))⟩, ⟨none, false, (some 17), (.mov (.s 0))⟩, ⟨none, false, (some 18), (.mov (.s 3))⟩, ⟨none, false, (some 19), (.ia k (.s 17) (.s 18))⟩, ⟨none, false, (some 21), (.mov (.s 0))⟩, ⟨none, false, (some 22), (.mov (.s 1))⟩, ⟨none, false, (some 23), (.ia k (.s 21) (.s 22))⟩, ⟨none, false, (some 20), (.ld ag k (.s 19) none)⟩, ⟨none, false, (some 24), (.ld ag k (.s 23) none)⟩, ⟨none, false, (some 25), (.ia k (.s 13) (.s 14))⟩, ⟨none, false, none, (.st k (.s 25) (.s 20) [])⟩, ⟨none, false, (some 26), (.ia k (.s 15) (.s 16))⟩, ⟨none, false, none, (.st k (.s 26) (.s 24) [])⟩]) (.seq (.ops [⟨none, false, (some 27), (.mov (.s 1))⟩, ⟨none, false, (some 28), (.bin .add (.s 27) (.c (.int .i64 (1))))⟩, ⟨none, false, (some 29), (.mov (.s 2))⟩, ⟨none, false, (some 30), (.bin .sub (.s 29) (.c (.int .i64 (1))))⟩, ⟨none, false, (some 11), (.mov (.s 28))⟩, ⟨none, false, (some 12), (.mov (.s 30))⟩]) (.seq (.blk 0 (.loop (.blk 1 (.seq (.blk 2 (.loop (.seq (.seq (.ops [⟨none, false, (some 31), (.mov (.s 11))⟩, ⟨none, false, (some 32), (.mov (.s 12))⟩, ⟨none, false, (some 33), (.bin .leq (.s 31) (.s 32))⟩, ⟨none, false, (some 34), (.mov (.s 33))⟩, ⟨(some (34, true)), false, (some 35), (.mov (.s 4))⟩, ⟨(some (34, true)), false, (some 36), (.mov (.s 0))⟩, ⟨(some (34, true)), false, (some 37), (.mov (.s 1))⟩, ⟨(some (34, true)), false, (some 38), (.ia k (.s 36) (.s 37))⟩, ⟨(some (34, true)), false, (some 40), (.mov (.s 0))⟩, ⟨(some (34, true)), false, (some 41), (.mov (.s 11))⟩, ⟨(some (34, true)), false, (some 42), (.ia k (.s 40) (.s 41))⟩, ⟨(some (34, true)), false, (some 39), (.ld ag k (.s 38) none)⟩, ⟨(some (34, true)), false, (some 43), (.ld ag k (.s 42) none)⟩, ⟨(some (34, true)), false, (some 44), (.call (.s 35) [(.s 39), (.s 43)])⟩, ⟨(some (34, true)), false, (some 45), (.bin .lss (.s 44) (.c (.int .i64 (0))))⟩, ⟨(some (34, true)), false, (some 46), (.un .not (.s 45))⟩, ⟨none, false, (some 47), (.pick (.s 34) (.s 46) (.c (.bool false)))⟩]) (.ite (.s 47) .skip (.exit 2))) (.blk 3 (.ops [⟨none, false, (some 48), (.mov (.s 11))⟩, ⟨none, false, (some 49), (.bin .add (.s 48) (.c (.int .i64 (1))))⟩, ⟨none, false, (some 11), (.mov (.s 49))⟩]))))) (.seq (.blk 4 (.loop (.seq (.seq (.ops [⟨none, false, (some 50), (.mov (.s 11))⟩, ⟨none, false, (some 51), (.mov (.s 12))⟩, ⟨none, false, (some 52), (.bin .leq (.s 50) (.s 51))⟩, ⟨none, false, (some 53), (.mov (.s 52))⟩, ⟨(some (53, true)), false, (some 54), (.mov (.s 4))⟩, ⟨(some (53, true)), false, (some 55), (.mov (.s 0))⟩, ⟨(some (53, true)), false, (some 56), (.mov (.s 1))⟩, ⟨(some (53, true)), false, (some 57), (.ia k (.s 55) (.s 56))⟩, ⟨(some (53, true)), false, (some 59), (.mov (.s 0))⟩, ⟨(some (53, true)), false, (some 60), (.mov (.s 12))⟩, ⟨(some (53, true)), false, (some 61), (.ia k (.s 59) (.s 60))⟩, ⟨(some (53, true)), false, (some 58), (.ld ag k (.s 57) none)⟩, ⟨(some (53, true)), false, (some 62), (.ld ag k (.s 61) none)⟩, ⟨(some (53, true)), false, (some 63), (.call (.s 54) [(.s 58), (.s 62)])⟩, ⟨(some (53, true)), false, (some 64), (.bin .lss (.s 63) (.c (.int .i64 (0))))⟩, ⟨none, false, (some 65), (.pick (.s 53) (.s 64) (.c (.bool false)))⟩]) (.ite (.s 65) .skip (.exit 4))) (.blk 5 (.ops [⟨none, false, (some 66), (.mov (.s 12))⟩, ⟨none, false, (some 67), (.bin .sub (.s 66) (.c (.int .i64 (1))))⟩, ⟨none, false, (some 12), (.mov (.s 67))⟩]))))) (.seq (.seq (.ops [⟨none, false, (some 68), (.mov (.s 11))⟩, ⟨none, false, (some 69), (.mov (.s 12))⟩, ⟨none, false, (some 70), (.bin .gtr (.s 68) (.s 69))⟩]) (.ite (.s 70) (.exit 0) .skip)) (.seq (.ops [⟨none, false, (some 71), (.mov (.s 0))⟩, ⟨none, false, (some 72), (.mov (.s 11))⟩, ⟨none, false, (some 73), (.mov (.s 0))⟩, ⟨none, false, (some 74), (.mov (.s 12))⟩, ⟨none, false, (some 75), (.mov (.s 0))⟩, ⟨none, false, (some 76), (.mov (.s 12))⟩, ⟨none, false, (some 77), (.ia k (.s 75) (.s 76))⟩, ⟨none, false, (some 79), (.mov (.s 0))⟩, ⟨none, false, (some 80), (.mov (.s 11))⟩, ⟨none, false, (some 81), (.ia k (.s 79) (.s 80))⟩, ⟨none, false, (some 78), (.ld ag k (.s 77) none)⟩, ⟨none, false, (some 82), (.ld ag k (.s 81) none)⟩, ⟨none, false, (some 83), (.ia k (.s 71) (.s 72))⟩, ⟨none, false, none, (.st k (.s 83) (.s 78) [])⟩, ⟨none, false, (some 84), (.ia k (.s 73) (.s 74))⟩, ⟨none, false, none, (.st k (.s 84) (.s 82) [])⟩]) (.seq (.ops [⟨none, false, (some 85), (.mov (.s 11))⟩, ⟨none, false, (some 86), (.bin .add (.s 85) (.c (.int .i64 (1))))⟩, ⟨none, false, (some 11), (.mov (.s 86))⟩]) (.ops [⟨none, false, (some 87), (.mov (.s 12))⟩, ⟨none, false, (some 88), (.bin .sub (.s 87) (.c (.int .i64 (1))))⟩, ⟨none, false, (some 12), (.mov (.s 88))⟩]))))))))) (.seq (.ops [⟨none, false, (some 89), (.mov (.s 11))⟩, ⟨none, false, (some 10), (.mov (.s 89))⟩]) .ret)))))⟩

section
variable {α : Type} [Inhabited α]
/-- while the range from a to b is parted: low holds of those ahead of i, high of those behind j; the pivot stands at a -/
structure Pt (low high : α → α → Prop) (a b : Nat) (xs ys : List α) (i j : Nat) : Prop where
  ai : a + 1 ≤ i
  ij : i ≤ j + 1
  jb : j < b
  perm : PermIn a b xs ys
  lows : ∀ m, a < m → m < i → low (el ys m) (el ys a)
  highs : ∀ m, j < m → m < b → high (el ys m) (el ys a)
/-- one exchange of two that stand on the wrong sides -/
theorem Pt.swap {low high : α → α → Prop} {a b : Nat} {xs ys : List α} {i j : Nat} (p : Pt low high a b xs ys i j) (hij : i < j) (hb : b ≤ ys.length) (hi : high (el ys i) (el ys a)) (hj : low (el ys j) (el ys a)) : Pt low high a b xs (swapL ys i j) (i + 1) (j - 1) := by
  obtain ⟨p1, p2, p3, p4, p5, p6⟩ := p
  have e := fun m => el_swap (xs := ys) (i := i) (j := j) (by omega) (by omega) m
  have ea : el (swapL ys i j) a = el ys a := by rw [e, if_neg (by omega), if_neg (by omega)]
  refine ⟨by omega, by omega, by omega, p4.trans (.one _ _ (by omega) (by omega) (by omega) (by omega) (by omega) (by omega)), fun m h1 h2 => ?_, fun m h1 h2 => ?_⟩
  · rw [ea, e]
    by_cases c : m = i
    · rw [if_neg (by omega), if_pos c]; exact hj
    · rw [if_neg (by omega), if_neg c]; exact p5 m h1 (by omega)
  · rw [ea, e]
    by_cases c : m = j
    · rw [if_pos c]; exact hi
    · rw [if_neg c, if_neg (by omega)]; exact p6 m (by omega) h2

variable {k : Nat} {ag : Bool} {E : Elem α k ag} {G H : Heap} {g : FuncId} {caps : List V} {cf : α → α → Int} {Pr : α → Prop}

theorem partition_spec {f N n a b pv : Nat} {fl : Bool} {xs : List α} (C : Cmp E G g caps cf Pr) (hcv : cvF Try.prog f = some (paC k ag)) (hG : Heap.sub G H) (hN : G N = none) (hP : ∀ x ∈ xs, Pr x) (hn : xs.length = n) (hn2 : n ≤ 1099511627776) (hap : a ≤ pv) (hpb : pv < b) (hb : b ≤ n) :
    ACalls Try.prog f [.sl N 0 n fl, .int .i64 a, .int .i64 b, .int .i64 pv, .fn g caps] (E.put H N xs) fun u H' => ∃ ys mid t, u = .tup [.int .i64 ((mid : Nat) : Int), .bool t] ∧ H' = E.put H N ys ∧ PermIn a b xs ys ∧ a ≤ mid ∧ mid < b ∧ (∀ m, a ≤ m → m < mid → cf (el ys m) (el ys mid) < 0) ∧ (∀ m, mid < m → m < b → ¬ cf (el ys m) (el ys mid) < 0) := by
  refine ACalls.of_body hm hcv (by simp [paC]) ?_
  have hra := E.read (E.put_at H N xs) (i := a) (by omega)
  have hrp := E.read (E.put_at H N xs) (i := pv) (by omega)
  simp only [paC, go_sem, ↓reduceIte, Nat.reduceEqDiff, Nat.reduceAdd, reduceCtorEq, ia_el (show a < n by omega), ia_el (show pv < n by omega), hra, hrp]
  refine E.st (i := a) (xs := xs) (by omega) ?_
  simp only [go_sem, ↓reduceIte, Nat.reduceEqDiff, Nat.reduceAdd, reduceCtorEq, ia_el (show pv < n by omega)]
  refine E.st (i := pv) (xs := xs.set a xs[pv]) (by rw [List.length_set]; omega) ?_
  rw [show (xs.set a xs[pv]).set pv xs[a] = swapL xs a pv from (swapL_eq (by omega) (by omega)).symm]
  have w1 : IntKind.i64.wrap ((a : Int) + 1) = ((a + 1 : Nat) : Int) := wrapN1 (by omega)
  have w2 : IntKind.i64.wrap ((b : Int) - 1) = ((b - 1 : Nat) : Int) := by rw [wrapI (by omega) (by omega)]; omega
  simp only [go_sem, ↓reduceIte, Nat.reduceEqDiff, Nat.reduceAdd, reduceCtorEq, w1, w2]
  have pt0 : Pt (fun x y => cf x y < 0) (fun x y => ¬ cf x y < 0) a b xs (swapL xs a pv) (a + 1) (b - 1) := ⟨by omega, by omega, by omega, .one _ _ (by omega) (by omega) (by omega) (by omega) (by omega) (by omega), fun m h1 h2 => by omega, fun m h1 h2 => by omega⟩
  -- the last exchange
  have last : ∀ (i j : Nat) (ys : List α), Pt (fun x y => cf x y < 0) (fun x y => ¬ cf x y < 0) a b xs ys i j → j < i → PermIn a b xs (swapL ys j a) ∧ (∀ m, a ≤ m → m < j → cf (el (swapL ys j a) m) (el (swapL ys j a) j) < 0) ∧ (∀ m, j < m → m < b → ¬ cf (el (swapL ys j a) m) (el (swapL ys j a) j) < 0) := by
    rintro i j ys ⟨p1, p2, p3, p4, p5, p6⟩ hji
    have hl := p4.length
    have e := fun m => el_swap (xs := ys) (i := j) (j := a) (by omega) (by omega) m
    have ej : el (swapL ys j a) j = el ys a := by
      rw [e]
      by_cases c : j = a
      · subst c; simp
      · rw [if_neg c, if_pos rfl]
    refine ⟨p4.trans (.one _ _ (by omega) (by omega) (by omega) (by omega) (by omega) (by omega)), fun m h1 h2 => ?_, fun m h1 h2 => ?_⟩
    · rw [ej, e]
      by_cases c : m = a
      · rw [if_pos c]; exact p5 j (by omega) (by omega)
      · rw [if_neg c, if_neg (by omega)]; exact p5 m (by omega) (by omega)
    · rw [ej, e, if_neg (by omega), if_neg (by omega)]; exact p6 m h1 h2
  refine blk_join (fun env H' => ∃ i j ys, H' = E.put H N ys ∧ env 0 = .sl N 0 n fl ∧ env 1 = .int .i64 a ∧ env 4 = .fn g caps ∧ env 12 = .int .i64 ((i : Nat) : Int) ∧ env 13 = .int .i64 ((j : Nat) : Int) ∧ Pt (fun x y => cf x y < 0) (fun x y => ¬ cf x y < 0) a b xs ys i j ∧ (j < i ∨ ¬ cf (el ys i) (el ys a) < 0)) ?_ ?_
  · refine loop_count (b + 1) (fun t env H' => ∃ i j ys, H' = E.put H N ys ∧ env 0 = .sl N 0 n fl ∧ env 1 = .int .i64 a ∧ env 4 = .fn g caps ∧ env 12 = .int .i64 ((i : Nat) : Int) ∧ env 13 = .int .i64 ((j : Nat) : Int) ∧ Pt (fun x y => cf x y < 0) (fun x y => ¬ cf x y < 0) a b xs ys i j ∧ t ≤ i) ?_ ?_ ?_
    · simp only [go_sem, ↓reduceIte, Nat.reduceEqDiff, Nat.reduceAdd, reduceCtorEq]
      exact ⟨a + 1, b - 1, _, rfl, by first | rfl | trivial, by first | rfl | trivial, by first | rfl | trivial, by first | rfl | trivial, by first | rfl | trivial, pt0, Nat.zero_le _⟩
    · rintro t env H' ht ⟨i, j, ys, rfl, h0, h1, h4, hI, hJ, pt, hti⟩
      have hl := pt.perm.length
      obtain ⟨p1, p2, p3, p4, p5, p6⟩ := id pt
      by_cases c1 : (i : Int) ≤ j
      · have hri := E.read (E.put_at H N ys) (i := i) (by omega)
        have hra := E.read (E.put_at H N ys) (i := a) (by omega)
        simp only [go_sem, ↓reduceIte, Nat.reduceEqDiff, Nat.reduceAdd, reduceCtorEq, h0, h1, h4, hI, hJ, c1, ia_el (show i < n by omega), ia_el (show a < n by omega), hri, hra]
        refine callC_pure (C.at (p4.pr hP) (E.put_sub ys hG hN) (i := i) (j := a) (by omega) (by omega)) ?_
        by_cases c2 : cf (el ys i) (el ys a) < 0
        · simp only [go_sem, ↓reduceIte, Nat.reduceEqDiff, Nat.reduceAdd, reduceCtorEq, c2, Bool.not_true, Bool.not_false, h0, h1, h4, hI, hJ]
          rw [wrapN1 (by omega)]
          refine ⟨i + 1, j, ys, rfl, by first | rfl | trivial, by first | rfl | trivial, by first | rfl | trivial, by first | rfl | trivial, by first | rfl | trivial, ⟨by omega, by omega, p3, p4, fun m h1 h2 => ?_, p6⟩, by omega⟩
          rcases Nat.lt_succ_iff_lt_or_eq.1 h2 with h2 | rfl
          · exact p5 m h1 h2
          · exact c2
        · simp only [go_sem, ↓reduceIte, Nat.reduceEqDiff, Nat.reduceAdd, reduceCtorEq, c2, Bool.not_true, Bool.not_false, h0, h1, h4, hI, hJ]
          exact ⟨i, j, ys, rfl, by first | rfl | trivial, by first | rfl | trivial, by first | rfl | trivial, by first | rfl | trivial, by first | rfl | trivial, pt, .inr c2⟩
      · simp only [go_sem, ↓reduceIte, Nat.reduceEqDiff, Nat.reduceAdd, reduceCtorEq, h0, h1, h4, hI, hJ, c1]
        exact ⟨i, j, ys, rfl, by first | rfl | trivial, by first | rfl | trivial, by first | rfl | trivial, by first | rfl | trivial, by first | rfl | trivial, pt, .inl (by omega)⟩
    · rintro env H' ⟨i, j, ys, rfl, h0, h1, h4, hI, hJ, pt, hti⟩
      obtain ⟨p1, p2, p3, p4, p5, p6⟩ := pt
      omega
  rintro env H' ⟨i, j, ys, rfl, h0, h1, h4, hI, hJ, pt, hL⟩
  simp only [go_sem, ↓reduceIte, Nat.reduceEqDiff, Nat.reduceAdd, reduceCtorEq]
  refine blk_join (fun env H' => ∃ i j ys, H' = E.put H N ys ∧ env 0 = .sl N 0 n fl ∧ env 1 = .int .i64 a ∧ env 4 = .fn g caps ∧ env 12 = .int .i64 ((i : Nat) : Int) ∧ env 13 = .int .i64 ((j : Nat) : Int) ∧ Pt (fun x y => cf x y < 0) (fun x y => ¬ cf x y < 0) a b xs ys i j ∧ (j < i ∨ (¬ cf (el ys i) (el ys a) < 0 ∧ cf (el ys j) (el ys a) < 0))) ?_ ?_
  · refine loop_count (b + 1) (fun t env H' => ∃ i j ys, H' = E.put H N ys ∧ env 0 = .sl N 0 n fl ∧ env 1 = .int .i64 a ∧ env 4 = .fn g caps ∧ env 12 = .int .i64 ((i : Nat) : Int) ∧ env 13 = .int .i64 ((j : Nat) : Int) ∧ Pt (fun x y => cf x y < 0) (fun x y => ¬ cf x y < 0) a b xs ys i j ∧ j + t ≤ b ∧ (j < i ∨ ¬ cf (el ys i) (el ys a) < 0)) ?_ ?_ ?_
    · exact ⟨i, j, ys, rfl, h0, h1, h4, hI, hJ, pt, by have := pt.jb; omega, hL⟩
    · rintro t env H' ht ⟨i, j, ys, rfl, h0, h1, h4, hI, hJ, pt, hti, hL⟩
      have hl := pt.perm.length
      obtain ⟨p1, p2, p3, p4, p5, p6⟩ := id pt
      by_cases c1 : (i : Int) ≤ j
      · have hrj := E.read (E.put_at H N ys) (i := j) (by omega)
        have hra := E.read (E.put_at H N ys) (i := a) (by omega)
        simp only [go_sem, ↓reduceIte, Nat.reduceEqDiff, Nat.reduceAdd, reduceCtorEq, h0, h1, h4, hI, hJ, c1, ia_el (show j < n by omega), ia_el (show a < n by omega), hrj, hra]
        refine callC_pure (C.at (p4.pr hP) (E.put_sub ys hG hN) (i := j) (j := a) (by omega) (by omega)) ?_
        by_cases c2 : cf (el ys j) (el ys a) < 0
        · simp only [go_sem, ↓reduceIte, Nat.reduceEqDiff, Nat.reduceAdd, reduceCtorEq, c2, Bool.not_true, Bool.not_false, h0, h1, h4, hI, hJ]
          exact ⟨i, j, ys, rfl, by first | rfl | trivial, by first | rfl | trivial, by first | rfl | trivial, by first | rfl | trivial, by first | rfl | trivial, pt, hL.imp id fun h => ⟨h, c2⟩⟩
        · simp only [go_sem, ↓reduceIte, Nat.reduceEqDiff, Nat.reduceAdd, reduceCtorEq, c2, Bool.not_true, Bool.not_false, h0, h1, h4, hI, hJ]
          obtain ⟨j', rfl⟩ : ∃ j', j = j' + 1 := ⟨j - 1, by omega⟩
          have hw : IntKind.i64.wrap (((j' + 1 : Nat) : Int) - 1) = (j' : Int) := by rw [wrapI (by omega) (by omega)]; omega
          rw [hw]
          refine ⟨i, j', ys, rfl, by first | rfl | trivial, by first | rfl | trivial, by first | rfl | trivial, by first | rfl | trivial, by first | rfl | trivial, ⟨p1, by omega, by omega, p4, p5, fun m h1 h2 => ?_⟩, by omega, hL.imp (fun h => by omega) id⟩
          by_cases e : m = j' + 1
          · subst e; exact c2
          · exact p6 m (by omega) h2
      · simp only [go_sem, ↓reduceIte, Nat.reduceEqDiff, Nat.reduceAdd, reduceCtorEq, h0, h1, h4, hI, hJ, c1]
        exact ⟨i, j, ys, rfl, by first | rfl | trivial, by first | rfl | trivial, by first | rfl | trivial, by first | rfl | trivial, by first | rfl | trivial, pt, .inl (by omega)⟩
    · rintro env H' ⟨i, j, ys, rfl, h0, h1, h4, hI, hJ, pt, hti, hL⟩
      omega
  rintro env H' ⟨i, j, ys, rfl, h0, h1, h4, hI, hJ, pt, hLR⟩
  have hl := pt.perm.length
  obtain ⟨p1, p2, p3, p4, p5, p6⟩ := id pt
  simp only [go_sem, ↓reduceIte, Nat.reduceEqDiff, Nat.reduceAdd, reduceCtorEq, h0, h1, h4, hI, hJ]
  refine iteC_if (fun c => ?_) (fun c => ?_)
  · obtain ⟨l1, l2, l3⟩ := last i j ys pt (by omega)
    have hrx := E.read (E.put_at H N ys) (i := j) (by omega)
    have hry := E.read (E.put_at H N ys) (i := a) (by omega)
    simp only [go_sem, ↓reduceIte, Nat.reduceEqDiff, Nat.reduceAdd, reduceCtorEq, h0, h1, h4, hI, hJ, ia_el (show j < n by omega), ia_el (show a < n by omega), hrx, hry]
    refine E.st (i := j) (xs := ys) (by omega) ?_
    simp only [go_sem, ↓reduceIte, Nat.reduceEqDiff, Nat.reduceAdd, reduceCtorEq, ia_el (show a < n by omega)]
    refine E.st (i := a) (xs := ys.set j ys[a]) (by rw [List.length_set]; omega) ?_
    rw [show (ys.set j ys[a]).set a ys[j] = swapL ys j a from (swapL_eq (by omega) (by omega)).symm]
    simp only [go_sem, ↓reduceIte, Nat.reduceEqDiff, Nat.reduceAdd, reduceCtorEq, h0, h1, h4, hI, hJ]
    exact finO_self ⟨_, j, true, rfl, rfl, l1, by omega, p3, l2, l3⟩
  · obtain ⟨hLi, hRj⟩ := hLR.resolve_left (by omega)
    have hij : i < j := by
      rcases Nat.lt_or_ge i j with h | h
      · exact h
      · have : i = j := by omega
        subst this; exact absurd hRj hLi
    have hrx := E.read (E.put_at H N ys) (i := i) (by omega)
    have hry := E.read (E.put_at H N ys) (i := j) (by omega)
    simp only [go_sem, ↓reduceIte, Nat.reduceEqDiff, Nat.reduceAdd, reduceCtorEq, h0, h1, h4, hI, hJ, ia_el (show i < n by omega), ia_el (show j < n by omega), hrx, hry]
    refine E.st (i := i) (xs := ys) (by omega) ?_
    simp only [go_sem, ↓reduceIte, Nat.reduceEqDiff, Nat.reduceAdd, reduceCtorEq, ia_el (show j < n by omega)]
    refine E.st (i := j) (xs := ys.set i ys[j]) (by rw [List.length_set]; omega) ?_
    rw [show (ys.set i ys[j]).set j ys[i] = swapL ys i j from (swapL_eq (by omega) (by omega)).symm]
    have pt2 := pt.swap hij (by omega) hLi hRj
    have hwj : IntKind.i64.wrap ((j : Int) - 1) = ((j - 1 : Nat) : Int) := by rw [wrapI (by omega) (by omega)]; omega
    simp only [go_sem, ↓reduceIte, Nat.reduceEqDiff, Nat.reduceAdd, reduceCtorEq, h0, h1, h4, hI, hJ, hwj]
    rw [wrapN1 (by omega)]
    refine blk_join (fun env H' => ∃ i j ys, H' = E.put H N ys ∧ env 0 = .sl N 0 n fl ∧ env 1 = .int .i64 a ∧ env 4 = .fn g caps ∧ env 12 = .int .i64 ((i : Nat) : Int) ∧ env 13 = .int .i64 ((j : Nat) : Int) ∧ Pt (fun x y => cf x y < 0) (fun x y => ¬ cf x y < 0) a b xs ys i j ∧ j < i) ?_ ?_
    · refine loop_count (b + 1) (fun t env H' => ∃ i j ys, H' = E.put H N ys ∧ env 0 = .sl N 0 n fl ∧ env 1 = .int .i64 a ∧ env 4 = .fn g caps ∧ env 12 = .int .i64 ((i : Nat) : Int) ∧ env 13 = .int .i64 ((j : Nat) : Int) ∧ Pt (fun x y => cf x y < 0) (fun x y => ¬ cf x y < 0) a b xs ys i j ∧ t ≤ i) ?_ ?_ ?_
      · simp only [go_sem, ↓reduceIte, Nat.reduceEqDiff, Nat.reduceAdd, reduceCtorEq, h0, h1, h4]
        exact ⟨i + 1, j - 1, _, rfl, by first | rfl | trivial, by first | rfl | trivial, by first | rfl | trivial, by first | rfl | trivial, by first | rfl | trivial, pt2, Nat.zero_le _⟩
      · rintro t0 env H' ht0 ⟨i, j, ys, rfl, h0, h1, h4, hI, hJ, pt, hti⟩
        simp only [go_sem, ↓reduceIte, Nat.reduceEqDiff, Nat.reduceAdd, reduceCtorEq]
        refine blk_join (fun env H' => ∃ i j ys, H' = E.put H N ys ∧ env 0 = .sl N 0 n fl ∧ env 1 = .int .i64 a ∧ env 4 = .fn g caps ∧ env 12 = .int .i64 ((i : Nat) : Int) ∧ env 13 = .int .i64 ((j : Nat) : Int) ∧ Pt (fun x y => cf x y < 0) (fun x y => ¬ cf x y < 0) a b xs ys i j ∧ t0 ≤ i ∧ (j < i ∨ ¬ cf (el ys i) (el ys a) < 0)) ?_ ?_
        · refine loop_count (b + 1) (fun t env H' => ∃ i j ys, H' = E.put H N ys ∧ env 0 = .sl N 0 n fl ∧ env 1 = .int .i64 a ∧ env 4 = .fn g caps ∧ env 12 = .int .i64 ((i : Nat) : Int) ∧ env 13 = .int .i64 ((j : Nat) : Int) ∧ Pt (fun x y => cf x y < 0) (fun x y => ¬ cf x y < 0) a b xs ys i j ∧ t0 ≤ i ∧ t ≤ i) ?_ ?_ ?_
          · exact ⟨i, j, ys, rfl, h0, h1, h4, hI, hJ, pt, hti, Nat.zero_le _⟩
          · rintro t env H' ht ⟨i, j, ys, rfl, h0, h1, h4, hI, hJ, pt, htk, hti⟩
            have hl := pt.perm.length
            obtain ⟨p1, p2, p3, p4, p5, p6⟩ := id pt
            by_cases c1 : (i : Int) ≤ j
            · have hri := E.read (E.put_at H N ys) (i := i) (by omega)
              have hra := E.read (E.put_at H N ys) (i := a) (by omega)
              simp only [go_sem, ↓reduceIte, Nat.reduceEqDiff, Nat.reduceAdd, reduceCtorEq, h0, h1, h4, hI, hJ, c1, ia_el (show i < n by omega), ia_el (show a < n by omega), hri, hra]
              refine callC_pure (C.at (p4.pr hP) (E.put_sub ys hG hN) (i := i) (j := a) (by omega) (by omega)) ?_
              by_cases c2 : cf (el ys i) (el ys a) < 0
              · simp only [go_sem, ↓reduceIte, Nat.reduceEqDiff, Nat.reduceAdd, reduceCtorEq, c2, Bool.not_true, Bool.not_false, h0, h1, h4, hI, hJ]
                rw [wrapN1 (by omega)]
                refine ⟨i + 1, j, ys, rfl, by first | rfl | trivial, by first | rfl | trivial, by first | rfl | trivial, by first | rfl | trivial, by first | rfl | trivial, ⟨by omega, by omega, p3, p4, fun m h1 h2 => ?_, p6⟩, by omega, by omega⟩
                rcases Nat.lt_succ_iff_lt_or_eq.1 h2 with h2 | rfl
                · exact p5 m h1 h2
                · exact c2
              · simp only [go_sem, ↓reduceIte, Nat.reduceEqDiff, Nat.reduceAdd, reduceCtorEq, c2, Bool.not_true, Bool.not_false, h0, h1, h4, hI, hJ]
                exact ⟨i, j, ys, rfl, by first | rfl | trivial, by first | rfl | trivial, by first | rfl | trivial, by first | rfl | trivial, by first | rfl | trivial, pt, htk, .inr c2⟩
            · simp only [go_sem, ↓reduceIte, Nat.reduceEqDiff, Nat.reduceAdd, reduceCtorEq, h0, h1, h4, hI, hJ, c1]
              exact ⟨i, j, ys, rfl, by first | rfl | trivial, by first | rfl | trivial, by first | rfl | trivial, by first | rfl | trivial, by first | rfl | trivial, pt, htk, .inl (by omega)⟩
          · rintro env H' ⟨i, j, ys, rfl, h0, h1, h4, hI, hJ, pt, htk, hti⟩
            obtain ⟨p1, p2, p3, p4, p5, p6⟩ := pt
            omega
        rintro env H' ⟨i, j, ys, rfl, h0, h1, h4, hI, hJ, pt, htk, hL⟩
        simp only [go_sem, ↓reduceIte, Nat.reduceEqDiff, Nat.reduceAdd, reduceCtorEq]
        refine blk_join (fun env H' => ∃ i j ys, H' = E.put H N ys ∧ env 0 = .sl N 0 n fl ∧ env 1 = .int .i64 a ∧ env 4 = .fn g caps ∧ env 12 = .int .i64 ((i : Nat) : Int) ∧ env 13 = .int .i64 ((j : Nat) : Int) ∧ Pt (fun x y => cf x y < 0) (fun x y => ¬ cf x y < 0) a b xs ys i j ∧ t0 ≤ i ∧ (j < i ∨ (¬ cf (el ys i) (el ys a) < 0 ∧ cf (el ys j) (el ys a) < 0))) ?_ ?_
        · refine loop_count (b + 1) (fun t env H' => ∃ i j ys, H' = E.put H N ys ∧ env 0 = .sl N 0 n fl ∧ env 1 = .int .i64 a ∧ env 4 = .fn g caps ∧ env 12 = .int .i64 ((i : Nat) : Int) ∧ env 13 = .int .i64 ((j : Nat) : Int) ∧ Pt (fun x y => cf x y < 0) (fun x y => ¬ cf x y < 0) a b xs ys i j ∧ t0 ≤ i ∧ j + t ≤ b ∧ (j < i ∨ ¬ cf (el ys i) (el ys a) < 0)) ?_ ?_ ?_
          · exact ⟨i, j, ys, rfl, h0, h1, h4, hI, hJ, pt, htk, by have := pt.jb; omega, hL⟩
          · rintro t env H' ht ⟨i, j, ys, rfl, h0, h1, h4, hI, hJ, pt, htk, hti, hL⟩
            have hl := pt.perm.length
            obtain ⟨p1, p2, p3, p4, p5, p6⟩ := id pt
            by_cases c1 : (i : Int) ≤ j
            · have hrj := E.read (E.put_at H N ys) (i := j) (by omega)
              have hra := E.read (E.put_at H N ys) (i := a) (by omega)
              simp only [go_sem, ↓reduceIte, Nat.reduceEqDiff, Nat.reduceAdd, reduceCtorEq, h0, h1, h4, hI, hJ, c1, ia_el (show j < n by omega), ia_el (show a < n by omega), hrj, hra]
              refine callC_pure (C.at (p4.pr hP) (E.put_sub ys hG hN) (i := j) (j := a) (by omega) (by omega)) ?_
              by_cases c2 : cf (el ys j) (el ys a) < 0
              · simp only [go_sem, ↓reduceIte, Nat.reduceEqDiff, Nat.reduceAdd, reduceCtorEq, c2, Bool.not_true, Bool.not_false, h0, h1, h4, hI, hJ]
                exact ⟨i, j, ys, rfl, by first | rfl | trivial, by first | rfl | trivial, by first | rfl | trivial, by first | rfl | trivial, by first | rfl | trivial, pt, htk, hL.imp id fun h => ⟨h, c2⟩⟩
              · simp only [go_sem, ↓reduceIte, Nat.reduceEqDiff, Nat.reduceAdd, reduceCtorEq, c2, Bool.not_true, Bool.not_false, h0, h1, h4, hI, hJ]
                obtain ⟨j', rfl⟩ : ∃ j', j = j' + 1 := ⟨j - 1, by omega⟩
                have hw : IntKind.i64.wrap (((j' + 1 : Nat) : Int) - 1) = (j' : Int) := by rw [wrapI (by omega) (by omega)]; omega
                rw [hw]
                refine ⟨i, j', ys, rfl, by first | rfl | trivial, by first | rfl | trivial, by first | rfl | trivial, by first | rfl | trivial, by first | rfl | trivial, ⟨p1, by omega, by omega, p4, p5, fun m h1 h2 => ?_⟩, htk, by omega, hL.imp (fun h => by omega) id⟩
                by_cases e : m = j' + 1
                · subst e; exact c2
                · exact p6 m (by omega) h2
            · simp only [go_sem, ↓reduceIte, Nat.reduceEqDiff, Nat.reduceAdd, reduceCtorEq, h0, h1, h4, hI, hJ, c1]
              exact ⟨i, j, ys, rfl, by first | rfl | trivial, by first | rfl | trivial, by first | rfl | trivial, by first | rfl | trivial, by first | rfl | trivial, pt, htk, .inl (by omega)⟩
          · rintro env H' ⟨i, j, ys, rfl, h0, h1, h4, hI, hJ, pt, htk, hti, hL⟩
            omega
        rintro env H' ⟨i, j, ys, rfl, h0, h1, h4, hI, hJ, pt, htk, hLR⟩
        have hl := pt.perm.length
        obtain ⟨p1, p2, p3, p4, p5, p6⟩ := id pt
        simp only [go_sem, ↓reduceIte, Nat.reduceEqDiff, Nat.reduceAdd, reduceCtorEq, h0, h1, h4, hI, hJ]
        refine iteC_if (fun c => ?_) (fun c => ?_)
        · simp only [go_sem, ↓reduceIte, Nat.reduceEqDiff, Nat.reduceAdd, reduceCtorEq, h0, h1, h4, hI, hJ]
          exact ⟨i, j, ys, rfl, by first | rfl | trivial, by first | rfl | trivial, by first | rfl | trivial, by first | rfl | trivial, by first | rfl | trivial, pt, by omega⟩
        · obtain ⟨hLi, hRj⟩ := hLR.resolve_left (by omega)
          have hij : i < j := by
            rcases Nat.lt_or_ge i j with h | h
            · exact h
            · have : i = j := by omega
              subst this; exact absurd hRj hLi
          have hrx := E.read (E.put_at H N ys) (i := i) (by omega)
          have hry := E.read (E.put_at H N ys) (i := j) (by omega)
          simp only [go_sem, ↓reduceIte, Nat.reduceEqDiff, Nat.reduceAdd, reduceCtorEq, h0, h1, h4, hI, hJ, ia_el (show i < n by omega), ia_el (show j < n by omega), hrx, hry]
          refine E.st (i := i) (xs := ys) (by omega) ?_
          simp only [go_sem, ↓reduceIte, Nat.reduceEqDiff, Nat.reduceAdd, reduceCtorEq, ia_el (show j < n by omega)]
          refine E.st (i := j) (xs := ys.set i ys[j]) (by rw [List.length_set]; omega) ?_
          rw [show (ys.set i ys[j]).set j ys[i] = swapL ys i j from (swapL_eq (by omega) (by omega)).symm]
          have pt2 := pt.swap hij (by omega) hLi hRj
          have hwj : IntKind.i64.wrap ((j : Int) - 1) = ((j - 1 : Nat) : Int) := by rw [wrapI (by omega) (by omega)]; omega
          simp only [go_sem, ↓reduceIte, Nat.reduceEqDiff, Nat.reduceAdd, reduceCtorEq, h0, h1, h4, hI, hJ, hwj]
          rw [wrapN1 (by omega)]
          exact ⟨i + 1, j - 1, _, rfl, by first | rfl | trivial, by first | rfl | trivial, by first | rfl | trivial, by first | rfl | trivial, by first | rfl | trivial, pt2, by omega⟩
      · rintro env H' ⟨i, j, ys, rfl, h0, h1, h4, hI, hJ, pt, hti⟩
        obtain ⟨p1, p2, p3, p4, p5, p6⟩ := pt
        omega
    · rintro env H' ⟨i, j, ys, rfl, h0, h1, h4, hI, hJ, pt, hji⟩
      obtain ⟨l1, l2, l3⟩ := last i j ys pt hji
      have hl := pt.perm.length
      obtain ⟨p1, p2, p3, p4, p5, p6⟩ := id pt
      have hrx := E.read (E.put_at H N ys) (i := j) (by omega)
      have hry := E.read (E.put_at H N ys) (i := a) (by omega)
      simp only [go_sem, ↓reduceIte, Nat.reduceEqDiff, Nat.reduceAdd, reduceCtorEq, h0, h1, h4, hI, hJ, ia_el (show j < n by omega), ia_el (show a < n by omega), hrx, hry]
      refine E.st (i := j) (xs := ys) (by omega) ?_
      simp only [go_sem, ↓reduceIte, Nat.reduceEqDiff, Nat.reduceAdd, reduceCtorEq, ia_el (show a < n by omega)]
      refine E.st (i := a) (xs := ys.set j ys[a]) (by rw [List.length_set]; omega) ?_
      rw [show (ys.set j ys[a]).set a ys[j] = swapL ys j a from (swapL_eq (by omega) (by omega)).symm]
      simp only [go_sem, ↓reduceIte, Nat.reduceEqDiff, Nat.reduceAdd, reduceCtorEq, h0, h1, h4, hI, hJ]
      exact finO_self ⟨_, j, false, rfl, rfl, l1, by omega, p3, l2, l3⟩

theorem partitionEqual_spec {f N n a b pv : Nat} {fl : Bool} {xs : List α} (C : Cmp E G g caps cf Pr) (hcv : cvF Try.prog f = some (peC k ag)) (hG : Heap.sub G H) (hN : G N = none) (hP : ∀ x ∈ xs, Pr x) (hn : xs.length = n) (hn2 : n ≤ 1099511627776) (hap : a ≤ pv) (hpb : pv < b) (hb : b ≤ n) :
    ACalls Try.prog f [.sl N 0 n fl, .int .i64 a, .int .i64 b, .int .i64 pv, .fn g caps] (E.put H N xs) fun u H' => ∃ ys mid, u = .int .i64 ((mid : Nat) : Int) ∧ H' = E.put H N ys ∧ PermIn a b xs ys ∧ a < mid ∧ mid ≤ b ∧ el ys a = el xs pv ∧ (∀ m, a ≤ m → m < mid → ¬ cf (el ys a) (el ys m) < 0) ∧ (∀ m, mid ≤ m → m < b → cf (el ys a) (el ys m) < 0) := by
  refine ACalls.of_body hm hcv (by simp [peC]) ?_
  have hra := E.read (E.put_at H N xs) (i := a) (by omega)
  have hrp := E.read (E.put_at H N xs) (i := pv) (by omega)
  simp only [peC, go_sem, ↓reduceIte, Nat.reduceEqDiff, Nat.reduceAdd, reduceCtorEq, ia_el (show a < n by omega), ia_el (show pv < n by omega), hra, hrp]
  refine E.st (i := a) (xs := xs) (by omega) ?_
  simp only [go_sem, ↓reduceIte, Nat.reduceEqDiff, Nat.reduceAdd, reduceCtorEq, ia_el (show pv < n by omega)]
  refine E.st (i := pv) (xs := xs.set a xs[pv]) (by rw [List.length_set]; omega) ?_
  rw [show (xs.set a xs[pv]).set pv xs[a] = swapL xs a pv from (swapL_eq (by omega) (by omega)).symm]
  have w1 : IntKind.i64.wrap ((a : Int) + 1) = ((a + 1 : Nat) : Int) := wrapN1 (by omega)
  have w2 : IntKind.i64.wrap ((b : Int) - 1) = ((b - 1 : Nat) : Int) := by rw [wrapI (by omega) (by omega)]; omega
  simp only [go_sem, ↓reduceIte, Nat.reduceEqDiff, Nat.reduceAdd, reduceCtorEq, w1, w2]
  have ea0 : el (swapL xs a pv) a = el xs pv := by
    rw [el_swap (by omega) (by omega)]
    by_cases c : a = pv
    · subst c; simp
    · rw [if_neg c, if_pos rfl]
  have pt0 : Pt (fun x y => ¬ cf y x < 0) (fun x y => cf y x < 0) a b xs (swapL xs a pv) (a + 1) (b - 1) := ⟨by omega, by omega, by omega, .one _ _ (by omega) (by omega) (by omega) (by omega) (by omega) (by omega), fun m h1 h2 => by omega, fun m h1 h2 => by omega⟩
  refine blk_join (fun env H' => ∃ i j ys, H' = E.put H N ys ∧ env 0 = .sl N 0 n fl ∧ env 1 = .int .i64 a ∧ env 4 = .fn g caps ∧ env 11 = .int .i64 ((i : Nat) : Int) ∧ env 12 = .int .i64 ((j : Nat) : Int) ∧ Pt (fun x y => ¬ cf y x < 0) (fun x y => cf y x < 0) a b xs ys i j ∧ el ys a = el xs pv ∧ j < i) ?_ ?_
  · refine loop_count (b + 1) (fun t env H' => ∃ i j ys, H' = E.put H N ys ∧ env 0 = .sl N 0 n fl ∧ env 1 = .int .i64 a ∧ env 4 = .fn g caps ∧ env 11 = .int .i64 ((i : Nat) : Int) ∧ env 12 = .int .i64 ((j : Nat) : Int) ∧ Pt (fun x y => ¬ cf y x < 0) (fun x y => cf y x < 0) a b xs ys i j ∧ (t ≤ i ∧ el ys a = el xs pv)) ?_ ?_ ?_
    · simp only [go_sem, ↓reduceIte, Nat.reduceEqDiff, Nat.reduceAdd, reduceCtorEq]
      exact ⟨a + 1, b - 1, _, rfl, by first | rfl | trivial, by first | rfl | trivial, by first | rfl | trivial, by first | rfl | trivial, by first | rfl | trivial, pt0, Nat.zero_le _, ea0⟩
    · rintro t0 env H' ht0 ⟨i, j, ys, rfl, h0, h1, h4, hI, hJ, pt, hti⟩
      simp only [go_sem, ↓reduceIte, Nat.reduceEqDiff, Nat.reduceAdd, reduceCtorEq]
      refine blk_join (fun env H' => ∃ i j ys, H' = E.put H N ys ∧ env 0 = .sl N 0 n fl ∧ env 1 = .int .i64 a ∧ env 4 = .fn g caps ∧ env 11 = .int .i64 ((i : Nat) : Int) ∧ env 12 = .int .i64 ((j : Nat) : Int) ∧ Pt (fun x y => ¬ cf y x < 0) (fun x y => cf y x < 0) a b xs ys i j ∧ (t0 ≤ i ∧ el ys a = el xs pv) ∧ (j < i ∨ cf (el ys a) (el ys i) < 0)) ?_ ?_
      · refine loop_count (b + 1) (fun t env H' => ∃ i j ys, H' = E.put H N ys ∧ env 0 = .sl N 0 n fl ∧ env 1 = .int .i64 a ∧ env 4 = .fn g caps ∧ env 11 = .int .i64 ((i : Nat) : Int) ∧ env 12 = .int .i64 ((j : Nat) : Int) ∧ Pt (fun x y => ¬ cf y x < 0) (fun x y => cf y x < 0) a b xs ys i j ∧ (t0 ≤ i ∧ el ys a = el xs pv) ∧ t ≤ i) ?_ ?_ ?_
        · exact ⟨i, j, ys, rfl, h0, h1, h4, hI, hJ, pt, hti, Nat.zero_le _⟩
        · rintro t env H' ht ⟨i, j, ys, rfl, h0, h1, h4, hI, hJ, pt, htk, hti⟩
          have hl := pt.perm.length
          obtain ⟨p1, p2, p3, p4, p5, p6⟩ := id pt
          by_cases c1 : (i : Int) ≤ j
          · have hri := E.read (E.put_at H N ys) (i := i) (by omega)
            have hra := E.read (E.put_at H N ys) (i := a) (by omega)
            simp only [go_sem, ↓reduceIte, Nat.reduceEqDiff, Nat.reduceAdd, reduceCtorEq, h0, h1, h4, hI, hJ, c1, ia_el (show i < n by omega), ia_el (show a < n by omega), hri, hra]
            refine callC_pure (C.at (p4.pr hP) (E.put_sub ys hG hN) (i := a) (j := i) (by omega) (by omega)) ?_
            by_cases c2 : cf (el ys a) (el ys i) < 0
            · simp only [go_sem, ↓reduceIte, Nat.reduceEqDiff, Nat.reduceAdd, reduceCtorEq, c2, Bool.not_true, Bool.not_false, h0, h1, h4, hI, hJ]
              exact ⟨i, j, ys, rfl, by first | rfl | trivial, by first | rfl | trivial, by first | rfl | trivial, by first | rfl | trivial, by first | rfl | trivial, pt, htk, .inr c2⟩
            · simp only [go_sem, ↓reduceIte, Nat.reduceEqDiff, Nat.reduceAdd, reduceCtorEq, c2, Bool.not_true, Bool.not_false, h0, h1, h4, hI, hJ]
              rw [wrapN1 (by omega)]
              refine ⟨i + 1, j, ys, rfl, by first | rfl | trivial, by first | rfl | trivial, by first | rfl | trivial, by first | rfl | trivial, by first | rfl | trivial, ⟨by omega, by omega, p3, p4, fun m h1 h2 => ?_, p6⟩, ⟨by have := htk.1; omega, htk.2⟩, by omega⟩
              rcases Nat.lt_succ_iff_lt_or_eq.1 h2 with h2 | rfl
              · exact p5 m h1 h2
              · exact c2
          · simp only [go_sem, ↓reduceIte, Nat.reduceEqDiff, Nat.reduceAdd, reduceCtorEq, h0, h1, h4, hI, hJ, c1]
            exact ⟨i, j, ys, rfl, by first | rfl | trivial, by first | rfl | trivial, by first | rfl | trivial, by first | rfl | trivial, by first | rfl | trivial, pt, htk, .inl (by omega)⟩
        · rintro env H' ⟨i, j, ys, rfl, h0, h1, h4, hI, hJ, pt, htk, hti⟩
          obtain ⟨p1, p2, p3, p4, p5, p6⟩ := pt
          omega
      rintro env H' ⟨i, j, ys, rfl, h0, h1, h4, hI, hJ, pt, htk, hL⟩
      simp only [go_sem, ↓reduceIte, Nat.reduceEqDiff, Nat.reduceAdd, reduceCtorEq]
      refine blk_join (fun env H' => ∃ i j ys, H' = E.put H N ys ∧ env 0 = .sl N 0 n fl ∧ env 1 = .int .i64 a ∧ env 4 = .fn g caps ∧ env 11 = .int .i64 ((i : Nat) : Int) ∧ env 12 = .int .i64 ((j : Nat) : Int) ∧ Pt (fun x y => ¬ cf y x < 0) (fun x y => cf y x < 0) a b xs ys i j ∧ (t0 ≤ i ∧ el ys a = el xs pv) ∧ (j < i ∨ (cf (el ys a) (el ys i) < 0 ∧ ¬ cf (el ys a) (el ys j) < 0))) ?_ ?_
      · refine loop_count (b + 1) (fun t env H' => ∃ i j ys, H' = E.put H N ys ∧ env 0 = .sl N 0 n fl ∧ env 1 = .int .i64 a ∧ env 4 = .fn g caps ∧ env 11 = .int .i64 ((i : Nat) : Int) ∧ env 12 = .int .i64 ((j : Nat) : Int) ∧ Pt (fun x y => ¬ cf y x < 0) (fun x y => cf y x < 0) a b xs ys i j ∧ (t0 ≤ i ∧ el ys a = el xs pv) ∧ j + t ≤ b ∧ (j < i ∨ cf (el ys a) (el ys i) < 0)) ?_ ?_ ?_
        · exact ⟨i, j, ys, rfl, h0, h1, h4, hI, hJ, pt, htk, by have := pt.jb; omega, hL⟩
        · rintro t env H' ht ⟨i, j, ys, rfl, h0, h1, h4, hI, hJ, pt, htk, hti, hL⟩
          have hl := pt.perm.length
          obtain ⟨p1, p2, p3, p4, p5, p6⟩ := id pt
          by_cases c1 : (i : Int) ≤ j
          · have hrj := E.read (E.put_at H N ys) (i := j) (by omega)
            have hra := E.read (E.put_at H N ys) (i := a) (by omega)
            simp only [go_sem, ↓reduceIte, Nat.reduceEqDiff, Nat.reduceAdd, reduceCtorEq, h0, h1, h4, hI, hJ, c1, ia_el (show j < n by omega), ia_el (show a < n by omega), hrj, hra]
            refine callC_pure (C.at (p4.pr hP) (E.put_sub ys hG hN) (i := a) (j := j) (by omega) (by omega)) ?_
            by_cases c2 : cf (el ys a) (el ys j) < 0
            · simp only [go_sem, ↓reduceIte, Nat.reduceEqDiff, Nat.reduceAdd, reduceCtorEq, c2, Bool.not_true, Bool.not_false, h0, h1, h4, hI, hJ]
              obtain ⟨j', rfl⟩ : ∃ j', j = j' + 1 := ⟨j - 1, by omega⟩
              have hw : IntKind.i64.wrap (((j' + 1 : Nat) : Int) - 1) = (j' : Int) := by rw [wrapI (by omega) (by omega)]; omega
              rw [hw]
              refine ⟨i, j', ys, rfl, by first | rfl | trivial, by first | rfl | trivial, by first | rfl | trivial, by first | rfl | trivial, by first | rfl | trivial, ⟨p1, by omega, by omega, p4, p5, fun m h1 h2 => ?_⟩, htk, by omega, hL.imp (fun h => by omega) id⟩
              by_cases e : m = j' + 1
              · subst e; exact c2
              · exact p6 m (by omega) h2
            · simp only [go_sem, ↓reduceIte, Nat.reduceEqDiff, Nat.reduceAdd, reduceCtorEq, c2, Bool.not_true, Bool.not_false, h0, h1, h4, hI, hJ]
              exact ⟨i, j, ys, rfl, by first | rfl | trivial, by first | rfl | trivial, by first | rfl | trivial, by first | rfl | trivial, by first | rfl | trivial, pt, htk, hL.imp id fun h => ⟨h, c2⟩⟩
          · simp only [go_sem, ↓reduceIte, Nat.reduceEqDiff, Nat.reduceAdd, reduceCtorEq, h0, h1, h4, hI, hJ, c1]
            exact ⟨i, j, ys, rfl, by first | rfl | trivial, by first | rfl | trivial, by first | rfl | trivial, by first | rfl | trivial, by first | rfl | trivial, pt, htk, .inl (by omega)⟩
        · rintro env H' ⟨i, j, ys, rfl, h0, h1, h4, hI, hJ, pt, htk, hti, hL⟩
          omega
      rintro env H' ⟨i, j, ys, rfl, h0, h1, h4, hI, hJ, pt, htk, hLR⟩
      have hl := pt.perm.length
      obtain ⟨p1, p2, p3, p4, p5, p6⟩ := id pt
      simp only [go_sem, ↓reduceIte, Nat.reduceEqDiff, Nat.reduceAdd, reduceCtorEq, h0, h1, h4, hI, hJ]
      refine iteC_if (fun c => ?_) (fun c => ?_)
      · simp only [go_sem, ↓reduceIte, Nat.reduceEqDiff, Nat.reduceAdd, reduceCtorEq, h0, h1, h4, hI, hJ]
        exact ⟨i, j, ys, rfl, by first | rfl | trivial, by first | rfl | trivial, by first | rfl | trivial, by first | rfl | trivial, by first | rfl | trivial, pt, htk.2, by omega⟩
      · obtain ⟨hLi, hRj⟩ := hLR.resolve_left (by omega)
        have hij : i < j := by
          rcases Nat.lt_or_ge i j with h | h
          · exact h
          · have : i = j := by omega
            subst this; exact absurd hLi hRj
        have hrx := E.read (E.put_at H N ys) (i := i) (by omega)
        have hry := E.read (E.put_at H N ys) (i := j) (by omega)
        simp only [go_sem, ↓reduceIte, Nat.reduceEqDiff, Nat.reduceAdd, reduceCtorEq, h0, h1, h4, hI, hJ, ia_el (show i < n by omega), ia_el (show j < n by omega), hrx, hry]
        refine E.st (i := i) (xs := ys) (by omega) ?_
        simp only [go_sem, ↓reduceIte, Nat.reduceEqDiff, Nat.reduceAdd, reduceCtorEq, ia_el (show j < n by omega)]
        refine E.st (i := j) (xs := ys.set i ys[j]) (by rw [List.length_set]; omega) ?_
        rw [show (ys.set i ys[j]).set j ys[i] = swapL ys i j from (swapL_eq (by omega) (by omega)).symm]
        have pt2 := pt.swap hij (by omega) hLi hRj
        have hwj : IntKind.i64.wrap ((j : Int) - 1) = ((j - 1 : Nat) : Int) := by rw [wrapI (by omega) (by omega)]; omega
        simp only [go_sem, ↓reduceIte, Nat.reduceEqDiff, Nat.reduceAdd, reduceCtorEq, h0, h1, h4, hI, hJ, hwj]
        rw [wrapN1 (by omega)]
        have ht1 := htk.1
        exact ⟨i + 1, j - 1, _, rfl, by first | rfl | trivial, by first | rfl | trivial, by first | rfl | trivial, by first | rfl | trivial, by first | rfl | trivial, pt2, by omega, by rw [el_swap (by omega) (by omega), if_neg (by omega), if_neg (by omega)]; exact htk.2⟩
    · rintro env H' ⟨i, j, ys, rfl, h0, h1, h4, hI, hJ, pt, hti⟩
      obtain ⟨p1, p2, p3, p4, p5, p6⟩ := pt
      omega
  · rintro env H' ⟨i, j, ys, rfl, h0, h1, h4, hI, hJ, pt, hea, hji⟩
    obtain ⟨p1, p2, p3, p4, p5, p6⟩ := pt
    simp only [go_sem, ↓reduceIte, Nat.reduceEqDiff, Nat.reduceAdd, reduceCtorEq, hI]
    refine finO_self ⟨ys, i, rfl, rfl, p4, by omega, by omega, hea, fun m h1 h2 => ?_, fun m h1 h2 => p6 m (by omega) h2⟩
    by_cases c : m = a
    · subst c; exact C.swo.irr _
    · exact p5 m (by omega) h2
end
end Go.AM
