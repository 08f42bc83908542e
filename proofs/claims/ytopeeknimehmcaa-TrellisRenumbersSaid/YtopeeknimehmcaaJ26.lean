/- The law's turn and turned, and the law TrellisRenumbers. Conditions: none. -/
import Derived.Test.YtopeeknimehmcaaJ25
set_option linter.unusedVariables false
set_option linter.unusedSimpArgs false
namespace Go.AM
open Go Go.Proofs
attribute [local go_sem] c_skip c_ops c_seq c_ite c_blk c_exit c_ret t_normal t_exit t_ret b_normal b_exit b_ret i_nil i_cons s_guard s_mov s_pick s_new s_zero s_ld s_ldr s_st s_bin s_beq s_isnil s_eqs s_un s_conv s_fa s_fld s_ia s_sli s_ext s_ifc s_mkf s_agg s_len s_mm s_nilchk s_bsl s_mk s_app s_cpy s_call s_inv cells_agg cells_int cells_bool p_get p_none o_s o_c e_0 e_1 e_2 e_3 e_4 iteC_true iteC_false grd_tt grd_tf grd_ft grd_ff grd_und bindV_some pickV_t pickV_f beq_bool conv_int un_not not_dec mm_min mm_max bv_add bv_sub bv_mul bv_eql bv_neq bv_lss bv_leq bv_gtr bv_geq f_normal f_one f_two f_three f_none fa_ptr fld_one ext_tup len_sl len_nils decide_true decide_false not_true_eq_false not_false_eq_true List.map_cons List.map_nil List.append_nil List.cons_append List.nil_append Nat.zero_add Nat.add_zero Nat.mul_one Nat.succ_ne_self if_true if_false List.getElem?_cons_zero List.getElem?_cons_succ

/-- codewrightlaw47.turn -/
def F73 : AF := ⟨27, [(6, none)], (.seq (.ops [⟨none, false, (some 3), (.new (.s 0))⟩, ⟨none, false, (some 6), (.mov (.c (.int .i64 (0))))⟩]) (.seq (.seq (.ops [⟨none, false, (some 8), (.mov (.s 2))⟩, ⟨none, false, (some 9), (.mov (.s 1))⟩, ⟨none, false, (some 10), (.len (.s 9))⟩, ⟨none, false, (some 11), (.bin .geq (.s 8) (.s 10))⟩]) (.ite (.s 11) (.seq (.ops [⟨none, false, (some 6), (.mov (.c (.int .i64 (0))))⟩]) .ret) .skip)) (.seq (.ops [⟨none, false, (some 12), (.fa 0 (.s 3))⟩, ⟨none, false, (some 13), (.ld false 1 (.s 12) none)⟩, ⟨none, false, (some 14), (.mov (.s 2))⟩, ⟨none, false, (some 15), (.ia 1 (.s 13) (.s 14))⟩, ⟨none, false, (some 16), (.ld false 1 (.s 15) none)⟩, ⟨none, false, (some 7), (.mov (.s 16))⟩]) (.seq (.ops [⟨none, false, (some 17), (.mov (.s 1))⟩, ⟨none, false, (some 18), (.mov (.s 2))⟩, ⟨none, false, (some 19), (.ia 1 (.s 17) (.s 18))⟩, ⟨none, false, (some 20), (.ld false 1 (.s 19) none)⟩, ⟨none, false, (some 21), (.mov (.s 7))⟩, ⟨none, false, (some 22), (.bin .rem (.s 20) (.s 21))⟩, ⟨none, false, (some 23), (.mov (.s 7))⟩, ⟨none, false, (some 24), (.bin .add (.s 22) (.s 23))⟩, ⟨none, false, (some 25), (.mov (.s 7))⟩, ⟨none, false, (some 26), (.bin .rem (.s 24) (.s 25))⟩, ⟨none, false, (some 6), (.mov (.s 26))⟩]) .ret))))⟩
theorem cv73 : cvF Try.prog 73 = some F73 := by kernel_rfl

/-- codewrightlaw47.turned -/
def F38 : AF := ⟨99, [(4, (some (true, 2)))], (.seq (.ops [⟨none, false, (some 2), (.new (.s 0))⟩, ⟨none, false, (some 4), (.zero [.nils, .nils])⟩]) (.seq (.ops [⟨none, false, (some 13), (.bsl 1 0 [] [])⟩, ⟨none, false, (some 14), (.fa 0 (.s 2))⟩, ⟨none, false, (some 15), (.ld false 1 (.s 14) none)⟩, ⟨none, false, (some 16), (.app 1 8 (.s 13) (.s 15) [])⟩, ⟨none, false, (some 17), (.agg [.nils, .nils] [(0, (1, (.s 16)))])⟩, ⟨none, false, (some 5), (.zero [.nils, .nils])⟩, ⟨none, false, none, (.st 2 (.s 5) (.s 17) [])⟩]) (.seq (.seq (.ops [⟨none, false, (some 6), (.mov (.c (.int .i64 (0))))⟩]) (.blk 0 (.loop (.seq (.seq (.ops [⟨none, false, (some 18), (.mov (.s 6))⟩, ⟨none, false, (some 19), (.fa 1 (.s 2))⟩, ⟨none, false, (some 20), (.ld false 1 (.s 19) none)⟩, ⟨none, false, (some 21), (.len (.s 20))⟩, ⟨none, false, (some 22), (.bin .lss (.s 18) (.s 21))⟩]) (.ite (.s 22) .skip (.exit 0))) (.seq (.blk 1 (.seq (.ops [⟨none, false, (some 25), (.ld true 2 (.s 2) none)⟩, ⟨none, false, (some 26), (.mov (.s 1))⟩, ⟨none, false, (some 27), (.mov (.s 6))⟩, ⟨none, false, (some 28), (.call (.c (.fn 73 [])) [(.s 25), (.s 26), (.s 27)])⟩, ⟨none, false, (some 7), (.mov (.s 28))⟩]) (.seq (.ops [⟨none, false, (some 29), (.ld true 2 (.s 2) none)⟩, ⟨none, false, (some 30), (.mov (.s 1))⟩, ⟨none, false, (some 31), (.mov (.s 6))⟩, ⟨none, false, (some 32), (.bin .add (.s 31) (.c (.int .i64 (1))))⟩, ⟨none, false, (some 33), (.call (.c (.fn 73 [])) [(.s 29), (.s 30), (.s 32)])⟩, ⟨none, false, (some 8), (.mov (.s 33))⟩]) (.seq (.ops [⟨none, false, (some 34), (.bsl 3 0 [] [])⟩, ⟨none, false, (some 9), (.mov (.s 34))⟩]) (.seq (.seq (.ops [⟨none, false, (some 10), (.mov (.c (.int .i64 (0))))⟩]) (.blk 2 (.loop (.seq (.seq (.ops [⟨none, false, (some 35), (.mov (.s 10))⟩, ⟨none, false, (some 36), (.fa 0 (.s 2))⟩, ⟨none, false, (some 37), (.ld false 1 (.s 36) none)⟩, ⟨none, false, (some 38), (.mov (.s 6))⟩, ⟨none, false, (some 39), (.ia 1 (.s 37) (.s 38))⟩, ⟨none, false, (some 40), (.ld false 1 (.s 39) none)⟩, ⟨none, false, (some 41), (.bin .lss (.s 35) (.s 40))⟩]) (.ite (.s 41) .skip (.exit 2))) (.seq (.blk 3 (.seq (.ops [⟨none, false, (some 11), (.mov (.c (.int .i64 (0))))⟩]) (.blk 4 (.loop (.seq (.seq (.ops [⟨none, false, (some 44), (.mov (.s 11))⟩, ⟨none, false, (some 45), (.fa 1 (.s 2))⟩, ⟨none, false, (some 46), (.ld false 1 (.s 45) none)⟩, ⟨none, false, (some 47), (.mov (.s 6))⟩, ⟨none, false, (some 48), (.ia 1 (.s 46) (.s 47))⟩, ⟨none, false, (some 49), (.ld false 1 (.s 48) none)⟩, ⟨none, false, (some 50), (.len (.s 49))⟩, ⟨none, false, (some 51), (.bin .lss (.s 44) (.s 50))⟩]) (.ite (.s 51) .skip (.exit 4))) (.seq (.blk 5 (.seq (.ops [⟨none, false, (some 54), (.fa 1 (.s 2))⟩, ⟨none, false, (some 55), (.ld false 1 (.s 54) none)⟩, ⟨none, false, (some 56), (.mov (.s 6))⟩, ⟨none, false, (some 57), (.ia 1 (.s 55) (.s 56))⟩, ⟨none, false, (some 58), (.ld false 1 (.s 57) none)⟩, ⟨none, false, (some 59), (.mov (.s 11))⟩, ⟨none, false, (some 60), (.ia 3 (.s 58) (.s 59))⟩, ⟨none, false, (some 61), (.ld true 3 (.s 60) none)⟩, ⟨none, false, (some 12), (.zero [(.int .i64 (0)), (.int .i64 (0)), (.int .i64 (0))])⟩, ⟨none, false, none, (.st 3 (.s 12) (.s 61) [])⟩]) (.seq (.ops [⟨none, false, (some 62), (.fa 0 (.s 12))⟩, ⟨none, false, (some 64), (.mov (.s 7))⟩, ⟨none, false, (some 66), (.fa 0 (.s 2))⟩, ⟨none, false, (some 68), (.mov (.s 6))⟩, ⟨none, false, (some 72), (.mov (.s 10))⟩, ⟨none, false, (some 63), (.ld false 1 (.s 62) none)⟩, ⟨none, false, (some 65), (.bin .add (.s 63) (.s 64))⟩, ⟨none, false, (some 67), (.ld false 1 (.s 66) none)⟩, ⟨none, false, (some 69), (.ia 1 (.s 67) (.s 68))⟩, ⟨none, false, (some 70), (.ld false 1 (.s 69) none)⟩, ⟨none, false, (some 71), (.bin .rem (.s 65) (.s 70))⟩, ⟨none, false, (some 73), (.bin .eql (.s 71) (.s 72))⟩]) (.ite (.s 73) (.ops [⟨none, false, (some 74), (.mov (.s 9))⟩, ⟨none, false, (some 75), (.mov (.s 10))⟩, ⟨none, false, (some 76), (.fa 1 (.s 12))⟩, ⟨none, false, (some 78), (.fa 2 (.s 12))⟩, ⟨none, false, (some 80), (.mov (.s 8))⟩, ⟨none, false, (some 82), (.fa 0 (.s 2))⟩, ⟨none, false, (some 84), (.mov (.s 6))⟩, ⟨none, false, (some 85), (.bin .add (.s 84) (.c (.int .i64 (1))))⟩, ⟨none, false, (some 77), (.ld false 1 (.s 76) none)⟩, ⟨none, false, (some 79), (.ld false 1 (.s 78) none)⟩, ⟨none, false, (some 81), (.bin .add (.s 79) (.s 80))⟩, ⟨none, false, (some 83), (.ld false 1 (.s 82) none)⟩, ⟨none, false, (some 86), (.ia 1 (.s 83) (.s 85))⟩, ⟨none, false, (some 87), (.ld false 1 (.s 86) none)⟩, ⟨none, false, (some 88), (.bin .rem (.s 81) (.s 87))⟩, ⟨none, false, (some 89), (.agg [(.int .i64 (0)), (.int .i64 (0)), (.int .i64 (0))] [(0, (1, (.s 75))), (1, (1, (.s 77))), (2, (1, (.s 88)))])⟩, ⟨none, false, (some 90), (.bsl 3 1 [(.int .i64 (0)), (.int .i64 (0)), (.int .i64 (0))] [(0, (3, (.s 89)))])⟩, ⟨none, false, (some 91), (.app 3 24 (.s 74) (.s 90) [])⟩, ⟨none, false, (some 9), (.mov (.s 91))⟩]) .skip)))) (.ops [⟨none, false, (some 52), (.mov (.s 11))⟩, ⟨none, false, (some 53), (.bin .add (.s 52) (.c (.int .i64 (1))))⟩, ⟨none, false, (some 11), (.mov (.s 53))⟩]))))))) (.ops [⟨none, false, (some 42), (.mov (.s 10))⟩, ⟨none, false, (some 43), (.bin .add (.s 42) (.c (.int .i64 (1))))⟩, ⟨none, false, (some 10), (.mov (.s 43))⟩])))))) (.ops [⟨none, false, (some 92), (.fa 1 (.s 5))⟩, ⟨none, false, (some 93), (.ld false 1 (.s 92) none)⟩, ⟨none, false, (some 94), (.mov (.s 9))⟩, ⟨none, false, (some 95), (.bsl 1 1 [.nils] [(0, (1, (.s 94)))])⟩, ⟨none, false, (some 96), (.app 1 24 (.s 93) (.s 95) [])⟩, ⟨none, false, (some 97), (.fa 1 (.s 5))⟩, ⟨none, false, none, (.st 1 (.s 97) (.s 96) [])⟩])))))) (.ops [⟨none, false, (some 23), (.mov (.s 6))⟩, ⟨none, false, (some 24), (.bin .add (.s 23) (.c (.int .i64 (1))))⟩, ⟨none, false, (some 6), (.mov (.s 24))⟩])))))) (.seq (.ops [⟨none, false, (some 98), (.ld true 2 (.s 5) none)⟩, ⟨none, false, none, (.st 2 (.s 4) (.s 98) [])⟩]) .ret))))⟩
theorem cv38 : cvF Try.prog 38 = some F38 := by kernel_rfl

/-- codewrightlaw47.TrellisRenumbers -/
def F8 : AF := ⟨66, [(4, none)], (.seq (.ops [⟨none, false, (some 2), (.new (.s 0))⟩, ⟨none, false, (some 4), (.mov (.c (.bool false)))⟩]) (.seq (.seq (.ops [⟨none, false, (some 11), (.ld true 2 (.s 2) none)⟩, ⟨none, false, (some 12), (.call (.c (.fn 10 [])) [(.s 11), (.c (.int .i64 (3000)))])⟩, ⟨none, false, (some 13), (.un .not (.s 12))⟩]) (.ite (.s 13) (.seq (.ops [⟨none, false, (some 14), (.call (.c (.fn 17 [])) [])⟩, ⟨none, false, (some 4), (.mov (.s 14))⟩]) .ret) .skip)) (.seq (.ops [⟨none, false, (some 16), (.ld true 2 (.s 2) none)⟩, ⟨none, false, (some 17), (.call (.c (.fn 35 [])) [(.s 16)])⟩, ⟨none, false, (some 15), (.mov (.s 17))⟩, ⟨none, false, (some 18), (.ext (.s 15) 0)⟩, ⟨none, false, (some 19), (.ext (.s 15) 1)⟩, ⟨none, false, (some 5), (.zero [.nils, .nils])⟩, ⟨none, false, none, (.st 2 (.s 5) (.s 18) [])⟩, ⟨none, false, (some 6), (.mov (.s 19))⟩]) (.seq (.ops [⟨none, false, (some 20), (.ld true 2 (.s 2) none)⟩, ⟨none, false, (some 21), (.call (.c (.fn 19 [])) [(.s 20)])⟩, ⟨none, false, (some 7), (.mov (.s 21))⟩]) (.seq (.seq (.ops [⟨none, false, (some 22), (.mov (.s 6))⟩, ⟨none, false, (some 23), (.mov (.s 7))⟩, ⟨none, false, (some 24), (.bin .neq (.s 22) (.s 23))⟩, ⟨none, false, (some 25), (.mov (.s 24))⟩, ⟨(some (25, false)), false, (some 26), (.call (.c (.fn 17 [])) [])⟩, ⟨(some (25, false)), false, (some 27), (.un .not (.s 26))⟩, ⟨none, false, (some 28), (.pick (.s 25) (.c (.bool true)) (.s 27))⟩]) (.ite (.s 28) (.seq (.ops [⟨none, false, (some 4), (.mov (.c (.bool false)))⟩]) .ret) .skip)) (.seq (.seq (.ops [⟨none, false, (some 29), (.mov (.s 7))⟩, ⟨none, false, (some 30), (.bin .neq (.s 29) (.c (.int .i64 (0))))⟩]) (.ite (.s 30) (.seq (.ops [⟨none, false, (some 31), (.fa 0 (.s 5))⟩, ⟨none, false, (some 32), (.ld false 1 (.s 31) none)⟩, ⟨none, false, (some 33), (.len (.s 32))⟩, ⟨none, false, (some 34), (.bin .eql (.s 33) (.c (.int .i64 (0))))⟩, ⟨none, false, (some 35), (.mov (.s 34))⟩, ⟨(some (35, true)), false, (some 36), (.fa 1 (.s 5))⟩, ⟨(some (35, true)), false, (some 37), (.ld false 1 (.s 36) none)⟩, ⟨(some (35, true)), false, (some 38), (.len (.s 37))⟩, ⟨(some (35, true)), false, (some 39), (.bin .eql (.s 38) (.c (.int .i64 (0))))⟩, ⟨none, false, (some 40), (.pick (.s 35) (.s 39) (.c (.bool false)))⟩, ⟨none, false, (some 4), (.mov (.s 40))⟩]) .ret) .skip)) (.seq (.seq (.ops [⟨none, false, (some 41), (.ld true 2 (.s 5) none)⟩, ⟨none, false, (some 42), (.ld true 2 (.s 2) none)⟩, ⟨none, true, (some 43), (.call (.c (.fn 37 [])) [(.s 42)])⟩, ⟨none, true, (some 44), (.call (.c (.fn 36 [])) [(.s 41), (.s 43)])⟩, ⟨none, false, (some 45), (.un .not (.s 44))⟩]) (.ite (.s 45) (.seq (.ops [⟨none, false, (some 4), (.mov (.c (.bool false)))⟩]) .ret) .skip)) (.seq (.ops [⟨none, false, (some 46), (.ld true 2 (.s 2) none)⟩, ⟨none, false, (some 47), (.mov (.s 1))⟩, ⟨none, false, (some 48), (.call (.c (.fn 38 [])) [(.s 46), (.s 47)])⟩, ⟨none, false, (some 8), (.zero [.nils, .nils])⟩, ⟨none, false, none, (.st 2 (.s 8) (.s 48) [])⟩]) (.seq (.ops [⟨none, false, (some 50), (.ld true 2 (.s 8) none)⟩, ⟨none, false, (some 51), (.call (.c (.fn 35 [])) [(.s 50)])⟩, ⟨none, false, (some 49), (.mov (.s 51))⟩, ⟨none, false, (some 52), (.ext (.s 49) 0)⟩, ⟨none, false, (some 53), (.ext (.s 49) 1)⟩, ⟨none, false, (some 9), (.zero [.nils, .nils])⟩, ⟨none, false, none, (.st 2 (.s 9) (.s 52) [])⟩, ⟨none, false, (some 10), (.mov (.s 53))⟩]) (.seq (.ops [⟨none, false, (some 54), (.mov (.s 10))⟩, ⟨none, false, (some 55), (.bin .eql (.s 54) (.c (.int .i64 (0))))⟩, ⟨none, false, (some 56), (.mov (.s 55))⟩, ⟨(some (56, true)), false, (some 57), (.ld true 2 (.s 5) none)⟩, ⟨(some (56, true)), false, (some 58), (.ld true 2 (.s 9) none)⟩, ⟨(some (56, true)), false, (some 59), (.call (.c (.fn 36 [])) [(.s 57), (.s 58)])⟩, ⟨none, false, (some 60), (.pick (.s 56) (.s 59) (.c (.bool false)))⟩, ⟨none, false, (some 61), (.mov (.s 60))⟩, ⟨(some (61, true)), false, (some 62), (.ld true 2 (.s 2) none)⟩, ⟨(some (61, true)), false, (some 63), (.ld true 2 (.s 8) none)⟩, ⟨(some (61, true)), false, (some 64), (.call (.c (.fn 39 [])) [(.s 62), (.s 63)])⟩, ⟨none, false, (some 65), (.pick (.s 61) (.s 64) (.c (.bool false)))⟩, ⟨none, false, (some 4), (.mov (.s 65))⟩]) .ret))))))))))⟩
theorem cv8 : cvF Try.prog 8 = some F8 := by kernel_rfl


/-- a turn by c of the numbers below w, and back -/
def rotI (w c v : Int) : Int := if v + c < w then v + c else v + c - w
def rordI (w : Nat) (c : Int) : List Int := (nums w).map fun v => if v < c then v - c + w else v - c
theorem rord_ord {w : Nat} {c : Int} (h0 : 0 ≤ c) (h1 : c < w) : Ord w (rordI w c) := by
  refine ⟨?_, fun v => ?_⟩
  · unfold rordI
    rw [List.nodup_iff_pairwise_ne, List.pairwise_map]
    refine (List.nodup_iff_pairwise_ne.1 (nums_nodup w)).imp_of_mem fun {a b} ha hb h e => h ?_
    have := (nums_mem w a).1 ha
    have := (nums_mem w b).1 hb
    split at e <;> split at e <;> omega
  · unfold rordI
    rw [List.mem_map]
    constructor
    · rintro ⟨a, ha, rfl⟩
      have := (nums_mem w a).1 ha
      split <;> omega
    · rintro ⟨h2, h3⟩
      refine ⟨rotI w c v, (nums_mem w _).2 ?_, ?_⟩
      · unfold rotI; split <;> omega
      · unfold rotI; split <;> split <;> omega
theorem rord_len (w : Nat) (c : Int) : (rordI w c).length = w := by simp [rordI, nums_len]
theorem rord_get {w : Nat} {c : Int} {v : Nat} (h : v < w) : (rordI w c)[v]?.getD 0 = if (v : Int) < c then (v : Int) - c + w else (v : Int) - c := by simp [rordI, nums, h]
theorem rord_eq {w : Nat} {c x : Int} (h0 : 0 ≤ c) (h1 : c < w) (x0 : 0 ≤ x) (x1 : x < w) {v : Nat} (h : v < w) : x = (rordI w c)[v]?.getD 0 ↔ rotI w c x = v := by
  rw [rord_get h]
  unfold rotI
  split <;> split <;> omega
theorem rord_pos {w : Nat} {c x : Int} (h0 : 0 ≤ c) (h1 : c < w) (x0 : 0 ≤ x) (x1 : x < w) : posI (rordI w c) x = rotI w c x := by
  have o := rord_ord h0 h1
  obtain ⟨v, hv⟩ : ∃ v : Nat, rotI w c x = v := ⟨(rotI w c x).toNat, by unfold rotI; split <;> omega⟩
  have hvw : v < w := by unfold rotI at hv; split at hv <;> omega
  have e := (rord_eq h0 h1 x0 x1 hvw).2 hv
  have hl : v < (rordI w c).length := by rw [rord_len]; exact hvw
  rw [List.getElem?_eq_getElem hl, Option.getD_some] at e
  rw [e, posI_at o.nodup hl, ← e, hv]
theorem rot_mod {w c x : Int} (h0 : 0 ≤ c) (h1 : c < w) (x0 : 0 ≤ x) (x1 : x < w) : (x + c).tmod w = rotI w c x := by
  rw [Int.tmod_eq_emod_of_nonneg (by omega)]
  unfold rotI
  split
  · exact Int.emod_eq_of_lt (by omega) (by assumption)
  · rw [← Int.sub_emod_right]
    exact Int.emod_eq_of_lt (by omega) (by omega)
theorem bv_rem {a b : Int} (h : b ≠ 0) : binV .rem (.int .i64 a) (.int .i64 b) = some (.int .i64 (a.tmod b)) := by simp [binV, h]
/-- by how much the numbers of time i are turned -/
def turnI (ws bs : List Int) (i : Nat) : Int := if i < bs.length then ((bs[i]?.getD 0).tmod (ws[i]?.getD 0) + ws[i]?.getD 0).tmod (ws[i]?.getD 0) else 0
theorem turn_lt {ws bs : List Int} {i : Nat} (h : 0 < ws[i]?.getD 0) : 0 ≤ turnI ws bs i ∧ turnI ws bs i < ws[i]?.getD 0 := by
  unfold turnI
  split
  · have := Int.lt_tmod_of_pos (bs[i]?.getD 0) h
    exact ⟨Int.tmod_nonneg _ (by omega), Int.tmod_lt_of_pos _ h⟩
  · omega
theorem turn_spec {sv ev bv : V} {ws bs : List Int} {i : Nat} {H : Heap} (hs : SInts H sv ws) (hb : SInts H bv bs) (hi : i < ws.length) (h0 : 0 < ws[i]) (h1 : ws[i] ≤ 65536) : ACalls Try.prog 73 [.agg [sv, ev], bv, .int .i64 i] H fun u H' => u = .int .i64 (turnI ws bs i) ∧ H' = H := by
  refine ACalls.of_body hm cv73 (by simp only [List.length_cons, List.length_nil]; decide) ?_
  simp only [F73, go_sem, ↓reduceIte, Nat.reduceEqDiff, Nat.reduceAdd, reduceCtorEq]
  refine newC_keep Has.self fun b1 H1 G1 _ hg1 hb1 h1' => ?_
  have hg := hg1.trans' h1'.sub
  simp only [go_sem, ↓reduceIte, Nat.reduceEqDiff, Nat.reduceAdd, reduceCtorEq, hb.len]
  refine iteC_if (fun c => ?_) (fun c => ?_)
  · simp only [go_sem, ↓reduceIte, Nat.reduceEqDiff, Nat.reduceAdd, reduceCtorEq]
    exact finO_sub hg ⟨by rw [turnI, if_neg (by omega)], rfl⟩
  · obtain ⟨p, a1, a2⟩ := (hs.mono hg).get hi .i64
    obtain ⟨q, c1, c2⟩ := (hb.mono hg).get (k := i) (by omega) .i64
    have hne : ws[i] ≠ 0 := by omega
    have l1 := Int.lt_tmod_of_pos (bs[i]'(by omega)) h0
    have l2 := Int.tmod_lt_of_pos (bs[i]'(by omega)) h0
    have w1 : IntKind.i64.wrap ((bs[i]'(by omega)).tmod ws[i] + ws[i]) = (bs[i]'(by omega)).tmod ws[i] + ws[i] := wrapI (by omega) (by omega)
    simp only [go_sem, ↓reduceIte, Nat.reduceEqDiff, Nat.reduceAdd, reduceCtorEq, ld_box (h1'.sub _ _ hb1), a1, a2, c1, c2, bv_rem hne, w1]
    refine finO_sub hg ⟨?_, rfl⟩
    rw [turnI, if_pos (by omega)]
    simp [hi, show i < bs.length by omega]
/-- the trellis with the turned numbers -/
def turnO (ws bs : List Int) (i : Nat) : List Int := rordI (ws[i]?.getD 0).toNat (turnI ws bs i)

theorem turned_spec {sv ev bv : V} {ws bs : List Int} {es : List (List Ed)} {H : Heap} (hs : SInts H sv ws) (he : SSecs H ev es) (hb : SInts H bv bs) (pt : PT ws es) : ACalls Try.prog 38 [.agg [sv, ev], bv] H fun u H' => Heap.sub H H' ∧ ∃ sv' ev', u = .agg [sv', ev'] ∧ SInts H' sv' ws ∧ SSecs H' ev' (reTr (turnO ws bs) es) := by
  refine ACalls.of_body hm cv38 (by simp only [List.length_cons, List.length_nil]; decide) ?_
  have sh := pt.sh
  have hnb := sh.n
  have hwl := sh.len
  simp only [F38, go_sem, ↓reduceIte, Nat.reduceEqDiff, Nat.reduceAdd, reduceCtorEq]
  refine newC_keep Has.self fun b2 H1 G1 _ hg1 hb1 h1 => ?_
  simp only [go_sem, ↓reduceIte, Nat.reduceEqDiff, Nat.reduceAdd, reduceCtorEq, fillV, List.length_cons, List.length_nil, splice, Nat.reduceLeDiff, Nat.zero_lt_one, and_self, List.take_zero, List.take_succ_cons, List.drop_succ_cons, List.drop_zero, List.drop_nil, Nat.reduceLT, Nat.le_refl]
  refine newC_has h1 fun b4 H2 _ _ h2 => ?_
  simp only [go_sem, ↓reduceIte, Nat.reduceEqDiff, Nat.reduceAdd, reduceCtorEq, fillV, List.length_cons, List.length_nil, splice, Nat.reduceLeDiff, Nat.zero_lt_one, and_self, List.take_zero, List.take_succ_cons, List.drop_succ_cons, List.drop_zero, List.drop_nil, Nat.reduceLT, Nat.le_refl]
  refine newC_has h2 (sz := 1) fun e0 H3 _ _ h3 => ?_
  simp only [go_sem, ↓reduceIte, Nat.reduceEqDiff, Nat.reduceAdd, reduceCtorEq, ld_box (h3.sub _ _ hb1)]
  refine appC_has h3 0 rfl Grw.empty (hs.mono (hg1.trans' h3.sub)) (by omega) (by decide) (fun _ _ _ _ _ => trivial) (by omega) (by omega) fun mw H4 _ gw h4 => ?_
  obtain ⟨G3, hg2, hw2, h4⟩ := gw.done h4 0 rfl (by omega)
  simp only [Nat.zero_add, List.nil_append] at hw2
  have h4 := h4.tail
  simp only [go_sem, ↓reduceIte, Nat.reduceEqDiff, Nat.reduceAdd, reduceCtorEq, fillV, List.length_cons, List.length_nil, splice, Nat.reduceLeDiff, Nat.zero_lt_one, and_self, List.take_zero, List.take_succ_cons, List.drop_succ_cons, List.drop_zero, List.drop_nil, Nat.reduceLT, Nat.le_refl]
  refine newC_has h4 fun b5 H5 _ _ h5 => ?_
  simp only [go_sem, ↓reduceIte, Nat.reduceEqDiff, Nat.reduceAdd, reduceCtorEq]
  refine stC_has h5 0 rfl trivial rfl (by decide) (by simp) fun H6 h6 _ => ?_
  have h6 : Has G3 [bk b5 1 [.sl mw 0 ws.length false, .nils], bk b4 1 [.nils, .nils]] H6 := h6
  have hg := hg1.trans' hg2
  have hb1 := hg2 _ _ hb1
  have he0 := SSecs.mono he hg
  have hsv0 := hs.mono hg
  have hbv0 := hb.mono hg
  simp only [go_sem, ↓reduceIte, Nat.reduceEqDiff, Nat.reduceAdd, reduceCtorEq]
  refine loop_count es.length (fun i env H' => env 1 = bv ∧ env 2 = .ptr b2 0 ∧ env 4 = .ptr b4 0 ∧ env 5 = .ptr b5 0 ∧ env 6 = .int .i64 i ∧ ∃ G edv us ee0, Heap.sub G3 G ∧ us.length = i ∧ (∀ r, (h : r < es.length) → r < i → ∃ u, us[r]? = some u ∧ SEds G u (reSec (turnO ws bs r) (turnO ws bs (r+1)) es[r])) ∧ Grw edv 1 i us ee0 ∧
      Has G [bk b5 1 [.sl mw 0 ws.length false, edv], bk b4 1 [.nils, .nils], ee0] H') ?_ ?_ ?_
  · simp only [go_sem, ↓reduceIte, Nat.reduceEqDiff, Nat.reduceAdd, reduceCtorEq, true_and, and_true]
    exact ⟨rfl, G3, .nils, [], none, Heap.sub.rfl', rfl, fun r _ hr => by omega, Grw.nil, h6.room_end⟩
  · rintro i env H8 hi ⟨x1, x2, x4, x5, x6, G, edv, us, ee0, hG, hul, hrow, gE, h8⟩
    obtain ⟨p, ue, a1, a2, a3⟩ := SLists.get he0 hi .i64
    have hgood := sh.good i hi
    have heach := sh.each i hi
    have hiw : i < ws.length := by omega
    have hiw1 : i + 1 < ws.length := by omega
    have pw := sh.pos i hiw
    have pw1 := sh.pos (i+1) hiw1
    have gw0 := getD_eq hiw
    have gw1 := getD_eq hiw1
    obtain ⟨w, hw⟩ : ∃ w : Nat, ws[i] = w := ⟨ws[i].toNat, by omega⟩
    obtain ⟨w', hw'⟩ : ∃ w : Nat, ws[i+1] = w := ⟨ws[i+1].toNat, by omega⟩
    obtain ⟨pw', d1, d2⟩ := SInts.get hsv0 hiw .i64
    obtain ⟨pw1', d3, d4⟩ := SInts.get hsv0 hiw1 .i64
    rw [hw] at d2
    rw [hw'] at d4
    have t0 := turn_lt (ws := ws) (bs := bs) (i := i) (by omega)
    have t1 := turn_lt (ws := ws) (bs := bs) (i := i+1) (by omega)
    obtain ⟨c, hc⟩ : ∃ c, c = turnI ws bs i := ⟨_, rfl⟩
    obtain ⟨c', hc'⟩ : ∃ c, c = turnI ws bs (i+1) := ⟨_, rfl⟩
    have ho : turnO ws bs i = rordI w c := by unfold turnO; rw [gw0, hw, ← hc]; rfl
    have ho' : turnO ws bs (i+1) = rordI w' c' := by unfold turnO; rw [gw1, hw', ← hc']; rfl
    rw [← hc, gw0, hw] at t0
    rw [← hc', gw1, hw'] at t1
    rw [gw0, gw1, hw, hw'] at hgood
    have wi : IntKind.i64.wrap ((i : Int) + 1) = ((i + 1 : Nat) : Int) := wrapN1 (by omega)
    have hlti : (i : Int) < es.length := by omega
    have hs8 := hG.trans' h8.sub
    simp only [go_sem, ↓reduceIte, Nat.reduceEqDiff, Nat.reduceAdd, reduceCtorEq, x1, x2, x4, x5, x6, ld_box (hs8 _ _ hb1), ld_boxa (hs8 _ _ hb1) (show 0 + 2 ≤ 2 by decide), SLists.len he, hlti, fillV, List.length_cons, List.length_nil, splice, Nat.reduceLeDiff, Nat.zero_lt_one, and_self, List.take_zero, List.take_succ_cons, List.drop_succ_cons, List.drop_zero, List.drop_nil, Nat.reduceLT, Nat.le_refl]
    refine callC_pure (turn_spec (hsv0.mono hs8) (hbv0.mono hs8) hiw (by omega) (by omega)) ?_
    simp only [go_sem, ↓reduceIte, Nat.reduceEqDiff, Nat.reduceAdd, reduceCtorEq, x1, x2, x4, x5, x6, ld_boxa (hs8 _ _ hb1) (show 0 + 2 ≤ 2 by decide), fillV, List.length_cons, List.length_nil, splice, Nat.reduceLeDiff, Nat.zero_lt_one, and_self, List.take_zero, List.take_succ_cons, List.drop_succ_cons, List.drop_zero, List.drop_nil, Nat.reduceLT, Nat.le_refl, wi]
    refine callC_pure (turn_spec (hsv0.mono hs8) (hbv0.mono hs8) hiw1 (by omega) (by omega)) ?_
    rw [← hc, ← hc']
    simp only [go_sem, ↓reduceIte, Nat.reduceEqDiff, Nat.reduceAdd, reduceCtorEq, x1, x2, x4, x5, x6, fillV, List.length_cons, List.length_nil, splice, Nat.reduceLeDiff, Nat.zero_lt_one, and_self, List.take_zero, List.take_succ_cons, List.drop_succ_cons, List.drop_zero, List.drop_nil, Nat.reduceLT, Nat.le_refl]
    refine newC_has h8 (sz := 3) fun e9 H9 _ _ h9 => ?_
    simp only [go_sem, ↓reduceIte, Nat.reduceEqDiff, Nat.reduceAdd, reduceCtorEq, x1, x2, x4, x5, x6]
    have hv00 : visitTo (rordI w c) es[i] 0 0 = [] := by rw [visitTo_zero]; rfl
    have hol := rord_len w c
    refine blk_join (fun env H' => env 1 = bv ∧ env 2 = .ptr b2 0 ∧ env 4 = .ptr b4 0 ∧ env 5 = .ptr b5 0 ∧ env 6 = .int .i64 i ∧ ∃ ee, Grw (env 9) 3 (reSec (rordI w c) (rordI w' c') es[i]).length (ecells (reSec (rordI w c) (rordI w' c') es[i])) ee ∧ Has G [ee, bk b5 1 [.sl mw 0 ws.length false, edv], bk b4 1 [.nils, .nils], ee0] H') ?_ ?_
    · refine loop_count w (fun v env H' => env 1 = bv ∧ env 2 = .ptr b2 0 ∧ env 4 = .ptr b4 0 ∧ env 5 = .ptr b5 0 ∧ env 6 = .int .i64 i ∧ env 7 = .int .i64 c ∧ env 8 = .int .i64 c' ∧ env 10 = .int .i64 v ∧ ∃ X ee, X = visitTo (rordI w c) es[i] v 0 ∧ Grw (env 9) 3 X.length (ecells (X.map (reE (rordI w' c')))) ee ∧ Has G [ee, bk b5 1 [.sl mw 0 ws.length false, edv], bk b4 1 [.nils, .nils], ee0] H') ?_ ?_ ?_
      · simp only [go_sem, ↓reduceIte, Nat.reduceEqDiff, Nat.reduceAdd, reduceCtorEq, true_and, and_true, x1, x2, x4, x5, x6]
        exact ⟨by trivial, [], _, hv00.symm, Grw.empty, h9⟩
      · rintro v env H12 hv ⟨x1, x2, x4, x5, x6, x7, x8, x10, X, ee, hX, gee, h12⟩
        have hltv : (v : Int) < w := by omega
        have hs12 := hG.trans' h12.sub
        simp only [go_sem, ↓reduceIte, Nat.reduceEqDiff, Nat.reduceAdd, reduceCtorEq, x1, x2, x4, x5, x6, x7, x8, x10, ld_box (hs12 _ _ hb1), d1, ld_mono hs12 d2, hltv]
        refine loop_count es[i].length (fun j env H' => env 1 = bv ∧ env 2 = .ptr b2 0 ∧ env 4 = .ptr b4 0 ∧ env 5 = .ptr b5 0 ∧ env 6 = .int .i64 i ∧ env 7 = .int .i64 c ∧ env 8 = .int .i64 c' ∧ env 10 = .int .i64 v ∧ env 11 = .int .i64 j ∧ ∃ X ee, X = visitTo (rordI w c) es[i] v j ∧ Grw (env 9) 3 X.length (ecells (X.map (reE (rordI w' c')))) ee ∧ Has G [ee, bk b5 1 [.sl mw 0 ws.length false, edv], bk b4 1 [.nils, .nils], ee0] H') ?_ ?_ ?_
        · simp only [go_sem, ↓reduceIte, Nat.reduceEqDiff, Nat.reduceAdd, reduceCtorEq, true_and, and_true, x1, x2, x4, x5, x6, x7, x8, x10]
          exact ⟨by trivial, X, ee, hX, gee, h12⟩
        · clear hX gee h12 hs12
          rintro j env H13 hj ⟨x1, x2, x4, x5, x6, x7, x8, x10, x11, X, ee, hX, gee, h13⟩
          have hltj : (j : Int) < es[i].length := by omega
          have hs13 := hG.trans' h13.sub
          obtain ⟨p', q0, q1, q2, c1, c2, _, _, _, _, _, _⟩ := (SEds.mono a3 hs13).get hj .i64
          have hb := hgood _ (List.getElem_mem hj)
          simp only [go_sem, ↓reduceIte, Nat.reduceEqDiff, Nat.reduceAdd, reduceCtorEq, x1, x2, x4, x5, x6, x7, x8, x10, x11, ld_box (hs13 _ _ hb1), a1, ld_mono hs13 a2, SEds.len a3, hltj, c1, c2]
          refine newC_has h13 (sz := 1) fun n12 H14 _ _ h14 => ?_
          simp only [go_sem, ↓reduceIte, Nat.reduceEqDiff, Nat.reduceAdd, reduceCtorEq]
          refine stC_has h14 0 rfl trivial rfl (by decide) (by decide) fun H15 h15 _ => ?_
          obtain ⟨e, he⟩ : ∃ e, e = es[i][j] := ⟨_, rfl⟩
          have h15 : Has G [bk n12 1 (es[i][j]).cells, ee, bk b5 1 [.sl mw 0 ws.length false, edv], bk b4 1 [.nils, .nils], ee0] H15 := h15
          simp only [← he] at h15 hb ⊢
          have hlen : X.length ≤ 17180131328 := by
            have h1 := visitTo_len (rordI w c) es[i] v j
            have h2 : v * es[i].length ≤ 65536 * 262144 := Nat.mul_le_mul (by omega) heach
            rw [← hX] at h1; omega
          have hs15 := hG.trans' h15.sub
          have hwn : (w : Int) ≠ 0 := by omega
          have hwn' : (w' : Int) ≠ 0 := by omega
          have w1 : IntKind.i64.wrap (e.fr + c) = e.fr + c := wrapI (by omega) (by omega)
          have w2 : IntKind.i64.wrap (e.to + c') = e.to + c' := wrapI (by omega) (by omega)
          have m1 := rot_mod t0.1 t0.2 hb.1 hb.2.1
          have m2 := rot_mod t1.1 t1.2 hb.2.2.1 hb.2.2.2
          simp only [go_sem, ↓reduceIte, Nat.reduceEqDiff, Nat.reduceAdd, reduceCtorEq, x1, x2, x4, x5, x6, x7, x8, x10, x11, ld_box (h15.at_ 0 rfl), Ed.cells, ld_box (hs15 _ _ hb1), d1, ld_mono hs15 d2, w1, bv_rem hwn, m1]
          have hq := rord_eq (c := c) t0.1 t0.2 hb.1 hb.2.1 hv
          refine iteC_if (fun cc => ?_) (fun cc => ?_)
          · simp only [go_sem, ↓reduceIte, Nat.reduceEqDiff, Nat.reduceAdd, reduceCtorEq, x1, x2, x4, x5, x6, x7, x8, x10, x11, ld_box (h15.at_ 0 rfl), Ed.cells, ld_box (hs15 _ _ hb1), d3, ld_mono hs15 d4, wi, w2, bv_rem hwn', m2, fillV, List.length_cons, List.length_nil, splice, Nat.reduceLeDiff, Nat.zero_lt_one, and_self, List.take_zero, List.take_succ_cons, List.drop_succ_cons, List.drop_zero, List.drop_nil, Nat.reduceLT, Nat.le_refl]
            refine newC_has h15 (sz := 3) fun xb H17 _ _ h17 => ?_
            have h17 : Has G [bk xb 3 [.int .i64 v, .int .i64 e.lb, .int .i64 (rotI w' c' e.to)], bk n12 1 e.cells, ee, bk b5 1 [.sl mw 0 ws.length false, edv], bk b4 1 [.nils, .nils], ee0] H17 := h17
            simp only [go_sem, ↓reduceIte, Nat.reduceEqDiff, Nat.reduceAdd, reduceCtorEq, x1, x2, x4, x5, x6, x7, x8, x10, x11]
            refine appC_has1 h17 2 rfl gee (h17.at_ 0 rfl) rfl (by decide) (fun _ _ _ _ _ => trivial) (by omega) (by omega) fun m H18 _ gm h18 => ?_
            simp only [go_sem, ↓reduceIte, Nat.reduceEqDiff, Nat.reduceAdd, reduceCtorEq, true_and, and_true, x1, x2, x4, x5, x6, x7, x8, x10, x11]
            rw [wrapN1 (by omega)]
            have hX1 : visitTo (rordI w c) es[i] v (j+1) = X ++ [⟨v, e.lb, e.to⟩] := by rw [visitTo_step hj (by rw [← he]; exact hq.2 cc), hX, ← he]
            have hcell : ecells ((X ++ [(⟨v, e.lb, e.to⟩ : Ed)]).map (reE (rordI w' c'))) = ecells (X.map (reE (rordI w' c'))) ++ [.int .i64 v, .int .i64 e.lb, .int .i64 (rotI w' c' e.to)] := by
              rw [List.map_append, ecells_append]
              have : posI (rordI w' c') e.to = rotI w' c' e.to := rord_pos t1.1 t1.2 hb.2.2.1 hb.2.2.2
              simp only [List.map_cons, List.map_nil, reE, this]
              rfl
            refine ⟨by trivial, X ++ [⟨v, e.lb, e.to⟩], _, hX1.symm, ?_, h18.tail.tail⟩
            rw [hcell, List.length_append]
            exact gm
          · simp only [go_sem, ↓reduceIte, Nat.reduceEqDiff, Nat.reduceAdd, reduceCtorEq, true_and, and_true, x1, x2, x4, x5, x6, x7, x8, x10, x11]
            rw [wrapN1 (by omega)]
            exact ⟨by trivial, X, ee, by rw [hX, visitTo_skip hj (by rw [← he]; exact fun h => cc (hq.1 h))], gee, h15.tail⟩
        · rintro env H13 ⟨x1, x2, x4, x5, x6, x7, x8, x10, x11, X, ee, hX, gee, h13⟩
          have hs13 := hG.trans' h13.sub
          simp only [go_sem, ↓reduceIte, Nat.reduceEqDiff, Nat.reduceAdd, reduceCtorEq, true_and, and_true, x1, x2, x4, x5, x6, x7, x8, x10, x11, ld_box (hs13 _ _ hb1), a1, ld_mono hs13 a2, SEds.len a3, Int.lt_irrefl]
          rw [wrapN1 (by omega)]
          rw [visitTo_next] at hX
          exact ⟨by trivial, X, ee, hX, gee, h13⟩
      · rintro env H12 ⟨x1, x2, x4, x5, x6, x7, x8, x10, X, ee, hX, gee, h12⟩
        have hs12 := hG.trans' h12.sub
        simp only [go_sem, ↓reduceIte, Nat.reduceEqDiff, Nat.reduceAdd, reduceCtorEq, true_and, and_true, x1, x2, x4, x5, x6, x7, x8, x10, ld_box (hs12 _ _ hb1), d1, ld_mono hs12 d2, Int.lt_irrefl]
        have hX : X = visit (rordI w c) es[i] := by rw [hX, ← visitTo_done, rord_len]
        subst hX
        refine ⟨ee, ?_, h12⟩
        unfold reSec
        rw [List.length_map]
        exact gee
    rintro env H12 ⟨x1, x2, x4, x5, x6, ee, gee, h12⟩
    have hvl : (reSec (rordI w c) (rordI w' c') es[i]).length ≤ 17180131328 := by
      have h1 := visitTo_len (rordI w c) es[i] (rordI w c).length 0
      have h2 : (rordI w c).length * es[i].length ≤ 65536 * 262144 := Nat.mul_le_mul (by omega) heach
      rw [visitTo_done] at h1
      unfold reSec
      rw [List.length_map]; omega
    obtain ⟨G2', hg2', hse, h12⟩ := gee.done h12 0 rfl (by omega)
    have hse : SEds G2' (env 9) (reSec (rordI w c) (rordI w' c') es[i]) := hse
    have h12 : Has G2' [none, bk b5 1 [.sl mw 0 ws.length false, edv], bk b4 1 [.nils, .nils], ee0] H12 := h12
    obtain ⟨u9, hu9⟩ : ∃ u, u = env 9 := ⟨_, rfl⟩
    rw [← hu9] at hse
    have hc9 := Sl.cel hse
    simp only [go_sem, ↓reduceIte, Nat.reduceEqDiff, Nat.reduceAdd, reduceCtorEq, x1, x2, x4, x5, x6, ← hu9, ld_box (h12.at_ 1 rfl), fillV, List.length_cons, List.length_nil, splice, Nat.reduceLeDiff, Nat.zero_lt_one, and_self, List.take_zero, List.take_succ_cons, List.drop_succ_cons, List.drop_zero, List.drop_nil, Nat.reduceLT, Nat.le_refl, hc9]
    refine newC_has h12 (sz := 1) fun xb H13 _ _ h13 => ?_
    have h13 : Has G2' [bk xb 1 [u9], none, bk b5 1 [.sl mw 0 ws.length false, edv], bk b4 1 [.nils, .nils], ee0] H13 := h13
    simp only [go_sem, ↓reduceIte, Nat.reduceEqDiff, Nat.reduceAdd, reduceCtorEq, x1, x2, x4, x5, x6, ← hu9]
    refine appC_has1 h13 4 rfl gE (h13.at_ 0 rfl) rfl (by decide) (fun _ _ _ _ _ => trivial) (by omega) (by omega) fun m H14 _ gm h14 => ?_
    simp only [List.set_cons_succ, List.set_cons_zero] at h14
    simp only [go_sem, ↓reduceIte, Nat.reduceEqDiff, Nat.reduceAdd, reduceCtorEq, x1, x2, x4, x5, x6, ← hu9]
    refine stC_has1 h14 2 rfl trivial rfl (by simp) fun H15 h15 _ => ?_
    simp only [List.set_cons_succ, List.set_cons_zero] at h15
    simp only [go_sem, ↓reduceIte, Nat.reduceEqDiff, Nat.reduceAdd, reduceCtorEq, true_and, and_true, x1, x2, x4, x5, x6, ← hu9]
    rw [wrapN1 (by omega)]
    refine ⟨by trivial, G2', _, us ++ [u9], _, hG.trans' hg2', by simp [hul], fun r hre hr => ?_, gm, h15.tail.tail⟩
    rcases Nat.lt_succ_iff_lt_or_eq.1 hr with hr | rfl
    · obtain ⟨u, e1, e2⟩ := hrow r hre hr
      exact ⟨u, by rw [List.getElem?_append_left (by omega)]; exact e1, e2.mono hg2'⟩
    · exact ⟨u9, by rw [List.getElem?_append_right (by omega), hul]; simp, by rw [ho, ho']; exact hse⟩
  · rintro env H8 ⟨x1, x2, x4, x5, x6, G, edv, us, ee0, hG, hul, hrow, gE, h8⟩
    have hs8 := hG.trans' h8.sub
    simp only [go_sem, ↓reduceIte, Nat.reduceEqDiff, Nat.reduceAdd, reduceCtorEq, x1, x2, x4, x5, x6, ld_box (hs8 _ _ hb1), SLists.len he, Int.lt_irrefl, ld_boxa (h8.at_ 0 rfl) (show 0 + 2 ≤ _ by simp)]
    refine stC_has h8 1 rfl trivial rfl (by decide) (by simp) fun H9 h9 _ => ?_
    have h9 : Has G [bk b5 1 [.sl mw 0 ws.length false, edv], bk b4 1 [.sl mw 0 ws.length false, edv], ee0] H9 := h9
    simp only [go_sem, ↓reduceIte, Nat.reduceEqDiff, Nat.reduceAdd, reduceCtorEq]
    refine f_box1 (n := b4) (o := 0) (by simp only [go_sem, ↓reduceIte, Nat.reduceEqDiff, Nat.reduceAdd, reduceCtorEq, x4]) (h9.at_ 1 rfl) (by simp) ?_
    obtain ⟨G', hg', hsE, h9⟩ := gE.done h9 2 rfl (by omega)
    refine finO_has h9 ⟨(hg.trans' hG).trans' hg', _, _, rfl, hw2.mono (hG.trans' hg'), us, ?_, fun r hr => ?_⟩
    · rw [reTr_len]; exact hsE
    · rw [reTr_len] at hr
      obtain ⟨u, e1, e2⟩ := hrow r hr hr
      exact ⟨u, e1, by rw [reTr_get hr]; exact e2.mono hg'⟩

theorem renumbers_main : ∀ H v0 ws0 es0 v1 xs1, STre H v0 ws0 es0 → (∀ w ∈ ws0, I64 w) → (∀ l ∈ es0, ∀ e ∈ l, EdI e) → SInts H v1 xs1 → (∀ x ∈ xs1, I64 x) → ACalls Try.prog 8 [v0, v1] H fun v _ => v = .bool true := by
  rintro H v0 ws es bv bs ⟨sv, ev, rfl, hs, he⟩ _ _ hb _
  refine ACalls.of_body hm cv8 (by simp only [List.length_cons, List.length_nil]; decide) ?_
  simp only [F8, go_sem, ↓reduceIte, Nat.reduceEqDiff, Nat.reduceAdd, reduceCtorEq]
  refine newC_keep Has.self fun b2 H1 G1 _ hg1 hb2 h1 => ?_
  have hg01 := hg1.trans' h1.sub
  simp only [go_sem, ↓reduceIte, Nat.reduceEqDiff, Nat.reduceAdd, reduceCtorEq, ld_boxa (h1.sub _ _ hb2) (show 0 + 2 ≤ 2 by decide), fillV, List.length_cons, List.length_nil, splice, Nat.reduceLeDiff, Nat.zero_lt_one, and_self, List.take_zero, List.take_succ_cons, List.drop_succ_cons, List.drop_zero, List.drop_nil, Nat.reduceLT, Nat.le_refl]
  refine callC_any (Few_spec (ws := ws) (by decide) (by decide) (SSecs.mono he hg01)) ?_
  rintro u H0 ⟨⟨b, rfl⟩, rfl⟩
  cases b
  · simp only [go_sem, ↓reduceIte, Nat.reduceEqDiff, Nat.reduceAdd, reduceCtorEq, Bool.not_false]
    refine callC_grow (alive47_spec _) ?_
    rintro u H3 hs3 rfl
    simp only [go_sem, ↓reduceIte, Nat.reduceEqDiff, Nat.reduceAdd, reduceCtorEq]
    exact finO_self rfl
  simp only [go_sem, ↓reduceIte, Nat.reduceEqDiff, Nat.reduceAdd, reduceCtorEq, Bool.not_true, ld_boxa (h1.sub _ _ hb2) (show 0 + 2 ≤ 2 by decide), fillV, List.length_cons, List.length_nil, splice, Nat.reduceLeDiff, Nat.zero_lt_one, and_self, List.take_zero, List.take_succ_cons, List.drop_succ_cons, List.drop_zero, List.drop_nil, Nat.reduceLT, Nat.le_refl]
  refine callC_grow (Renumber_spec' (hs.mono hg01) (SSecs.mono he hg01)) ?_
  rintro u H2 hs2 ⟨x, y, rfl, hxn, hxy⟩
  have h2 := h1.grow hs2
  simp only [go_sem, ↓reduceIte, Nat.reduceEqDiff, Nat.reduceAdd, reduceCtorEq, fillV, List.length_cons, List.length_nil, splice, Nat.reduceLeDiff, Nat.zero_lt_one, and_self, List.take_zero, List.take_succ_cons, List.drop_succ_cons, List.drop_zero, List.drop_nil, Nat.reduceLT, Nat.le_refl]
  refine newC_has h2 fun b5 H3 _ hs3 h3 => ?_
  simp only [go_sem, ↓reduceIte, Nat.reduceEqDiff, Nat.reduceAdd, reduceCtorEq]
  refine stC_has h3 0 rfl trivial rfl (by decide) (by simp) fun H4 h4 hf4 => ?_
  have h4 : Has G1 [bk b5 1 [x, y]] H4 := h4
  have hs24 : Heap.sub H2 H4 := fun k c hk => by
    have hk3 := hs3 _ _ hk
    have : k ≠ b5 := by
      rintro rfl
      rename_i hn _
      rw [hn] at hk; cases hk
    rw [hf4 k this]; exact hk3
  have hg4 := hg1.trans' h4.sub
  simp only [go_sem, ↓reduceIte, Nat.reduceEqDiff, Nat.reduceAdd, reduceCtorEq, ld_boxa (h4.sub _ _ hb2) (show 0 + 2 ≤ 2 by decide), fillV, List.length_cons, List.length_nil, splice, Nat.reduceLeDiff, Nat.zero_lt_one, and_self, List.take_zero, List.take_succ_cons, List.drop_succ_cons, List.drop_zero, List.drop_nil, Nat.reduceLT, Nat.le_refl]
  refine callC_pure (rProper_spec (hs.mono hg4) (SSecs.mono he hg4)) ?_
  simp only [go_sem, ↓reduceIte, Nat.reduceEqDiff, Nat.reduceAdd, reduceCtorEq]
  refine callC_grow (alive47_spec _) ?_
  rintro u H5 hs5 rfl
  have h5 := h4.grow hs5
  simp only [go_sem, ↓reduceIte, Nat.reduceEqDiff, Nat.reduceAdd, reduceCtorEq, Bool.not_true]
  by_cases c1 : properI ws es = 0
  case neg =>
    obtain ⟨rfl, rfl⟩ := hxn c1
    simp only [go_sem, ↓reduceIte, Nat.reduceEqDiff, Nat.reduceAdd, reduceCtorEq, c1, ld_box (h5.at_ 0 rfl)]
    exact finO_self rfl
  obtain ⟨hx, hy⟩ := hxy c1
  have pt := pt_of c1
  have hx := hx.mono (hs24.trans' hs5)
  have hy := SSecs.mono hy (hs24.trans' hs5)
  have hg5 := hg4.trans' hs5
  simp only [go_sem, ↓reduceIte, Nat.reduceEqDiff, Nat.reduceAdd, reduceCtorEq, c1, ld_boxa (h5.at_ 0 rfl) (show 0 + 2 ≤ 2 by decide), ld_boxa (h5.sub _ _ hb2) (show 0 + 2 ≤ 2 by decide), fillV, List.length_cons, List.length_nil, splice, Nat.reduceLeDiff, Nat.zero_lt_one, and_self, List.take_zero, List.take_succ_cons, List.drop_succ_cons, List.drop_zero, List.drop_nil, Nat.reduceLT, Nat.le_refl]
  refine callC_grow (rRenumber_spec (hs.mono hg5) (SSecs.mono he hg5) c1) ?_
  rintro u H6 hs6 ⟨x', y', rfl, hx', hy'⟩
  have h6 := h5.grow hs6
  have hg6 := hg5.trans' hs6
  simp only [go_sem, ↓reduceIte, Nat.reduceEqDiff, Nat.reduceAdd, reduceCtorEq]
  refine callC_pure (rTSame_spec (hx.mono hs6) (SSecs.mono hy hs6) hx' hy') ?_
  simp only [go_sem, ↓reduceIte, Nat.reduceEqDiff, Nat.reduceAdd, reduceCtorEq, and_self, Bool.not_true, ld_boxa (h6.sub _ _ hb2) (show 0 + 2 ≤ 2 by decide), fillV, List.length_cons, List.length_nil, splice, Nat.reduceLeDiff, Nat.zero_lt_one, and_self, List.take_zero, List.take_succ_cons, List.drop_succ_cons, List.drop_zero, List.drop_nil, Nat.reduceLT, Nat.le_refl]
  refine callC_grow (turned_spec (hs.mono hg6) (SSecs.mono he hg6) (hb.mono hg6) pt) ?_
  rintro u H7 hs7 ⟨sz, ez, rfl, hsz, hez⟩
  have h7 := h6.grow hs7
  simp only [go_sem, ↓reduceIte, Nat.reduceEqDiff, Nat.reduceAdd, reduceCtorEq, fillV, List.length_cons, List.length_nil, splice, Nat.reduceLeDiff, Nat.zero_lt_one, and_self, List.take_zero, List.take_succ_cons, List.drop_succ_cons, List.drop_zero, List.drop_nil, Nat.reduceLT, Nat.le_refl]
  refine newC_has h7 fun b8 H8 hn8 hs8 h8 => ?_
  simp only [go_sem, ↓reduceIte, Nat.reduceEqDiff, Nat.reduceAdd, reduceCtorEq]
  refine stC_has h8 0 rfl trivial rfl (by decide) (by simp) fun H9 h9 hf9 => ?_
  have h9 : Has G1 [bk b8 1 [sz, ez], bk b5 1 [x, y]] H9 := h9
  have hs79 : Heap.sub H7 H9 := fun k c hk => by
    have hk3 := hs8 _ _ hk
    have : k ≠ b8 := by
      rintro rfl
      rw [hn8] at hk; cases hk
    rw [hf9 k this]; exact hk3
  have hsz := hsz.mono hs79
  have hez := SSecs.mono hez hs79
  have hord : ∀ i, i ≤ es.length → Ord (ws[i]?.getD 0) (turnO ws bs i) := fun i hi => by
    have hiw : i < ws.length := by rw [pt.sh.len]; omega
    have := pt.sh.pos i hiw
    have e := getD_eq hiw
    have t := turn_lt (ws := ws) (bs := bs) (i := i) (by omega)
    unfold turnO
    have e2 : ws[i]?.getD 0 = ((ws[i]?.getD 0).toNat : Int) := by omega
    have := rord_ord (w := (ws[i]?.getD 0).toNat) t.1 (by omega)
    rw [← e2] at this; exact this
  have hpz := pt.re_proper (proper_of c1).1 hord
  have hrz := pt.re_ren hord
  simp only [go_sem, ↓reduceIte, Nat.reduceEqDiff, Nat.reduceAdd, reduceCtorEq, ld_boxa (h9.at_ 0 rfl) (show 0 + 2 ≤ 2 by decide), fillV, List.length_cons, List.length_nil, splice, Nat.reduceLeDiff, Nat.zero_lt_one, and_self, List.take_zero, List.take_succ_cons, List.drop_succ_cons, List.drop_zero, List.drop_nil, Nat.reduceLT, Nat.le_refl]
  refine callC_grow (Renumber_spec' hsz hez) ?_
  rintro u H10 hs10 ⟨x2, y2, rfl, _, hxy2⟩
  obtain ⟨hx2, hy2⟩ := hxy2 hpz
  rw [hrz] at hy2
  have h10 := h9.grow hs10
  simp only [go_sem, ↓reduceIte, Nat.reduceEqDiff, Nat.reduceAdd, reduceCtorEq, fillV, List.length_cons, List.length_nil, splice, Nat.reduceLeDiff, Nat.zero_lt_one, and_self, List.take_zero, List.take_succ_cons, List.drop_succ_cons, List.drop_zero, List.drop_nil, Nat.reduceLT, Nat.le_refl]
  refine newC_has h10 fun b9 H11 hn11 hs11 h11 => ?_
  simp only [go_sem, ↓reduceIte, Nat.reduceEqDiff, Nat.reduceAdd, reduceCtorEq]
  refine stC_has h11 0 rfl trivial rfl (by decide) (by simp) fun H12 h12 hf12 => ?_
  have h12 : Has G1 [bk b9 1 [x2, y2], bk b8 1 [sz, ez], bk b5 1 [x, y]] H12 := h12
  have hs1012 : Heap.sub H10 H12 := fun k c hk => by
    have hk3 := hs11 _ _ hk
    have : k ≠ b9 := by
      rintro rfl
      rw [hn11] at hk; cases hk
    rw [hf12 k this]; exact hk3
  have hs712 := hs79.trans' (hs10.trans' hs1012)
  have hg12 := hg6.trans' (hs7.trans' hs712)
  rw [hpz]
  simp only [go_sem, ↓reduceIte, Nat.reduceEqDiff, Nat.reduceAdd, reduceCtorEq, ld_boxa (h12.at_ 0 rfl) (show 0 + 2 ≤ 2 by decide), ld_boxa (h12.at_ 2 rfl) (show 0 + 2 ≤ 2 by decide), fillV, List.length_cons, List.length_nil, splice, Nat.reduceLeDiff, Nat.zero_lt_one, and_self, List.take_zero, List.take_succ_cons, List.drop_succ_cons, List.drop_zero, List.drop_nil, Nat.reduceLT, Nat.le_refl]
  refine callC_pure (rTSame_spec (hx.mono (hs6.trans' (hs7.trans' hs712))) (SSecs.mono hy (hs6.trans' (hs7.trans' hs712))) (hx2.mono hs1012) (SSecs.mono hy2 hs1012)) ?_
  simp only [go_sem, ↓reduceIte, Nat.reduceEqDiff, Nat.reduceAdd, reduceCtorEq, and_self, ld_boxa (h12.at_ 1 rfl) (show 0 + 2 ≤ 2 by decide), ld_boxa (h12.sub _ _ hb2) (show 0 + 2 ≤ 2 by decide), fillV, List.length_cons, List.length_nil, splice, Nat.reduceLeDiff, Nat.zero_lt_one, and_self, List.take_zero, List.take_succ_cons, List.drop_succ_cons, List.drop_zero, List.drop_nil, Nat.reduceLT, Nat.le_refl]
  have hs912 := hs10.trans' hs1012
  refine callC_grow (Isomorphic_spec (hs.mono hg12) (SSecs.mono he hg12) (hsz.mono hs912) (SSecs.mono hez hs912)) ?_
  rintro u H13 hs13 rfl
  simp only [go_sem, ↓reduceIte, Nat.reduceEqDiff, Nat.reduceAdd, reduceCtorEq]
  refine finO_self ?_
  congr 1
  exact @decide_eq_true _ (Classical.propDecidable _) ⟨c1, hpz, rfl, hrz.symm⟩
end Go.AM
namespace Go.Proofs.Ytopeeknimehmcaa
theorem trellisRenumbers_holds : Rows.TrellisRenumbersSaid := Go.AM.trellisRenumbers_over Go.AM.renumbers_main
#print axioms trellisRenumbers_holds
end Go.Proofs.Ytopeeknimehmcaa
