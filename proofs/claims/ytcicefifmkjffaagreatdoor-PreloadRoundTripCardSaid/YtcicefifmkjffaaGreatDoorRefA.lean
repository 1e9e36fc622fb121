/- Contracts of the references: ascii (1), ipv4 (10), punycode's small functions (12). -/
import Derived.Test.YtcicefifmkjffaaGreatDoorPuny
import Derived.Test.YtcicefifmkjffaaGreatDoorLawP
namespace Go.Proofs.YtcicefifmkjffaaGreatDoor
open Go Go.RowKit Hs
set_option maxRecDepth 100000 in
theorem r12_point_c (n : Nat) (w : World) : Calls Tryz.prog 125 #[.int .i64 n] w fun e w' => e = .returned (.bool (point n)) ∧ w = w' := by
  go_enter Tryz.func125, Tryz.ntmps125
  go_wp2
  all_goals go_ret
  all_goals exact ⟨ret_bool (by rw [Bool.eq_iff_iff]; simp [point]; try omega), rfl⟩
theorem r12_pdigit_c (n : Int) (h0 : 0 ≤ n) (hn : n ≤ 35) (w : World) : Calls Tryz.prog 126 #[.int .i64 n] w fun e w' => e = .returned (.int .u8 (pdigit n.toNat).toNat) ∧ w = w' := by
  go_enter Tryz.func126, Tryz.ntmps126
  go_wp2
  all_goals go_ret
  · refine ⟨ret_int ?_, rfl⟩
    unfold pdigit
    rw [if_pos (by omega), UInt8.toNat_ofNat']
    omega
  · refine ⟨ret_int ?_, rfl⟩
    unfold pdigit
    rw [if_neg (by omega), UInt8.toNat_ofNat']
    omega
theorem r12_pvalue_c (b : UInt8) (w : World) : Calls Tryz.prog 122 #[.int .u8 b.toNat] w fun e w' => e = .returned (.int .i64 (pvalI b)) ∧ w = w' := by
  have hv := pvalI_eq b
  have HV := Lib.hid hv
  clear hv
  go_enter Tryz.func122, Tryz.ntmps122
  go_wp2
  all_goals go_ret
  all_goals refine ⟨ret_int ?_, rfl⟩
  all_goals (rw [HV.out]; (repeat split) <;> omega)
set_option maxRecDepth 100000 in
set_option maxHeartbeats 400000 in
theorem r12_adapt_false (delta count : Nat) (w : World) (hd : delta ≤ 1099511627776) (hc : 1 ≤ count) (hc2 : count ≤ 65536) : Calls Tryz.prog 124 #[.int .i64 delta, .int .i64 count, .bool false] w fun e w' => e = .returned (.int .i64 (adapt delta count false)) ∧ w = w' := by
  have hD := d1Of_le delta count false
  have q1 := int_div_le ((delta : Int) / 2) count (by omega)
  go_enter Tryz.func124, Tryz.ntmps124
  go_wp2
  go_loop [0, 7] (fun d k => ∃ dn kn : Nat, d = .int .i64 dn ∧ k = .int .i64 kn ∧ adaptR (d1Of delta count false) kn dn) (fun d _ => (intOf d).toNat)
  case atStart => exact ⟨d1Of delta count false, 0, by simp [d1Of], rfl, adaptR.start _⟩
  case round =>
    obtain ⟨d, k, rfl, rfl, hR⟩ := hrel
    have hle := hR.le
    by_cases hlt : 455 < d
    · have hs := hR.step hlt
      go_wp2
      go_round
      case rel => exact ⟨d / 35, k + 36, by go_num, by go_num, hs⟩
      case measure =>
        show (intOf (.int .i64 ((d : Int) / 35))).toNat < (intOf (.int .i64 (d : Int))).toNat
        simp only [intOf]; omega
    · have q3 : 36 * (d : Int) / ((d : Int) + 38) ≤ 36 * (d : Int) ∧ 0 ≤ 36 * (d : Int) / ((d : Int) + 38) := ⟨Int.ediv_le_self _ (by omega), Int.ediv_nonneg (by omega) (by omega)⟩
      have hfin := hR.done hlt
      have HF := Lib.hid hfin
      clear hfin
      go_wp2
      go_ret
      exact ⟨ret_int (by rw [HF.out]; simp), rfl⟩
set_option maxRecDepth 100000 in
set_option maxHeartbeats 400000 in
theorem r12_adapt_true (delta count : Nat) (w : World) (hd : delta ≤ 1099511627776) (hc : 1 ≤ count) (hc2 : count ≤ 65536) : Calls Tryz.prog 124 #[.int .i64 delta, .int .i64 count, .bool true] w fun e w' => e = .returned (.int .i64 (adapt delta count true)) ∧ w = w' := by
  have hD := d1Of_le delta count true
  have q1 := int_div_le ((delta : Int) / 700) count (by omega)
  go_enter Tryz.func124, Tryz.ntmps124
  go_wp2
  go_loop [0, 7] (fun d k => ∃ dn kn : Nat, d = .int .i64 dn ∧ k = .int .i64 kn ∧ adaptR (d1Of delta count true) kn dn) (fun d _ => (intOf d).toNat)
  case atStart => exact ⟨d1Of delta count true, 0, by simp [d1Of], rfl, adaptR.start _⟩
  case round =>
    obtain ⟨d, k, rfl, rfl, hR⟩ := hrel
    have hle := hR.le
    by_cases hlt : 455 < d
    · have hs := hR.step hlt
      go_wp2
      go_round
      case rel => exact ⟨d / 35, k + 36, by go_num, by go_num, hs⟩
      case measure =>
        show (intOf (.int .i64 ((d : Int) / 35))).toNat < (intOf (.int .i64 (d : Int))).toNat
        simp only [intOf]; omega
    · have q3 : 36 * (d : Int) / ((d : Int) + 38) ≤ 36 * (d : Int) ∧ 0 ≤ 36 * (d : Int) / ((d : Int) + 38) := ⟨Int.ediv_le_self _ (by omega), Int.ediv_nonneg (by omega) (by omega)⟩
      have hfin := hR.done hlt
      have HF := Lib.hid hfin
      clear hfin
      go_wp2
      go_ret
      exact ⟨ret_int (by rw [HF.out]; simp), rfl⟩
theorem r12_adapt_c (delta count : Nat) (first : Bool) (w : World) (hd : delta ≤ 1099511627776) (hc : 1 ≤ count) (hc2 : count ≤ 65536) : Calls Tryz.prog 124 #[.int .i64 delta, .int .i64 count, .bool first] w fun e w' => e = .returned (.int .i64 (adapt delta count first)) ∧ w = w' := by
  cases first
  · exact r12_adapt_false delta count w hd hc hc2
  · exact r12_adapt_true delta count w hd hc hc2
theorem thresh_int2 (k bias : Nat) : (thresh k bias : Int) = max 1 (min 26 (36 * ((k : Int) + 1) - bias)) := by
  unfold thresh
  split <;> omega
theorem r12_threshold_c (k bias : Nat) (w : World) (hk : k ≤ 2000000000) (hb : bias ≤ 4398046511104) :
    Calls Tryz.prog 123 #[.int .i64 k, .int .i64 bias] w fun e w' => e = .returned (.int .i64 (thresh k bias)) ∧ w = w' := by
  have HT := Lib.hid (thresh_int2 k bias)
  go_enter Tryz.func123, Tryz.ntmps123
  go_wp2
  all_goals go_ret
  all_goals exact ⟨ret_int (by rw [HT.out]; omega), rfl⟩
end Go.Proofs.YtcicefifmkjffaaGreatDoor
