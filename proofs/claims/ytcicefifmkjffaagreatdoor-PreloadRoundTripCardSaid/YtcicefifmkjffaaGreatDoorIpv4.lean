/- Contracts: ipv4 (the program's). -/
import Derived.Test.YtcicefifmkjffaaGreatDoorLib
namespace Go.Proofs.YtcicefifmkjffaaGreatDoor
open Go Go.RowKit Hs
theorem hex_c (s : ByteArray) (w : World) : Calls Tryz.prog 56 #[.string s] w fun e w' => e = .returned (.bool (isHex s.data.toList)) ∧ w = w' := by
  go_enter Tryz.func56, Tryz.ntmps56
  go_wp2_with fail
  refine (hasPrefix_c s _ _).mono ?_
  rintro e w1 ⟨rfl, rfl⟩
  generalize hx : List.isPrefixOf (ByteArray.mk #[48, 120]).data.toList s.data.toList = x
  have HX := Lib.hid hx
  clear hx
  cases x
  · go_wp2_with fail
    refine (hasPrefix_c s _ _).mono ?_
    rintro e w2 ⟨rfl, rfl⟩
    go_wp2_with fail
    go_ret
    exact ⟨ret_bool (by unfold isHex; rw [show List.isPrefixOf [48, 120] s.data.toList = _ from HX.out]; rfl), rfl⟩
  · go_wp2_with fail
    go_ret
    exact ⟨ret_bool (by unfold isHex; rw [show List.isPrefixOf [48, 120] s.data.toList = _ from HX.out]; rfl), rfl⟩
theorem mk_nil {x : Bs} (h : (mk x).toList.isEmpty = true) : x = [] := by
  rw [ByteArray.toList_eq] at h; simpa using h
theorem mk_ne {x : Bs} (h : (mk x).toList.isEmpty = false) : x ≠ [] := by
  rw [ByteArray.toList_eq] at h; simpa using h
theorem strsV_take (ls : List Bs) (k : Nat) : (strsV ls).take k = strsV (ls.take k) := by simp [strsV, List.map_take]
theorem parts_drop {l x : Bs} {k : Nat} (hm : k + 1 = (split 46 l).length) (h0 : 0 < k) (hx : (split 46 l)[k]? = some x) (he : x = []) : parts l = (split 46 l).take k := by
  unfold parts
  have : (split 46 l).getLast? = some [] := by rw [List.getLast?_eq_getElem?, ← hm, Nat.add_sub_cancel, hx, he]
  rw [if_pos ⟨by omega, this⟩, List.dropLast_eq_take, ← hm, Nat.add_sub_cancel]
theorem parts_same {l x : Bs} {k : Nat} (h : ¬ 0 < k ∨ x ≠ []) (hx : (split 46 l)[k]? = some x) (hm : k + 1 = (split 46 l).length) : parts l = split 46 l := by
  unfold parts
  rw [if_neg]
  rintro ⟨h1, h2⟩
  rcases h with h | h
  · omega
  · rw [List.getLast?_eq_getElem?, ← hm, Nat.add_sub_cancel, hx] at h2
    exact h (by injection h2)
theorem parts_cases (l : Bs) : parts l = split 46 l ∨ (1 < (split 46 l).length ∧ parts l = (split 46 l).dropLast) := by
  unfold parts
  by_cases h : 1 < (split 46 l).length ∧ (split 46 l).getLast? = some []
  · exact .inr ⟨h.1, if_pos h⟩
  · exact .inl (if_neg h)
theorem parts_le (l : Bs) : 1 ≤ (parts l).length ∧ (parts l).length ≤ l.length + 1 ∧ ∀ p ∈ parts l, p.length ≤ l.length := by
  have h1 := split_length 46 l
  rcases parts_cases l with h | ⟨h2, h⟩
  · rw [h]; exact ⟨h1.1, h1.2, split_le 46 l⟩
  · rw [h]
    refine ⟨by simp; omega, by simp; omega, fun p hp => split_le 46 l p ((List.dropLast_sublist _).subset hp)⟩
theorem parts_last (l : Bs) : ∃ k, (parts l).length = k + 1 ∧ ∃ x, (parts l)[k]? = some x ∧ lastPart l = x ∧ x.length ≤ l.length := by
  have h := parts_le l
  refine ⟨(parts l).length - 1, by omega, (parts l)[(parts l).length - 1]'(by omega), List.getElem?_eq_getElem _, ?_, h.2.2 _ (List.getElem_mem _)⟩
  unfold lastPart
  rw [List.getLastD_eq_getLast?, List.getLast?_eq_getElem?, List.getElem?_eq_getElem (by omega)]
  rfl
set_option maxHeartbeats 400000 in
theorem parts_c (s : ByteArray) (w : World) (hE : Env w) (hs : s.size ≤ 1000000) :
    Calls Tryz.prog 55 #[.string s] w fun e w' => ∃ A m c, e = .returned (.slice A m c) ∧ Hid (m = (parts s.data.toList).length) ∧ OwnR w' w.heap.size 9 1 A m c (strsV (parts s.data.toList)) ∧ Gr w w' := by
  go_enter Tryz.func55, Tryz.ntmps55
  go_wp2_with fail
  refine (split_c s 46 w hE hs).mono ?_
  rintro e w1 ⟨A, m, rfl, hm, hown, hG⟩
  have hl := split_length 46 s.data.toList
  have hsz := list_len s
  obtain ⟨k, rfl⟩ : ∃ k, m = k + 1 := ⟨m - 1, by have := hm.out; omega⟩
  have hkb : k ≤ 1000000 := by have := hm.out; omega
  clear hl hsz
  obtain ⟨g, x, rfl, hB, hg, hx, hcell⟩ := hown.str_at (k := k) (by omega)
  have HX := Lib.hid hx
  clear hx
  go_wp2_with fail
  · go_ret
    have hd := parts_drop hm.out ‹_› HX.out (mk_nil ‹_›)
    exact ⟨_, k, k + 1, rfl, by rw [hd]; have := hm.out; simp [Hid]; omega, by rw [hd]; have := hown.take (m := k) (by omega); rwa [Nat.mul_one, strsV_take] at this, hG⟩
  · go_ret
    have hd := parts_same (.inr (mk_ne ‹_›)) HX.out hm.out
    exact ⟨_, k + 1, k + 1, rfl, by rw [hd]; exact hm, by rw [hd]; exact hown, hG⟩
  · go_ret
    have hd := parts_same (.inl ‹_›) HX.out hm.out
    exact ⟨_, k + 1, k + 1, rfl, by rw [hd]; exact hm, by rw [hd]; exact hown, hG⟩
def optN (o : Option Nat) : Int := ((o.getD 0 : Nat) : Int)
theorem digitsAux_nil (base n : Nat) : digitsAux base n [] = some n := rfl
theorem mul_bd16 {n base : Nat} (hn : n ≤ 1099511627776) (hb : base ≤ 16) : 0 ≤ (n : Int) * (base : Int) ∧ (n : Int) * (base : Int) ≤ 17592186044416 := by
  have h : n * base ≤ 1099511627776 * 16 := Nat.mul_le_mul hn hb
  have e : ((n * base : Nat) : Int) = (n : Int) * (base : Int) := Int.natCast_mul _ _
  omega
def dgt (b : UInt8) : Nat := (digVal b).getD 99
theorem dgt_cases (b : UInt8) : (48 ≤ (b.toNat : Int) ∧ (b.toNat : Int) ≤ 57 ∧ (dgt b : Int) = b.toNat - 48) ∨ (97 ≤ (b.toNat : Int) ∧ (b.toNat : Int) ≤ 102 ∧ (dgt b : Int) = b.toNat - 97 + 10) ∨ (65 ≤ (b.toNat : Int) ∧ (b.toNat : Int) ≤ 70 ∧ (dgt b : Int) = b.toNat - 65 + 10) ∨
    (¬ (48 ≤ (b.toNat : Int) ∧ (b.toNat : Int) ≤ 57) ∧ ¬ (97 ≤ (b.toNat : Int) ∧ (b.toNat : Int) ≤ 102) ∧ ¬ (65 ≤ (b.toNat : Int) ∧ (b.toNat : Int) ≤ 70) ∧ dgt b = 99) := by
  unfold dgt digVal
  by_cases h1 : 48 ≤ b.toNat ∧ b.toNat ≤ 57
  · left; rw [if_pos h1]; exact ⟨by omega, by omega, by simp; omega⟩
  · rw [if_neg h1]
    by_cases h2 : 97 ≤ b.toNat ∧ b.toNat ≤ 102
    · right; left; rw [if_pos h2]; exact ⟨by omega, by omega, by simp; omega⟩
    · rw [if_neg h2]
      by_cases h3 : 65 ≤ b.toNat ∧ b.toNat ≤ 70
      · right; right; left; rw [if_pos h3]; exact ⟨by omega, by omega, by simp; omega⟩
      · right; right; right; rw [if_neg h3]; exact ⟨by omega, by omega, by omega, rfl⟩
theorem digVal_dgt (b : UInt8) : digVal b = if dgt b = 99 then none else some (dgt b) := by
  unfold dgt digVal
  split
  · rw [Option.getD_some, if_neg (by omega)]
  · split
    · rw [Option.getD_some, if_neg (by omega)]
    · split
      · rw [Option.getD_some, if_neg (by omega)]
      · rfl
theorem digitsAux_at {base n : Nat} (hb16 : base ≤ 16) {l : Bs} {k : Nat} {b : UInt8} (hb : l[k]? = some b) : digitsAux base n (l.drop k) = if base ≤ dgt b then none else digitsAux base (min (n * base + dgt b) 1099511627776) (l.drop (k + 1)) := by
  rw [drop_at hb, digitsAux, digVal_dgt]
  by_cases h : dgt b = 99
  · rw [if_pos h, if_pos (by omega)]
  · rw [if_neg h]
theorem min_cast {n base d : Nat} (h : ((n * base : Nat) : Int) = (n : Int) * (base : Int)) : ((min (n * base + d) 1099511627776 : Nat) : Int) = min ((n : Int) * (base : Int) + d) 1099511627776 := by
  rw [← h]; omega
set_option maxHeartbeats 1000000 in
set_option maxRecDepth 100000 in
theorem digits_c (s : ByteArray) (base : Nat) (w : World) (hb : base ≤ 16) (hs : s.size ≤ 1000000) : Calls Tryz.prog 58 #[.string s, .int .i64 base] w fun e w' => e = .returned (.tuple #[.int .i64 (optN (digitsAux base 0 s.data.toList)), .bool (digitsAux base 0 s.data.toList).isSome]) ∧ w = w' := by
  have HL := Lib.hid (list_len s)
  go_enter Tryz.func58, Tryz.ntmps58
  go_wp2_with fail
  go_loop [6, 12] (fun v6 v12 => ∃ k n : Nat, k ≤ s.size ∧ v12 = .int .i64 k ∧ v6 = .int .i64 n ∧ n ≤ 1099511627776 ∧ Hid (digitsAux base 0 s.data.toList = digitsAux base n (s.data.toList.drop k))) (fun _ v => s.size - (intOf v).toNat)
  case atStart => exact ⟨0, 0, by omega, rfl, rfl, by omega, rfl⟩
  case round =>
    obtain ⟨k, n, hk, rfl, rfl, hn, hR⟩ := hrel
    by_cases hlt : k < s.size
    · have hmul : 0 ≤ (n : Int) * (base : Int) ∧ (n : Int) * (base : Int) ≤ 17592186044416 := mul_bd16 hn hb
      have HD := Lib.hid (dgt_cases s[k])
      have HS := Lib.hid (digitsAux_at (n := n) hb (byteAt s k hlt))
      have HM := Lib.hid (Int.natCast_mul n base)
      go_wp2_with fail
      all_goals first
        | (go_ret2; exact ⟨by rw [hR.out, HS.out, if_pos (by have := HD.out; omega)]; rfl, rfl⟩)
        | (go_round
           case rel => exact ⟨k + 1, min (n * base + dgt s[k]) 1099511627776, by omega, by go_num, by rw [min_cast HM.out]; have := HD.out; congr 2; omega, by omega, by rw [hR.out, HS.out, if_neg (by have := HD.out; omega)]; rfl⟩
           case measure => simp [intOf]; omega)
    · have hdn : s.data.toList.drop k = [] := drop_end (by rw [HL.out]; omega)
      rw [hdn] at hR
      go_wp2_with fail
      go_ret2
      exact ⟨by rw [hR.out]; rfl, rfl⟩
theorem digits16_c (s : ByteArray) (w : World) (hs : s.size ≤ 1000000) : Calls Tryz.prog 58 #[.string s, .int .i64 16] w fun e w' => e = .returned (.tuple #[.int .i64 (optN (digitsAux 16 0 s.data.toList)), .bool (digitsAux 16 0 s.data.toList).isSome]) ∧ w = w' := digits_c s 16 w (by omega) hs
theorem digits8_c (s : ByteArray) (w : World) (hs : s.size ≤ 1000000) : Calls Tryz.prog 58 #[.string s, .int .i64 8] w fun e w' => e = .returned (.tuple #[.int .i64 (optN (digitsAux 8 0 s.data.toList)), .bool (digitsAux 8 0 s.data.toList).isSome]) ∧ w = w' := digits_c s 8 w (by omega) hs
theorem digits10_c (s : ByteArray) (w : World) (hs : s.size ≤ 1000000) : Calls Tryz.prog 58 #[.string s, .int .i64 10] w fun e w' => e = .returned (.tuple #[.int .i64 (optN (digitsAux 10 0 s.data.toList)), .bool (digitsAux 10 0 s.data.toList).isSome]) ∧ w = w' := digits_c s 10 w (by omega) hs
theorem ext_size (s : ByteArray) (k : Nat) : (s.extract k s.size).size ≤ s.size := by
  rw [ByteArray.size_extract]; omega
theorem isHex_two {l : Bs} (h : isHex l = true) : 2 ≤ l.length := by
  match l with
  | [] => simp [isHex] at h
  | [a] => simp [isHex] at h
  | a :: b :: r => simp
theorem empty_iff (s : ByteArray) : s.toList.isEmpty = decide (s.data.toList = []) := by
  rw [ByteArray.toList_eq]; cases s.data.toList <;> rfl
theorem number_c (s : ByteArray) (w : World) (hs : s.size ≤ 1000000) : Calls Tryz.prog 57 #[.string s] w fun e w' => e = .returned (.tuple #[.int .i64 (optN (numberOf s.data.toList)), .bool (numberOf s.data.toList).isSome]) ∧ w = w' := by
  have HL := Lib.hid (list_len s)
  by_cases h0 : s.data.toList = []
  · have h1 : s.toList.isEmpty = true := by rw [empty_iff, h0]; rfl
    have HN := Lib.hid (show numberOf s.data.toList = none by rw [numberOf, if_pos h0])
    clear h0
    go_enter Tryz.func57, Tryz.ntmps57
    go_wp2_with fail
    go_ret2
    exact ⟨by rw [HN.out]; rfl, rfl⟩
  · have h1 : s.toList.isEmpty = false := by rw [empty_iff]; simpa using h0
    by_cases hx : isHex s.data.toList = true
    · have h2 : 2 ≤ s.size := by have := isHex_two hx; rw [list_len] at this; exact this
      have HN := Lib.hid (show numberOf s.data.toList = digitsAux 16 0 (s.data.toList.drop 2) by rw [numberOf, if_neg h0, if_pos hx])
      have hc := fun w => digits16_c (s.extract 2 s.size) w (Nat.le_trans (ext_size _ _) hs)
      simp only [Lib.extract_to_end, ← HN.out] at hc
      have HC := Lib.hid hc
      clear h0 hc
      go_enter Tryz.func57, Tryz.ntmps57
      go_wp2_with (first | (go_at_call 56; refine (hex_c s _).mono ?_; rintro e w1 ⟨rfl, rfl⟩) | (go_at_call 58; refine (HC.out _).mono ?_; rintro e w2 ⟨rfl, rfl⟩))
      go_ret2
      exact ⟨rfl, rfl⟩
    · have hx : isHex s.data.toList = false := by simpa using hx
      have h3 : 0 < s.size := by rw [← list_len]; exact List.length_pos_iff.2 h0
      by_cases h8 : 1 < s.data.toList.length ∧ s.data.toList.head? = some 48
      · have h2 : 1 < s.size := by have := h8.1; rw [list_len] at this; exact this
        have h4 : (s[0].toNat : Int) == 48 := by
          have := byteAt s 0 h3
          rw [List.head?_eq_getElem?, this] at h8
          injection h8.2 with h9
          rw [h9]; rfl
        have HN := Lib.hid (show numberOf s.data.toList = digitsAux 8 0 (s.data.toList.drop 1) by rw [numberOf, if_neg h0, if_neg (by simp [hx]), if_pos h8])
        have hc := fun w => digits8_c (s.extract 1 s.size) w (Nat.le_trans (ext_size _ _) hs)
        simp only [Lib.extract_to_end, ← HN.out] at hc
        have HC := Lib.hid hc
        clear h0 h8 hc
        go_enter Tryz.func57, Tryz.ntmps57
        go_wp2_with (first | (go_at_call 56; refine (hex_c s _).mono ?_; rintro e w1 ⟨rfl, rfl⟩) | (go_at_call 58; refine (HC.out _).mono ?_; rintro e w2 ⟨rfl, rfl⟩))
        go_ret2
        exact ⟨rfl, rfl⟩
      · have h4 : ¬ (1 < s.size) ∨ ((s[0].toNat : Int) == 48) = false := by
          rw [list_len, List.head?_eq_getElem?, byteAt s 0 h3] at h8
          by_cases h : 1 < s.size
          · right
            rw [beq_eq_false_iff_ne]
            intro h9
            exact h8 ⟨h, by congr 1; exact UInt8.toNat_inj.1 (by have : (48 : UInt8).toNat = 48 := rfl; omega)⟩
          · exact .inl h
        have HN := Lib.hid (show numberOf s.data.toList = digitsAux 10 0 s.data.toList by rw [numberOf, if_neg h0, if_neg (by simp [hx]), if_neg h8])
        clear h0 h8
        rcases h4 with h4 | h4
        all_goals
          go_enter Tryz.func57, Tryz.ntmps57
          go_wp2_with (first | (go_at_call 56; refine (hex_c s _).mono ?_; rintro e w1 ⟨rfl, rfl⟩) | (go_at_call 58; refine (digits10_c s _ hs).mono ?_; rintro e w2 ⟨rfl, rfl⟩))
          all_goals go_ret2
          all_goals exact ⟨by rw [HN.out]; rfl, rfl⟩
set_option maxHeartbeats 400000 in
theorem numeric_c (s : ByteArray) (w : World) (hE : Env w) (hs : s.size ≤ 1000000) : Calls Tryz.prog 36 #[.string s] w fun e w' => e = .returned (.bool (numeric s.data.toList)) ∧ Gr w w' := by
  go_enter Tryz.func36, Tryz.ntmps36
  go_wp2_with fail
  refine (parts_c s w hE hs).mono ?_
  rintro e w1 ⟨A, m, c, rfl, hm, hown, hG⟩
  obtain ⟨k, hk, x, hx, hlast, hxs⟩ := parts_last s.data.toList
  obtain ⟨g, x', rfl, hB, hg, hx', hcell⟩ := hown.str_at (k := k) (by have := hm.out; omega)
  obtain rfl : x' = x := by rw [hx] at hx'; injection hx' with h; exact h.symm
  obtain rfl : m = k + 1 := by have := hm.out; omega
  have hkb : k ≤ 1000001 := by have h1 := hm.out; have h2 := parts_le s.data.toList; have h3 := list_len s; omega
  have hxb : (mk x').size ≤ 1000000 := by show x'.length ≤ _; have h3 := list_len s; omega
  have HN := Lib.hid (show numeric s.data.toList = if isHex x' then (numberOf x').isSome else (digitsAux 10 0 x').isSome && !x'.isEmpty by rw [numeric, hlast])
  clear hx hlast hx' hxs
  go_wp2_with (first | (go_at_call 56; refine (hex_c (mk x') _).mono ?_; rintro e w1 ⟨rfl, rfl⟩) | (go_at_call 58; refine (digits10_c (mk x') _ hxb).mono ?_; rintro e w2 ⟨rfl, rfl⟩) | (go_at_call 57; refine (number_c (mk x') _ hxb).mono ?_; rintro e w2 ⟨rfl, rfl⟩))
  all_goals go_ret
  all_goals refine ⟨ret_bool ?_, hG⟩
  all_goals rw [HN.out]
  · rw [if_pos ‹_›]
  · have h1 : isHex x' = false := by assumption
    have h2 : (digitsAux 10 0 x').isSome = true := by assumption
    rw [h1, h2, ByteArray.toList_eq]; rfl
  · have h1 : isHex x' = false := by assumption
    have h2 : ¬ (digitsAux 10 0 x').isSome = true := by assumption
    rw [h1, Bool.eq_false_iff.2 h2]; rfl
end Go.Proofs.YtcicefifmkjffaaGreatDoor
