/- Contracts of reference 10 (ipv4): digit, number, parts, Numeric; of reference 1: Digits. -/
import Derived.Test.YtcicefifmkjffaaGreatDoorRefA
import Derived.Test.YtcicefifmkjffaaGreatDoorIpv4
import Derived.Deep.DeepCutAuto
import Derived.Deep.Cut
namespace Go.Proofs.YtcicefifmkjffaaGreatDoor
open Go Go.RowKit Hs
theorem r10_digit_c (b : UInt8) (w : World) : Calls Tryz.prog 101 #[.int .u8 b.toNat] w fun e w' => e = .returned (.int .i64 (dgt b)) ∧ w = w' := by
  have HD := Lib.hid (dgt_cases b)
  go_enter Tryz.func101, Tryz.ntmps101
  go_wp2
  all_goals go_ret
  all_goals exact ⟨ret_int (by have := HD.out; omega), rfl⟩
def vlen (v : Value) : Nat := match v with | .string s => s.size | _ => 0
theorem vlen_str (s : ByteArray) : vlen (.string s) = s.size := rfl
def loopNum (b : Nat) (t : Bs) : Value := .tuple #[.int .i64 (optN (digitsAux b 0 t)), .bool (digitsAux b 0 t).isSome]
theorem numberOf_8 {s : ByteArray} (h0 : s.data.toList ≠ []) (hx : isHex s.data.toList = false) (h1 : 1 < s.size) (h2 : s.data.toList.head? = some 48) : numberOf s.data.toList = digitsAux 8 0 (s.data.toList.drop 1) := by
  rw [numberOf, if_neg h0, if_neg (by simp [hx]), if_pos ⟨by rw [list_len]; exact h1, h2⟩]
theorem drop_nil_of {l : Bs} {k n : Nat} (h : l.length = n) (hk : n ≤ k) : l.drop k = [] := List.drop_eq_nil_of_le (by omega)
theorem head48 {s : ByteArray} (h3 : 0 < s.size) : (s.data.toList.head? = some 48) ↔ ((s[0].toNat : Int) == 48) = true := by
  rw [List.head?_eq_getElem?, byteAt s 0 h3, beq_iff_eq]
  constructor
  · intro h; injection h with h; rw [h]; rfl
  · intro h; congr 1; exact UInt8.toNat_inj.1 (by have : (48 : UInt8).toNat = 48 := rfl; omega)
theorem isHex_get {s : ByteArray} (h3 : 1 < s.size) : isHex s.data.toList = (((s[0].toNat : Int) == 48) && (((s[1].toNat : Int) == 120) || ((s[1].toNat : Int) == 88))) := by
  have e : s.data.toList = s[0] :: s[1] :: s.data.toList.drop 2 := by
    have h0 := drop_cons s 0 (by omega)
    have h1 := drop_cons s 1 (by omega)
    rw [List.drop_zero] at h0; rw [h1] at h0; exact h0
  have k : ∀ (a b : UInt8), ((a.toNat : Int) == (b.toNat : Int)) = (b == a) := by
    intro a b; rw [Bool.eq_iff_iff, beq_iff_eq, beq_iff_eq]
    exact ⟨fun h => (UInt8.toNat_inj.1 (by omega)).symm, fun h => by rw [h]⟩
  have k0 := k s[0] 48
  have k1 := k s[1] 120
  have k2 := k s[1] 88
  change ((s[0].toNat : Int) == 48) = _ at k0
  change ((s[1].toNat : Int) == 120) = _ at k1
  change ((s[1].toNat : Int) == 88) = _ at k2
  rw [e, k0, k1, k2]
  simp only [isHex, List.isPrefixOf, Bool.and_true]
  rw [Bool.and_or_distrib_left]
theorem isHex_short {s : ByteArray} (h : ¬ 1 < s.size) : isHex s.data.toList = false := by
  cases hx : isHex s.data.toList with
  | false => rfl
  | true => have := isHex_two hx; rw [list_len] at this; omega
theorem not_hex_getD {s : ByteArray} (h0 : s.data.toList ≠ []) (hx : isHex s.data.toList = false) (h8 : ¬ (1 < s.data.toList.length ∧ s.data.toList.head? = some 48)) : numberOf s.data.toList = digitsAux 10 0 s.data.toList := by
  rw [numberOf, if_neg h0, if_neg (by simp [hx]), if_neg h8]
set_option maxRecDepth 100000 in
set_option maxHeartbeats 2000000 in
theorem r10_number_c (s : ByteArray) (w : World) (hs : s.size ≤ 1000000) : Calls Tryz.prog 76 #[.string s] w fun e w' => e = .returned (.tuple #[.int .i64 (optN (numberOf s.data.toList)), .bool (numberOf s.data.toList).isSome]) ∧ Gr w w' := by
  by_cases h0 : s.data.toList = []
  · have h1 : s.toList.isEmpty = true := by rw [empty_iff, h0]; rfl
    have HN := Lib.hid (show numberOf s.data.toList = none by rw [numberOf, if_pos h0])
    clear h0
    go_enter Tryz.func76, Tryz.ntmps76
    go_wp2_with fail
    go_ret2
    exact ⟨by rw [HN.out]; rfl, Gr.refl _⟩
  · have h1 : s.toList.isEmpty = false := by rw [empty_iff]; simpa using h0
    have hp : 0 < s.size := by rw [← list_len]; exact List.length_pos_iff.2 h0
    by_cases h2 : 1 < s.size
    all_goals first
      | (have HX := isHex_get h2
         have HH := head48 (s := s) hp
         rcases e48 : ((s[0].toNat : Int) == 48) with _ | _ <;> rcases e120 : ((s[1].toNat : Int) == 120) with _ | _ <;> rcases e88 : ((s[1].toNat : Int) == 88) with _ | _ <;> rw [e48, e120, e88] at HX <;> rw [e48] at HH)
      | have HX := isHex_short h2
    all_goals first
      | (replace HX : isHex s.data.toList = false := HX
         have HN := Lib.hid (show numberOf s.data.toList = digitsAux 10 0 s.data.toList from not_hex_getD h0 HX (fun h => by first | exact absurd (HH.1 h.2) (by decide) | (rw [list_len] at h; exact h2 h.1))))
      | (replace HX : isHex s.data.toList = false := HX
         have HN := Lib.hid (show numberOf s.data.toList = digitsAux 8 0 (s.extract 1 s.size).data.toList by rw [Lib.extract_to_end]; exact numberOf_8 h0 HX h2 (HH.2 rfl)))
      | (replace HX : isHex s.data.toList = true := HX
         have HN := Lib.hid (show numberOf s.data.toList = digitsAux 16 0 (s.extract 2 s.size).data.toList by rw [Lib.extract_to_end, numberOf, if_neg h0, if_pos HX]))
    all_goals (clear h0 HX; try clear HH)
    all_goals
      go_enter Tryz.func76, Tryz.ntmps76
      first | (go_upto_region 5 with fail; go_quiet (fail)) | skip
      go_upto_region 8 with fail
      go_cut [0, 4, 5] (fun s0 s4 s5 wx => Gr w wx ∧ s5 = .int .i64 0 ∧ ∃ (base : Nat) (t : ByteArray), base ≤ 16 ∧ t.size ≤ 1000000 ∧ s0 = .string t ∧ s4 = .int .i64 base ∧ Hid (numberOf s.data.toList = digitsAux base 0 t.data.toList))
      case first =>
        go_wp2_with fail
        go_meet
        first | exact ⟨(Gr.refl _).drewN _, rfl, 16, _, by omega, Nat.le_trans (ext_size _ _) hs, rfl, rfl, HN⟩ | exact ⟨(Gr.refl _).drewN _, rfl, 8, _, by omega, Nat.le_trans (ext_size _ _) hs, rfl, rfl, HN⟩ | exact ⟨Gr.refl _, rfl, 10, _, by omega, hs, rfl, rfl, HN⟩
      case rest =>
        obtain ⟨hG, rfl, base, t, hb, ht, rfl, rfl, HN⟩ := hcut
        have HL := Lib.hid (list_len t)
        go_wp2_with fail
        go_loop [5, 6] (fun v5 v6 => ∃ k n : Nat, k ≤ t.size ∧ v6 = .int .i64 k ∧ v5 = .int .i64 n ∧ n ≤ 1099511627776 ∧ Hid (digitsAux base 0 t.data.toList = digitsAux base n (t.data.toList.drop k))) (fun _ v => t.size - (intOf v).toNat)
        case atStart => exact ⟨0, 0, by omega, rfl, rfl, by omega, rfl⟩
        case round =>
          obtain ⟨k, n, hk, rfl, rfl, hn, hR⟩ := hrel
          by_cases hlt : k < t.size
          · have hmul : 0 ≤ (n : Int) * (base : Int) ∧ (n : Int) * (base : Int) ≤ 17592186044416 := mul_bd16 hn hb
            have hdg : dgt t[k] ≤ 99 := by have := dgt_cases t[k]; omega
            have HS := Lib.hid (digitsAux_at (n := n) hb (byteAt t k hlt))
            have HM := Lib.hid (Int.natCast_mul n base)
            go_wp2_with (go_at_call 101; refine (r10_digit_c _ _).mono ?_; rintro e w1 ⟨rfl, rfl⟩)
            all_goals first
              | (go_ret2; exact ⟨by rw [HN.out, hR.out, HS.out, if_pos (by omega)]; rfl, hG⟩)
              | (go_round
                 case rel => exact ⟨k + 1, min (n * base + dgt t[k]) 1099511627776, by omega, by go_num, by rw [min_cast HM.out], by omega, by rw [hR.out, HS.out, if_neg (by omega)]; rfl⟩
                 case measure => simp [intOf]; omega)
          · have hdn : t.data.toList.drop k = [] := drop_end (by rw [HL.out]; omega)
            rw [hdn] at hR
            go_wp2_with fail
            go_ret2
            exact ⟨by rw [HN.out, hR.out]; rfl, hG⟩
theorem digitsOk_snocK {s : ByteArray} {k : Nat} (hk : k < s.size) : (s.data.toList.take (k + 1)).all isDigit = ((s.data.toList.take k).all isDigit && isDigit s[k]) := by
  rw [take_snoc s k hk, List.all_append]; simp
theorem not_all_of {s : ByteArray} {k : Nat} (hk : k < s.size) (h : isDigit s[k] = false) : digitsOk s.data.toList = false := by
  unfold digitsOk
  rw [show s.data.toList.all isDigit = false from List.all_eq_false.2 ⟨s[k], List.mem_of_getElem? (byteAt s k hk), by simp [h]⟩]; rfl
theorem r01_digits_c (s : ByteArray) (w : World) (hs : s.size ≤ 1000000) : Calls Tryz.prog 75 #[.string s] w fun e w' => e = .returned (.bool (digitsOk s.data.toList)) ∧ w = w' := by
  have HL := Lib.hid (list_len s)
  go_enter Tryz.func75, Tryz.ntmps75
  go_wp2_with fail
  go_loop [3] (fun v => ∃ k : Nat, k ≤ s.size ∧ v = .int .i64 k ∧ Hid ((s.data.toList.take k).all isDigit = true)) (fun v => s.size - (intOf v).toNat)
  case atStart => exact ⟨0, by omega, rfl, rfl⟩
  case round =>
    obtain ⟨k, hk, rfl, hR⟩ := hrel
    by_cases hlt : k < s.size
    · have HS := Lib.hid (digitsOk_snocK hlt)
      have HF := Lib.hid (fun h => not_all_of hlt h)
      go_wp2_with fail
      all_goals first
        | (go_ret; exact ⟨ret_bool (HF.out (by unfold isDigit; simp; omega)).symm, rfl⟩)
        | (go_round
           case rel => exact ⟨k + 1, by omega, by go_num, by show _ = _; rw [HS.out, hR.out]; unfold isDigit; simp; omega⟩
           case measure => simp [intOf]; omega)
    · have hR' := hR.out
      rw [List.take_of_length_le (by rw [HL.out]; omega)] at hR'
      have HR := Lib.hid hR'
      clear hR hR'
      go_wp2_with fail
      go_ret
      exact ⟨ret_bool (by unfold digitsOk; rw [HR.out, empty_iff]; cases s.data.toList <;> rfl), rfl⟩
set_option maxHeartbeats 400000 in
theorem r10_parts_c (s : ByteArray) (w : World) (hs : s.size ≤ 65536) :
    Calls Tryz.prog 74 #[.string s] w fun e w' => ∃ A m c, e = .returned (.slice A m c) ∧ Hid (m = (parts s.data.toList).length) ∧ OwnR w' w.heap.size 9 1 A m c (strsV (parts s.data.toList)) ∧ Gr w w' := by
  go_enter Tryz.func74, Tryz.ntmps74
  go_wp2_with fail
  refine (r01_split_c s 46 w hs).mono ?_
  rintro e w1 ⟨A, c, rfl, hown, hG⟩
  have hm : Hid ((split 46 s.data.toList).length = (split 46 s.data.toList).length) := rfl
  have hl := split_length 46 s.data.toList
  have hsz := list_len s
  generalize hlm : (split 46 s.data.toList).length = m at *
  replace hm := Lib.hid hlm.symm
  clear hlm
  obtain ⟨k, rfl⟩ : ∃ k, m = k + 1 := ⟨m - 1, by omega⟩
  have hkb : k ≤ 1000000 := by omega
  clear hl hsz
  have hle := hown.le
  obtain ⟨g, x, rfl, hB, hg, hx, hcell⟩ := hown.str_at (k := k) (by omega)
  have HX := Lib.hid hx
  clear hx
  go_wp2_with fail
  · go_ret
    have hd := parts_drop hm.out (by omega) HX.out (mk_nil ‹_›)
    exact ⟨_, k, c, rfl, by rw [hd]; have := hm.out; simp [Hid]; omega, by rw [hd]; have := hown.take (m := k) (by omega); rwa [Nat.mul_one, strsV_take] at this, hG⟩
  · go_ret
    have hd := parts_same (.inr (mk_ne ‹_›)) HX.out hm.out
    exact ⟨_, k + 1, c, rfl, by rw [hd]; exact hm, by rw [hd]; exact hown, hG⟩
  · go_ret
    have hd := parts_same (.inl (by omega)) HX.out hm.out
    exact ⟨_, k + 1, c, rfl, by rw [hd]; exact hm, by rw [hd]; exact hown, hG⟩
theorem dgt_digit (b : UInt8) : isDigit b = decide (dgt b < 10) := by
  have := dgt_cases b
  unfold isDigit
  rw [decide_eq_decide]; omega
theorem digitsAux10 : ∀ (l : Bs) (n : Nat), (digitsAux 10 n l).isSome = l.all isDigit
  | [], _ => rfl
  | b :: r, n => by
    have h := digitsAux_at (base := 10) (n := n) (by omega) (l := b :: r) (k := 0) (b := b) rfl
    rw [List.drop_zero] at h
    rw [h, List.all_cons, dgt_digit]
    by_cases h10 : 10 ≤ dgt b
    · rw [if_pos h10, decide_eq_false (by omega)]; rfl
    · rw [if_neg h10, decide_eq_true (by omega), Bool.true_and]
      exact digitsAux10 r _
theorem numeric_alt (l : Bs) : numeric l = (digitsOk (lastPart l) || ((numberOf (lastPart l)).isSome && decide ((lastPart l)[1]? = some 120 ∨ (lastPart l)[1]? = some 88))) := by
  unfold numeric
  generalize lastPart l = x
  have key : ∀ a b r, x = a :: b :: r → isHex x = (a == 48 && (b == 120 || b == 88)) := by
    rintro a b r rfl
    simp only [isHex, List.isPrefixOf, Bool.and_true]
    rw [Bool.and_or_distrib_left]
    have k : ∀ u v : UInt8, (u == v) = (v == u) := fun u v => by rw [Bool.eq_iff_iff, beq_iff_eq, beq_iff_eq]; exact eq_comm
    rw [k 48, k 120, k 88]
  by_cases hx : isHex x = true
  · rw [if_pos hx]
    match x, key, hx with
    | [], _, hx => simp [isHex] at hx
    | [a], _, hx => simp [isHex] at hx
    | a :: b :: r, key, hx =>
      have hk := key a b r rfl
      rw [hx] at hk
      have hk := hk.symm
      rw [Bool.and_eq_true, Bool.or_eq_true, beq_iff_eq, beq_iff_eq, beq_iff_eq] at hk
      have hd : digitsOk (a :: b :: r) = false := by
        unfold digitsOk
        rw [List.all_cons, List.all_cons]
        have : isDigit b = false := by rcases hk.2 with rfl | rfl <;> rfl
        rw [this]; simp
      rw [hd, Bool.false_or, decide_eq_true (by simpa using hk.2), Bool.and_true]
  · rw [if_neg hx, digitsAux10]
    change digitsOk x = _
    have : ((numberOf x).isSome && decide (x[1]? = some 120 ∨ x[1]? = some 88)) = false := by
      rw [Bool.and_eq_false_iff]
      by_cases h1 : x[1]? = some 120 ∨ x[1]? = some 88
      · left
        match x, key, hx, h1 with
        | [], _, _, h1 => simp at h1
        | [a], _, _, h1 => simp at h1
        | a :: b :: r, key, hx, h1 =>
          have hk := key a b r rfl
          have h1 : b = 120 ∨ b = 88 := by simpa using h1
          have hb : (b == 120 || b == 88) = true := by rcases h1 with rfl | rfl <;> rfl
          rw [hb, Bool.and_true] at hk
          have ha : a ≠ 48 := fun e => hx (by rw [hk, e]; rfl)
          have hn : numberOf (a :: b :: r) = digitsAux 10 0 (a :: b :: r) := by
            rw [numberOf, if_neg (by simp), if_neg hx, if_neg (by simp [ha])]
          rw [hn, digitsAux10, List.all_cons, List.all_cons]
          have : isDigit b = false := by rcases h1 with rfl | rfl <;> rfl
          rw [this]; simp
      · right; exact decide_eq_false h1
    rw [this, Bool.or_false]
theorem byte_eq_iff {y : ByteArray} (h : 1 < y.size) (c : UInt8) : (y.data.toList[1]? = some c) ↔ ((y[1].toNat : Int) == c.toNat) = true := by
  rw [byteAt y 1 h, beq_iff_eq]
  exact ⟨fun e => by injection e with e; rw [e], fun e => by congr 1; exact UInt8.toNat_inj.1 (by omega)⟩
set_option maxHeartbeats 1000000 in
theorem r10_numeric_c (s : ByteArray) (w : World) (hs : s.size ≤ 65536) : Calls Tryz.prog 43 #[.string s] w fun e w' => e = .returned (.bool (numeric s.data.toList)) ∧ Gr w w' := by
  go_enter Tryz.func43, Tryz.ntmps43
  go_wp2_with fail
  refine (r10_parts_c s w hs).mono ?_
  rintro e w1 ⟨A, m, c, rfl, hm, hown, hG⟩
  obtain ⟨k, hk, x, hx, hlast, hxs⟩ := parts_last s.data.toList
  obtain ⟨g, x', rfl, hB, hg, hx', hcell⟩ := hown.str_at (k := k) (by have := hm.out; omega)
  obtain rfl : x' = x := by rw [hx] at hx'; injection hx' with h; exact h.symm
  obtain rfl : m = k + 1 := by have := hm.out; omega
  have hkb : k ≤ 1000001 := by have h1 := hm.out; have h2 := parts_le s.data.toList; have h3 := list_len s; omega
  have hxb : (mk x').size ≤ 1000000 := by show x'.length ≤ _; have h3 := list_len s; omega
  have hN := numeric_alt s.data.toList
  rw [hlast, show x' = (mk x').data.toList from rfl] at hN
  clear hx hlast hx' hxs
  generalize mk x' = y at *
  have HNN := Lib.hid hN
  clear hN
  have HD := Lib.hid (fun w => r01_digits_c y w hxb)
  rcases hd : digitsOk y.data.toList with _ | _
  · rw [hd] at HD HNN
    by_cases h2 : 1 < y.size
    · have b1 := byte_eq_iff h2 120
      have b2 := byte_eq_iff h2 88
      have HC := Lib.hid (fun w => r10_number_c y w hxb)
      have hlo := HNN.out
      rw [Bool.false_or] at hlo
      generalize optN (numberOf y.data.toList) = q at HC
      rcases hn : (numberOf y.data.toList).isSome with _ | _ <;> rw [hn] at hlo HC <;> rcases e120 : ((y[1].toNat : Int) == 120) with _ | _ <;> rcases e88 : ((y[1].toNat : Int) == 88) with _ | _
      all_goals
        have HF := Lib.hid hlo
        have HB := Lib.hid (And.intro b1 b2)
        clear hd HNN hn hlo b1 b2
        go_wp2_with (first | (go_at_call 75; refine (HD.out _).mono ?_; rintro e w2 ⟨rfl, rfl⟩) | (go_at_call 76; refine (HC.out _).mono ?_; rintro e w2 ⟨rfl, hG2⟩))
        go_ret
        refine ⟨ret_bool ?_, hG.trans hG2⟩
        have h1 := HB.out.1
        have h3 := HB.out.2
        change _ ↔ ((y[1].toNat : Int) == 120) = true at h1
        change _ ↔ ((y[1].toNat : Int) == 88) = true at h3
        rw [HF.out, show decide (y.data.toList[1]? = some 120 ∨ y.data.toList[1]? = some 88) = (((y[1].toNat : Int) == 120) || ((y[1].toNat : Int) == 88)) from by rw [Bool.eq_iff_iff, decide_eq_true_iff, h1, h3, Bool.or_eq_true], e120, e88]
        rfl
    · have hsh : ¬ (y.data.toList[1]? = some 120 ∨ y.data.toList[1]? = some 88) := by
        have : y.data.toList[1]? = none := List.getElem?_eq_none (by rw [list_len]; omega)
        rw [this]; simp
      rw [decide_eq_false hsh, Bool.and_false, Bool.or_false] at HNN
      have HC := Lib.hid (fun w => r10_number_c y w hxb)
      generalize optN (numberOf y.data.toList) = q at HC
      rcases hn : (numberOf y.data.toList).isSome with _ | _ <;> rw [hn] at HC
      all_goals
        clear hd hsh hn
        go_wp2_with (first | (go_at_call 75; refine (HD.out _).mono ?_; rintro e w2 ⟨rfl, rfl⟩) | (go_at_call 76; refine (HC.out _).mono ?_; rintro e w2 ⟨rfl, hG2⟩))
        go_ret
        exact ⟨ret_bool HNN.out.symm, hG.trans hG2⟩
  · rw [hd, Bool.true_or] at HNN
    rw [hd] at HD
    clear hd
    go_wp2_with (go_at_call 75; refine (HD.out _).mono ?_; rintro e w2 ⟨rfl, rfl⟩)
    go_ret
    exact ⟨ret_bool HNN.out.symm, hG⟩
end Go.Proofs.YtcicefifmkjffaaGreatDoor
