import Derived.Test.YtcicefifmkjffaaGreatDoorLabel
namespace Go.Proofs.YtcicefifmkjffaaGreatDoor
open Go Go.RowKit Hs
theorem okByte_not {s : Bs} {k : Nat} {b : UInt8} (h : s[k]? = some b) (hb : okByte b = false) : validLabel s = false := by
  unfold validLabel
  have : s.all okByte = false := by
    rw [List.all_eq_false]
    exact ⟨b, List.mem_of_getElem? h, by simp [hb]⟩
  rw [this]; simp
theorem all_snocB {s : ByteArray} {k : Nat} (hk : k < s.size) (f : UInt8 → Bool) : (s.data.toList.take (k + 1)).all f = ((s.data.toList.take k).all f && f s[k]) := by
  rw [take_snoc s k hk, List.all_append]; simp
theorem okByte_int (b : UInt8) : okByte b = decide ((97 ≤ (b.toNat : Int) ∧ (b.toNat : Int) ≤ 122) ∨ (48 ≤ (b.toNat : Int) ∧ (b.toNat : Int) ≤ 57) ∨ (b.toNat : Int) = 45 ∨ (b.toNat : Int) = 95) := by
  unfold okByte
  rw [Bool.eq_iff_iff]; simp; omega
theorem head_at (s : ByteArray) (h : 0 < s.size) : s.data.toList.head? = some s[0] := by
  rw [List.head?_eq_getElem?]; exact byteAt s 0 h
theorem last_at (s : ByteArray) (h : s.size - 1 < s.size) : s.data.toList.getLast? = some s[s.size - 1] := by
  rw [List.getLast?_eq_getElem?, list_len]; exact byteAt s _ h
theorem validLabel_eq (s : ByteArray) (h1 : 1 ≤ s.size ∧ s.size ≤ 63) (h2 : s[0] ≠ 45) (h3 : s[s.size - 1] ≠ 45) (h4 : s.data.toList.all okByte = true) :
    validLabel s.data.toList = (!([120, 110, 45, 45].isPrefixOf s.data.toList) || proper (s.data.toList.drop 4)) := by
  unfold validLabel
  rw [head_at s (by omega), last_at s (by omega), h4, list_len]
  have e2 : ((some s[0] : Option UInt8) == some 45) = false := by simpa using h2
  have e3 : ((some s[s.size - 1] : Option UInt8) == some 45) = false := by simpa using h3
  rw [e2, e3]
  simp [h1.1, h1.2]
theorem validLabel_len {s : ByteArray} (h : ¬ (1 ≤ s.size ∧ s.size ≤ 63)) : validLabel s.data.toList = false := by
  unfold validLabel
  rw [list_len, decide_eq_false h]; simp
theorem validLabel_head {s : ByteArray} (h0 : 0 < s.size) (h : s[0] = 45) : validLabel s.data.toList = false := by
  unfold validLabel
  rw [head_at s h0, h]; simp
theorem validLabel_last {s : ByteArray} (h0 : s.size - 1 < s.size) (h : s[s.size - 1] = 45) : validLabel s.data.toList = false := by
  unfold validLabel
  rw [last_at s h0, h]; simp
set_option maxRecDepth 100000 in
set_option maxHeartbeats 2000000 in
theorem validLabel_c (s : ByteArray) (w : World) (hs : s.size ≤ 1000000) :
    Calls Tryz.prog 37 #[.string s] w fun e w' => e = .returned (.bool (validLabel s.data.toList)) ∧ Gr w w' := by
  by_cases h1 : 1 ≤ s.size ∧ s.size ≤ 63
  · obtain ⟨h1a, h1b⟩ := h1
    have h1c : s.size - 1 < s.size := by omega
    by_cases h2 : s[0] = 45
    · have HF := Lib.hid (validLabel_head h1a h2)
      have h2' : ((s[0].toNat : Int) == 45) = true := by rw [h2]; rfl
      clear h2
      go_enter Tryz.func37, Tryz.ntmps37
      go_wp2_with fail
      go_ret
      exact ⟨by rw [HF.out]; rfl, Gr.refl _⟩
    · have h2' : ((s[0].toNat : Int) == 45) = false := u8_ne45 h2
      by_cases h3 : s[s.size - 1] = 45
      · have HF := Lib.hid (validLabel_last h1c h3)
        have h3' : ((s[s.size - 1].toNat : Int) == 45) = true := by rw [h3]; rfl
        go_enter Tryz.func37, Tryz.ntmps37
        go_wp2_with fail
        go_ret
        exact ⟨by rw [HF.out]; rfl, Gr.refl _⟩
      · have h3' : ((s[s.size - 1].toNat : Int) == 45) = false := u8_ne45 h3
        have HV := Lib.hid (fun h4 => validLabel_eq s ⟨h1a, h1b⟩ h2 h3 h4)
        have HL := Lib.hid (list_len s)
        have HCP := Lib.hid (fun w => cutPrefix_c s ⟨#[120, 110, 45, 45]⟩ w)
        clear h2 h3
        go_enter Tryz.func37, Tryz.ntmps37
        go_wp2_with fail
        go_loop [30] (fun v => ∃ k : Nat, k ≤ s.size ∧ v = .int .i64 k ∧ Hid ((s.data.toList.take k).all okByte = true)) (fun v => s.size - (intOf v).toNat)
        case atStart => exact ⟨0, by omega, rfl, rfl⟩
        case round =>
          obtain ⟨k, hk, rfl, hR⟩ := hrel
          by_cases hlt : k < s.size
          · have H1 := Lib.hid (all_snocB hlt okByte)
            have H2 := Lib.hid (fun h => okByte_not (byteAt s k hlt) h)
            have hcs : (s[k].toNat < 48 ∧ s[k].toNat ≠ 45) ∨ (s[k].toNat = 45) ∨ (48 ≤ s[k].toNat ∧ s[k].toNat ≤ 57) ∨ (58 ≤ s[k].toNat ∧ s[k].toNat ≤ 96 ∧ s[k].toNat ≠ 95) ∨ (s[k].toNat = 95) ∨ (97 ≤ s[k].toNat ∧ s[k].toNat ≤ 122) ∨ (123 ≤ s[k].toNat) := by omega
            rcases hcs with hc | hc | hc | hc | hc | hc | hc
            · have e45 : ((s[k].toNat : Int) != 45) = true := by rw [bne_iff_ne]; omega
              have e95 : ((s[k].toNat : Int) != 95) = true := by rw [bne_iff_ne]; omega
              have HO := Lib.hid (show okByte s[k] = false by unfold okByte; simp; omega)
              go_wp2_with fail
              go_ret
              exact ⟨by rw [H2.out HO.out]; rfl, Gr.refl _⟩
              all_goals (exfalso; rename_i hz; simp at hz; omega)
            · have e45 : ((s[k].toNat : Int) != 45) = false := by rw [bne_eq_false_iff_eq]; omega
              have e95 : ((s[k].toNat : Int) != 95) = true := by rw [bne_iff_ne]; omega
              have HO := Lib.hid (show okByte s[k] = true by unfold okByte; simp; omega)
              go_wp2_with fail
              go_round
              case rel => exact ⟨k + 1, by omega, by go_num, (by show _ = _; rw [H1.out, hR.out, HO.out]; rfl)⟩
              case measure => simp [intOf]; omega
            · have e45 : ((s[k].toNat : Int) != 45) = true := by rw [bne_iff_ne]; omega
              have e95 : ((s[k].toNat : Int) != 95) = true := by rw [bne_iff_ne]; omega
              have HO := Lib.hid (show okByte s[k] = true by unfold okByte; simp; omega)
              go_wp2_with fail
              go_round
              case rel => exact ⟨k + 1, by omega, by go_num, (by show _ = _; rw [H1.out, hR.out, HO.out]; rfl)⟩
              case measure => simp [intOf]; omega
            · have e45 : ((s[k].toNat : Int) != 45) = true := by rw [bne_iff_ne]; omega
              have e95 : ((s[k].toNat : Int) != 95) = true := by rw [bne_iff_ne]; omega
              have HO := Lib.hid (show okByte s[k] = false by unfold okByte; simp; omega)
              go_wp2_with fail
              go_ret
              exact ⟨by rw [H2.out HO.out]; rfl, Gr.refl _⟩
              all_goals (exfalso; rename_i hz; simp at hz; omega)
            · have e45 : ((s[k].toNat : Int) != 45) = true := by rw [bne_iff_ne]; omega
              have e95 : ((s[k].toNat : Int) != 95) = false := by rw [bne_eq_false_iff_eq]; omega
              have HO := Lib.hid (show okByte s[k] = true by unfold okByte; simp; omega)
              go_wp2_with fail
              go_round
              case rel => exact ⟨k + 1, by omega, by go_num, (by show _ = _; rw [H1.out, hR.out, HO.out]; rfl)⟩
              case measure => simp [intOf]; omega
            · have e45 : ((s[k].toNat : Int) != 45) = true := by rw [bne_iff_ne]; omega
              have e95 : ((s[k].toNat : Int) != 95) = true := by rw [bne_iff_ne]; omega
              have HO := Lib.hid (show okByte s[k] = true by unfold okByte; simp; omega)
              go_wp2_with fail
              go_round
              case rel => exact ⟨k + 1, by omega, by go_num, (by show _ = _; rw [H1.out, hR.out, HO.out]; rfl)⟩
              case measure => simp [intOf]; omega
            · have e45 : ((s[k].toNat : Int) != 45) = true := by rw [bne_iff_ne]; omega
              have e95 : ((s[k].toNat : Int) != 95) = true := by rw [bne_iff_ne]; omega
              have HO := Lib.hid (show okByte s[k] = false by unfold okByte; simp; omega)
              go_wp2_with fail
              go_ret
              exact ⟨by rw [H2.out HO.out]; rfl, Gr.refl _⟩
              all_goals (exfalso; rename_i hz; simp at hz; omega)
          · obtain rfl : k = s.size := by omega
            have hR' := hR.out
            rw [List.take_of_length_le (by have := HL.out; omega)] at hR'
            have HF := Lib.hid (HV.out hR')
            clear hR hR'
            have HPC := Lib.hid (fun w => proper_c (mk (s.data.toList.drop 4)) w (by rw [mk_size, List.length_drop, HL.out]; omega))
            rcases hpf : [120, 110, 45, 45].isPrefixOf s.data.toList with _ | _
            · rw [hpf] at HF
              have HC := Lib.hid (fun w => by have := HCP.out w; rw [show (ByteArray.mk #[120, 110, 45, 45]).data.toList.isPrefixOf s.data.toList = false from hpf] at this; simp only [Bool.false_eq_true, if_false] at this; exact this : ∀ w : World, Calls Tryz.prog 59 #[.string s, .string ⟨#[120, 110, 45, 45]⟩] w fun e w' => e = .returned (.tuple #[.string s, .bool false]) ∧ w = w')
              clear hpf
              go_wp2_with (go_at_call 59; refine (HC.out _).mono ?_; rintro e w2 ⟨rfl, rfl⟩)
              go_ret
              exact ⟨by rw [HF.out]; rfl, Gr.refl _⟩
            · rw [hpf] at HF
              have HC := Lib.hid (fun w => by have := HCP.out w; rw [show (ByteArray.mk #[120, 110, 45, 45]).data.toList.isPrefixOf s.data.toList = true from hpf] at this; simpa using this : ∀ w : World, Calls Tryz.prog 59 #[.string s, .string ⟨#[120, 110, 45, 45]⟩] w fun e w' => e = .returned (.tuple #[.string (mk (s.data.toList.drop 4)), .bool true]) ∧ w = w')
              clear hpf
              have HF2 := Lib.hid (show validLabel s.data.toList = proper (s.data.toList.drop 4) by rw [HF.out]; rfl)
              go_wp2_with (first | (go_at_call 59; refine (HC.out _).mono ?_; rintro e w2 ⟨rfl, rfl⟩) | (go_at_call 60; refine (HPC.out _).mono ?_; rintro e w3 ⟨rfl, hG3⟩))
              go_ret
              exact ⟨by rw [HF2.out]; rfl, hG3⟩
  · have HF := Lib.hid (validLabel_len h1)
    go_enter Tryz.func37, Tryz.ntmps37
    go_wp2_with fail
    all_goals go_ret
    all_goals exact ⟨by rw [HF.out]; rfl, Gr.refl _⟩
end Go.Proofs.YtcicefifmkjffaaGreatDoor
