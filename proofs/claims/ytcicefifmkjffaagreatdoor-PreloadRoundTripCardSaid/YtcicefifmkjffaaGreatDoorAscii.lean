/- Contracts: ascii. -/
import Derived.Test.YtcicefifmkjffaaGreatDoorProg
import Derived.Test.YtcicefifmkjffaaGreatDoorOwn
import Derived.Test.YtcicefifmkjffaaGreatDoorLawA
import Derived.Lib.IndexBytes
namespace Go.Proofs.YtcicefifmkjffaaGreatDoor
open Go Go.RowKit Hs
theorem elBytes : ElT Tryz.prog 53 5 (.int .u8 0) 1 1 := ⟨Tryz.underlying53, by kernel_rfl, rfl, by omega⟩
theorem elStrings : ElT Tryz.prog 67 9 (.string ByteArray.empty) 1 16 := ⟨Tryz.underlying67, by kernel_rfl, rfl, by omega⟩
theorem take_snoc (s : ByteArray) (k : Nat) (h : k < s.size) : s.data.toList.take (k + 1) = s.data.toList.take k ++ [s[k]] := by
  rw [List.take_succ_eq_append_getElem (by simpa using h)]; rfl
theorem drop_cons (s : ByteArray) (k : Nat) (h : k < s.size) : s.data.toList.drop k = s[k] :: s.data.toList.drop (k + 1) := by
  rw [List.drop_eq_getElem_cons (by simpa using h)]; rfl
theorem list_len (s : ByteArray) : s.data.toList.length = s.size := Array.length_toList
theorem lower_snoc (l : Bs) (b : UInt8) : lower (l ++ [b]) = lower l ++ [lowerB b] := by simp [lower]
theorem lowerB_lt (b : UInt8) : b.toNat < 256 := b.toNat_lt
theorem bv_up {b : UInt8} (h1 : 65 ≤ (b.toNat : Int)) (h2 : (b.toNat : Int) ≤ 90) : Value.int .u8 (b.toNat + 32) = bv (lowerB b) := by
  unfold bv lowerB
  rw [if_pos ⟨by omega, by omega⟩, UInt8.toNat_add]
  congr 1
  have : (32 : UInt8).toNat = 32 := rfl
  omega
theorem bv_same {b : UInt8} (h : ¬ (65 ≤ b.toNat ∧ b.toNat ≤ 90)) : Value.int .u8 b.toNat = bv (lowerB b) := by
  unfold bv lowerB
  rw [if_neg h]
theorem u8_eq {a b : UInt8} (h : ((a.toNat : Int) == (b.toNat : Int)) = true) : a = b := by
  rw [beq_iff_eq] at h; exact UInt8.toNat_inj.1 (by omega)
theorem u8_ne {a b : UInt8} (h : ((a.toNat : Int) == (b.toNat : Int)) = false) : a ≠ b := by
  rintro rfl; simp at h
theorem own_cast {w : World} {B e size n c : Nat} {A : Option Addr} {xs ys : List Value} (h : OwnR w B e size A n c xs) (e1 : xs = ys) : OwnR w B e size A n c ys := e1 ▸ h

theorem isBlank_c (b : UInt8) (w : World) : Calls Tryz.prog 83 #[.int .u8 b.toNat] w fun e w' => e = .returned (.bool (isBlank b)) ∧ w = w' := by
  go_enter Tryz.func83, Tryz.ntmps83
  go_wp2
  all_goals go_ret
  all_goals exact ⟨ret_bool (by rw [Bool.eq_iff_iff]; simp [isBlank]; try omega), rfl⟩
theorem isSpace_c (b : UInt8) (w : World) : Calls Tryz.prog 49 #[.int .u8 b.toNat] w fun e w' => e = .returned (.bool (isSpace b)) ∧ w = w' := by
  by_cases hb : isBlank b = true
  all_goals
    go_enter Tryz.func49, Tryz.ntmps49
    go_wp2_with (go_at_call 83; refine (isBlank_c b _).mono ?_; rintro e w' ⟨rfl, rfl⟩)
    all_goals go_ret
    all_goals exact ⟨ret_bool (by rw [Bool.eq_iff_iff]; simp [isBlank, isSpace] at *; try omega), rfl⟩

set_option maxHeartbeats 400000 in
set_option maxRecDepth 100000 in
theorem lower_c (s : ByteArray) (w : World) (hs : s.size ≤ 65536) : Calls Tryz.prog 84 #[.string s] w fun e w' => e = .returned (.string (mk (lower s.data.toList))) ∧ Gr w w' := by
  go_enter Tryz.func84, Tryz.ntmps84
  go_wp2_with (at_make; refine wpList_mk0 _ _ elBytes rfl rfl w (Gr.refl _) s.size rfl rfl (by omega) (by omega) ?_; intro A c w1 hown hG hgr)
  go_loopw [3, 5, 11] (fun v b i wr => ∃ (k : Nat) (A : Option Addr) (c : Nat), k ≤ s.size ∧ i = .int .i64 k ∧ v = .slice A k c ∧ OwnR wr w.heap.size 5 1 A k c (bytesV (lower (s.data.toList.take k))) ∧ Gr w wr) (fun _ _ i _ => s.size - (intOf i).toNat)
  case atStart => exact ⟨0, A, c, by omega, rfl, rfl, hown, hG⟩
  case round =>
    obtain ⟨k, A, c, hk, rfl, rfl, hown, hG⟩ := hrel
    have hcv := own_string hown Tryz.underlying53 Tryz.underlying5 Tryz.underlying9
    go_wp2_with (at_builtin; refine wpList_app1 _ _ elBytes rfl rfl w rfl hown hG [_] rfl rfl (by rfl) (by omega) (by omega) ?_; intro A' c' w' hown' hG' hgr')
    case roundEnd =>
      go_round
      case rel => exact ⟨k + 1, A', c', by omega, by go_num, by go_num, own_cast hown' (by rw [take_snoc s k ‹_›, lower_snoc, ← bytesV_snoc, bv_up ‹_› ‹_›]), hG'⟩
      case measure => simp [intOf]; omega
    case roundEnd =>
      go_round
      case rel => exact ⟨k + 1, A', c', by omega, by go_num, by go_num, own_cast hown' (by rw [take_snoc s k ‹_›, lower_snoc, ← bytesV_snoc, bv_same (by omega)]), hG'⟩
      case measure => simp [intOf]; omega
    case roundEnd =>
      go_round
      case rel => exact ⟨k + 1, A', c', by omega, by go_num, by go_num, own_cast hown' (by rw [take_snoc s k ‹_›, lower_snoc, ← bytesV_snoc, bv_same (by omega)]), hG'⟩
      case measure => simp [intOf]; omega
    go_ret
    exact ⟨ret_str (by rw [List.take_of_length_le (by rw [list_len]; omega)]), hG⟩
theorem str_beq (s t : ByteArray) : (s.toList == t.toList) = decide (s.data.toList = t.data.toList) := by
  rw [ByteArray.toList_eq, ByteArray.toList_eq, Bool.eq_iff_iff]; simp
theorem equalFold_c (s t : ByteArray) (w : World) (hs : s.size ≤ 65536) (ht : t.size ≤ 65536) : Calls Tryz.prog 50 #[.string s, .string t] w fun e w' => e = .returned (.bool (decide (lower s.data.toList = lower t.data.toList))) ∧ Gr w w' := by
  go_enter Tryz.func50, Tryz.ntmps50
  go_wp2_with fail
  refine (lower_c s _ hs).mono ?_
  rintro e w1 ⟨rfl, hG1⟩
  go_wp2_with fail
  refine (lower_c t _ ht).mono ?_
  rintro e w2 ⟨rfl, hG2⟩
  go_wp2_with fail
  go_ret
  exact ⟨ret_bool (str_beq _ _), hG1.trans hG2⟩
theorem ext_cut (s : ByteArray) (a b : Nat) : s.extract a b = mk (cut s.data.toList a b) := by
  rw [Lib.extract_eq]; unfold mk cut; rw [List.drop_take]
theorem byteAt (s : ByteArray) (k : Nat) (h : k < s.size) : s.data.toList[k]? = some s[k] := by
  rw [List.getElem?_eq_getElem (by rw [list_len]; exact h)]; rfl

set_option maxHeartbeats 400000 in
set_option maxRecDepth 100000 in
theorem words_c (s : ByteArray) (w : World) (hs : s.size ≤ 65536) : Calls Tryz.prog 31 #[.string s] w fun e w' => ∃ A c, e = .returned (.slice A (words s.data.toList).length c) ∧ OwnR w' w.heap.size 9 1 A (words s.data.toList).length c (strsV (words s.data.toList)) ∧ Gr w w' := by
  have hL := list_len s
  go_enter Tryz.func31, Tryz.ntmps31
  go_wp2_with fail
  go_loopw [3, 4, 5] (fun v f i wr => ∃ (k g : Nat) (ys : List Bs) (A : Option Addr) (c : Nat), k ≤ s.size + 1 ∧ g ≤ k ∧ ys.length ≤ k ∧ i = .int .i64 k ∧ f = .int .i64 g ∧ v = .slice A ys.length c ∧ OwnR wr w.heap.size 9 1 A ys.length c (strsV ys) ∧ Gr w wr ∧ WR s.data.toList k g ys) (fun _ _ i _ => s.size + 1 - (intOf i).toNat)
  case atStart => exact ⟨0, 0, [], none, 0, by omega, by omega, by simp, rfl, rfl, rfl, OwnR.nil _ _ _ _, Gr.refl _, WR.start _⟩
  case round =>
    obtain ⟨k, g, ys, A, c, hk, hg, hn, rfl, rfl, rfl, hown, hG, hR⟩ := hrel
    have HL := Lib.hid hL
    clear hL
    go_wp2_with (first | (go_at_call 49; refine (isSpace_c _ _).mono ?_; rintro e w' ⟨rfl, rfl⟩) | (at_builtin; refine wpList_app1 _ _ elStrings rfl rfl w rfl hown hG [_] rfl rfl (by rfl) (by omega) (by omega) ?_; intro A' c' w' hown' hG' hgr'))
    case roundEnd =>
      go_roundw
      case rel => exact ⟨k + 1, g, ys, A, c, by omega, by omega, by omega, by go_num, rfl, rfl, hown, hG, hR.keep (byteAt s k ‹_›) (by simp_all) hg⟩
      case measure => simp [intOf]; omega
    case roundEnd =>
      go_roundw
      case rel => exact ⟨k + 1, k + 1, ys ++ [cut s.data.toList g k], A', c', by omega, by omega, by simp; omega, by go_num, by go_num, by simp, own_cast (by simpa using hown') (by rw [← strsV_snoc, ext_cut]; rfl), hG', hR.word (byteAt s k ‹_›) (by simp_all) ‹_›⟩
      case measure => simp [intOf]; omega
    case roundEnd =>
      go_roundw
      case rel => exact ⟨k + 1, k + 1, ys, A, c, by omega, by omega, by omega, by go_num, by go_num, rfl, hown, hG, hR.skip (byteAt s k ‹_›) (by simp_all) (by omega)⟩
      case measure => simp [intOf]; omega
    case roundEnd =>
      go_roundw
      case rel => exact ⟨k + 1, k + 1, ys ++ [cut s.data.toList g k], A', c', by omega, by omega, by simp; omega, by go_num, by go_num, by simp, own_cast (by simpa using hown') (by rw [← strsV_snoc, ext_cut]; rfl), hG', hR.lastword (by have := HL.out; omega) ‹_›⟩
      case measure => simp [intOf]; omega
    case roundEnd =>
      go_roundw
      case rel => exact ⟨k + 1, k + 1, ys, A, c, by omega, by omega, by omega, by go_num, by go_num, rfl, hown, hG, hR.last (by have := HL.out; omega) (by omega)⟩
      case measure => simp [intOf]; omega
    have hd := hR.done (by have := HL.out; omega)
    rw [hd]
    go_ret
    exact ⟨A, c, rfl, hown, hG⟩

set_option maxHeartbeats 400000 in
set_option maxRecDepth 100000 in
theorem r01_split_c (s : ByteArray) (b : UInt8) (w : World) (hs : s.size ≤ 65536) : Calls Tryz.prog 44 #[.string s, .int .u8 b.toNat] w fun e w' => ∃ A c, e = .returned (.slice A (split b s.data.toList).length c) ∧ OwnR w' w.heap.size 9 1 A (split b s.data.toList).length c (strsV (split b s.data.toList)) ∧ Gr w w' := by
  have hL := list_len s
  have HL := Lib.hid hL
  clear hL
  go_enter Tryz.func44, Tryz.ntmps44
  go_wp2_with fail
  go_loopw [5, 6, 7] (fun v f i wr => ∃ (k g : Nat) (ys : List Bs) (A : Option Addr) (c : Nat), k ≤ s.size + 1 ∧ g ≤ k ∧ ys.length ≤ k ∧ i = .int .i64 k ∧ f = .int .i64 g ∧ v = .slice A ys.length c ∧ OwnR wr w.heap.size 9 1 A ys.length c (strsV ys) ∧ Gr w wr ∧ SR b s.data.toList k g ys) (fun _ _ i _ => s.size + 1 - (intOf i).toNat)
  case atStart => exact ⟨0, 0, [], none, 0, by omega, by omega, by simp, rfl, rfl, rfl, OwnR.nil _ _ _ _, Gr.refl _, SR.start _ _⟩
  case round =>
    obtain ⟨k, g, ys, A, c, hk, hg, hn, rfl, rfl, rfl, hown, hG, hR⟩ := hrel
    go_wp2_with (at_builtin; refine wpList_app1 _ _ elStrings rfl rfl w rfl hown hG [_] rfl rfl (by rfl) (by omega) (by omega) ?_; intro A' c' w' hown' hG' hgr')
    case roundEnd =>
      have hks : k = s.size := by omega
      go_roundw
      case rel => exact ⟨s.size + 1, s.size + 1, ys ++ [cut s.data.toList g s.size], A', c', by omega, by omega, by simp; omega, by go_num, by go_num, by simp, own_cast (by simpa using hown') (by rw [← strsV_snoc, ext_cut]; rfl), hG', by rw [hks] at hR; exact hR.last HL.out.symm⟩
      case measure => simp [intOf]; omega
    case roundEnd =>
      have hb : s[k] = b := u8_eq (by rename_i hx; simpa [‹¬ (k : Int) = s.size›] using hx)
      go_roundw
      case rel => exact ⟨k + 1, k + 1, ys ++ [cut s.data.toList g k], A', c', by omega, by omega, by simp; omega, by go_num, by go_num, by simp, own_cast (by simpa using hown') (by rw [← strsV_snoc, ext_cut]; rfl), hG', hR.part (byteAt s k ‹_›) hb⟩
      case measure => simp [intOf]; omega
    case roundEnd =>
      have hb : s[k] ≠ b := u8_ne (by rename_i hx; exact hx.2)
      go_roundw
      case rel => exact ⟨k + 1, g, ys, A, c, by omega, by omega, by omega, by go_num, rfl, rfl, hown, hG, hR.keep (byteAt s k ‹_›) hb hg⟩
      case measure => simp [intOf]; omega
    have hd := hR.done (by have := HL.out; omega)
    rw [hd]
    go_ret
    exact ⟨A, c, rfl, hown, hG⟩
end Go.Proofs.YtcicefifmkjffaaGreatDoor
