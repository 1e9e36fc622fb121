import Derived.Test.YtcicefifmkjffaaGreatDoorCmp
import Derived.Test.YtcicefifmkjffaaGreatDoorRefB
import Derived.Scope
namespace Go.Proofs.YtcicefifmkjffaaGreatDoor
open Go Go.RowKit Hs
theorem split_last_none {c : UInt8} {l : Bs} (h : lastIdx c l = none) : split c l = [l] := by
  rw [split_find]
  cases hf : find c l with
  | none => rfl
  | some i => exact absurd (List.mem_of_getElem? (find_some hf).2.1) (lastIdx_none h)
theorem splitAux_append (c : UInt8) : ∀ (l r cur : Bs), c ∉ r → splitAux c cur (l ++ c :: r) = splitAux c cur l ++ [r]
  | [], r, cur, h => by
    show (if c = c then cur :: splitAux c [] r else splitAux c (cur ++ [c]) r) = _
    rw [if_pos rfl]
    have : splitAux c [] r = [r] := by
      have h2 := splitAux_find c r []
      cases hf : find c r with
      | none => rw [h2, hf]; simp
      | some i => exact absurd (List.mem_of_getElem? (find_some hf).2.1) h
    rw [this]; rfl
  | b :: l, r, cur, h => by
    rw [List.cons_append]
    show (if b = c then cur :: splitAux c [] (l ++ c :: r) else splitAux c (cur ++ [b]) (l ++ c :: r)) = (if b = c then cur :: splitAux c [] l else splitAux c (cur ++ [b]) l) ++ [r]
    by_cases hb : b = c
    · rw [if_pos hb, if_pos hb, splitAux_append c l r [] h]; rfl
    · rw [if_neg hb, if_neg hb, splitAux_append c l r _ h]
theorem split_last_some {c : UInt8} {l : Bs} {i : Nat} (h : lastIdx c l = some i) : split c l = split c (l.take i) ++ [l.drop (i + 1)] := by
  obtain ⟨h1, h2⟩ := lastIdx_some h
  obtain ⟨h3, h4⟩ := List.getElem?_eq_some_iff.1 h1
  have e : l = l.take i ++ c :: l.drop (i + 1) := by
    rw [← h4, ← List.drop_eq_getElem_cons h3, List.take_append_drop]
  conv => lhs; rw [e]
  exact splitAux_append c _ _ [] h2
theorem cmpB_self (a : Bs) : cmpB a a = 0 := by
  unfold cmpB
  have : ∀ l : Bs, bless l l = false := by
    intro l
    induction l with
    | nil => rfl
    | cons x r ih =>
      show (if x.toNat < x.toNat then true else if x.toNat < x.toNat then false else bless r r) = false
      rw [if_neg (by omega), if_neg (by omega), ih]
  rw [if_neg (by simp [this a]), if_pos rfl]
/-- one round of Compare -/
theorem compare_step (a b : Bs) : Hs.compare a b = match lastIdx 46 a, lastIdx 46 b with
    | none, none => cmpB a b
    | none, some k => if cmpB a (b.drop (k + 1)) = 0 then -1 else cmpB a (b.drop (k + 1))
    | some i, none => if cmpB (a.drop (i + 1)) b = 0 then 1 else cmpB (a.drop (i + 1)) b
    | some i, some k => if cmpB (a.drop (i + 1)) (b.drop (k + 1)) = 0 then Hs.compare (a.take i) (b.take k) else cmpB (a.drop (i + 1)) (b.drop (k + 1)) := by
  have hne : ∀ l : Bs, (split 46 l).reverse ≠ [] := by
    intro l h
    have := (split_length 46 l).1
    rw [List.reverse_eq_nil_iff] at h
    rw [h] at this
    simp at this
  unfold Hs.compare
  rcases ha : lastIdx 46 a with _ | i <;> rcases hb : lastIdx 46 b with _ | k
  · rw [split_last_none ha, split_last_none hb]
    show (if cmpB a b = 0 then (0 : Int) else cmpB a b) = cmpB a b
    split <;> simp_all
  · rw [split_last_none ha, split_last_some hb, List.reverse_append]
    show (if cmpB a (b.drop (k + 1)) = 0 then cmpL [] (split 46 (b.take k)).reverse else _) = _
    cases hx : (split 46 (b.take k)).reverse with
    | nil => exact absurd hx (hne _)
    | cons y t => rfl
  · rw [split_last_some ha, split_last_none hb, List.reverse_append]
    show (if cmpB (a.drop (i + 1)) b = 0 then cmpL (split 46 (a.take i)).reverse [] else _) = _
    cases hx : (split 46 (a.take i)).reverse with
    | nil => exact absurd hx (hne _)
    | cons y t => rfl
  · rw [split_last_some ha, split_last_some hb, List.reverse_append, List.reverse_append]
    rfl
theorem lastIdx_lt {c : UInt8} {s : ByteArray} {i : Nat} (h : lastIdx c s.data.toList = some i) : i < s.size := by
  have := (List.getElem?_eq_some_iff.1 (lastIdx_some h).1).1; rwa [list_len] at this
theorem lastI_none {c : UInt8} {l : Bs} (h : lastIdx c l = none) : lastI c l = -1 := by unfold lastI; rw [h]
theorem lastI_some {c : UInt8} {l : Bs} {i : Nat} (h : lastIdx c l = some i) : lastI c l = i := by unfold lastI; rw [h]
theorem toList_drop (s : ByteArray) (k : Nat) : (s.extract k s.size).data.toList = s.data.toList.drop k := by rw [Lib.extract_to_end]
theorem toList_take (s : ByteArray) (k : Nat) : (s.extract 0 k).data.toList = s.data.toList.take k := by rw [ext_cut]; simp [cut]
theorem lib_w {s : ByteArray} {w : World} {i : Int} (hs : s.size ≤ 1000000) (h : lastI 46 s.data.toList = i) : Calls Tryz.prog 40 #[.string s, .int .u8 46] w fun e w' => e = .returned (.int .i64 i) ∧ w = w' := by
  have := lastIndexByte_c s 46 w hs; rwa [h] at this
set_option maxRecDepth 100000 in
set_option maxHeartbeats 2000000 in
theorem pinCompare_c (a b : ByteArray) (w : World) (ha : a.size ≤ 1000000) (hb : b.size ≤ 1000000) : Calls Tryz.prog 23 #[.string a, .string b] w fun e w' => e = .returned (.int .i64 (Hs.compare a.data.toList b.data.toList)) ∧ ∃ n, w' = w.drewN n := by
  go_enter Tryz.func23, Tryz.ntmps23
  go_wp2_with fail
  refine wp_scope_straight ?_
  go_wp2_with fail
  refine wp_label ?_
  go_wp2_with fail
  go_loopw [0, 1, 5, 6] (fun v0 v1 _ _ wr => Hid (∃ n, wr = w.drewN n) ∧ ∃ a' b' : ByteArray, v0 = .string a' ∧ v1 = .string b' ∧ a'.size ≤ 1000000 ∧ b'.size ≤ 1000000 ∧ Hid (Hs.compare a.data.toList b.data.toList = Hs.compare a'.data.toList b'.data.toList)) (fun v0 _ _ _ _ => vlen v0)
  case atStart => exact ⟨⟨0, rfl⟩, a, b, rfl, rfl, ha, hb, rfl⟩
  case round =>
    obtain ⟨hW, a', b', rfl, rfl, ha', hb', hR⟩ := hrel
    have hs := hR.out.trans (compare_step a'.data.toList b'.data.toList)
    rcases hla : lastIdx 46 a'.data.toList with _ | i <;> rcases hlb : lastIdx 46 b'.data.toList with _ | k
    all_goals rw [hla, hlb] at hs
    all_goals simp only at hs
    all_goals
      first | (have hi := lastIdx_lt hla; have hE1 := toList_drop a' (i + 1); have hi2 : ¬ ((i : Int) < 0) := by omega) | skip
      first | (have hk := lastIdx_lt hlb; have hE2 := toList_drop b' (k + 1); have hk2 : ¬ ((k : Int) < 0) := by omega) | skip
      first | rw [← hE1] at hs | skip
      first | rw [← hE2] at hs | skip
      try clear hE1
      try clear hE2
      have HS := Lib.hid hs
      first | have H1 := Lib.hid (fun w => lib_w (w := w) ha' (lastI_none hla)) | have H1 := Lib.hid (fun w => lib_w (w := w) ha' (lastI_some hla))
      first | have H2 := Lib.hid (fun w => lib_w (w := w) hb' (lastI_none hlb)) | have H2 := Lib.hid (fun w => lib_w (w := w) hb' (lastI_some hlb))
      clear hs hla hlb
      go_upto_region 3 with (go_at_call 40; first | (refine (H1.out _).mono ?_; rintro e w1 ⟨rfl, rfl⟩) | (refine (H2.out _).mono ?_; rintro e w1 ⟨rfl, rfl⟩))
      go_quiet ((go_at_call 41; exact Calls.quiet_of_same ((cmpStr_c _ _ _).mono fun _ _ h => ⟨h.1, h.2.symm⟩)))
      have hW2 : Hid (∃ n, wr.drewN nq = w.drewN n) := by obtain ⟨n, rfl⟩ := hW.out; exact ⟨n + nq, by rw [World.drewN_drewN]⟩
      generalize wr.drewN nq = w2 at *
      generalize cmpB _ _ = c at *
      by_cases hc : c = 0
      · subst hc
        have HS0 := HS.out
        first | rw [if_pos rfl] at HS0 | skip
        replace HS0 := Lib.hid HS0
        go_wp2_with (go_at_call 42; refine (cmpInt_c _ _ _).mono ?_; rintro e w1 ⟨rfl, rfl⟩)
        all_goals first
          | (try rw [Exit.noGoto_ret]
             go_ret
             exact ⟨ret_int (by have h9 := HS0.out; omega), hW2.out⟩)
          | (go_quiet (fail)
             have hW3 : Hid (∃ n, w2.drewN nq = w.drewN n) := by obtain ⟨n, rfl⟩ := hW2.out; exact ⟨n + nq, by rw [World.drewN_drewN]⟩
             generalize w2.drewN nq = w3 at *
             go_wp2_with fail
             go_roundw
             case rel => exact ⟨hW3, a'.extract 0 i, b'.extract 0 k, rfl, rfl, by rw [ByteArray.size_extract]; omega, by rw [ByteArray.size_extract]; omega, by show _ = _; rw [HS0.out, toList_take, toList_take]⟩
             case measure => simp only [vlen_str, ByteArray.size_extract]; omega)
      · have HS0 := HS.out
        first | rw [if_neg hc] at HS0 | skip
        replace HS0 := Lib.hid HS0
        go_wp2_with fail
        try rw [Exit.noGoto_ret]
        go_ret
        exact ⟨ret_int HS0.out.symm, hW2.out⟩
end Go.Proofs.YtcicefifmkjffaaGreatDoor
