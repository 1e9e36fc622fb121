import Derived.Test.YtcicefifmkjffaaGreatDoorRange
import Derived.Test.YtcicefifmkjffaaGreatDoorLabelV
namespace Go.Proofs.YtcicefifmkjffaaGreatDoor
open Go Go.RowKit Hs
attribute [local go_sem] Oper.semAt_some
theorem splitSeq_c (s : ByteArray) (c : UInt8) (k : Int) (w : World) : Calls Tryz.prog 47 #[.string s, .string ⟨#[c]⟩, .int .i64 k] w fun e w' => e = .returned (.func (.func 79) #[] #[.pointer (some ⟨w.heap.size + 1, 0, none⟩), .pointer (some ⟨w.heap.size, 0, none⟩), .pointer (some ⟨w.heap.size + 2, 0, none⟩)]) ∧ w' = ((w.alloc (.cells #[.string s] 9)).alloc (.cells #[.string ⟨#[c]⟩] 9)).alloc (.cells #[.int .i64 k] 3) := by
  have hmf : ∀ (fn : Fn) (first cap : Array Value) (w : World), (Instr.makeFunc fn first cap).run Tryz.prog w = .ok (.func fn first cap) w := fun _ _ _ _ => rfl
  go_enter Tryz.func47, Tryz.ntmps47
  go_wp2
  go_ret
  exact ⟨rfl, rfl⟩
theorem SplitSeq_c (s : ByteArray) (c : UInt8) (w : World) : Calls Tryz.prog 29 #[.string s, .string ⟨#[c]⟩] w fun e w' => e = .returned (.func (.func 79) #[] #[.pointer (some ⟨w.heap.size + 1, 0, none⟩), .pointer (some ⟨w.heap.size, 0, none⟩), .pointer (some ⟨w.heap.size + 2, 0, none⟩)]) ∧ w' = ((w.alloc (.cells #[.string s] 9)).alloc (.cells #[.string ⟨#[c]⟩] 9)).alloc (.cells #[.int .i64 0] 3) := by
  go_enter Tryz.func29, Tryz.ntmps29
  go_wp2_with (go_at_call 47; refine (splitSeq_c s c 0 _).mono ?_; rintro e w' ⟨rfl, rfl⟩)
  go_ret
  exact ⟨rfl, rfl⟩
def strB (x : ByteArray) : Array Value := #[.string x]
def piecesB (c : UInt8) (s : ByteArray) : List ByteArray := (split c s.data.toList).map mk
theorem indexByte_find (c : UInt8) : ∀ l : Bs, Lib.indexByte l c = match find c l with | none => -1 | some i => (i : Int)
  | [] => rfl
  | b :: r => by
    have ih := indexByte_find c r
    unfold Lib.indexByte find
    by_cases h : b = c
    · subst h; simp
    · rw [if_neg h, if_neg (by simpa using h), ih]
      cases find c r with
      | none => rfl
      | some i =>
        simp only [Option.map_some]
        rw [if_neg (by simp)]
        rfl
theorem index_c (s : ByteArray) (c : UInt8) (w : World) : Calls Tryz.prog 81 #[.string s, .string ⟨#[c]⟩] w fun e w' => e = .returned (.int .i64 (match find c s.data.toList with | none => -1 | some i => (i : Int))) ∧ w = w' :=
  (Tryz.strings_Index_one s c w).mono fun e w' h => ⟨by rw [h.1, indexByte_find], h.2.symm⟩
theorem piecesB_none {c : UInt8} {s : ByteArray} (h : find c s.data.toList = none) : piecesB c s = [s] := by
  unfold piecesB; rw [split_find, h]; rfl
theorem piecesB_some {c : UInt8} {s : ByteArray} {i : Nat} (h : find c s.data.toList = some i) : piecesB c s = s.extract 0 i :: piecesB c (s.extract (i + 1) s.size) := by
  unfold piecesB
  rw [split_find, h, Lib.extract_to_end, ext_cut]
  simp [cut]
theorem find_lt {c : UInt8} {s : ByteArray} {i : Nat} (h : find c s.data.toList = some i) : i < s.size := by
  have := (find_some h).1; rwa [list_len] at this
set_option maxRecDepth 100000 in
set_option maxHeartbeats 2000000 in
theorem splitSeq1_iter (n : Nat) (hn : 1 ≤ n) (b : Nat) (s : ByteArray) (c : UInt8) (w : World) (hs : s.size ≤ 1000000)
    (hb : CB w b 9 #[.string s]) (hb1 : CB w (b + 1) 9 #[.string ⟨#[c]⟩]) (hb2 : CB w (b + 2) 3 #[.int .i64 0]) :
    Iter Fence.wide n Tryz.prog 79 #[.pointer (some ⟨b + 1, 0, none⟩), .pointer (some ⟨b, 0, none⟩), .pointer (some ⟨b + 2, 0, none⟩)] strB b (b + 3) (fun xs => xs = piecesB c s) (fun pre => pre <+: piecesB c s) (piecesB c s).length w := by
  intro l J Jx W hW hWs hJ hJx hY h0 _
  have hc : CB W b 9 #[.string s] := (hW b (by omega) (by omega)).trans hb
  have hc1 : CB W (b + 1) 9 #[.string ⟨#[c]⟩] := (hW (b + 1) (by omega) (by omega)).trans hb1
  have hc2 : CB W (b + 2) 3 #[.int .i64 0] := (hW (b + 2) (by omega) (by omega)).trans hb2
  have k1 : W.cell? ⟨b + 1, 0, none⟩ = some (.string ⟨#[c]⟩) := hc1.cell 0
  refine callsIn_of_wp Tryz.func79 rfl trivial ?_ rfl
  simp only [Tryz.ntmps79, List.size_toArray, List.length_cons, List.length_nil, Nat.reduceAdd, Nat.reduceSub, Array.replicate_succ, Array.replicate_zero, List.push_toArray, List.append_toArray, List.nil_append, List.cons_append]
  gi_wp2
  gi_loopw [7, 8] (fun _ _ wr => ∃ (pre : List ByteArray) (t : ByteArray), CB wr b 9 #[.string t] ∧ CB wr (b + 1) 9 #[.string ⟨#[c]⟩] ∧ CB wr (b + 2) 3 #[.int .i64 0] ∧ J pre wr ∧ Hid (piecesB c s = pre ++ piecesB c t) ∧ t.size ≤ 1000000) (fun _ _ wr => strLenAt wr b)
  case atStart => exact ⟨[], s, hc, hc1, hc2, h0, rfl, hs⟩
  case round =>
    clear hc hc1 hc2 k1 hb hb1 hb2 h0
    obtain ⟨pre, t, hc, hc1, hc2, hj, hP, ht⟩ := hrel
    have k0 : wr.cell? ⟨b, 0, none⟩ = some (.string t) := hc.cell 0
    have k1 : wr.cell? ⟨b + 1, 0, none⟩ = some (.string ⟨#[c]⟩) := hc1.cell 0
    have k2 : wr.cell? ⟨b + 2, 0, none⟩ = some (.int .i64 0) := hc2.cell 0
    rcases hf : find c t.data.toList with _ | i
    · have hix := fun w => index_c t c w
      rw [hf] at hix
      have hP' := hP.out
      rw [piecesB_none hf] at hP'
      obtain ⟨fn, tmps, assign, body, hy, hR⟩ := hY pre t wr hj (by rw [hP']; simp) (by rw [hP']; exact List.prefix_refl _)
      have HX := Lib.hid hix
      have HP := Lib.hid hP'
      clear hix hP' hf
      dsimp only [strB] at hy
      gi_wp2_with (refine ⟨trivial, ?_⟩; gi_at_call 81; refine (callsIn_wide.2 (HX.out _)).mono ?_; rintro e w2 ⟨rfl, rfl⟩)
      refine hR.mono ?_
      rintro e W' (⟨rfl, hj', hf'⟩ | ⟨rfl, hj'⟩)
      · gi_wp2
        go_end0
        exact ⟨⟨_, rfl⟩, .inl ⟨pre ++ [t], HP.out.symm, hj'⟩⟩
      · gi_wp2
        go_end0
        exact ⟨⟨_, rfl⟩, .inr ⟨pre ++ [t], by rw [HP.out]; exact List.prefix_refl _, hj'⟩⟩
    · have hix := fun w => index_c t c w
      rw [hf] at hix
      have hil := find_lt hf
      have hP' := hP.out
      rw [piecesB_some hf] at hP'
      obtain ⟨fn, tmps, assign, body, hy, hR⟩ := hY pre (t.extract 0 i) wr hj (by rw [hP']; simp) ⟨piecesB c (t.extract (i + 1) t.size), by rw [hP']; simp⟩
      have HX := Lib.hid hix
      have HP := Lib.hid hP'
      clear hix hP' hf
      dsimp only [strB] at hy
      gi_wp2_with (refine ⟨trivial, ?_⟩; gi_at_call 81; refine (callsIn_wide.2 (HX.out _)).mono ?_; rintro e w2 ⟨rfl, rfl⟩)
      refine hR.mono ?_
      rintro e W' (⟨rfl, hj', hf'⟩ | ⟨rfl, hj'⟩)
      · have hc' : CB W' b 9 #[.string t] := (hf' b (by omega) (by omega)).trans hc
        have hc1' : CB W' (b + 1) 9 #[.string ⟨#[c]⟩] := (hf' (b + 1) (by omega) (by omega)).trans hc1
        have hc2' : CB W' (b + 2) 3 #[.int .i64 0] := (hf' (b + 2) (by omega) (by omega)).trans hc2
        have j0 : W'.cell? ⟨b, 0, none⟩ = some (.string t) := hc'.cell 0
        have j1 : W'.cell? ⟨b + 1, 0, none⟩ = some (.string ⟨#[c]⟩) := hc1'.cell 0
        have f0 := hc'.frozen 0
        gi_wp2
        go_roundw
        case rel => exact ⟨pre ++ [t.extract 0 i], t.extract (i + 1) t.size, hc'.set 0 _, hc1'.far (by simp) _, hc2'.far (by simp) _, hJ _ _ _ hj' ((Turns.refl _ _ _).setCell _ _ ⟨by simp, by simp⟩), by rw [HP.out]; simp [Hid], by rw [ByteArray.size_extract]; omega⟩
        case measure =>
          rw [strLenAt_of (show (W'.setCell ⟨b, 0, none⟩ (.string (t.extract (i + 1) t.size))).cell? ⟨b, 0, none⟩ = some (.string (t.extract (i + 1) t.size)) from (hc'.set 0 _).cell 0), strLenAt_of k0, ByteArray.size_extract]
          omega
      · gi_wp2
        refine bodyPost_ret (results_none rfl _ _ _) rfl ?_
        exact ⟨⟨_, rfl⟩, .inr ⟨pre ++ [t.extract 0 i], ⟨piecesB c (t.extract (i + 1) t.size), by rw [HP.out]; simp⟩, hj'⟩⟩
end Go.Proofs.YtcicefifmkjffaaGreatDoor
