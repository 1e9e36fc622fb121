import Derived.Test.YtcicefifmkjffaaGreatDoorSeq
namespace Go.Proofs.YtcicefifmkjffaaGreatDoor
open Go Go.RowKit Hs
attribute [local go_sem] Oper.semAt_some
theorem piecesB_all (c : UInt8) (s : ByteArray) (f : Bs → Bool) : (piecesB c s).all (fun x => f x.data.toList) = (split c s.data.toList).all f := by
  unfold piecesB; rw [List.all_map]; rfl
theorem pieces_size {c : UInt8} {s x : ByteArray} (h : x ∈ piecesB c s) : x.size ≤ s.size := by
  unfold piecesB at h
  obtain ⟨l, hl, rfl⟩ := List.mem_map.1 h
  have := split_le c s.data.toList l hl
  rw [list_len] at this
  exact this
theorem validName_eq {s : ByteArray} (h1 : s.size ≤ 253) (h2 : numeric s.data.toList = false) : validName s.data.toList = (piecesB 46 s).all (fun x => validLabel x.data.toList) := by
  unfold validName; rw [piecesB_all, h2, list_len, decide_eq_true h1]; rfl
set_option maxRecDepth 100000 in
set_option maxHeartbeats 2000000 in
theorem validName_c (s : ByteArray) (w : World) (hE : Env w) (hs : s.size ≤ 1000000) :
    Calls Tryz.prog 19 #[.string s] w fun e w' => e = .returned (.bool (validName s.data.toList)) ∧ Gr w w' := by
  refine (callsIn_wide (n := 9)).1 ?_
  refine callsIn_of_wp_marks Tryz.func19 rfl trivial ?_ rfl
  simp only [Tryz.ntmps19, List.size_toArray, List.length_cons, List.length_nil, Nat.reduceAdd, Nat.reduceSub, Array.replicate_succ, Array.replicate_zero, List.push_toArray, List.append_toArray, List.nil_append, List.cons_append]
  have hG1 : Gr w (w.alloc (.cells #[.bool false] 4)) := (Gr.refl w).alloc _
  have hc1 : CB (w.alloc (.cells #[.bool false] 4)) w.heap.size 4 #[.bool false] := CB.new _ _ _
  by_cases h1 : 253 < s.size
  · have HV := Lib.hid (show validName s.data.toList = false by unfold validName; rw [list_len, decide_eq_false (by omega)]; simp)
    have hf1 := hc1.frozen 0
    have hk1 : (w.alloc (.cells #[.bool false] 4)).cell? ⟨w.heap.size, 0, none⟩ = some (.bool false) := hc1.cell 0
    gi_wp2
    refine ⟨trivial, ?_⟩
    gi_wp2
    refine ⟨.bool false, ?_, by rw [HV.out], hG1⟩
    simp [results, Tryz.f19, go_sem]
  · rcases hnum : numeric s.data.toList with _ | _
    · have HN := Lib.hid (fun w hE => by have := numeric_c s w hE hs; rwa [hnum] at this : ∀ w : World, Env w → Calls Tryz.prog 36 #[.string s] w fun e w' => e = .returned (.bool false) ∧ Gr w w')
      have HV := Lib.hid (validName_eq (by omega) hnum)
      clear hnum
      gi_wp2_with (first | (refine ⟨trivial, ?_⟩; gi_at_call 36; refine (callsIn_wide.2 (HN.out _ (hE.gr hG1))).mono ?_; rintro e w2 ⟨rfl, hG2⟩) | (refine ⟨trivial, ?_⟩; gi_at_call 29; refine (callsIn_wide.2 (SplitSeq_c s 46 _)).mono ?_; rintro e w3 ⟨rfl, rfl⟩))
      have hB0 : CB (((w2.alloc (.cells #[.string s] 9)).alloc (.cells #[.string ⟨#[46]⟩] 9)).alloc (.cells #[.int .i64 0] 3)) w2.heap.size 9 #[.string s] := ((CB.new _ _ _).alloc _).alloc _
      have hB1 : CB (((w2.alloc (.cells #[.string s] 9)).alloc (.cells #[.string ⟨#[46]⟩] 9)).alloc (.cells #[.int .i64 0] 3)) (w2.heap.size + 1) 9 #[.string ⟨#[46]⟩] := by have := (CB.new (w2.alloc (.cells #[.string s] 9)) 9 #[.string ⟨#[46]⟩]).alloc (.cells #[.int .i64 0] 3); rwa [World.size_alloc] at this
      have hB2 : CB (((w2.alloc (.cells #[.string s] 9)).alloc (.cells #[.string ⟨#[46]⟩] 9)).alloc (.cells #[.int .i64 0] 3)) (w2.heap.size + 2) 3 #[.int .i64 0] := by have := CB.new ((w2.alloc (.cells #[.string s] 9)).alloc (.cells #[.string ⟨#[46]⟩] 9)) 3 #[.int .i64 0]; rwa [World.size_alloc, World.size_alloc] at this
      have hsz : (((w2.alloc (.cells #[.string s] 9)).alloc (.cells #[.string ⟨#[46]⟩] 9)).alloc (.cells #[.int .i64 0] 3)).heap.size = w2.heap.size + 3 := by simp
      have hG3 : Gr w (((w2.alloc (.cells #[.string s] 9)).alloc (.cells #[.string ⟨#[46]⟩] 9)).alloc (.cells #[.int .i64 0] 3)) := (((hG1.trans hG2).alloc _).alloc _).alloc _
      have hC3 : CB (((w2.alloc (.cells #[.string s] 9)).alloc (.cells #[.string ⟨#[46]⟩] 9)).alloc (.cells #[.int .i64 0] 3)) w.heap.size 4 #[.bool false] := (((hc1.gr hG2).alloc _).alloc _).alloc _
      have hw2 : w.heap.size < w2.heap.size := by have := hG2.size; simp at this; omega
      generalize (((w2.alloc (.cells #[.string s] 9)).alloc (.cells #[.string ⟨#[46]⟩] 9)).alloc (.cells #[.int .i64 0] 3)) = w3 at *
      have tGr : ∀ {A B : World}, Gr w A → Turns w2.heap.size (w3.heap.size + 2) A B → Gr w B := fun hA hT => ⟨hT.os.trans hA.os, hT.tape.trans hA.tape, hT.output.trans hA.output, Nat.le_trans hA.size hT.size, fun k hk => (hT.block k (Nat.lt_of_lt_of_le hk hA.size) (.inl (by omega))).trans (hA.block k hk)⟩
      have tCB : ∀ {A B : World} {x : Value}, CB A w.heap.size 4 #[x] → Turns w2.heap.size (w3.heap.size + 2) A B → CB B w.heap.size 4 #[x] := fun hA hT => (hT.block _ hA.lt (.inl hw2)).trans hA
      refine wpIn_range_iter rfl (by omega) (gf := 79) (lb := #[.pointer (some ⟨w2.heap.size + 1, 0, none⟩), .pointer (some ⟨w2.heap.size, 0, none⟩), .pointer (some ⟨w2.heap.size + 2, 0, none⟩)]) rfl trivial (enters_of Tryz.func79 (by kernel_rfl) rfl)
        (splitSeq1_iter 8 (by omega) w2.heap.size s 46 w3 hs hB0 hB1 hB2) (by omega) (by omega) (Fix.refl _ _ _) (fun _ => rfl)
        (fun pre W => pre.all (fun x => validLabel x.data.toList) = true ∧ CB W w.heap.size 4 #[.bool false] ∧ Gr w W)
        (fun c pre W => c = .ret ∧ CB W w.heap.size 4 #[.bool false] ∧ Gr w W ∧ ∃ x ∈ pre, validLabel x.data.toList = false)
        (fun s A B h hT => ⟨h.1, tCB h.2.1 hT, tGr h.2.2 hT⟩) (fun c s A B h hT => ⟨h.1, tCB h.2.1 hT, tGr h.2.2.1 hT, h.2.2.2⟩) ⟨rfl, hC3, hG3⟩ (fun _ _ _ => trivial)
        (fun x => { tmps := #[.string s, undef, .pointer (some ⟨w.heap.size, 0, none⟩), .string x, .string s, .int .i64 s.size, .bool (decide (253 < (s.size : Int))), .bool (decide (253 < (s.size : Int))), .string s, .bool false, .bool (decide (253 < (s.size : Int))), .string s, .func (.func 79) #[] #[.pointer (some ⟨w2.heap.size + 1, 0, none⟩), .pointer (some ⟨w2.heap.size, 0, none⟩), .pointer (some ⟨w2.heap.size + 2, 0, none⟩)], .string x, undef, undef, undef], defers := [] }) ?assign ?body ?done ?stop
      case assign =>
        intro l x W K hK
        dsimp only [strB]
        gi_wp2
        exact hK
      case body =>
        rintro l pre x W ⟨hall, hc, hg⟩ hlen hsp hWs
        have hxs : x.size ≤ 1000000 := by have := pieces_size (hsp.subset (show x ∈ pre ++ [x] by simp)); omega
        have hf := hc.frozen 0
        have hk := hc.cell 0
        rcases hv : validLabel x.data.toList with _ | _
        · have HC := Lib.hid (fun w => by have := validLabel_c x w hxs; rwa [hv] at this : ∀ w : World, Calls Tryz.prog 37 #[.string x] w fun e w' => e = .returned (.bool false) ∧ Gr w w')
          have HX := Lib.hid hv
          clear hv
          gi_wp2_with (refine ⟨trivial, ?_⟩; gi_at_call 37; refine (CallsIn.inRound l (callsIn_wide.2 (HC.out _))).mono ?_; rintro e w4 ⟨rfl, hG4⟩; have hc4 := hc.gr hG4; have hf4 := hc4.frozen 0; have hk4 : w4.cell? ⟨w.heap.size, 0, none⟩ = some (.bool false) := hc4.cell 0)
          exact ⟨(Fix.gr hG4 hWs).trans (fun k h1 _ => Below.heap_setCell _ _ _ _ (by simp; omega)), rfl, hc4.set 0 _, (hg.trans hG4).setCell (by simp) _, x, by simp, HX.out⟩
        · have HC := Lib.hid (fun w => by have := validLabel_c x w hxs; rwa [hv] at this : ∀ w : World, Calls Tryz.prog 37 #[.string x] w fun e w' => e = .returned (.bool true) ∧ Gr w w')
          have HX := Lib.hid hv
          clear hv
          gi_wp2_with (refine ⟨trivial, ?_⟩; gi_at_call 37; refine (CallsIn.inRound l (callsIn_wide.2 (HC.out _))).mono ?_; rintro e w4 ⟨rfl, hG4⟩; have hc4 := hc.gr hG4)
          exact ⟨Fix.gr hG4 hWs, by rw [List.all_append, hall]; simp [HX.out], hc4, hg.trans hG4⟩
      case done =>
        rintro D ys W hD rfl ⟨hall, hc, hg⟩ hK
        have hf := hc.frozen 0
        have hk : W.cell? ⟨w.heap.size, 0, none⟩ = some (.bool false) := hc.cell 0
        have hc4 := hc.set 0 (.bool true)
        have hg4 := hg.setCell (p := ⟨w.heap.size, 0, none⟩) (Nat.le_refl _) (.bool true)
        have hK4 : (W.setCell ⟨w.heap.size, 0, none⟩ (.bool true)).heap[D]? = some (.deferred (some [])) := (Below.heap_setCell W _ _ D (by have := hG3.size; simp; omega)).trans hK
        have HA := Lib.hid (HV.out.trans hall)
        clear hall
        gi_wp2
        refine ⟨by simp, .inl ⟨_, _, rfl, run_takeDeferred hK4, ?_⟩⟩
        have hc5 : ((W.setCell ⟨w.heap.size, 0, none⟩ (.bool true)).putObj D (.deferred none)).cell? ⟨w.heap.size, 0, none⟩ = some (.bool true) := CB.cell (t := 4) (cs := #[.bool true]) ((World.putObj_heap_other (by have := hG3.size; omega)).trans hc4) 0
        have hg5 : Gr w ((W.setCell ⟨w.heap.size, 0, none⟩ (.bool true)).putObj D (.deferred none)) := hg4.grown (grownBy_putObj' _ D _) (fun k e => by cases e; have := hG3.size; omega)
        refine ⟨.bool true, ?_, by rw [HA.out], hg5⟩
        simp [results, Tryz.f19, go_sem, hc5]
      case stop =>
        rintro D c pre W hD hp ⟨rfl, hc, hg, x, hx, hv⟩ hK
        have HA := Lib.hid (show validName s.data.toList = false by rw [HV.out, List.all_eq_false]; exact ⟨x, hp.subset hx, by simp [hv]⟩)
        gi_wp2
        refine ⟨by simp, .inl ⟨_, _, rfl, run_takeDeferred hK, ?_⟩⟩
        have hc5 : (W.putObj D (.deferred none)).cell? ⟨w.heap.size, 0, none⟩ = some (.bool false) := CB.cell (t := 4) (cs := #[.bool false]) ((World.putObj_heap_other (by have := hG3.size; omega)).trans hc) 0
        have hg5 : Gr w (W.putObj D (.deferred none)) := hg.grown (grownBy_putObj' _ D _) (fun k e => by cases e; have := hG3.size; omega)
        refine ⟨.bool false, ?_, by rw [HA.out], hg5⟩
        simp [results, Tryz.f19, go_sem, hc5]
    · have HN := Lib.hid (fun w hE => by have := numeric_c s w hE hs; rwa [hnum] at this : ∀ w : World, Env w → Calls Tryz.prog 36 #[.string s] w fun e w' => e = .returned (.bool true) ∧ Gr w w')
      have HV := Lib.hid (show validName s.data.toList = false by unfold validName; rw [hnum]; simp)
      clear hnum
      gi_wp2_with (refine ⟨trivial, ?_⟩; gi_at_call 36; refine (callsIn_wide.2 (HN.out _ (hE.gr hG1))).mono ?_; rintro e w2 ⟨rfl, hG2⟩; have hc2 := hc1.gr hG2; have hf2 := hc2.frozen 0; have hk2 : w2.cell? ⟨w.heap.size, 0, none⟩ = some (.bool false) := hc2.cell 0)
      have hc5 := (hc2.set 0 (.bool false)).cell 0
      refine ⟨.bool false, ?_, by rw [HV.out], (hG1.trans hG2).setCell (p := ⟨w.heap.size, 0, none⟩) (Nat.le_refl _) _⟩
      simp at hc5
      simp [results, Tryz.f19, go_sem, hc5]
end Go.Proofs.YtcicefifmkjffaaGreatDoor
