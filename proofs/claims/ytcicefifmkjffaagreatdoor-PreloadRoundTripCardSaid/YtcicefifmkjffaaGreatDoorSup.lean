/- host.Supers: its iterator; strings.Cut at one byte. -/
import Derived.Test.YtcicefifmkjffaaGreatDoorSeq
import Derived.Test.YtcicefifmkjffaaGreatDoorHostV
import Derived.Test.YtcicefifmkjffaaGreatDoorPinC
import Derived.Test.YtcicefifmkjffaaGreatDoorShelf4
namespace Go.Proofs.YtcicefifmkjffaaGreatDoor
open Go Go.RowKit Hs
attribute [local go_sem] Oper.semAt_some
theorem cut_find (c : UInt8) (l : Bs) : Lib.cut l [c] = match find c l with | none => (l, [], false) | some i => (l.take i, l.drop (i + 1), true) := by
  unfold Lib.cut
  rw [index_find]
  cases find c l with
  | none => simp
  | some i => simp
def cutV (c : UInt8) (s : ByteArray) : Value := match find c s.data.toList with
  | none => .tuple #[.string s, .string ⟨#[]⟩, .bool false]
  | some i => .tuple #[.string (s.extract 0 i), .string (s.extract (i + 1) s.size), .bool true]
theorem cut_c (s : ByteArray) (c : UInt8) (w : World) (hE : Env w) (hs : s.size ≤ 1000000) : Calls Tryz.prog 30 #[.string s, .string ⟨#[c]⟩] w fun e w' => e = .returned (cutV c s) ∧ ∃ n, w' = w.drewN n := by
  obtain ⟨m, hm⟩ := hE
  refine (Tryz.strings_Cut s ⟨#[c]⟩ m w (by omega) hm).mono ?_
  rintro e w' ⟨rfl, hw⟩
  refine ⟨?_, hw⟩
  have h := cut_find c s.data.toList
  rw [show (ByteArray.mk #[c]).data.toList = [c] from rfl, h]
  unfold cutV
  cases hf : find c s.data.toList with
  | none => rfl
  | some i =>
    show Ending.returned (.tuple #[.string (mk (s.data.toList.take i)), .string (mk (s.data.toList.drop (i + 1))), .bool true]) = .returned (.tuple #[.string (s.extract 0 i), .string (s.extract (i + 1) s.size), .bool true])
    rw [ext_cut s 0 i, mk_data_of (Lib.extract_to_end s (i + 1))]; simp [cut]
def supersF : Nat → Bs → List Bs
  | 0, _ => []
  | f + 1, l => match find 46 l with
    | none => []
    | some i => l.drop (i + 1) :: supersF f (l.drop (i + 1))
def supers (l : Bs) : List Bs := if validName l then supersF l.length l else []
theorem supersF_none {f : Nat} {l : Bs} (h : find 46 l = none) : supersF f l = [] := by
  cases f with
  | zero => rfl
  | succ f => unfold supersF; rw [h]
theorem supersF_some {f : Nat} {l : Bs} {i : Nat} (hf : l.length ≤ f) (h : find 46 l = some i) : ∃ f', (l.drop (i + 1)).length ≤ f' ∧ supersF f l = l.drop (i + 1) :: supersF f' (l.drop (i + 1)) := by
  have h1 := (find_some h).1
  obtain ⟨f', rfl⟩ : ∃ f', f = f' + 1 := ⟨f - 1, by omega⟩
  refine ⟨f', by rw [List.length_drop]; omega, ?_⟩
  show (match find 46 l with | none => [] | some i => l.drop (i + 1) :: supersF f' (l.drop (i + 1))) = _
  rw [h]
theorem turns_gr {n₁ n₂ : Nat} {A B : World} (h : Gr A B) : Turns n₁ n₂ A B := ⟨h.os, h.tape, h.output, h.size, fun b hb _ => h.block b hb⟩
def supersB (s : ByteArray) : List ByteArray := (supers s.data.toList).map mk
set_option maxRecDepth 100000 in
set_option maxHeartbeats 2000000 in
theorem supers1_iter (n : Nat) (hn : 1 ≤ n) (b : Nat) (s : ByteArray) (w : World) (hs : s.size ≤ 1000000) (hb : CB w b 9 #[.string s]) :
    IterE Env Fence.wide n Tryz.prog 54 #[.pointer (some ⟨b, 0, none⟩)] strB b (b + 1) (fun xs => xs = supersB s) (fun pre => pre <+: supersB s) (supersB s).length w := by
  intro l J Jx W hW hWs hJ hJx hY h0 hJE
  have hc : CB W b 9 #[.string s] := (hW b (by omega) (by omega)).trans hb
  have k0 : W.cell? ⟨b, 0, none⟩ = some (.string s) := hc.cell 0
  have HV := Lib.hid (validName_c s W (hJE _ _ h0) hs)
  have hEJ := Lib.hid hJE
  clear hJE
  rcases hv : validName s.data.toList with _ | _
  · have hS : supersB s = [] := by unfold supersB supers; rw [hv]; rfl
    rw [hv] at HV
    have HS := Lib.hid hS
    clear hv hS
    refine callsIn_of_wp Tryz.func54 rfl trivial ?_ rfl
    simp only [Tryz.ntmps54, List.size_toArray, List.length_cons, List.length_nil, Nat.reduceAdd, Nat.reduceSub, Array.replicate_succ, Array.replicate_zero, List.push_toArray, List.append_toArray, List.nil_append, List.cons_append]
    gi_wp2_with (refine ⟨trivial, ?_⟩; gi_at_call 19; refine (callsIn_wide.2 HV.out).mono ?_; rintro e w2 ⟨rfl, hG2⟩)
    refine bodyPost_ret (results_none rfl _ _ _) rfl ?_
    exact ⟨⟨_, rfl⟩, .inl ⟨[], HS.out.symm, hJ _ _ _ h0 (turns_gr hG2)⟩⟩
  · have hS : supersB s = (supersF s.data.toList.length s.data.toList).map mk := by unfold supersB supers; rw [hv]; rfl
    rw [hv] at HV
    have HS := Lib.hid hS
    clear hv hS
    refine callsIn_of_wp Tryz.func54 rfl trivial ?_ rfl
    simp only [Tryz.ntmps54, List.size_toArray, List.length_cons, List.length_nil, Nat.reduceAdd, Nat.reduceSub, Array.replicate_succ, Array.replicate_zero, List.push_toArray, List.append_toArray, List.nil_append, List.cons_append]
    gi_wp2_with (refine ⟨trivial, ?_⟩; gi_at_call 19; refine (callsIn_wide.2 HV.out).mono ?_; rintro e w2 ⟨rfl, hG2⟩)
    gi_loopw [3] (fun _ wr => ∃ (pre : List ByteArray) (t : ByteArray) (f : Nat), CB wr b 9 #[.string t] ∧ J pre wr ∧ Hid (supersB s = pre ++ (supersF f t.data.toList).map mk) ∧ t.size ≤ f ∧ t.size ≤ 1000000) (fun _ wr => strLenAt wr b)
    case atStart => exact ⟨[], s, _, hc.gr hG2, hJ _ _ _ h0 (turns_gr hG2), HS.out, by rw [list_len]; exact Nat.le_refl _, hs⟩
    case round =>
      clear hc k0 hb h0
      obtain ⟨pre, t, f, hc, hj, hP, hf, ht⟩ := hrel
      have k0 : wr.cell? ⟨b, 0, none⟩ = some (.string t) := hc.cell 0
      have HC := Lib.hid (cut_c t 46 wr (hEJ.out _ _ hj) ht)
      rcases hfd : find 46 t.data.toList with _ | i
      · have hS := hP.out
        rw [supersF_none hfd] at hS
        have HS := Lib.hid hS
        have HC2 := HC.out
        rw [show cutV 46 t = .tuple #[.string t, .string ⟨#[]⟩, .bool false] by unfold cutV; rw [hfd]] at HC2
        replace HC2 := Lib.hid HC2
        clear hfd hS HC
        gi_wp2_with (refine ⟨trivial, ?_⟩; gi_at_call 30; refine (callsIn_wide.2 HC2.out).mono ?_; rintro e w3 ⟨rfl, nn, rfl⟩)
        refine ⟨(fun f h => by cases h), ?_⟩
        gi_wp2
        refine bodyPost_ret (results_none rfl _ _ _) rfl ?_
        exact ⟨⟨_, rfl⟩, .inl ⟨pre, by rw [HS.out]; simp, hJ _ _ _ hj (turns_gr ((Gr.refl _).drewN _))⟩⟩
      · obtain ⟨f', hf', hs'⟩ := supersF_some (f := f) (by rw [list_len]; exact hf) hfd
        have hS := hP.out
        rw [hs', List.map_cons, ← toList_drop, mk_self] at hS
        have HS := Lib.hid hS
        have HC2 := HC.out
        rw [show cutV 46 t = .tuple #[.string (t.extract 0 i), .string (t.extract (i + 1) t.size), .bool true] by unfold cutV; rw [hfd]] at HC2
        replace HC2 := Lib.hid HC2
        have hi := find_lt hfd
        rw [← toList_drop, list_len] at hf'
        have hjN : ∀ nn, J pre (wr.drewN nn) := fun nn => hJ _ _ _ hj (turns_gr ((Gr.refl _).drewN _))
        have HY := Lib.hid (fun nn => hY pre (t.extract (i + 1) t.size) (wr.drewN nn) (hjN nn) (by rw [hS]; simp) ⟨(supersF f' (t.extract (i + 1) t.size).data.toList).map mk, by rw [hS]; simp⟩)
        clear hfd hS HC hs'
        gi_wp2_with (refine ⟨trivial, ?_⟩; gi_at_call 30; refine (callsIn_wide.2 HC2.out).mono ?_; rintro e w3 ⟨rfl, nn, rfl⟩; obtain ⟨fn, tmps, assign, body, hy, hR⟩ := HY.out nn; dsimp only [strB] at hy)
        refine hR.mono ?_
        rintro e W' (⟨rfl, hj', hfx⟩ | ⟨rfl, hj'⟩)
        · have hc' : CB W' b 9 #[.string t] := (hfx b (by omega) (by omega)).trans (hc.drewN _)
          have j0 : W'.cell? ⟨b, 0, none⟩ = some (.string t) := hc'.cell 0
          have f0 := hc'.frozen 0
          gi_wp2
          go_roundw
          case rel => exact ⟨pre ++ [t.extract (i + 1) t.size], t.extract (i + 1) t.size, f', hc'.set 0 _, hJ _ _ _ hj' ((Turns.refl _ _ _).setCell _ _ ⟨by simp, by simp⟩), by rw [HS.out]; simp [Hid], hf', by rw [ByteArray.size_extract]; omega⟩
          case measure =>
            rw [strLenAt_of (show (W'.setCell ⟨b, 0, none⟩ (.string (t.extract (i + 1) t.size))).cell? ⟨b, 0, none⟩ = some (.string (t.extract (i + 1) t.size)) from (hc'.set 0 _).cell 0), strLenAt_of k0, ByteArray.size_extract]
            omega
        · gi_wp2
          refine bodyPost_ret (results_none rfl _ _ _) rfl ?_
          exact ⟨⟨_, rfl⟩, .inr ⟨pre ++ [t.extract (i + 1) t.size], ⟨(supersF f' (t.extract (i + 1) t.size).data.toList).map mk, by rw [HS.out]; simp⟩, hj'⟩⟩
theorem Supers_c (s : ByteArray) (w : World) : Calls Tryz.prog 34 #[.string s] w fun e w' => e = .returned (.func (.func 54) #[] #[.pointer (some ⟨w.heap.size, 0, none⟩)]) ∧ w' = w.alloc (.cells #[.string s] 9) := by
  have hmf : ∀ (fn : Fn) (first cap : Array Value) (w : World), (Instr.makeFunc fn first cap).run Tryz.prog w = .ok (.func fn first cap) w := fun _ _ _ _ => rfl
  go_enter Tryz.func34, Tryz.ntmps34
  go_wp2
  go_ret
  exact ⟨rfl, rfl⟩
end Go.Proofs.YtcicefifmkjffaaGreatDoor
