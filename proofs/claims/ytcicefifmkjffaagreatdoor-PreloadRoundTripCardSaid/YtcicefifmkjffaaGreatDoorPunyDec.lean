import Derived.Test.YtcicefifmkjffaaGreatDoorPunyS
namespace Go.Proofs.YtcicefifmkjffaaGreatDoor
open Go Go.RowKit Hs
def decPost (W : World) (r : Except Nat (List Nat)) (e : Ending) (w' : World) : Prop := match r with
  | .error k => e = .returned (.tuple #[.slice none 0 0, .int .i64 k])
  | .ok l => ∃ A n c, e = .returned (.tuple #[.slice A n c, .int .i64 0]) ∧ n = l.length ∧ OwnR w' W.heap.size 3 1 A n c (natsV l)
theorem elInts : ElT Tryz.prog 120 3 (.int .i64 0) 1 8 := ⟨Tryz.underlying120, by kernel_rfl, rfl, by omega⟩
theorem take_snoc1 {l : Bs} {k : Nat} {b : UInt8} (h : l[k]? = some b) : l.take (k + 1) = l.take k ++ [b] := by
  obtain ⟨h1, h2⟩ := List.getElem?_eq_some_iff.1 h
  rw [List.take_succ_eq_append_getElem h1, h2]
theorem take_snoc_any {l : Bs} {k : Nat} {b : UInt8} (h : l[k]? = some b) (f : UInt8 → Bool) : (l.take (k + 1)).any f = ((l.take k).any f || f b) := by
  rw [take_snoc1 h, List.any_append]; simp
theorem any_of_at {l : Bs} {k : Nat} {b : UInt8} (h : l[k]? = some b) {f : UInt8 → Bool} (hf : f b = true) : l.any f = true :=
  List.any_eq_true.2 ⟨b, List.mem_of_getElem? h, hf⟩
theorem decStep_err {D : Dec} {e : Nat} (h : decStep D = .error e) : e = 2 ∨ e = 3 ∨ e = 4 ∨ e = 19 := by
  unfold decStep at h
  rcases hn : decNum D.bias D.rest D.i 1 0 with k | ⟨r, i⟩
  · rw [hn] at h
    injection h with h
    have := decNum_err _ _ _ _ _ _ hn
    omega
  · rw [hn] at h
    simp only at h
    by_cases h1 : point (D.n + i / (D.pts.length + 1)) = false
    · rw [if_pos h1] at h; injection h with h; omega
    · rw [if_neg h1] at h
      by_cases h2 : 256 < D.pts.length + 1
      · rw [if_pos h2] at h; injection h with h; omega
      · rw [if_neg h2] at h; cases h
theorem point_le {n : Nat} (h : ¬ point n = false) : n ≤ 1114111 := by
  have h : point n = true := by simpa using h
  unfold point at h
  simp at h
  omega
theorem decStep_ok {D D' : Dec} (h : decStep D = .ok D') : D'.rest.length < D.rest.length ∧ D'.n ≤ 1114111 ∧ D'.i ≤ 300 ∧ D'.bias ≤ 4398046511104 ∧ D'.pts.length ≤ 256 := by
  unfold decStep at h
  rcases hn : decNum D.bias D.rest D.i 1 0 with k | ⟨r, i⟩
  · rw [hn] at h; cases h
  · rw [hn] at h
    simp only at h
    have hok := decNum_ok _ _ _ _ _ _ _ hn
    by_cases h1 : point (D.n + i / (D.pts.length + 1)) = false
    · rw [if_pos h1] at h; cases h
    · rw [if_neg h1] at h
      by_cases h2 : 256 < D.pts.length + 1
      · rw [if_pos h2] at h; cases h
      · rw [if_neg h2] at h
        injection h with h
        subst h
        have hm := Nat.mod_lt i (show 0 < D.pts.length + 1 by omega)
        have ha := adapt_le (i - D.i) (D.pts.length + 1) (!D.started)
        refine ⟨hok.2.2, point_le h1, by simp only; omega, by simp only; omega, ?_⟩
        simp [insertAt]; omega
theorem decLoop_nil {f : Nat} {D : Dec} (h : D.rest = []) : decLoop f D = .ok D.pts := by
  cases f with
  | zero => rfl
  | succ f => show (if D.rest = [] then _ else _) = _; rw [if_pos h]
theorem decLoop_err {f : Nat} {D : Dec} {e : Nat} (hf : D.rest.length ≤ f) (h : D.rest ≠ []) (hs : decStep D = .error e) : decLoop f D = .error e := by
  obtain ⟨f', rfl⟩ : ∃ f', f = f' + 1 := ⟨f - 1, by have := List.length_pos_iff.2 h; omega⟩
  show (if D.rest = [] then Except.ok D.pts else match decStep D with | Except.error e => Except.error e | Except.ok d' => decLoop f' d') = _
  rw [if_neg h, hs]
theorem decLoop_ok {f : Nat} {D D' : Dec} (hf : D.rest.length ≤ f) (h : D.rest ≠ []) (hs : decStep D = .ok D') : ∃ f', D'.rest.length ≤ f' ∧ decLoop f D = decLoop f' D' := by
  obtain ⟨f', rfl⟩ : ∃ f', f = f' + 1 := ⟨f - 1, by have := List.length_pos_iff.2 h; omega⟩
  refine ⟨f', by have := (decStep_ok hs).1; omega, ?_⟩
  show (if D.rest = [] then Except.ok D.pts else match decStep D with | Except.error e => Except.error e | Except.ok d' => decLoop f' d') = _
  rw [if_neg h, hs]
def strLenAt (w : World) (b : Nat) : Nat := match w.cell? ⟨b, 0, none⟩ with | some (.string t) => t.size | _ => 0
theorem strLenAt_of {w : World} {b : Nat} {t : ByteArray} (h : w.cell? ⟨b, 0, none⟩ = some (.string t)) : strLenAt w b = t.size := by unfold strLenAt; rw [h]
def decInv (W wr : World) (d : Nat) (R : Except Nat (List Nat)) : Prop := ∃ (D : Dec) (t : ByteArray) (A : Option Addr) (n c f : Nat), t.data.toList = D.rest ∧ n = D.pts.length ∧ CB wr d 139 #[.string t, .slice A n c, .int .i64 D.n, .int .i64 D.i, .int .i64 D.bias, .bool D.started] ∧ OwnR wr W.heap.size 3 1 A n c (natsV D.pts) ∧ Gr W wr ∧ D.i ≤ 300 ∧ D.bias ≤ 4398046511104 ∧ D.n ≤ 1114111 ∧ n ≤ 256 ∧ t.size ≤ 1000000 ∧ t.size ≤ f ∧ decLoop f D = R
set_option maxRecDepth 100000 in
set_option maxHeartbeats 2000000 in
theorem decode_c (s : ByteArray) (w : World) (hs : s.size ≤ 1000000) :
    Calls Tryz.prog 94 #[.string s] w fun e w' => Hid (decPost w (Hs.decode s.data.toList) e w') ∧ Gr w w' := by
  have hL := list_len s
  have HL := Lib.hid hL
  by_cases h1 : 1024 < s.size
  · have HD := Lib.hid (show Hs.decode s.data.toList = .error 3 by unfold Hs.decode; rw [if_pos (by omega)])
    clear hL
    go_enter Tryz.func94, Tryz.ntmps94
    go_wp2_with fail
    go_ret2
    exact ⟨by rw [HD.out]; rfl, Gr.refl _⟩
  · clear hL
    have HB : ∀ k (h : k < s.size), 128 ≤ s[k].toNat → Hs.decode s.data.toList = .error 4 := by
      intro k h hb
      unfold Hs.decode
      rw [if_neg (by have := HL.out; omega), if_pos (any_of_at (byteAt s k h) (by simpa using hb))]
    have HBB := Lib.hid HB
    clear HB
    go_enter Tryz.func94, Tryz.ntmps94
    go_wp2_with fail
    go_loop [14] (fun v14 => ∃ k : Nat, k ≤ s.size ∧ v14 = .int .i64 k ∧ Hid ((s.data.toList.take k).any (fun b => decide (128 ≤ b.toNat)) = false)) (fun v => s.size - (intOf v).toNat)
    case atStart => exact ⟨0, by omega, rfl, rfl⟩
    case round =>
      obtain ⟨k, hk, rfl, hR⟩ := hrel
      by_cases hlt : k < s.size
      · have HT := Lib.hid (take_snoc_any (byteAt s k hlt) (fun b => decide (128 ≤ b.toNat)))
        go_wp2_with fail
        · have HE := HBB.out k hlt (by omega)
          go_ret2
          exact ⟨by rw [HE]; rfl, Gr.refl _⟩
        case roundEnd =>
          go_round
          case rel => exact ⟨k + 1, by omega, by go_num, by have h9 := HT.out; rw [hR.out, Bool.false_or] at h9; exact h9.trans (decide_eq_false (by omega))⟩
          case measure => simp [intOf]; omega
      · obtain rfl : k = s.size := by omega
        have hall : s.data.toList.any (fun b => decide (128 ≤ b.toNat)) = false := by have := hR.out; rwa [List.take_of_length_le (by have := HL.out; omega)] at this
        have HA := Lib.hid hall
        clear hall hR
        rcases hli : lastIdx 45 s.data.toList with _ | _ | k
        · have hlI : lastI 45 s.data.toList = -1 := by unfold lastI; rw [hli]
          have HC := Lib.hid (fun w => by have := lastIndexByte_c s 45 w hs; rwa [hlI] at this : ∀ w : World, Calls Tryz.prog 40 #[.string s, .int .u8 45] w fun e w' => e = .returned (.int .i64 (-1)) ∧ w = w')
          clear hlI
          go_wp2_with (go_at_call 40; refine (HC.out _).mono ?_; rintro e w1 ⟨rfl, rfl⟩)
          have hdl : decInv w (w.alloc (.cells #[.string s, .slice none 0 0, .int .i64 128, .int .i64 0, .int .i64 72, .bool false] 139)) w.heap.size (Hs.decode s.data.toList) := by
            refine ⟨⟨s.data.toList, [], 128, 0, 72, false⟩, s, none, 0, 0, s.size, rfl, rfl, CB.new _ _ _, OwnR.nil _ _ _ _, (Gr.refl w).alloc _, by simp only; omega, by simp only; omega, by simp only; omega, by omega, by omega, by omega, ?_⟩
            unfold Hs.decode
            rw [if_neg (by have := HL.out; omega), if_neg (by rw [HA.out]; decide), hli]
            simp only [List.length_nil, List.map_nil, HL.out]
            rw [if_neg (by omega)]
          go_loopw [8] (fun _ wr => decInv w wr w.heap.size (Hs.decode s.data.toList)) (fun _ wr => strLenAt wr w.heap.size)
          case atStart => exact hdl
          case round =>
            clear hdl
            obtain ⟨D, t, A, n, c, f, ht, hn, hd, hown, hG, hDi, hDb, hDn, hn2, hts, htf, hR⟩ := hrel
            have j0 : wr.cell? ⟨w.heap.size, 0, none⟩ = some (.string t) := hd.cell 0
            have j1 : wr.cell? ⟨w.heap.size, 1, none⟩ = some (.slice A n c) := hd.cell 1
            have htl := list_len t
            by_cases h0 : t.data.toList = []
            · have he : t.toList.isEmpty = true := by rw [empty_iff, h0]; rfl
              have HR := Lib.hid (hR.symm.trans (decLoop_nil (by rw [← ht, h0])))
              have HN := Lib.hid hn
              clear h0 hR ht htl hn
              go_wp2_with fail
              go_ret2
              exact ⟨by rw [HR.out]; exact ⟨A, n, c, rfl, HN.out, hown⟩, hG⟩
            · have he : t.toList.isEmpty = false := by rw [empty_iff]; simpa using h0
              have hD : (⟨t.data.toList, D.pts, D.n, D.i, D.bias, D.started⟩ : Dec) = D := by rw [ht]
              have hrest : D.rest ≠ [] := by rw [← ht]; exact h0
              have hrl : D.rest.length = t.size := by rw [← ht]; exact htl
              rcases hst : decStep D with k | D'
              · have hk := decStep_err hst
                have hk0 : ¬ (k : Int) = 0 := by omega
                have HR := Lib.hid (hR.symm.trans (decLoop_err (by omega) hrest hst))
                have HST := Lib.hid hst
                have HD := Lib.hid hD
                have HN := Lib.hid hn
                clear hst hR h0 hrest hrl htl hD ht hk hn
                go_wp2_with (go_at_call 117; refine (dstep_c w w.heap.size t D.pts A n c D.n D.i D.bias D.started _ hG (Nat.le_refl _) hd hown HN hts (by omega) hDb hDn (by omega)).mono ?_; rintro e w2 ⟨hp, hG2⟩; rw [HD.out, HST.out] at hp; obtain rfl := (show e = .returned (.int .i64 k) from hp.out))
                go_ret2
                exact ⟨by rw [HR.out]; rfl, hG2⟩
              · have hok := decStep_ok hst
                obtain ⟨f', hf', hlp⟩ := decLoop_ok (f := f) (by omega) hrest hst
                have HST := Lib.hid hst
                have HD := Lib.hid hD
                have HN := Lib.hid hn
                have HF := Lib.hid (hlp.symm.trans hR)
                have HO := Lib.hid hok
                have HL2 := Lib.hid hrl
                have HJ := Lib.hid j0
                clear hst hR h0 hrest hrl htl hD ht hlp hok hn
                go_wp2_with (go_at_call 117; refine (dstep_c w w.heap.size t D.pts A n c D.n D.i D.bias D.started _ hG (Nat.le_refl _) hd hown HN hts (by omega) hDb hDn (by omega)).mono ?_; rintro e w2 ⟨hp, hG2⟩; rw [HD.out, HST.out] at hp; obtain ⟨rfl, hq⟩ := (show e = .returned (.int .i64 0) ∧ _ from hp.out); clear hp)
                obtain ⟨t', A', n', c', ht', hn', hd', hown'⟩ := hq
                have hlt' := list_len t'
                rw [ht'] at hlt'
                have hO := HO.out
                have hL2 := HL2.out
                go_roundw
                case rel => exact ⟨D', t', A', n', c', f', ht', hn', hd', hown', hG2, hO.2.2.1, hO.2.2.2.1, hO.2.1, by omega, by omega, by omega, HF.out⟩
                case measure =>
                  rw [strLenAt_of (show w2.cell? ⟨w.heap.size, 0, none⟩ = some (.string t') from hd'.cell 0), strLenAt_of HJ.out]
                  omega
        · have hlI : lastI 45 s.data.toList = 0 := by unfold lastI; rw [hli]; rfl
          have HC := Lib.hid (fun w => by have := lastIndexByte_c s 45 w hs; rwa [hlI] at this : ∀ w : World, Calls Tryz.prog 40 #[.string s, .int .u8 45] w fun e w' => e = .returned (.int .i64 0) ∧ w = w')
          clear hlI
          go_wp2_with (go_at_call 40; refine (HC.out _).mono ?_; rintro e w1 ⟨rfl, rfl⟩)
          have hdl : decInv w (w.alloc (.cells #[.string s, .slice none 0 0, .int .i64 128, .int .i64 0, .int .i64 72, .bool false] 139)) w.heap.size (Hs.decode s.data.toList) := by
            refine ⟨⟨s.data.toList, [], 128, 0, 72, false⟩, s, none, 0, 0, s.size, rfl, rfl, CB.new _ _ _, OwnR.nil _ _ _ _, (Gr.refl w).alloc _, by simp only; omega, by simp only; omega, by simp only; omega, by omega, by omega, by omega, ?_⟩
            unfold Hs.decode
            rw [if_neg (by have := HL.out; omega), if_neg (by rw [HA.out]; decide), hli]
            simp only [List.length_nil, List.map_nil, HL.out]
            rw [if_neg (by omega)]
          go_loopw [8] (fun _ wr => decInv w wr w.heap.size (Hs.decode s.data.toList)) (fun _ wr => strLenAt wr w.heap.size)
          case atStart => exact hdl
          case round =>
            clear hdl
            obtain ⟨D, t, A, n, c, f, ht, hn, hd, hown, hG, hDi, hDb, hDn, hn2, hts, htf, hR⟩ := hrel
            have j0 : wr.cell? ⟨w.heap.size, 0, none⟩ = some (.string t) := hd.cell 0
            have j1 : wr.cell? ⟨w.heap.size, 1, none⟩ = some (.slice A n c) := hd.cell 1
            have htl := list_len t
            by_cases h0 : t.data.toList = []
            · have he : t.toList.isEmpty = true := by rw [empty_iff, h0]; rfl
              have HR := Lib.hid (hR.symm.trans (decLoop_nil (by rw [← ht, h0])))
              have HN := Lib.hid hn
              clear h0 hR ht htl hn
              go_wp2_with fail
              go_ret2
              exact ⟨by rw [HR.out]; exact ⟨A, n, c, rfl, HN.out, hown⟩, hG⟩
            · have he : t.toList.isEmpty = false := by rw [empty_iff]; simpa using h0
              have hD : (⟨t.data.toList, D.pts, D.n, D.i, D.bias, D.started⟩ : Dec) = D := by rw [ht]
              have hrest : D.rest ≠ [] := by rw [← ht]; exact h0
              have hrl : D.rest.length = t.size := by rw [← ht]; exact htl
              rcases hst : decStep D with k | D'
              · have hk := decStep_err hst
                have hk0 : ¬ (k : Int) = 0 := by omega
                have HR := Lib.hid (hR.symm.trans (decLoop_err (by omega) hrest hst))
                have HST := Lib.hid hst
                have HD := Lib.hid hD
                have HN := Lib.hid hn
                clear hst hR h0 hrest hrl htl hD ht hk hn
                go_wp2_with (go_at_call 117; refine (dstep_c w w.heap.size t D.pts A n c D.n D.i D.bias D.started _ hG (Nat.le_refl _) hd hown HN hts (by omega) hDb hDn (by omega)).mono ?_; rintro e w2 ⟨hp, hG2⟩; rw [HD.out, HST.out] at hp; obtain rfl := (show e = .returned (.int .i64 k) from hp.out))
                go_ret2
                exact ⟨by rw [HR.out]; rfl, hG2⟩
              · have hok := decStep_ok hst
                obtain ⟨f', hf', hlp⟩ := decLoop_ok (f := f) (by omega) hrest hst
                have HST := Lib.hid hst
                have HD := Lib.hid hD
                have HN := Lib.hid hn
                have HF := Lib.hid (hlp.symm.trans hR)
                have HO := Lib.hid hok
                have HL2 := Lib.hid hrl
                have HJ := Lib.hid j0
                clear hst hR h0 hrest hrl htl hD ht hlp hok hn
                go_wp2_with (go_at_call 117; refine (dstep_c w w.heap.size t D.pts A n c D.n D.i D.bias D.started _ hG (Nat.le_refl _) hd hown HN hts (by omega) hDb hDn (by omega)).mono ?_; rintro e w2 ⟨hp, hG2⟩; rw [HD.out, HST.out] at hp; obtain ⟨rfl, hq⟩ := (show e = .returned (.int .i64 0) ∧ _ from hp.out); clear hp)
                obtain ⟨t', A', n', c', ht', hn', hd', hown'⟩ := hq
                have hlt' := list_len t'
                rw [ht'] at hlt'
                have hO := HO.out
                have hL2 := HL2.out
                go_roundw
                case rel => exact ⟨D', t', A', n', c', f', ht', hn', hd', hown', hG2, hO.2.2.1, hO.2.2.2.1, hO.2.1, by omega, by omega, by omega, HF.out⟩
                case measure =>
                  rw [strLenAt_of (show w2.cell? ⟨w.heap.size, 0, none⟩ = some (.string t') from hd'.cell 0), strLenAt_of HJ.out]
                  omega
        · have hlI : lastI 45 s.data.toList = (k + 1 : Nat) := by unfold lastI; rw [hli]
          have hkb : k + 1 < s.size := by have := (List.getElem?_eq_some_iff.1 (lastIdx_some hli).1).1; rwa [HL.out] at this
          have HC := Lib.hid (fun w => by have := lastIndexByte_c s 45 w hs; rwa [hlI] at this : ∀ w : World, Calls Tryz.prog 40 #[.string s, .int .u8 45] w fun e w' => e = .returned (.int .i64 ((k + 1 : Nat) : Int)) ∧ w = w')
          clear hlI
          go_wp2_with (go_at_call 40; refine (HC.out _).mono ?_; rintro e w1 ⟨rfl, rfl⟩)
          go_loopw [30] (fun v wr => ∃ (m : Nat) (A : Option Addr) (c : Nat), m ≤ k + 1 ∧ v = .int .i64 m ∧ CB wr w.heap.size 139 #[.string s, .slice A m c, .int .i64 128, .int .i64 0, .int .i64 72, .bool false] ∧ OwnR wr w.heap.size 3 1 A m c (natsV ((s.data.toList.take m).map (·.toNat))) ∧ Gr w wr) (fun v _ => k + 1 - (intOf v).toNat)
          case atStart => exact ⟨0, none, 0, by omega, rfl, CB.new _ _ _, OwnR.nil _ _ _ _, (Gr.refl w).alloc _⟩
          case round =>
            obtain ⟨m, A, c, hm, rfl, hd, hown, hG⟩ := hrel
            have j0 : wr.cell? ⟨w.heap.size, 0, none⟩ = some (.string s) := hd.cell 0
            have j1 : wr.cell? ⟨w.heap.size, 1, none⟩ = some (.slice A m c) := hd.cell 1
            by_cases hlt2 : m < k + 1
            · have hms : m < s.size := by omega
              have HT := Lib.hid (show natsV ((s.data.toList.take (m + 1)).map (·.toNat)) = natsV ((s.data.toList.take m).map (·.toNat)) ++ [Value.int .i64 s[m].toNat] by rw [take_snoc s m hms]; simp [natsV])
              go_upto_region 15 with fail
              have hf1 := hd.frozen 1
              have hbb := (s[m]).toNat_lt
              have hwr : IntKind.i64.wrap (s[m].toNat : Int) = s[m].toNat := IntWalk.i64_in _ (by omega)
              refine wp_region_ord (S := fun w' => w'.cell? ⟨w.heap.size, 1, none⟩ = some (.slice A m c)) (t := 13) (r := [(0, true), (1, true), (2, true), (3, true), (4, true), (5, true), (6, true), (7, true), (8, true), (9, false), (10, false), (11, false), (12, false), (13, false)]) (by kernel_rfl) (by kernel_rfl) (by kernel_rfl) rfl (by intro c a1 d1 v1 w1 h; cases d1 <;> exact h) ?_
              iterate 9
                refine wpOrd_read (v := ?_) rfl rfl j1 (fun w' hS => ?_) ?_
                rotate_left
                · go_simp
                  rfl
              have hdA : CB (wr.alloc (.cells #[.int .i64 s[m].toNat] 3)).drew w.heap.size _ _ := hd.alloc (.cells #[.int .i64 s[m].toNat] 3)
              have hownA : OwnR (wr.alloc (.cells #[.int .i64 s[m].toNat] 3)).drew w.heap.size 3 1 A m c _ := hown.alloc (.cells #[.int .i64 s[m].toNat] 3)
              have hvb : CB (wr.alloc (.cells #[.int .i64 s[m].toNat] 3)).drew wr.heap.size 3 #[.int .i64 s[m].toNat] := CB.new wr _ _
              have hGA : Gr w (wr.alloc (.cells #[.int .i64 s[m].toNat] 3)).drew := (hG.alloc _).drew
              refine wpOrd_op rfl rfl (fun K hK => ?_)
              go_simp
              refine hK _ _ (fun _ => hdA.cell 1) ?_
              clear hK K
              refine wpOrd_op rfl rfl (fun K hK => ?_)
              refine wp_app1 _ _ elInts rfl rfl hownA hGA wr.heap.size [.int .i64 s[m].toNat] rfl hvb rfl rfl (by omega) (by omega) ?_
              intro A' c' w2 hown2 hG2 hgr2
              have hd2 := hdA.grown hgr2 (hdA.not_row (by decide) hownA)
              have hf2 := hd2.frozen 1
              have hk2 := hd2.cell 1
              refine hK _ _ (fun _ => hd2.cell 1) ?_
              clear hK K
              refine wpOrd_op rfl rfl (fun K hK => ?_)
              go_simp
              refine hK _ _ (fun _ => hd2.cell 1) ?_
              clear hK K
              refine wpOrd_op rfl rfl (fun K hK => ?_)
              go_simp
              refine hK _ _ (fun _ => hd2.cell 1) ?_
              clear hK K
              refine wpOrd_op rfl rfl (fun K hK => ?_)
              go_simp
              refine hK _ _ (fun h => by cases h) ?_
              clear hK K
              refine wpOrd_nil ?_
              have hd7 := hd2.set 1 (.slice A' (m + 1) c')
              have hown7 := hown2.far (p := ⟨w.heap.size, 1, none⟩) (hd2.not_row (by decide) hown2) (.slice A' (m + 1) c')
              have hG7 := hG2.setCell (p := ⟨w.heap.size, 1, none⟩) (Nat.le_refl _) (.slice A' (m + 1) c')
              simp at hd7
              rw [← HT.out] at hown7
              generalize w2.setCell ⟨w.heap.size, 1, none⟩ (.slice A' (m + 1) c') = w7 at *
              go_wp2_with fail
              go_roundw
              case rel => exact ⟨m + 1, A', c', by omega, by go_num, hd7, hown7, hG7⟩
              case measure => simp [intOf]; omega
            · obtain rfl : m = k + 1 := by omega
              have hf0 := hd.frozen 0
              have HC2 := Lib.hid hli
              clear hlt2
              have hg1 := hd.set 0 (.string (s.extract (k + 1 + 1) s.size))
              have hown1 := hown.far (p := ⟨w.heap.size, 0, none⟩) (hd.not_row (by decide) hown) (.string (s.extract (k + 1 + 1) s.size))
              have hG1 := hG.setCell (p := ⟨w.heap.size, 0, none⟩) (Nat.le_refl _) (.string (s.extract (k + 1 + 1) s.size))
              simp at hg1
              have i1 : (wr.setCell ⟨w.heap.size, 0, none⟩ (.string (s.extract (k + 1 + 1) s.size))).cell? ⟨w.heap.size, 1, none⟩ = some (.slice A (k + 1) c) := hg1.cell 1
              have hex : (s.extract (k + 1 + 1) s.size).data.toList = s.data.toList.drop (k + 2) := by rw [Lib.extract_to_end]
              have hesz : (s.extract (k + 1 + 1) s.size).size ≤ s.size := by rw [ByteArray.size_extract]; omega
              by_cases hlim : 256 < k + 1
              · have HR := Lib.hid (show Hs.decode s.data.toList = .error 3 by
                  unfold Hs.decode
                  rw [if_neg (by have := HL.out; omega), if_neg (by rw [HA.out]; decide), hli]
                  simp only
                  rw [if_pos (by simp [HL.out]; omega)])
                clear hex hesz
                go_wp2_with fail
                go_ret2
                exact ⟨by rw [HR.out]; rfl, hG1⟩
              have hdl : decInv w (wr.setCell ⟨w.heap.size, 0, none⟩ (.string (s.extract (k + 1 + 1) s.size))) w.heap.size (Hs.decode s.data.toList) := by
                refine ⟨⟨s.data.toList.drop (k + 2), (s.data.toList.take (k + 1)).map (·.toNat), 128, 0, 72, false⟩, _, A, k + 1, c, (s.extract (k + 1 + 1) s.size).size, hex, ?_, hg1, hown1, hG1, by simp only; omega, by simp only; omega, by simp only; omega, by omega, by omega, by omega, ?_⟩
                · simp [HL.out]; omega
                · unfold Hs.decode
                  rw [if_neg (by have := HL.out; omega), if_neg (by rw [HA.out]; decide), hli]
                  simp only
                  rw [if_neg (by simp [HL.out]; omega), ← hex, list_len]
              clear hg1 hown1 hG1 hex hesz
              go_upto_region 18 with fail
              generalize wr.setCell ⟨w.heap.size, 0, none⟩ (.string (s.extract (k + 1 + 1) s.size)) = wz at *
              go_wp2_with fail
              go_loopw [8] (fun _ wr => decInv w wr w.heap.size (Hs.decode s.data.toList)) (fun _ wr => strLenAt wr w.heap.size)
              case atStart => exact hdl
              case round =>
                clear hdl
                obtain ⟨D, t, A, n, c, f, ht, hn, hd, hown, hG, hDi, hDb, hDn, hn2, hts, htf, hR⟩ := hrel
                have j0 : wr.cell? ⟨w.heap.size, 0, none⟩ = some (.string t) := hd.cell 0
                have j1 : wr.cell? ⟨w.heap.size, 1, none⟩ = some (.slice A n c) := hd.cell 1
                have htl := list_len t
                by_cases h0 : t.data.toList = []
                · have he : t.toList.isEmpty = true := by rw [empty_iff, h0]; rfl
                  have HR := Lib.hid (hR.symm.trans (decLoop_nil (by rw [← ht, h0])))
                  have HN := Lib.hid hn
                  clear h0 hR ht htl hn
                  go_wp2_with fail
                  go_ret2
                  exact ⟨by rw [HR.out]; exact ⟨A, n, c, rfl, HN.out, hown⟩, hG⟩
                · have he : t.toList.isEmpty = false := by rw [empty_iff]; simpa using h0
                  have hD : (⟨t.data.toList, D.pts, D.n, D.i, D.bias, D.started⟩ : Dec) = D := by rw [ht]
                  have hrest : D.rest ≠ [] := by rw [← ht]; exact h0
                  have hrl : D.rest.length = t.size := by rw [← ht]; exact htl
                  rcases hst : decStep D with k | D'
                  · have hk := decStep_err hst
                    have hk0 : ¬ (k : Int) = 0 := by omega
                    have HR := Lib.hid (hR.symm.trans (decLoop_err (by omega) hrest hst))
                    have HST := Lib.hid hst
                    have HD := Lib.hid hD
                    have HN := Lib.hid hn
                    clear hst hR h0 hrest hrl htl hD ht hk hn
                    go_wp2_with (go_at_call 117; refine (dstep_c w w.heap.size t D.pts A n c D.n D.i D.bias D.started _ hG (Nat.le_refl _) hd hown HN hts (by omega) hDb hDn (by omega)).mono ?_; rintro e w2 ⟨hp, hG2⟩; rw [HD.out, HST.out] at hp; obtain rfl := (show e = .returned (.int .i64 k) from hp.out))
                    go_ret2
                    exact ⟨by rw [HR.out]; rfl, hG2⟩
                  · have hok := decStep_ok hst
                    obtain ⟨f', hf', hlp⟩ := decLoop_ok (f := f) (by omega) hrest hst
                    have HST := Lib.hid hst
                    have HD := Lib.hid hD
                    have HN := Lib.hid hn
                    have HF := Lib.hid (hlp.symm.trans hR)
                    have HO := Lib.hid hok
                    have HL2 := Lib.hid hrl
                    have HJ := Lib.hid j0
                    clear hst hR h0 hrest hrl htl hD ht hlp hok hn
                    go_wp2_with (go_at_call 117; refine (dstep_c w w.heap.size t D.pts A n c D.n D.i D.bias D.started _ hG (Nat.le_refl _) hd hown HN hts (by omega) hDb hDn (by omega)).mono ?_; rintro e w2 ⟨hp, hG2⟩; rw [HD.out, HST.out] at hp; obtain ⟨rfl, hq⟩ := (show e = .returned (.int .i64 0) ∧ _ from hp.out); clear hp)
                    obtain ⟨t', A', n', c', ht', hn', hd', hown'⟩ := hq
                    have hlt' := list_len t'
                    rw [ht'] at hlt'
                    have hO := HO.out
                    have hL2 := HL2.out
                    go_roundw
                    case rel => exact ⟨_, _, _, _, _, _, _, _, _, _, _, _, _, (show decInv w w2 w.heap.size (Hs.decode s.data.toList) from ⟨D', t', A', n', c', f', ht', hn', hd', hown', hG2, hO.2.2.1, hO.2.2.2.1, hO.2.1, by omega, by omega, by omega, HF.out⟩), rfl⟩
                    case measure =>
                      rw [strLenAt_of (show w2.cell? ⟨w.heap.size, 0, none⟩ = some (.string t') from hd'.cell 0), strLenAt_of HJ.out]
                      omega
end Go.Proofs.YtcicefifmkjffaaGreatDoor
