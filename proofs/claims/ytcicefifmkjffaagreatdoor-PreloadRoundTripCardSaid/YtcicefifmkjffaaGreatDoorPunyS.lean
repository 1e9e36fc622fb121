import Derived.Test.YtcicefifmkjffaaGreatDoorIns
import Derived.StillTailTactics
import Derived.Test.YtcicefifmkjffaaGreatDoorOrd
namespace Go.Proofs.YtcicefifmkjffaaGreatDoor
open Go Go.RowKit Hs
theorem decNum_ok : ∀ (t : Bs) (bias i w k : Nat) (r : Bs) (i' : Nat), decNum bias t i w k = .ok (r, i') → i ≤ i' ∧ i' ≤ 1099511627776 ∧ r.length < t.length
  | [], _, _, _, _, _, _, h => by cases h
  | b :: t, bias, i, w, k, r, i', h => by
    rcases hp : pvalue b with _ | x
    · rw [decNum_no rfl hp] at h; cases h
    · rw [decNum_some rfl hp] at h
      by_cases h1 : 1099511627776 < i + x * w
      · rw [if_pos h1] at h; cases h
      rw [if_neg h1] at h
      by_cases h2 : x < thresh k bias
      · rw [if_pos h2] at h
        injection h with h; injection h with h3 h4; subst h3 h4
        exact ⟨by omega, by omega, by simp⟩
      rw [if_neg h2] at h
      by_cases h3 : 1099511627776 < w * (36 - thresh k bias)
      · rw [if_pos h3] at h; cases h
      rw [if_neg h3] at h
      have := decNum_ok t bias _ _ _ r i' h
      exact ⟨by omega, this.2.1, by simp; omega⟩
theorem decNum_err : ∀ (t : Bs) (bias i w k : Nat) (e : Nat), decNum bias t i w k = .error e → e = 4 ∨ e = 19
  | [], _, _, _, _, _, h => by injection h with h; omega
  | b :: t, bias, i, w, k, e, h => by
    rcases hp : pvalue b with _ | x
    · rw [decNum_no rfl hp] at h; injection h with h; omega
    · rw [decNum_some rfl hp] at h
      by_cases h1 : 1099511627776 < i + x * w
      · rw [if_pos h1] at h; injection h with h; omega
      rw [if_neg h1] at h
      by_cases h2 : x < thresh k bias
      · rw [if_pos h2] at h; cases h
      rw [if_neg h2] at h
      by_cases h3 : 1099511627776 < w * (36 - thresh k bias)
      · rw [if_pos h3] at h; injection h with h; omega
      rw [if_neg h3] at h
      exact decNum_err t bias _ _ _ e h
/-- what step leaves -/
def stepPost (W : World) (d : Nat) (r : Except Nat Dec) (e : Ending) (w' : World) : Prop := match r with
  | .error k => e = .returned (.int .i64 k)
  | .ok D => e = .returned (.int .i64 0) ∧ ∃ t A n c, t.data.toList = D.rest ∧ n = D.pts.length ∧ CB w' d 139 #[.string t, .slice A n c, .int .i64 D.n, .int .i64 D.i, .int .i64 D.bias, .bool D.started] ∧ OwnR w' W.heap.size 3 1 A n c (natsV D.pts)
set_option maxRecDepth 100000 in
set_option maxHeartbeats 2000000 in
theorem dstep_c (W : World) (d : Nat) (s : ByteArray) (pts : List Nat) (A : Option Addr) (n c : Nat) (N i bias : Nat) (st : Bool) (w : World) (hG : Gr W w) (hWd : W.heap.size ≤ d)
    (hd : CB w d 139 #[.string s, .slice A n c, .int .i64 N, .int .i64 i, .int .i64 bias, .bool st]) (hown : OwnR w W.heap.size 3 1 A n c (natsV pts)) (hn : Hid (n = pts.length)) (hs : s.size ≤ 1000000) (hi : i ≤ 1099511627776) (hb : bias ≤ 4398046511104) (hN : N ≤ 1114111) (hn2 : n ≤ 65000) :
    Calls Tryz.prog 117 #[.pointer (some ⟨d, 0, none⟩)] w fun e w' => Hid (stepPost W d (decStep ⟨s.data.toList, pts, N, i, bias, st⟩) e w') ∧ Gr W w' := by
  have k3 : w.cell? ⟨d, 3, none⟩ = some (.int .i64 i) := hd.cell 3
  rcases hdn : decNum bias s.data.toList i 1 0 with k | ⟨r1, i1⟩
  · have hk := decNum_err _ _ _ _ _ _ hdn
    have HD := Lib.hid (show decStep ⟨s.data.toList, pts, N, i, bias, st⟩ = .error k by unfold decStep; simp only [hdn])
    have HN := Lib.hid hdn
    clear hdn
    have hk0 : ¬ (k : Int) = 0 := by omega
    go_enter Tryz.func117, Tryz.ntmps117
    go_wp2_with (go_at_call 135; refine (dnumber_c d s _ _ _ i bias _ hd hs hi hb).mono ?_; rintro e w1 ⟨t, i', hp, hi', hd1, hgr⟩; obtain rfl := (show e = .returned (.int .i64 k) by have := hp.out; rw [HN.out] at this; exact this))
    go_ret
    exact ⟨by rw [HD.out]; rfl, hG.grown hgr (fun j hj => by cases hj; exact hWd)⟩
  · have hk := decNum_ok _ _ _ _ _ _ _ hdn
    have HN := Lib.hid hdn
    have HK := Lib.hid (show decStep ⟨s.data.toList, pts, N, i, bias, st⟩ = (if point (N + i1 / (n + 1)) = false then .error 2 else if 256 < n + 1 then .error 3 else .ok { rest := r1, pts := insertAt pts (i1 % (n + 1)) (N + i1 / (n + 1)), n := N + i1 / (n + 1), i := i1 % (n + 1) + 1, bias := adapt (i1 - i) (n + 1) (!st), started := true }) by unfold decStep; simp only [hdn, hn.out])
    clear hdn
    have hk1 := hk.1
    have hk2 := hk.2.1
    clear hk
    go_enter Tryz.func117, Tryz.ntmps117
    go_upto_region 6 with (first | (go_at_call 135; refine (dnumber_c d s _ _ _ i bias _ hd hs hi hb).mono ?_; rintro e w1 ⟨t, i', hp, hi', hd1, hgr⟩; obtain ⟨ht, rfl, rfl⟩ := (show t.data.toList = r1 ∧ i' = i1 ∧ e = .returned (.int .i64 0) by have := hp.out; rw [HN.out] at this; exact this); clear hp; have k1 : w1.cell? ⟨d, 1, none⟩ = some (.slice A n c) := hd1.cell 1; have k3' : w1.cell? ⟨d, 3, none⟩ = some (.int .i64 i') := hd1.cell 3; have k5 : w1.cell? ⟨d, 5, none⟩ = some (.bool st) := hd1.cell 5))
    have hw1 : IntKind.i64.wrap ((i' : Int) - (i : Int)) = ((i' - i : Nat) : Int) := by rw [IntWalk.i64_in _ (by omega)]; omega
    have hw2 : IntKind.i64.wrap ((n : Int) + 1) = ((n + 1 : Nat) : Int) := by rw [IntWalk.i64_in _ (by omega)]; omega
    have ha := adapt_c (i' - i) (n + 1) (!st) w1.drew (by omega) (by omega) (by omega)
    have ha' : Calls Tryz.prog 120 #[.int .i64 ((i' - i : Nat) : Int), .int .i64 ((n : Int) + 1), .bool (!st)] w1.drew fun e w'' => e = .returned (.int .i64 (adapt (i' - i) (n + 1) (!st))) ∧ w'' = w1.drew := ha.mono fun _ _ h => ⟨h.1, h.2.symm⟩
    refine wp_region_still_tail 16 (by kernel_rfl) (by kernel_rfl) ?_
    simp only [List.take_succ_cons, List.take_zero, List.drop_succ_cons, List.drop_zero]
    repeat still_step
    still_call ha'
    repeat still_step
    refine wpStill_nil ?_
    have hd2 : CB w1.drew d 139 #[.string t, .slice A n c, .int .i64 N, .int .i64 i', .int .i64 bias, .bool st] := hd1
    have hown2 : OwnR w1.drew W.heap.size 3 1 A n c (natsV pts) := OwnR.drew (hown.grown hgr (.inr (fun e => hd.not_row (by decide) hown e.symm)))
    have hG2 : Gr W w1.drew := (hG.grown hgr (fun j hj => by cases hj; exact hWd)).drew
    have hde : some d ≠ (Value.slice A n c).ownBlock := hd2.not_row (by decide) hown2
    clear hd1 ha ha' hd hown hG k1 k3' k5 k3
    change wpList _ _ _ _ _ w1.drew
    generalize w1.drew = w2 at *
    have hf4 := hd2.frozen 4
    have hf5 := hd2.frozen 5
    have k4 : w2.cell? ⟨d, 4, none⟩ = some (.int .i64 bias) := hd2.cell 4
    have k5 : w2.cell? ⟨d, 5, none⟩ = some (.bool st) := hd2.cell 5
    have hd3 := (hd2.set 4 (.int .i64 (adapt (i' - i) (n + 1) (!st)))).set 5 (.bool true)
    have hown3 := (hown2.far (p := ⟨d, 4, none⟩) hde (.int .i64 (adapt (i' - i) (n + 1) (!st)))).far (p := ⟨d, 5, none⟩) hde (.bool true)
    have hG3 := (hG2.setCell (p := ⟨d, 4, none⟩) hWd (.int .i64 (adapt (i' - i) (n + 1) (!st)))).setCell (p := ⟨d, 5, none⟩) hWd (.bool true)
    simp at hd3
    go_upto_region 8 with fail
    generalize (w2.setCell ⟨d, 4, none⟩ (.int .i64 (adapt (i' - i) (n + 1) (!st)))).setCell ⟨d, 5, none⟩ (.bool true) = w3 at *
    clear hd2 hown2 hG2 hf4 hf5 k4 k5
    have k2 : w3.cell? ⟨d, 2, none⟩ = some (.int .i64 N) := hd3.cell 2
    have k3 : w3.cell? ⟨d, 3, none⟩ = some (.int .i64 i') := hd3.cell 3
    obtain ⟨q, hqd⟩ : ∃ q, q = i' / (n + 1) := ⟨_, rfl⟩
    obtain ⟨r, hrd⟩ : ∃ r, r = i' % (n + 1) := ⟨_, rfl⟩
    obtain ⟨m, hmd⟩ : ∃ m, m = N + q := ⟨_, rfl⟩
    rw [← hqd, ← hrd, ← hmd] at HK
    have hqi : (i' : Int) / ((n : Int) + 1) = q := by rw [hqd, Int.natCast_ediv]; rfl
    have hri : (i' : Int) % ((n : Int) + 1) = r := by rw [hrd, Int.natCast_emod]; rfl
    have hq : q ≤ i' := by rw [hqd]; exact Nat.div_le_self _ _
    have hr : r ≤ n := by have := Nat.mod_lt i' (show 0 < n + 1 by omega); omega
    clear hqd hrd
    have hq0 : ¬ ((n : Int) + 1 = 0) := by omega
    have hq1 : Int.tdiv (i' : Int) ((n : Int) + 1) = q := by rw [Int.tdiv_eq_ediv_of_nonneg (by omega), hqi]
    have hq2 : IntKind.i64.wrap (q : Int) = q := IntWalk.i64_in _ (by omega)
    have hq3 : IntKind.i64.wrap ((N : Int) + q) = (N : Int) + q := IntWalk.i64_in _ (by omega)
    go_still_tail 13, (by kernel_rfl)
    have hd4 : CB w3.drew d _ _ := hd3
    have hown4 := hown3.drew
    have hG4 := hG3.drew
    clear hd3 hown3 hG3 k2 k3
    change wpList _ _ _ _ _ w3.drew
    generalize w3.drew = w4 at *
    have hf2 := hd4.frozen 2
    have hf3 := hd4.frozen 3
    have k2 : w4.cell? ⟨d, 2, none⟩ = some (.int .i64 N) := hd4.cell 2
    have k3 : w4.cell? ⟨d, 3, none⟩ = some (.int .i64 i') := hd4.cell 3
    have hd5 := (hd4.set 2 (.int .i64 ((N : Int) + q))).set 3 (.int .i64 r)
    have hown5 := (hown4.far (p := ⟨d, 2, none⟩) hde (.int .i64 ((N : Int) + q))).far (p := ⟨d, 3, none⟩) hde (.int .i64 r)
    have hG5 := (hG4.setCell (p := ⟨d, 2, none⟩) hWd (.int .i64 ((N : Int) + q))).setCell (p := ⟨d, 3, none⟩) hWd (.int .i64 r)
    simp at hd5
    have hr1 : Int.tmod (i' : Int) ((n : Int) + 1) = r := by rw [Int.tmod_eq_emod_of_nonneg (by omega), hri]
    go_upto_region 10 with fail
    generalize (w4.setCell ⟨d, 2, none⟩ (.int .i64 ((N : Int) + q))).setCell ⟨d, 3, none⟩ (.int .i64 r) = w5 at *
    clear hd4 hown4 hG4 hf2 hf3 k2 k3 hq0 hq1 hq2 hq3 hr1 hqi hri hw1 hw2
    rw [show (N : Int) + q = m by omega] at hd5
    have k1 : w5.cell? ⟨d, 1, none⟩ = some (.slice A n c) := hd5.cell 1
    have k2 : w5.cell? ⟨d, 2, none⟩ = some (.int .i64 m) := hd5.cell 2
    have k3 : w5.cell? ⟨d, 3, none⟩ = some (.int .i64 r) := hd5.cell 3
    rcases hpm : point m with _ | _
    · rw [hpm, if_pos rfl] at HK
      have HC := Lib.hid (fun w => by have := point_c m w; rwa [hpm] at this : ∀ w : World, Calls Tryz.prog 118 #[.int .i64 m] w fun e w' => e = .returned (.bool false) ∧ w = w')
      clear hpm hmd
      go_wp2_with (go_at_call 118; refine (HC.out _).mono ?_; rintro e w6 ⟨rfl, rfl⟩)
      go_ret
      exact ⟨by rw [HK.out]; rfl, hG5⟩
    · rw [hpm, if_neg (by decide)] at HK
      have HC := Lib.hid (fun w => by have := point_c m w; rwa [hpm] at this : ∀ w : World, Calls Tryz.prog 118 #[.int .i64 m] w fun e w' => e = .returned (.bool true) ∧ w = w')
      clear hpm hmd
      by_cases hc : 256 < n + 1
      · rw [if_pos hc] at HK
        go_wp2_with (go_at_call 118; refine (HC.out _).mono ?_; rintro e w6 ⟨rfl, rfl⟩)
        go_ret
        exact ⟨by rw [HK.out]; rfl, hG5⟩
      · rw [if_neg hc] at HK
        go_upto_region 14 with (go_at_call 118; refine (HC.out _).mono ?_; rintro e w6 ⟨rfl, rfl⟩)
        have hf1 := hd5.frozen 1
        have hdl := hd5.lt
        have hgrA : w5.grownBy ((w5.alloc (.cells #[.int .i64 m] 3)).drew) none := gb_drew (gb_alloc (World.grownBy.refl w5 none) _)
        have hownA : OwnR (w5.alloc (.cells #[.int .i64 m] 3)).drew W.heap.size 3 1 A n c (natsV pts) := hown5.grown hgrA (by
          rcases hown5.form0 with ⟨rfl, _, _⟩ | ⟨g, rfl, _, _⟩
          · exact .inl rfl
          · exact .inr (by simp [Value.ownBlock]))
        have hdA : CB (w5.alloc (.cells #[.int .i64 m] 3)).drew d _ _ := hd5.alloc (.cells #[.int .i64 m] 3)
        have hvb : CB (w5.alloc (.cells #[.int .i64 m] 3)).drew w5.heap.size 3 #[.int .i64 m] := CB.new w5 _ _
        have hGA : Gr W (w5.alloc (.cells #[.int .i64 m] 3)).drew := (hG5.alloc _).drew
        have hneA : A ≠ some ⟨w5.heap.size, 0, none⟩ := by
          rintro rfl
          obtain ⟨h1, _, _⟩ | ⟨g, h1, _, h2⟩ := hown5.form0
          · cases h1
          · injection h1 with h1; injection h1 with h1; omega
        have hBA := hGA.size
        refine wp_region_ord (S := fun w' => w'.cell? ⟨d, 1, none⟩ = some (.slice A n c) ∧ w'.cell? ⟨d, 2, none⟩ = some (.int .i64 m) ∧ w'.cell? ⟨d, 3, none⟩ = some (.int .i64 r)) (t := 17) (r := [(0, true), (1, true), (2, true), (3, true), (4, true), (5, true), (6, true), (7, true), (8, true), (9, true), (10, true), (11, true), (12, true), (13, false), (14, false), (15, false), (16, false), (17, false)]) (by kernel_rfl) (by kernel_rfl) (by kernel_rfl) rfl (by intro c a1 d1 v1 w1 h; cases d1 <;> exact h) ?_
        iterate 13
          refine wpOrd_read (v := ?_) rfl rfl ⟨k1, k2, k3⟩ (fun w' hS => ?_) ?_
          rotate_left
          · obtain ⟨h1, h2, h3⟩ := hS
            go_simp
            rfl
        have s1 := hdA.cell 1
        have s2 := hdA.cell 2
        have s3 := hdA.cell 3
        refine wpOrd_op rfl rfl (fun K hK => ?_)
        go_simp
        refine hK _ _ (fun _ => ⟨s1, s2, s3⟩) ?_
        clear hK K
        refine wpOrd_op rfl rfl (fun K hK => ?_)
        go_simp
        go_at_call 136
        refine (insert_c W.heap.size pts A n c r m w5.heap.size _ hBA hn hownA hr (by omega) hvb hneA).mono ?_
        rintro e w6 ⟨A', c', rfl, hown6, hg6⟩
        have hd6 := hdA.grown hg6 (hdA.not_row (by decide) hownA)
        have hf6 := hd6.frozen 1
        have hk6 := hd6.cell 1
        refine hK _ _ (fun _ => ⟨hd6.cell 1, hd6.cell 2, hd6.cell 3⟩) ?_
        clear hK K
        refine wpOrd_op rfl rfl (fun K hK => ?_)
        go_simp
        refine hK _ _ (fun _ => ⟨hd6.cell 1, hd6.cell 2, hd6.cell 3⟩) ?_
        clear hK K
        refine wpOrd_op rfl rfl (fun K hK => ?_)
        go_simp
        refine hK _ _ (fun _ => ⟨hd6.cell 1, hd6.cell 2, hd6.cell 3⟩) ?_
        clear hK K
        refine wpOrd_op rfl rfl (fun K hK => ?_)
        go_simp
        refine hK _ _ (fun h => by cases h) ?_
        clear hK K
        refine wpOrd_nil ?_
        have hd7 := hd6.set 1 (.slice A' (n + 1) c')
        have hde6 : some d ≠ (Value.slice A' (n + 1) c').ownBlock := hd6.not_row (by decide) hown6
        have hown7 := hown6.far (p := ⟨d, 1, none⟩) hde6 (.slice A' (n + 1) c')
        have hG7 := (hGA.grown hg6 (fun j hj => (hownA.ownBlock j hj).1)).setCell (p := ⟨d, 1, none⟩) hWd (.slice A' (n + 1) c')
        simp at hd7
        generalize w6.setCell ⟨d, 1, none⟩ (.slice A' (n + 1) c') = w7 at *
        have j3 : w7.cell? ⟨d, 3, none⟩ = some (.int .i64 r) := hd7.cell 3
        have jf3 := hd7.frozen 3
        go_wp2_with fail
        go_ret
        refine ⟨?_, hG7.setCell (p := ⟨d, 3, none⟩) hWd _⟩
        rw [HK.out]
        exact ⟨rfl, t, A', n + 1, c', ht, by simp [insertAt, hn.out]; omega, hd7.set 3 _, hown7.far (p := ⟨d, 3, none⟩) (hd7.not_row (by decide) hown7) _⟩
end Go.Proofs.YtcicefifmkjffaaGreatDoor
