/- law24.PreloadRoundTrip answers true. -/
import Derived.Test.YtcicefifmkjffaaGreatDoorAwake
namespace Go.Proofs.YtcicefifmkjffaaGreatDoor
open Go Go.RowKit Hs
theorem smallE_le {l : List Entry} {m : Nat} (h : smallE l m = true) : l.length ≤ m ∧ ∀ x ∈ l, x.1.length ≤ 300 := by
  unfold smallE at h
  rw [Bool.and_eq_true, decide_eq_true_eq, List.all_eq_true] at h
  exact ⟨h.1, fun x hx => by simpa using h.2 x hx⟩
theorem entsSame_c (l : List Entry) (A A' : Option Addr) (c c' : Nat) (w : World) (hrd : Rd w A l.length 2 (entsV l)) (hrd' : Rd w A' l.length 2 (entsV l)) (hm : l.length ≤ 1000000) :
    Calls Tryz.prog 12 #[.slice A l.length c, .slice A' l.length c'] w fun e w' => e = .returned (.bool true) ∧ Gr w w' := by
  have h : decide (l = l) = true := by simp
  refine (ents_c l l A A' l.length c l.length c' w rfl rfl hrd hrd' hm).mono ?_
  rintro e w' ⟨rfl, hG⟩
  exact ⟨by rw [h], hG⟩
set_option maxRecDepth 100000 in
set_option maxHeartbeats 800000 in
theorem roundTrip_c (l : List Entry) (A : Option Addr) (c : Nat) (w : World) (hE : EnvU w) (hA : At w A) (hrd : Rd w A l.length 2 (entsV l)) :
    Calls Tryz.prog 4 #[.slice A l.length c] w fun e w' => e = .returned (.bool true) ∧ Gr w w' := by
  have AW := Lib.hid (fun W (h : Gr w W) => awake_c W (hE.gr h))
  have SM := Lib.hid (small_c l 60 A l.length c w rfl hrd (by omega))
  rcases hs : smallE l 60 with _ | _
  · rw [hs] at SM
    clear hE hA hrd hs
    go_enter Tryz.func4, Tryz.ntmps4
    go_wp2_with fail
    refine SM.out.mono ?_
    rintro e w1 ⟨rfl, rfl⟩
    go_wp2_with fail
    refine (AW.out _ (Gr.refl _)).mono ?_
    rintro e w2 ⟨rfl, hG⟩
    go_wp2_with fail
    go_ret
    exact ⟨rfl, hG⟩
  obtain ⟨hl, hx⟩ := smallE_le hs
  rw [hs] at SM
  have NW := Lib.hid (new_c l A c w hE.mx hA hrd (by omega) (fun x hx' => by have := hx x hx'; omega))
  have FM := Lib.hid (fun W (h : Gr w W) => format_c l A c W (hE.gr h).mx (hA.gr h) (hrd.gr h) (by omega) (fun x hx' => by have := hx x hx'; omega))
  rcases hn : newList l with k | s
  · have hk := newList_err hn
    have hk0 : ¬ (k : Int) = 0 := by omega
    rw [hn] at NW FM
    clear hE hA hrd hs hx hn hk
    go_enter Tryz.func4, Tryz.ntmps4
    go_wp2_with fail
    refine SM.out.mono ?_
    rintro e w1 ⟨rfl, rfl⟩
    go_wp2_with fail
    refine NW.out.mono ?_
    rintro e w2 ⟨hp, hG2⟩
    obtain rfl := hp.out
    clear hp
    go_wp2_with fail
    refine (FM.out _ hG2).mono ?_
    rintro e w3 ⟨rfl, hG3⟩
    dsimp only [fmtV]
    go_wp2_with fail
    refine (AW.out _ (hG2.trans hG3)).mono ?_
    rintro e w4 ⟨rfl, hG4⟩
    go_wp2_with fail
    go_ret
    exact ⟨rfl, (hG2.trans hG3).trans hG4⟩
  · have hok := newList_ok hn
    have hp := sortE_perm l
    have hl2 : s.length ≤ 60 := by rw [hok.1, hp.length_eq]; exact hl
    have hs3 : ∀ x ∈ s, x.1.length ≤ 300 := fun x hx' => hx x (hp.subset (hok.1 ▸ hx'))
    have hsv : ∀ x ∈ s, validName x.1 = true := fun x hx' => hok.2.2.2 x (hp.subset (hok.1 ▸ hx'))
    have hN2 := newList_again hn
    have hfl := fmt_len s hs3
    have PR := Lib.hid (fun W (h : Gr w W) => parse_c (mk (formatE s)) (recE s) W (hE.gr h) (by rw [mk_size]; omega) (lines_fmt s hsv (fun x hx' => by have := hs3 x hx'; omega)) (by rw [recE_len]; omega))
    rw [parseR_rec, List.nil_append] at PR
    have hs6 : ∀ x ∈ s, x.1.length ≤ 1000000 := fun x hx' => by have := hs3 x hx'; omega
    have NW2 := Lib.hid (fun W (h : Gr w W) A c (hA : At W A) (hrd : Rd W A s.length 2 (entsV s)) => new_c s A c W (hE.gr h).mx hA hrd (by omega) hs6)
    rw [hn] at NW FM
    rw [hN2] at NW2
    clear hE hA hrd hs hx hn hok hp hs3 hsv hN2 hfl hs6
    go_enter Tryz.func4, Tryz.ntmps4
    go_wp2_with fail
    refine SM.out.mono ?_
    rintro e w1 ⟨rfl, rfl⟩
    go_wp2_with fail
    refine NW.out.mono ?_
    rintro e w2 ⟨hp, hG2⟩
    obtain ⟨p, A1, n1, c1, rfl, rfl, hpb, hcb, hown⟩ := hp.out
    clear hp
    have EN := Lib.hid (fun W (h : Gr w2 W) => entries_c p c1 A1 s W (hcb.gr h) ((own_at hown).gr h) (hown.gr h).rd (by omega))
    go_wp2_with fail
    refine (FM.out _ hG2).mono ?_
    rintro e w3 ⟨rfl, hG3⟩
    dsimp only [fmtV]
    go_wp2_with fail
    refine (PR.out _ (hG2.trans hG3)).mono ?_
    rintro e w4 ⟨hp, hG4⟩
    obtain ⟨A2, n2, c2, rfl, rfl, hown2⟩ := hp.out
    clear hp
    go_wp2_with fail
    refine (EN.out _ (hG3.trans hG4)).mono ?_
    rintro e w5 ⟨A3, c3, rfl, hown3, hG5⟩
    go_wp2_with fail
    refine (entsSame_c s A2 A3 c2 c3 w5 (hown2.gr hG5).rd hown3.rd (by omega)).mono ?_
    rintro e w6 ⟨rfl, hG6⟩
    go_wp2_with fail
    refine (EN.out _ (((hG3.trans hG4).trans hG5).trans hG6)).mono ?_
    rintro e w7 ⟨A4, c4, rfl, hown4, hG7⟩
    have HG7 := ((((hG2.trans hG3).trans hG4).trans hG5).trans hG6).trans hG7
    go_wp2_with fail
    refine (NW2.out _ HG7 A4 c4 (own_at hown4) hown4.rd).mono ?_
    rintro e w8 ⟨hp, hG8⟩
    obtain ⟨p5, A5, n5, c5, rfl, rfl, hpb5, hcb5, hown5⟩ := hp.out
    clear hp
    go_wp2_with fail
    refine (entries_c p5 c5 A5 s w8 hcb5 (own_at hown5) hown5.rd (by omega)).mono ?_
    rintro e w9 ⟨A6, c6, rfl, hown6, hG9⟩
    go_wp2_with fail
    refine (entsSame_c s A6 A2 c6 c2 w9 hown6.rd (((((hown2.gr hG5).gr hG6).gr hG7).gr hG8).gr hG9).rd (by omega)).mono ?_
    rintro e w10 ⟨rfl, hG10⟩
    go_wp2_with fail
    refine (AW.out _ (((HG7.trans hG8).trans hG9).trans hG10)).mono ?_
    rintro e w11 ⟨rfl, hG11⟩
    go_wp2_with fail
    go_ret
    exact ⟨rfl, (((HG7.trans hG8).trans hG9).trans hG10).trans hG11⟩
end Go.Proofs.YtcicefifmkjffaaGreatDoor
