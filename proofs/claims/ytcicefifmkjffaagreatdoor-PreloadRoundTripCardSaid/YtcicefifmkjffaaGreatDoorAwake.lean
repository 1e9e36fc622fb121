/- law24.awake. -/
import Derived.Test.YtcicefifmkjffaaGreatDoorRound
namespace Go.Proofs.YtcicefifmkjffaaGreatDoor
open Go Go.RowKit Hs
def comL : Bs := [99, 111, 109]
def acomL : Bs := [97, 46, 99, 111, 109]
def txt1 : Bs := "Example.com include-subdomains # x\n\nb.org".toUTF8.data.toList
def txt2 : Bs := [97, 46, 99, 111, 109, 32, 120]
def ents1 : List Entry := [([101, 120, 97, 109, 112, 108, 101, 46, 99, 111, 109], true), ([98, 46, 111, 114, 103], false)]
def ents2 : List Entry := [(comL, false), (acomL, true)]
theorem plain_of {l : Bs} (h : (l.all (fun b => decide (b.toNat < 128) && b != 37) && !([91].isPrefixOf l) && !(numeric (trimDot l)) && validName (lower (trimDot l)) && decide (l.length ≤ 1024)) = true) : PlainH l := by
  simp only [Bool.and_eq_true, List.all_eq_true, Bool.not_eq_true', decide_eq_true_eq, bne_iff_ne, ne_eq] at h
  exact ⟨h.1.1.1.1, h.1.1.1.2, h.1.1.2, h.1.2, h.2⟩
theorem lines_nil : Lines [] [] := ⟨rfl, fun k l r h => by simp at h⟩
theorem lines1 : Lines (split 10 txt1) [some (.ok ([101, 120, 97, 109, 112, 108, 101, 46, 99, 111, 109], true)), none, some (.ok ([98, 46, 111, 114, 103], false))] := by
  have hs : split 10 txt1 = [txt1.take 34, [], [98, 46, 111, 114, 103]] := by decide +kernel
  rw [hs]
  refine lines_cons (.inr (.inr (.inl ⟨txt1.take 11, flagL, by decide +kernel, plain_of (by decide +kernel), by decide +kernel, by congr 2⟩))) (lines_cons (.inl ⟨by decide +kernel, rfl⟩) (lines_cons (.inr (.inl ⟨[98, 46, 111, 114, 103], by decide +kernel, plain_of (by decide +kernel), ?_⟩)) lines_nil))
  congr 2
theorem lines2 : Lines (split 10 txt2) [some (.error 4)] := by
  have hs : split 10 txt2 = [txt2] := by decide +kernel
  rw [hs]
  exact lines_cons (.inr (.inr (.inr ⟨acomL, [120], by decide +kernel, by decide +kernel, rfl⟩))) lines_nil
theorem sort2 : sortE ents2 = ents2 := by decide +kernel
theorem new2 : newList ents2 = .ok ents2 := by
  have h1 : (ents2.map (·.1)).Nodup := by decide +kernel
  have h2 : ents2.all (fun x => validName x.1) = true := by decide +kernel
  unfold newList
  rw [if_neg (by decide +kernel), if_neg (by rw [h2]; simp), if_pos h1, sort2]
theorem find2a : findUp ents2 [120, 46, 97, 46, 99, 111, 109] = some (acomL, true) := by decide +kernel
theorem find2b : findUp ents2 [98, 46, 99, 111, 109] = none := by decide +kernel
set_option maxRecDepth 100000 in
set_option maxHeartbeats 2000000 in
theorem awake_c (w : World) (hE : EnvU w) : Calls Tryz.prog 6 #[] w fun e w' => e = .returned (.bool true) ∧ Gr w w' := by
  have P1 := Lib.hid (fun W (h : Gr w W) => parse_c (mk txt1) _ W (hE.gr h) (by decide +kernel) lines1 (by decide))
  have P2 := Lib.hid (fun W (h : Gr w W) => parse_c (mk txt2) _ W (hE.gr h) (by decide +kernel) lines2 (by decide))
  have HE := Lib.hid hE
  clear hE
  go_enter Tryz.func6, Tryz.ntmps6
  go_wp2_with fail
  refine (P1.out _ (Gr.refl _)).mono ?_
  rintro e w1 ⟨hp, hG1⟩
  obtain ⟨A1, n1, c1, rfl, rfl, hown1⟩ := hp.out
  clear hp
  go_wp2_with fail
  refine (P2.out _ hG1).mono ?_
  rintro e w2 ⟨hp, hG2⟩
  obtain rfl := hp.out
  clear hp
  go_wp2_with fail
  have HG2 := hG1.trans hG2
  have hrd : Rd (w2.alloc (.cells #[.string (mk comL), .bool false, .string (mk acomL), .bool true] 36)) (some ⟨w2.heap.size, 0, none⟩) ents2.length 2 (entsV ents2) := ⟨rfl, fun _ => ⟨_, 0, rfl, by simp, fun j _ => by
    have := (CB.new w2 36 #[.string (mk comL), .bool false, .string (mk acomL), .bool true]).cell j
    rw [List.getElem?_toArray] at this
    rw [Nat.zero_add]
    exact this⟩⟩
  refine (new_c ents2 (some ⟨w2.heap.size, 0, none⟩) 2 _ (HE.out.gr (HG2.alloc _)).mx (.inr ⟨_, _, rfl, by simp⟩) hrd (by decide) (by decide +kernel)).mono ?_
  rintro e w3 ⟨hp, hG3⟩
  rw [new2] at hp
  obtain ⟨p, A, n, c, rfl, hn, hpb, hcb, hown⟩ := hp.out
  clear hp hrd
  have hG3' : Gr w2 w3 := ((Gr.refl w2).alloc _).trans hG3
  have HG3 := HG2.trans hG3'
  have hA1 := hown1.gr (hG2.trans hG3')
  obtain ⟨g, rfl, hg, k1, k2⟩ := own_ent (l := ents1) hA1 (k := 0) (x := ([101, 120, 97, 109, 112, 108, 101, 46, 99, 111, 109], true)) rfl (by decide)
  have HN := Lib.hid hn
  have hn2 : n = 2 := hn
  have FA := Lib.hid (fun W (h : Gr w3 W) => find_c ents2 (mk [120, 46, 97, 46, 99, 111, 109]) p A n c W ((HE.out.gr HG3).gr h).mx (hcb.gr h) HN (hown.gr h).rd (by omega) (by decide +kernel) (by decide +kernel) (by rw [← sort2]; exact sortE_sorted _))
  have FB := Lib.hid (fun W (h : Gr w3 W) => find_c ents2 (mk [98, 46, 99, 111, 109]) p A n c W ((HE.out.gr HG3).gr h).mx (hcb.gr h) HN (hown.gr h).rd (by omega) (by decide +kernel) (by decide +kernel) (by rw [← sort2]; exact sortE_sorted _))
  rw [mk_list, find2a] at FA
  rw [mk_list, find2b] at FB
  have LN := Lib.hid (fun W (h : Gr w3 W) => len_c p n c A W (hcb.gr h))
  clear hn hown hA1 hown1
  subst hn2
  go_wp2_with fail
  refine (FA.out _ (Gr.refl _)).mono ?_
  rintro e w4 ⟨rfl, hG4⟩
  dsimp only [getV]
  go_wp2_with fail
  refine (FB.out _ (hG4.alloc _)).mono ?_
  rintro e w5 ⟨rfl, hG5⟩
  dsimp only [getV]
  have hB5 := (CB.new w4 36 #[.string (mk acomL), .bool true]).gr hG5
  have hb5 : w4.heap.size < w5.heap.size := hB5.lt
  have x0 : w5.cell? ⟨w4.heap.size, 0, none⟩ = some (.string (mk acomL)) := hB5.cell 0
  have heq : (mk acomL).toList = [97, 46, 99, 111, 109] := by decide +kernel
  go_wp2_with fail
  refine (LN.out _ (((hG4.alloc _).trans hG5).alloc _)).mono ?_
  rintro e w6 ⟨rfl, rfl⟩
  go_wp2_with fail
  go_ret
  exact ⟨rfl, HG3.trans (((hG4.alloc _).trans hG5).alloc _)⟩
end Go.Proofs.YtcicefifmkjffaaGreatDoor
