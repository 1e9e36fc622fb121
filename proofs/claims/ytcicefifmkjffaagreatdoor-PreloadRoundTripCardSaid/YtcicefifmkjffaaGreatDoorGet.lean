/- (*preload.List).Get: a binary search. -/
import Derived.Test.YtcicefifmkjffaaGreatDoorPreF
namespace Go.Proofs.YtcicefifmkjffaaGreatDoor
open Go Go.RowKit Hs
theorem get1_c (x : Entry) (s : ByteArray) (w : World) (hx : x.1.length ≤ 1000000) (hs : s.size ≤ 1000000) : Calls Tryz.prog 53 #[.agg #[.string (mk x.1), .bool x.2], .string s] w fun e w' => e = .returned (.int .i64 (Hs.compare x.1 s.data.toList)) ∧ Gr w w' := by
  go_enter Tryz.func53, Tryz.ntmps53
  go_wp2_with fail
  refine (pinCompare_c (mk x.1) s _ hx hs).mono ?_
  rintro e w1 ⟨rfl, n, rfl⟩
  go_wp2_with fail
  go_ret
  exact ⟨rfl, ((Gr.refl w).alloc _).drewN _⟩
def findE (l : List Entry) (n : Bs) : Option Entry := l.find? (fun x => x.1 == n)
/-- where the search stands -/
def bsR (l : List Entry) (n : Bs) (i j : Nat) : Prop := (∀ t x, t < i → l[t]? = some x → Hs.compare x.1 n < 0) ∧ (∀ t x, j ≤ t → l[t]? = some x → ¬ Hs.compare x.1 n < 0)
theorem bsR.lo {l : List Entry} {n : Bs} {i j h : Nat} {x : Entry} (hR : bsR l n i j) (hs : l.Pairwise leE) (hx : l[h]? = some x) (hc : Hs.compare x.1 n < 0) : bsR l n (h + 1) j := by
  refine ⟨fun t y ht hy => ?_, hR.2⟩
  rcases Nat.lt_or_ge t h with h1 | h1
  · have h2 : leE y x := by
      obtain ⟨a1, a2⟩ := List.getElem?_eq_some_iff.1 hy
      obtain ⟨b1, b2⟩ := List.getElem?_eq_some_iff.1 hx
      have := List.pairwise_iff_getElem.1 hs t h a1 b1 h1
      rwa [a2, b2] at this
    refine Int.lt_of_not_ge fun h3 => ?_
    have h4 : Hs.compare n y.1 ≤ 0 := (le_iff _ _).2 (by omega)
    have h5 := compare_le_tr h4 h2
    exact ((le_iff _ _).1 h5) hc
  · obtain rfl : t = h := by omega
    rw [hx] at hy; injection hy with hy; subst hy; exact hc
theorem bsR.hi {l : List Entry} {n : Bs} {i j h : Nat} {x : Entry} (hR : bsR l n i j) (hs : l.Pairwise leE) (hx : l[h]? = some x) (hc : ¬ Hs.compare x.1 n < 0) : bsR l n i h := by
  refine ⟨hR.1, fun t y ht hy => ?_⟩
  rcases Nat.lt_or_ge h t with h1 | h1
  · have h2 : leE x y := by
      obtain ⟨a1, a2⟩ := List.getElem?_eq_some_iff.1 hy
      obtain ⟨b1, b2⟩ := List.getElem?_eq_some_iff.1 hx
      have := List.pairwise_iff_getElem.1 hs h t b1 a1 h1
      rwa [a2, b2] at this
    have h4 : Hs.compare n x.1 ≤ 0 := (le_iff _ _).2 hc
    exact (le_iff _ _).1 (compare_le_tr h4 h2)
  · obtain rfl : t = h := by omega
    rw [hx] at hy; injection hy with hy; subst hy; exact hc
theorem bsR.yes {l : List Entry} {n : Bs} {i : Nat} {x : Entry} (hR : bsR l n i i) (hx : l[i]? = some x) (hc : Hs.compare x.1 n = 0) : findE l n = some x := by
  have e := (compare_lin.eq0 _ _).1 hc
  unfold findE
  rw [List.find?_eq_some_iff_getElem]
  obtain ⟨h1, h2⟩ := List.getElem?_eq_some_iff.1 hx
  refine ⟨by simp [e], i, h1, h2, fun j hj => ?_⟩
  have := hR.1 j l[j] hj (List.getElem?_eq_getElem (by omega))
  have hne : l[j].1 ≠ n := fun h => by rw [(compare_lin.eq0 _ _).2 h] at this; omega
  simpa using hne
theorem bsR.no {l : List Entry} {n : Bs} {i : Nat} (hR : bsR l n i i) (hs : l.Pairwise leE) (h : ∀ x, l[i]? = some x → Hs.compare x.1 n ≠ 0) : findE l n = none := by
  unfold findE
  rw [List.find?_eq_none]
  intro y hy
  obtain ⟨t, ht⟩ := List.getElem?_of_mem hy
  have e0 : ∀ h9 : y.1 = n, Hs.compare y.1 n = 0 := fun h9 => (compare_lin.eq0 _ _).2 h9
  have : y.1 ≠ n := by
    intro h9
    have h0 := e0 h9
    rcases Nat.lt_trichotomy t i with h1 | rfl | h1
    · have := hR.1 t y h1 ht; omega
    · exact h y ht h0
    · obtain ⟨b1, b2⟩ := List.getElem?_eq_some_iff.1 ht
      obtain ⟨x, hx⟩ : ∃ x, l[i]? = some x := ⟨_, List.getElem?_eq_getElem (by omega)⟩
      obtain ⟨a1, a2⟩ := List.getElem?_eq_some_iff.1 hx
      have h2 := List.pairwise_iff_getElem.1 hs i t a1 b1 h1
      rw [a2, b2] at h2
      have h3 := hR.2 i x (Nat.le_refl _) hx
      unfold leE at h2
      rw [h9] at h2
      exact h x hx (by omega)
  simpa using this
theorem rd_ent {w : World} {n : Nat} {A : Option Addr} {l : List Entry} (h : Rd w A n 2 (entsV l)) {k : Nat} {x : Entry} (hx : l[k]? = some x) (hk : k < n) : ∃ g off, A = some ⟨g, off, none⟩ ∧ g < w.heap.size ∧ w.cell? ⟨g, off + k * 2, none⟩ = some (.string (mk x.1)) ∧ w.cell? ⟨g, off + k * 2 + 1, none⟩ = some (.bool x.2) := by
  obtain ⟨g, off, rfl, hg, hc⟩ := h.2 (by omega)
  have := entsV_get l k x hx
  exact ⟨g, off, rfl, hg, (hc _ (by omega)).trans this.1, by rw [Nat.add_assoc]; exact (hc _ (by omega)).trans this.2⟩
set_option maxRecDepth 100000 in
set_option maxHeartbeats 2000000 in
theorem bsearch_c (l : List Entry) (s : ByteArray) (A : Option Addr) (n c : Nat) (w : World) (hn : Hid (n = l.length)) (hrd : Rd w A n 2 (entsV l)) (hl : n ≤ 1000000) (hsz : ∀ x ∈ l, x.1.length ≤ 1000000) (hs : s.size ≤ 1000000) (hso : l.Pairwise leE) :
    Calls Tryz.prog 52 #[.slice A n c, .string s, .func (.func 53) #[] #[]] w fun e w' => Hid (∃ i : Nat, (∃ x, findE l s.data.toList = some x ∧ l[i]? = some x ∧ e = .returned (.tuple #[.int .i64 i, .bool true])) ∨ (findE l s.data.toList = none ∧ e = .returned (.tuple #[.int .i64 i, .bool false]))) ∧ Gr w w' := by
  have HS := Lib.hid hsz
  have HO := Lib.hid hso
  clear hsz hso
  go_enter Tryz.func52, Tryz.ntmps52
  go_wp2_with fail
  go_loopw [9, 10] (fun v9 v10 wr => Gr w wr ∧ ∃ i j : Nat, v9 = .int .i64 i ∧ v10 = .int .i64 j ∧ i ≤ j ∧ j ≤ n ∧ Hid (bsR l s.data.toList i j)) (fun v9 v10 _ => (intOf v10).toNat - (intOf v9).toNat)
  case atStart => exact ⟨Gr.refl _, 0, n, rfl, rfl, by omega, by omega, fun t x h => by omega, fun t x h hx => by have := (List.getElem?_eq_some_iff.1 hx).1; have := hn.out; omega⟩
  case round =>
    obtain ⟨hG, i, j, rfl, rfl, hij, hj, hR⟩ := hrel
    by_cases hlt : i < j
    · obtain ⟨h, hh⟩ : ∃ h, h = (i + j) / 2 := ⟨_, rfl⟩
      have hh1 : i ≤ h ∧ h < j := by omega
      have hs1 : ((i : Int) + j) / 2 = h := by omega
      obtain ⟨x, hx⟩ : ∃ x, l[h]? = some x := ⟨_, List.getElem?_eq_getElem (by have := hn.out; omega)⟩
      obtain ⟨g, off, rfl, hg, c1, c2⟩ := rd_ent (hrd.gr hG) hx (by omega)
      have HX := Lib.hid hx
      have hxs := HS.out x (List.mem_of_getElem? hx)
      rcases Int.lt_or_le (Hs.compare x.1 s.data.toList) 0 with hc | hc
      · have HR2 := Lib.hid (hR.out.lo HO.out hx hc)
        have HC := Lib.hid (fun w => get1_c x s w hxs hs)
        generalize Hs.compare x.1 s.data.toList = c at *
        clear hx hh
        go_wp2_with fail
        refine (HC.out _).mono ?_
        rintro e w1 ⟨rfl, hG1⟩
        go_wp2_with fail
        go_roundw
        case rel => exact ⟨hG.trans hG1, h + 1, j, by go_num, rfl, by omega, by omega, HR2⟩
        case measure => simp [intOf]; omega
      · have HR2 := Lib.hid (hR.out.hi HO.out hx (by omega))
        have HC := Lib.hid (fun w => get1_c x s w hxs hs)
        have hc2 : ¬ Hs.compare x.1 s.data.toList < 0 := by omega
        generalize Hs.compare x.1 s.data.toList = c at *
        clear hx hh
        go_wp2_with fail
        refine (HC.out _).mono ?_
        rintro e w1 ⟨rfl, hG1⟩
        go_wp2_with fail
        go_roundw
        case rel => exact ⟨hG.trans hG1, i, h, rfl, rfl, by omega, by omega, HR2⟩
        case measure => simp [intOf]; omega
    · obtain rfl : i = j := by omega
      by_cases hin : i < n
      · obtain ⟨x, hx⟩ : ∃ x, l[i]? = some x := ⟨_, List.getElem?_eq_getElem (by have := hn.out; omega)⟩
        obtain ⟨g, off, rfl, hg, c1, c2⟩ := rd_ent (hrd.gr hG) hx (by omega)
        have HX := Lib.hid hx
        have hxs := HS.out x (List.mem_of_getElem? hx)
        have HC := Lib.hid (fun w => get1_c x s w hxs hs)
        by_cases hc : Hs.compare x.1 s.data.toList = 0
        · have HF := Lib.hid (hR.out.yes hx hc)
          rw [hc] at HC
          clear hx hc
          go_wp2_with fail
          refine (HC.out _).mono ?_
          rintro e w1 ⟨rfl, hG1⟩
          go_wp2_with fail
          go_ret2
          exact ⟨⟨i, .inl ⟨x, HF.out, HX.out, rfl⟩⟩, hG.trans hG1⟩
        · have HF := Lib.hid (hR.out.no HO.out (fun y hy => by rw [hx] at hy; injection hy with hy; subst hy; exact hc))
          generalize Hs.compare x.1 s.data.toList = c at *
          have hcb : (c == 0) = false := by simpa using hc
          clear hx hc
          go_wp2_with fail
          refine (HC.out _).mono ?_
          rintro e w1 ⟨rfl, hG1⟩
          go_wp2_with fail
          go_ret2
          exact ⟨⟨i, .inr ⟨HF.out, rfl⟩⟩, hG.trans hG1⟩
      · have HF := Lib.hid (hR.out.no HO.out (fun y hy => by have := (List.getElem?_eq_some_iff.1 hy).1; have := hn.out; omega))
        go_wp2_with fail
        go_ret2
        exact ⟨⟨i, .inr ⟨HF.out, rfl⟩⟩, hG⟩
def getV (r : Option Entry) : Value := match r with
  | some x => .tuple #[.agg #[.string (mk x.1), .bool x.2], .bool true]
  | none => .tuple #[.agg #[.string ByteArray.empty, .bool false], .bool false]
set_option maxRecDepth 100000 in
set_option maxHeartbeats 1000000 in
theorem get_c (l : List Entry) (s : ByteArray) (p : Nat) (A : Option Addr) (n c : Nat) (w : World) (hp : CB w p 51 #[.slice A n c]) (hn : Hid (n = l.length)) (hrd : Rd w A n 2 (entsV l)) (hl : n ≤ 1000000) (hsz : ∀ x ∈ l, x.1.length ≤ 1000000) (hs : s.size ≤ 1000000) (hso : l.Pairwise leE) :
    Calls Tryz.prog 33 #[.pointer (some ⟨p, 0, none⟩), .string s] w fun e w' => e = .returned (getV (findE l s.data.toList)) ∧ Gr w w' := by
  have k0 : w.cell? ⟨p, 0, none⟩ = some (.slice A n c) := hp.cell 0
  have hpl := hp.lt
  have HG := Lib.hid (fun W (hG : Gr w W) => bsearch_c l s A n c W hn (hrd.gr hG) hl hsz hs hso)
  clear hsz hso
  go_enter Tryz.func33, Tryz.ntmps33
  go_wp2_with fail
  refine (HG.out _ ((Gr.refl w).alloc _)).mono ?_
  rintro e w1 ⟨hpost, hG1⟩
  obtain ⟨i, ⟨x, hf, hx, rfl⟩ | ⟨hf, rfl⟩⟩ := hpost.out
  · have hin : i < n := by have := (List.getElem?_eq_some_iff.1 hx).1; have := hn.out; omega
    have hGw : Gr w w1 := ((Gr.refl w).alloc _).trans hG1
    obtain ⟨g, off, rfl, hg, c1, c2⟩ := rd_ent (hrd.gr hGw) hx hin
    have k1 : w1.cell? ⟨p, 0, none⟩ = some (.slice (some ⟨g, off, none⟩) n c) := (hp.gr hGw).cell 0
    have HF := Lib.hid hf
    clear hpost hf hx HG
    have hb : CB w1 w.heap.size 36 #[.string ByteArray.empty, .bool false] := (CB.new w _ _).gr hG1
    have b0 : w1.cell? ⟨w.heap.size, 0, none⟩ = some (.string ByteArray.empty) := hb.cell 0
    have b1 : w1.cell? ⟨w.heap.size, 1, none⟩ = some (.bool false) := hb.cell 1
    have f0 := hb.frozen 0
    have f1 := hb.frozen 1
    have hb2 := (hb.set 0 (.string (mk x.1))).set 1 (.bool x.2)
    have r0 := hb2.cell 0
    have r1 := hb2.cell 1
    simp at r0 r1
    go_wp2_with fail
    exact bodyPost_ret (v := getV (some x)) (by simp [results, Tryz.results33, go_sem, getV, r0, r1]) rfl ⟨by rw [HF.out], (hGw.setCell (p := ⟨w.heap.size, 0, none⟩) (Nat.le_refl _) _).setCell (p := ⟨w.heap.size, 1, none⟩) (Nat.le_refl _) _⟩
  · have HF := Lib.hid hf
    clear hpost hf HG
    have hb : CB w1 w.heap.size 36 #[.string ByteArray.empty, .bool false] := (CB.new w _ _).gr hG1
    have b0 : w1.cell? ⟨w.heap.size, 0, none⟩ = some (.string ByteArray.empty) := hb.cell 0
    have b1 : w1.cell? ⟨w.heap.size, 1, none⟩ = some (.bool false) := hb.cell 1
    have f0 := hb.frozen 0
    have f1 := hb.frozen 1
    have hb1 := hb.set 0 (.string ⟨#[]⟩)
    have r0 : (w1.setCell ⟨w.heap.size, 0, none⟩ (.string ⟨#[]⟩)).cell? ⟨w.heap.size, 0, none⟩ = some (.string ⟨#[]⟩) := hb1.cell 0
    have r1 : ((w1.setCell ⟨w.heap.size, 0, none⟩ (.string ⟨#[]⟩)).setCell ⟨w.heap.size, 1, none⟩ (.bool false)).cell? ⟨w.heap.size, 1, none⟩ = some (.bool false) := (hb1.set 1 (.bool false)).cell 1
    have hGw : Gr w w1 := ((Gr.refl w).alloc _).trans hG1
    go_wp2_with fail
    exact bodyPost_ret (v := getV none) (by simp [results, Tryz.results33, go_sem, getV, r0, r1, ByteArray.empty, ByteArray.emptyWithCapacity]; rfl) rfl ⟨by rw [HF.out], (hGw.setCell (p := ⟨w.heap.size, 0, none⟩) (Nat.le_refl _) _).setCell (p := ⟨w.heap.size, 1, none⟩) (Nat.le_refl _) _⟩
end Go.Proofs.YtcicefifmkjffaaGreatDoor
