/- slices.Insert at []int, one value; rows written by runs of cells. -/
import Derived.Test.YtcicefifmkjffaaGreatDoorPunyD
import Derived.Shelf.Spec.SlicesInsertGrow
namespace Go.Proofs.YtcicefifmkjffaaGreatDoor
open Go Go.RowKit Hs
theorem heap_setCells (b : Nat) (t : TypeId) : ∀ (vs : List Value) (o : Nat) (cur : Array Value) (w : World), w.heap[b]? = some (.cells cur t (0, 0)) → o + vs.length ≤ cur.size →
    ∃ cur' : Array Value, (w.setCells b o vs).heap[b]? = some (.cells cur' t (0, 0)) ∧ cur'.toList = cur.toList.take o ++ vs ++ cur.toList.drop (o + vs.length)
  | [], o, cur, w, h, _ => ⟨cur, h, by simp⟩
  | v :: r, o, cur, w, h, hl => by
    obtain ⟨cur', h1, h2⟩ := heap_setCells b t r (o + 1) (cur.setIfInBounds o v) (w.setCell ⟨b, o, none⟩ v) (heap_setCell_same w b o cur t v h) (by simp at hl ⊢; omega)
    refine ⟨cur', h1, ?_⟩
    simp at hl
    rw [h2, Array.toList_setIfInBounds, List.take_set, List.drop_set_of_lt (by omega), List.take_succ_eq_append_getElem (by simp; omega)]
    rw [List.set_append_right _ _ (by simp; omega)]
    simp
    rw [show o - min o cur.size = 0 by omega, show o + 1 + r.length = o + (r.length + 1) by omega]
    simp
theorem gb_setCells (b : Nat) {w : World} {row : Option Nat} (hb : row = some b ∨ w.heap.size ≤ b) : ∀ (vs : List Value) (o : Nat) (w1 : World), w.grownBy w1 row → w.grownBy (w1.setCells b o vs) row
  | [], _, _, h => h
  | v :: r, o, _, h => gb_setCells b hb r (o + 1) _ (gb_set h ⟨b, o, none⟩ v hb)
theorem gb_drew {w w1 : World} {row : Option Nat} (h : w.grownBy w1 row) : w.grownBy w1.drew row := ⟨h.os, h.tape, h.output, h.size, h.block⟩
theorem oneCell_nats (l : List Nat) : ∀ v ∈ natsV l, v.oneCell' = true := by
  intro v hv
  obtain ⟨n, _, rfl⟩ := List.mem_map.1 hv
  rfl
theorem mk_own {w : World} {B g n c : Nat} {e : TypeId} {cur : Array Value} {xs : List Value} (hb : B ≤ g) (hg : w.heap[g]? = some (.cells cur e (0, 0))) (hn : n ≤ c) (hm : c ≤ maxLen) (hs : cur.size = c) (hx : cur.toList.take n = xs) : OwnR w B e 1 (some ⟨g, 0, none⟩) n c xs := by
  have hl : xs.length = n := by rw [← hx]; simp; omega
  refine ⟨by omega, .inr ⟨g, c, cur, rfl, hb, hg, hn, hm, by omega, ?_⟩⟩
  rw [Nat.mul_one]; exact hx
theorem insertAt_vals (pts : List Nat) (i x : Nat) : natsV (insertAt pts i x) = (natsV pts).take i ++ [Value.int .i64 x] ++ (natsV pts).drop i := by
  simp [insertAt, natsV, List.map_take, List.map_drop]
theorem list_three {X cu xs : List Value} {v : Value} {n i : Nat} (hx : cu.take n = xs) (hn : xs.length = n) (hi : i ≤ n) (hc : n < cu.length) (h : X = (cu.take (i + 1) ++ xs.drop i ++ cu.drop (i + 1 + (xs.drop i).length)).take i ++ [v] ++ (cu.take (i + 1) ++ xs.drop i ++ cu.drop (i + 1 + (xs.drop i).length)).drop (i + 1)) :
    X.take (n + 1) = xs.take i ++ [v] ++ xs.drop i := by
  have h1 : (cu.take (i + 1)).length = i + 1 := by simp; omega
  have h2 : xs.take i = cu.take i := by rw [← hx, List.take_take, Nat.min_eq_left hi]
  have h3 : (xs.drop i).length = n - i := by simp; omega
  have h4 : (cu.take i).length = i := by simp; omega
  have e1 : (cu.take (i + 1) ++ xs.drop i ++ cu.drop (i + 1 + (xs.drop i).length)).take i = cu.take i := by
    rw [List.append_assoc, List.take_append_of_le_length (by omega), List.take_take, Nat.min_eq_left (by omega)]
  have e2 : (cu.take (i + 1) ++ xs.drop i ++ cu.drop (i + 1 + (xs.drop i).length)).drop (i + 1) = xs.drop i ++ cu.drop (i + 1 + (xs.drop i).length) := by
    rw [List.append_assoc]; exact List.drop_left' h1
  rw [h, e1, e2, h2, ← List.append_assoc]
  exact List.take_left' (by simp; omega)
theorem insert_c (B : Nat) (pts : List Nat) (A : Option Addr) (n c i x vb : Nat) (w : World) (hB : B ≤ w.heap.size) (hnl : Hid (n = pts.length)) (hown : OwnR w B 3 1 A n c (natsV pts)) (hi : i ≤ n) (hn : n ≤ 1000000) (hvb : CB w vb 3 #[.int .i64 x]) (hne : A ≠ some ⟨vb, 0, none⟩) :
    Calls Tryz.prog 136 #[.slice A n c, .int .i64 i, .slice (some ⟨vb, 0, none⟩) 1 1] w fun e w' => ∃ A' c', e = .returned (.slice A' (n + 1) c') ∧ OwnR w' B 3 1 A' (n + 1) c' (natsV (insertAt pts i x)) ∧ w.grownBy w' (Value.slice A n c).ownBlock := by
  have hnl := hnl.out
  have hlen : (natsV pts).length = n := by rw [natsV_length]; exact hnl.symm
  have hvs : ∀ (j : Nat) (v : Value), [Value.int .i64 x][j]? = some v → w.cell? ⟨vb, 0 + j, none⟩ = some v := by
    intro j v hj
    rw [Nat.zero_add, hvb.cell]
    simpa using hj
  have h1v : ∀ v ∈ [Value.int .i64 x], v.oneCell' = true := by intro v hv; simp at hv; subst hv; rfl
  have hle := hown.le
  have hcn : maxLen ≤ 9223372036854775807 := by unfold maxLen; omega
  have hge := grownCap_ge w (n + 1) c 3
  have hgm := grownCap_le_maxLen w (n + 1) c 3 (by unfold maxLen; omega)
  by_cases hroom : n + 1 ≤ c
  · rcases hown.2 with ⟨hv, h0⟩ | ⟨g, cap, cur, hv, hb, hg, hn', hM, hs, ht⟩
    · injection hv with h1 h2 h3
      omega
    injection hv with h1 h2 h3
    subst h1 h3
    rw [Nat.mul_one] at hs ht
    have hgv : vb ≠ g := by rintro rfl; exact hne rfl
    have hcell : ∀ j v, (natsV pts)[j]? = some v → w.cell? ⟨g, 0 + j, none⟩ = some v := by
      intro j v hj
      have hj' : j < n := by rw [← hlen]; exact (List.getElem?_eq_some_iff.1 hj).1
      rw [Nat.zero_add, hown.cell j (by omega)]
      exact hj
    have hsome : ∀ j, j < n + 1 → (w.cell? ⟨g, 0 + j, none⟩).isSome = true := by
      intro j hj
      rw [Nat.zero_add, cell_of_row w g j cur _ _ hg, Array.getElem?_eq_getElem (by omega)]
      rfl
    have hfz : ∀ j, j < n + 1 → w.frozen? ⟨g, 0 + j, none⟩ = false := fun j _ => frozen_of_row w g _ cur _ hg
    by_cases hlt : i < n
    · refine (Any2.slices_Insert_int_shift Tryz.layIns g 0 n c i vb 0 1 1 (natsV pts) [.int .i64 x] w hlt (by omega) hroom (by omega) hgv hlen rfl hcell hsome hfz hvs (oneCell_nats _) h1v 3 3 1 c (by simp [World.shape?, show w.heap[vb]? = _ from hvb]) (by simp [World.shape?, hg, hs]) (by omega) (hvb.frozen 0) (hvb.frozen 1)).mono ?_
      rintro e w' ⟨rfl, rfl⟩
      have hg2 : w.drew.heap[g]? = some (.cells cur 3 (0, 0)) := hg
      obtain ⟨c1, hc1, hl1⟩ := heap_setCells g 3 ((natsV pts).drop i) (0 + (i + 1)) cur w.drew hg2 (by simp [hlen]; omega)
      have hsz1 : c1.size = c := by rw [← Array.length_toList, hl1]; simp [hlen]; omega
      obtain ⟨c2, hc2, hl2⟩ := heap_setCells g 3 [.int .i64 x] (0 + i) c1 _ hc1 (by simp; omega)
      have hsz2 : c2.size = c := by rw [← Array.length_toList, hl2]; simp; omega
      refine ⟨_, _, rfl, mk_own hb hc2 hroom hM hsz2 ?_, gb_setCells g (.inl rfl) _ _ _ (gb_setCells g (.inl rfl) _ _ _ (gb_drew (World.grownBy.refl w _)))⟩
      rw [insertAt_vals]
      refine list_three ht hlen hi (by simp; omega) ?_
      rw [hl2, hl1]
      simp
    · obtain rfl : i = n := by omega
      have hsome' : ∀ j, j < 1 → (w.cell? ⟨g, 0 + i + j, none⟩).isSome = true := by
        intro j hj
        have := hsome i (by omega)
        rwa [show 0 + i + j = 0 + i by omega]
      refine (Any2.slices_Insert_int_end_room Tryz.layIns g 0 i c vb 0 1 1 [.int .i64 x] w (by omega) hroom (by omega) rfl hsome' (fun j hj => frozen_of_row w g _ cur _ hg) hvs h1v).mono ?_
      rintro e w' ⟨rfl, rfl⟩
      obtain ⟨c2, hc2, hl2⟩ := heap_setCells g 3 [.int .i64 x] (0 + i) cur w hg (by simp; omega)
      have hsz2 : c2.size = c := by rw [← Array.length_toList, hl2]; simp; omega
      refine ⟨_, _, rfl, mk_own hb hc2 hroom hM hsz2 ?_, gb_setCells g (.inl rfl) _ _ _ (World.grownBy.refl w _)⟩
      rw [insertAt_vals, hl2, Nat.zero_add, List.drop_eq_nil_of_le (by omega : (natsV pts).length ≤ i), ht, List.take_of_length_le (by omega : (natsV pts).length ≤ i), List.append_nil, List.take_append_of_le_length (by simp; omega), List.take_of_length_le (by simp; omega)]
  · have hroom' : c < n + 1 := by omega
    by_cases hlt : i < n
    · obtain ⟨g, rfl, hb, hgl⟩ := hown.form (by omega)
      have hcell : ∀ j v, (natsV pts)[j]? = some v → w.cell? ⟨g, 0 + j, none⟩ = some v := by
        intro j v hj
        have hj' : j < n := by rw [← hlen]; exact (List.getElem?_eq_some_iff.1 hj).1
        rw [Nat.zero_add, hown.cell j (by omega)]
        exact hj
      refine (Any2.slices_Insert_int_grow Tryz.layIns g 0 n c i vb 0 1 1 (natsV pts) [.int .i64 x] w hlt (by omega) hle.1 hroom' (by omega) hlen rfl hcell hvs (oneCell_nats _) h1v).mono ?_
      rintro e w' ⟨rfl, rfl⟩
      simp only [show Tryz.layIns_ren.t 3 = 3 from rfl]
      generalize hcc : (((natsV pts).take i).toArray ++ Builtin.zeroCells (Value.int .i64 0).cells (n + 1 - i) ++ Builtin.zeroCells (Value.int .i64 0).cells (grownCap w (n + 1) c 3 - (n + 1)) : Array Value) = cur
      have hsz : cur.size = grownCap w (n + 1) c 3 := by
        rw [← hcc]; simp [size_zeroCells, Value.cells, hlen]; omega
      have hcur : cur.toList.take i = (natsV pts).take i := by
        rw [← hcc]; simp
        rw [List.take_append_of_le_length (by simp; omega), List.take_of_length_le (by simp; omega)]
      have hg2 : ((w.alloc (.cells cur 3)).drew).heap[w.heap.size]? = some (.cells cur 3 (0, 0)) := heap_alloc_new w _
      obtain ⟨c1, hc1, hl1⟩ := heap_setCells w.heap.size 3 [.int .i64 x] i cur _ hg2 (by simp; omega)
      have hsz1 : c1.size = grownCap w (n + 1) c 3 := by rw [← Array.length_toList, hl1]; simp; omega
      obtain ⟨c2, hc2, hl2⟩ := heap_setCells w.heap.size 3 ((natsV pts).drop i) (i + 1) c1 (((w.alloc (.cells cur 3)).drew.setCells w.heap.size i [.int .i64 x]).drew) hc1 (by simp [hlen]; omega)
      have hsz2 : c2.size = grownCap w (n + 1) c 3 := by rw [← Array.length_toList, hl2]; simp [hlen]; omega
      refine ⟨_, _, rfl, mk_own hB hc2 hge hgm hsz2 ?_, gb_setCells w.heap.size (.inr (Nat.le_refl _)) _ _ _ (gb_drew (gb_setCells w.heap.size (.inr (Nat.le_refl _)) _ _ _ (gb_drew (gb_alloc (World.grownBy.refl w _) _))))⟩
      rw [insertAt_vals, hl2, hl1]
      rw [show List.take (i + 1) (cur.toList.take i ++ [Value.int .i64 x] ++ cur.toList.drop (i + [Value.int .i64 x].length)) = (natsV pts).take i ++ [Value.int .i64 x] by
        rw [hcur, List.take_append_of_le_length (by simp [hlen]; omega), List.take_of_length_le (by simp; omega)]]
      rw [List.take_append_of_le_length (by simp [hlen]; omega), List.take_of_length_le (by simp [hlen]; omega)]
    · obtain rfl : i = n := by omega
      refine (Any2.slices_Insert_int_end_grow Tryz.layIns A i c vb 0 1 1 (natsV pts) [.int .i64 x] w (by omega) hle.1 hroom' (by omega) hlen rfl ?_ ?_ hvs h1v).mono ?_
      · intro hA
        rcases hown.form0 with ⟨_, h0, _⟩ | ⟨g, hg, _⟩
        · exact h0
        · rw [hA] at hg; cases hg
      · rintro a hA j v hj
        have hj' : j < i := by rw [← hlen]; exact (List.getElem?_eq_some_iff.1 hj).1
        obtain ⟨g, hg, _, _⟩ := hown.form (by omega)
        rw [hA] at hg
        injection hg with hg
        subst hA hg
        rw [Addr.add_lit, Nat.zero_add, hown.cell j (by omega)]
        exact hj
      · rintro e w' ⟨rfl, rfl⟩
        simp only [show Tryz.layIns_ren.t 3 = 3 from rfl]
        refine ⟨_, _, rfl, mk_own hB (heap_alloc_new w.drew _) hge hgm ?_ ?_, gb_alloc (gb_drew (World.grownBy.refl w _)) _⟩
        · simp [size_zeroCells, Value.cells, hlen]; omega
        · rw [insertAt_vals]
          rw [Array.toList_append, List.drop_eq_nil_of_le (by omega : (natsV pts).length ≤ i), List.take_of_length_le (by omega : (natsV pts).length ≤ i), List.append_nil]
          exact List.take_left' (by simp [hlen])
end Go.Proofs.YtcicefifmkjffaaGreatDoor
