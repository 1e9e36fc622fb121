/- The law's argument, opened and shut again. -/
import Derived.Test.YtcicefifmkjffaaGreatDoorLawTwo
import Derived.Deep.SlicePairs
import Derived.ProofKit
import Derived.RowKit
namespace Go.Proofs.YtcicefifmkjffaaGreatDoor
open Go Go.RowKit Hs Go.Deep Go.ChangeShapes Go.WideShapes
set_option maxRecDepth 100000
theorem ce_ent : (Tryz.prog).cellsOf 36 = 2 := by kernel_rfl
theorem ce_str : (Tryz.prog).cellsOf 9 = 1 := by kernel_rfl
theorem ce_bool : (Tryz.prog).cellsOf 4 = 1 := by kernel_rfl
theorem ents_slot {W : World} {base len cap : Nat} {a : Addr} (h : Value.okWide Tryz.prog W .any base 22 (.slice (some a) len cap)) : a.spot = none ∧ a.block < W.heap.size := by
  simp only [Value.okWide, Tryz.underlying22, Cell.okWide, Cell.ok] at h
  obtain ⟨_, _, _, h2, row, cells, h3, _⟩ := h
  refine ⟨h2, ?_⟩
  unfold World.shape? at h3
  rcases Nat.lt_or_ge a.block W.heap.size with hlt | hge
  · exact hlt
  · rw [Array.getElem?_eq_none hge] at h3; cases h3
theorem rd_of {W : World} {b off : Nat} {l : List Entry} (hb : b < W.heap.size) (h : ∀ i x, l[i]? = some x → W.cell? ⟨b, off + i * 2, none⟩ = some (.string (mk x.1)) ∧ W.cell? ⟨b, off + i * 2 + 1, none⟩ = some (.bool x.2)) : Rd W (some ⟨b, off, none⟩) l.length 2 (entsV l) := by
  refine ⟨entsV_length l, fun _ => ⟨b, off, rfl, hb, fun j hj => ?_⟩⟩
  have hi : j / 2 < l.length := by omega
  obtain ⟨x, hx⟩ : ∃ x, l[j / 2]? = some x := ⟨_, List.getElem?_eq_getElem hi⟩
  obtain ⟨h1, h2⟩ := entsV_get l _ x hx
  obtain ⟨k1, k2⟩ := h _ x hx
  rcases Nat.mod_two_eq_zero_or_one j with e | e
  · rw [show j = j / 2 * 2 by omega, h1]; exact k1
  · rw [show j = j / 2 * 2 + 1 by omega, h2, ← Nat.add_assoc]; exact k2
theorem open_ents {H : Type} {enc : TypeId × Value → H} {W : World} {base : Nat} {v : Value} {d : DataW H} {p : List MemPlace} (hval : Value.okWide Tryz.prog W .any base 22 v) (h : DataW.Trod enc Tryz.prog W 0 (fun _ => true) true 22 v d p) :
    ∃ (l : List Entry) (A : Option Addr) (c : Nat), v = .slice A l.length c ∧ At W A ∧ Rd W A l.length 2 (entsV l) ∧ ∀ (W' : World) (sp : Nat → Bool), Gr W W' → (∀ x ∈ p, sp x.block = true) → DataW.Trod enc Tryz.prog W' 0 sp true 22 v d p := by
  obtain ⟨n, t0⟩ := h
  obtain ⟨A0, len0, cap0, rfl⟩ := okWide_slice Tryz.underlying22 hval
  rcases open_slice_pairs Tryz.underlying22 Tryz.underlying36 ce_ent rfl rfl ce_str ce_bool t0 with ⟨hc, hx⟩ | ⟨a, len, cap, m, k, V0, V1, D0, D1, P0, P1, hc, _, hl, hm, hmm, hx, hall⟩
  · obtain ⟨rfl, rfl, rfl⟩ : A0 = none ∧ len0 = 0 ∧ cap0 = 0 := by simpa [Value.cells] using hc
    obtain ⟨rfl, rfl⟩ := Prod.mk.inj hx
    exact ⟨[], none, 0, rfl, .inl rfl, Rd.nil _ _ _, fun W' sp _ _ => shut_slice_nil Tryz.underlying22⟩
  obtain ⟨rfl, rfl, rfl⟩ : A0 = some a ∧ len0 = len ∧ cap0 = cap := by simpa [Value.cells] using hc
  simp only [if_true] at hmm
  subst hmm
  obtain ⟨rfl, rfl⟩ := Prod.mk.inj hx
  obtain ⟨hspot, hlt⟩ := ents_slot hval
  obtain ⟨b, off, spot⟩ := a
  simp only at hspot hlt
  subst hspot
  have hs : ∀ i, i < m → ∃ s : ByteArray, V0 i = .string s ∧ D0 i = .lit (.string s.data.toList) ∧ P0 i = [] ∧ s.size ≤ maxLen := fun i hi => by
    obtain ⟨s, h1, h2, h3⟩ := DataW.trod_string Tryz.underlying9 (hall i hi).2.2.1
    simp only [List.cons.injEq, and_true] at h1
    obtain ⟨h2, h4⟩ := Prod.mk.inj h2
    exact ⟨s, h1, h2, h4, h3⟩
  have hb : ∀ i, i < m → ∃ z : Bool, V1 i = .bool z ∧ D1 i = .lit (.bool z) ∧ P1 i = [] := fun i hi => by
    obtain ⟨z, h1, h2⟩ := DataW.trod_bool Tryz.underlying4 (hall i hi).2.2.2
    simp only [List.cons.injEq, and_true] at h1
    obtain ⟨h2, h4⟩ := Prod.mk.inj h2
    exact ⟨z, h1, h2, h4⟩
  obtain ⟨S, hS⟩ := choose_lt hs
  obtain ⟨B, hB⟩ := choose_lt hb
  have hcl : ∀ i, i < m → W.cell? ⟨b, off + i * 2, none⟩ = some (V0 i) ∧ W.cell? ⟨b, off + i * 2 + 1, none⟩ = some (V1 i) := fun i hi => by
    have h1 := (hall i hi).1
    have h2 := (hall i hi).2.1
    rw [add_plain] at h1 h2
    exact ⟨h1, by rw [Nat.add_assoc]; exact h2⟩
  refine ⟨(List.range len0).map fun i => ((S i).data.toList, B i), some ⟨b, off, none⟩, m, by simp, .inr ⟨_, _, rfl, hlt⟩, rd_of hlt (fun i x hx => ?_), fun W' sp hG hsp => ?_⟩
  · have hi : i < len0 := by have := (List.getElem?_eq_some_iff.1 hx).1; simpa using this
    rw [List.getElem?_map, List.getElem?_range hi, Option.map_some, Option.some.injEq] at hx
    subst hx
    obtain ⟨k1, k2⟩ := hcl i (by omega)
    rw [(hS i (by omega)).1] at k1
    rw [(hB i (by omega)).1] at k2
    exact ⟨k1, k2⟩
  · have hc' : ∀ i, i < m → W'.cell? ⟨b, off + i * 2, none⟩ = some (V0 i) ∧ W'.cell? ⟨b, off + i * 2 + 1, none⟩ = some (V1 i) := fun i hi => ⟨(hG.cell (p := ⟨b, off + i * 2, none⟩) hlt).trans (hcl i hi).1, (hG.cell (p := ⟨b, off + i * 2 + 1, none⟩) hlt).trans (hcl i hi).2⟩
    have q0 : ∀ i, i < m → ∃ n, DataW.trod enc Tryz.prog W' 0 sp true n 9 [V0 i] = some (D0 i, P0 i) := fun i hi => by
      obtain ⟨h1, h2, h3, h4⟩ := hS i hi
      rw [h1, h2, h3]; exact shut_string_cell Tryz.underlying9 h4
    have q1 : ∀ i, i < m → ∃ n, DataW.trod enc Tryz.prog W' 0 sp true n 4 [V1 i] = some (D1 i, P1 i) := fun i hi => by
      obtain ⟨h1, h2, h3⟩ := hB i hi
      rw [h1, h2, h3]; exact ⟨1, by simp [DataW.trod, Tryz.underlying4]⟩
    rcases hspb : sp b with _ | _
    · have hm0 : m = 0 := by
        rcases Nat.eq_zero_or_pos m with h | h
        · exact h
        · have := hsp (.cell b off) (by
            refine List.mem_append_left _ ?_
            simp only [MemPlace.row, List.mem_map, List.mem_range]
            exact ⟨0, by omega, by simp⟩)
          rw [show MemPlace.block (.cell b off) = b from rfl, hspb] at this
          cases this
      subst hm0
      obtain rfl : len0 = 0 := by omega
      exact shut_slice_pairs Tryz.underlying22 Tryz.underlying36 ce_ent rfl rfl ce_str ce_bool (Nat.zero_le _) (Nat.le_refl _) (by omega) hspb V0 V1 D0 D1 P0 P1 (fun i hi => by omega) (fun i hi => by omega) (fun i hi => by omega) (fun i hi => by omega)
    · exact shut_slice_pairs_whole Tryz.underlying22 Tryz.underlying36 ce_ent rfl rfl ce_str ce_bool (Nat.zero_le _) hl hm hspb V0 V1 D0 D1 P0 P1 (fun i hi => (hc' i hi).1) (fun i hi => (hc' i hi).2) q0 q1
theorem kept_gr {W W' : World} (hG : Gr W W') (may : MemPlace → Prop) : W.keptBut W' may := by
  refine ⟨hG.os, hG.output, fun i hi => ?_⟩
  have := (World.keptBut_refl W may).2.2 i hi
  rw [hG.block i hi]
  exact this
end Go.Proofs.YtcicefifmkjffaaGreatDoor
