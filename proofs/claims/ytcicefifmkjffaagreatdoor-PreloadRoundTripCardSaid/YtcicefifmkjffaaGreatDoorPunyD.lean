import Derived.Test.YtcicefifmkjffaaGreatDoorPunyE
import Derived.Test.YtcicefifmkjffaaGreatDoorIpv4
namespace Go.Proofs.YtcicefifmkjffaaGreatDoor
open Go Go.RowKit Hs
theorem toList_cons (t : ByteArray) (h : 0 < t.size) : t.data.toList = t[0] :: (t.extract 1 t.size).data.toList := by
  rw [Lib.extract_to_end]
  have h1 : 0 < t.data.toList.length := by rw [list_len]; exact h
  rw [show t[0] = t.data.toList[0] from rfl]
  exact (List.getElem_cons_drop h1).symm
theorem toList_nil (t : ByteArray) (h : t.size = 0) : t.data.toList = [] := List.eq_nil_of_length_eq_zero (by rw [list_len]; exact h)
theorem mul_le {a b x y : Nat} (h : a ≤ x) (k : b ≤ y) (N : Nat) (hN : x * y ≤ N) : (0 : Int) ≤ (a : Int) * b ∧ (a : Int) * b ≤ N := by
  have := Nat.mul_le_mul h k
  rw [← Int.natCast_mul]; omega
theorem decNum_no {bias : Nat} {t : Bs} {b : UInt8} {r : Bs} {i w k : Nat} (h : t = b :: r) (hp : pvalue b = none) : decNum bias t i w k = .error 4 := by
  subst h; unfold decNum; rw [hp]
theorem decNum_some {bias : Nat} {t : Bs} {b : UInt8} {r : Bs} {i w k x : Nat} (h : t = b :: r) (hp : pvalue b = some x) : decNum bias t i w k = (if 1099511627776 < i + x * w then .error 19 else if x < thresh k bias then .ok (r, i + x * w) else if 1099511627776 < w * (36 - thresh k bias) then .error 19 else decNum bias r (i + x * w) (w * (36 - thresh k bias)) (k + 1)) := by
  subst h
  conv => lhs; unfold decNum
  rw [hp]
theorem pvalue_lt {b : UInt8} {x : Nat} (h : pvalue b = some x) : x ≤ 35 := by
  have h1 := pvalI_eq b
  unfold pvalI at h1
  rw [h] at h1
  simp only at h1
  (repeat split at h1) <;> omega
theorem gb_alloc {w w1 : World} {row : Option Nat} (h : w.grownBy w1 row) (o : Obj) : w.grownBy (w1.alloc o) row :=
  ⟨h.os, h.tape, h.output, Nat.le_trans h.size (by simp), fun k hk hne => (heap_alloc_old w1 o (Nat.lt_of_lt_of_le hk h.size)).trans (h.block k hk hne)⟩
theorem gb_trans {w w1 w2 : World} {row row2 : Option Nat} (h : w.grownBy w1 row) (k : w1.grownBy w2 row2) (hr : ∀ j, row2 = some j → row = some j ∨ w.heap.size ≤ j) : w.grownBy w2 row :=
  ⟨k.os.trans h.os, k.tape.trans h.tape, k.output.trans h.output, Nat.le_trans h.size k.size, fun j hj hne => (k.block j (Nat.lt_of_lt_of_le hj h.size) (fun he => by rcases hr j he.symm with h1 | h1; exact hne h1.symm; omega)).trans (h.block j hj hne)⟩
theorem gb_set {w w1 : World} {row : Option Nat} (h : w.grownBy w1 row) (p : Addr) (u : Value) (hp : row = some p.block ∨ w.heap.size ≤ p.block) : w.grownBy (w1.setCell p u) row :=
  ⟨h.os, h.tape, h.output, by rw [World.size_setCell]; exact h.size, fun k hk hne => (Below.heap_setCell _ _ _ _ (fun e => by rcases hp with h1 | h1; exact hne (by rw [h1, ← e]); omega)).trans (h.block k hk hne)⟩
theorem own_castB {w : World} {b : Nat} {t : TypeId} {xs ys : Array Value} (h : CB w b t xs) (e : ys = xs) : CB w b t ys := e ▸ h
/-- what number returns, at the block of the decoder -/
def numPost (r : Except Nat (Bs × Nat)) (e : Ending) (t' : ByteArray) (i' : Nat) : Prop := match r with
  | .ok (s1, i1) => t'.data.toList = s1 ∧ i' = i1 ∧ e = .returned (.int .i64 0)
  | .error k => e = .returned (.int .i64 k)
set_option maxRecDepth 100000 in
set_option maxHeartbeats 1000000 in
theorem dnumber_c (d : Nat) (s : ByteArray) (V1 V2 V5 : Value) (i bias : Nat) (w : World) (hd : CB w d 139 #[.string s, V1, V2, .int .i64 i, .int .i64 bias, V5]) (hs : s.size ≤ 1000000) (hi : i ≤ 1099511627776) (hb : bias ≤ 4398046511104) :
    Calls Tryz.prog 135 #[.pointer (some ⟨d, 0, none⟩)] w fun e w' => ∃ t' i', Hid (numPost (decNum bias s.data.toList i 1 0) e t' i') ∧ i' ≤ 100000000000000 ∧ CB w' d 139 #[.string t', V1, V2, .int .i64 i', .int .i64 bias, V5] ∧ w.grownBy w' (some d) := by
  have c4 : w.cell? ⟨d, 4, none⟩ = some (.int .i64 bias) := hd.cell 4
  have hdlt := hd.lt
  go_enter Tryz.func135, Tryz.ntmps135
  go_wp2_with (go_at_call 137; refine (thresholds_c _ _).mono ?_; rintro e w' ⟨rfl, rfl⟩)
  clear c4
  have hcb1 : CB ((w.alloc (.cells #[.int .i64 bias] 3)).alloc (.cells #[.int .i64 0] 3)) w.heap.size 3 #[.int .i64 bias] := (CB.new _ _ _).alloc _
  have hcb2 : CB ((w.alloc (.cells #[.int .i64 bias] 3)).alloc (.cells #[.int .i64 0] 3)) (w.heap.size + 1) 3 #[.int .i64 0] := by have := CB.new (w.alloc (.cells #[.int .i64 bias] 3)) 3 #[.int .i64 0]; rwa [World.size_alloc] at this
  go_wp2_with fail
  go_loopw [4] (fun v wr => ∃ (t : ByteArray) (i1 wt k : Nat) (cc : Int), v = .int .i64 wt ∧ wt ≤ 1099511627776 ∧ i1 ≤ 1099511627776 ∧ CB wr d 139 #[.string t, V1, V2, .int .i64 i1, .int .i64 bias, V5] ∧ w.grownBy wr (some d) ∧ CB wr w.heap.size 3 #[.int .i64 bias] ∧ CB wr (w.heap.size + 1) 3 #[.int .i64 cc] ∧ Hid (cc = 36 * (k : Int)) ∧ 0 ≤ cc ∧ cc ≤ 80000000000 ∧ t.size ≤ 1000000 ∧ k + t.size = s.size ∧ Hid (decNum bias s.data.toList i 1 0 = decNum bias t.data.toList i1 wt k)) (fun _ wr => match wr.cell? ⟨d, 0, none⟩ with | some (.string t) => t.size | _ => 0)
  case atStart => exact ⟨s, i, 1, 0, 0, rfl, by omega, hi, (hd.alloc _).alloc _, gb_alloc (gb_alloc (World.grownBy.refl _ _) _) _, hcb1, hcb2, rfl, by omega, by omega, hs, by omega, rfl⟩
  case round =>
    obtain ⟨t, i1, wt, k, cc, rfl, hwt, hi1, hdc, hg, hc1, hc2, hcc, hcc0, hcc1, ht, hkt, hR⟩ := hrel
    have k0 : wr.cell? ⟨d, 0, none⟩ = some (.string t) := hdc.cell 0
    have k3 : wr.cell? ⟨d, 3, none⟩ = some (.int .i64 i1) := hdc.cell 3
    have f0 := hdc.frozen 0
    have f3 := hdc.frozen 3
    by_cases h0 : t.size = 0
    · have h1 : t.toList.isEmpty = true := by rw [empty_iff, toList_nil t h0]; rfl
      rw [toList_nil t h0] at hR
      go_wp2_with fail
      go_ret
      exact ⟨t, i1, by rw [hR.out]; rfl, by omega, hdc, hg⟩
    · have h1 : t.toList.isEmpty = false := by rw [empty_iff]; have := list_len t; simp only [decide_eq_false_iff_not]; intro he; rw [he] at this; simp at this; omega
      have htc := toList_cons t (by omega)
      rcases hpv : pvalue t[0] with _ | x
      · have hI : pvalI t[0] = -1 := by unfold pvalI; rw [hpv]
        have HE := Lib.hid (hR.out.trans (decNum_no htc hpv))
        clear htc hpv
        go_wp2_with (go_at_call 143; refine (pvalue_c _ _).mono ?_; rintro e w' ⟨rfl, rfl⟩; rw [hI])
        go_ret
        exact ⟨t, i1, by rw [HE.out]; rfl, by omega, hdc, hg⟩
      · have hI : pvalI t[0] = x := by unfold pvalI; rw [hpv]
        have hx := pvalue_lt hpv
        have HE := Lib.hid (hR.out.trans (decNum_some htc hpv))
        clear htc hpv
        have hm := mul_le hx hwt 38482906972160 (by omega)
        have htl := thresh_le k bias
        have hm2 : (0 : Int) ≤ (wt : Int) * (36 - (thresh k bias : Int)) ∧ (wt : Int) * (36 - (thresh k bias : Int)) ≤ 38482906972160 := by
          have := mul_le hwt (show 36 - thresh k bias ≤ 35 by omega) 38482906972160 (by omega)
          rw [Int.natCast_sub (by omega)] at this
          exact this
        have HM := Lib.hid (show ((wt * (36 - thresh k bias) : Nat) : Int) = (wt : Int) * (36 - (thresh k bias : Int)) by rw [Int.natCast_mul, Int.natCast_sub (by omega)]; rfl)
        have HX := Lib.hid (Int.natCast_mul x wt)
        have hd2 : CB ((wr.setCell ⟨d, 0, none⟩ (.string (t.extract 1 t.size))).setCell ⟨d, 3, none⟩ (.int .i64 ((i1 : Int) + x * wt))) d 139 #[.string (t.extract 1 t.size), V1, V2, .int .i64 ((i1 : Int) + x * wt), .int .i64 bias, V5] := (hdc.set 0 _).set 3 _
        have hg2 := gb_set (gb_set hg ⟨d, 0, none⟩ (.string (t.extract 1 t.size)) (.inl rfl)) ⟨d, 3, none⟩ (.int .i64 ((i1 : Int) + x * wt)) (.inl rfl)
        have hc12 := (hc1.far (p := ⟨d, 0, none⟩) (by simp; omega) (.string (t.extract 1 t.size))).far (p := ⟨d, 3, none⟩) (by simp; omega) (.int .i64 ((i1 : Int) + x * wt))
        have hc22 := (hc2.far (p := ⟨d, 0, none⟩) (by simp; omega) (.string (t.extract 1 t.size))).far (p := ⟨d, 3, none⟩) (by simp; omega) (.int .i64 ((i1 : Int) + x * wt))
        have hsz : (t.extract 1 t.size).size = t.size - 1 := by rw [ByteArray.size_extract]; omega
        go_wp2_with (first | (go_at_call 143; refine (pvalue_c _ _).mono ?_; rintro e w' ⟨rfl, rfl⟩; rw [hI]) | (go_at_call 146; refine (threshold_c k bias cc hcc hcc0 hcc1 _ _ _ hb hc22 (by omega) hc12).mono ?_; rintro e w1 ⟨rfl, hc3, hgr⟩; have hc4 := hc12.grown hgr (by simp); have hd3 := hd2.grown hgr (by simp; omega); have hg3 := gb_trans hg2 hgr (fun j hj => by cases hj; exact .inr (by omega))))
        · go_ret
          exact ⟨t.extract 1 t.size, i1 + x * wt, by rw [HE.out, if_pos (by have := HX.out; omega)]; rfl, by have := HX.out; omega, own_castB hd2 (by rw [Int.natCast_add, HX.out]), hg2⟩
        · go_ret
          exact ⟨t.extract 1 t.size, i1 + x * wt, by rw [HE.out, if_neg (by have := HX.out; omega), if_pos (by omega)]; exact ⟨rfl, rfl, rfl⟩, by have := HX.out; omega, own_castB hd3 (by rw [Int.natCast_add, HX.out]), hg3⟩
        · go_ret
          exact ⟨t.extract 1 t.size, i1 + x * wt, by rw [HE.out, if_neg (by have := HX.out; omega), if_neg (by omega), if_pos (by have := HM.out; omega)]; rfl, by have := HX.out; omega, own_castB hd3 (by rw [Int.natCast_add, HX.out]), hg3⟩
        case roundEnd =>
          go_roundw
          case rel =>
            refine ⟨t.extract 1 t.size, i1 + x * wt, wt * (36 - thresh k bias), k + 1, cc + 36, ?_, ?_, ?_, own_castB hd3 (by rw [Int.natCast_add, HX.out]), hg3, hc4, hc3, ?_, by omega, ?_, by omega, by omega, by rw [HE.out, if_neg (by have := HX.out; omega), if_neg (by omega), if_neg (by have := HM.out; omega)]; rfl⟩
            · rw [HM.out]
            · have := HM.out; omega
            · have := HX.out; omega
            · have := hcc.out; simp [Hid]; omega
            · have := hcc.out; omega
          case measure =>
            rw [show w1.cell? ⟨d, 0, none⟩ = some (.string (t.extract 1 t.size)) from hd3.cell 0, k0]
            show (t.extract 1 t.size).size < t.size
            omega
end Go.Proofs.YtcicefifmkjffaaGreatDoor
