/- preload.entry: the ways that are asked for. -/
import Derived.Test.YtcicefifmkjffaaGreatDoorHostP
import Derived.Test.YtcicefifmkjffaaGreatDoorPreN
namespace Go.Proofs.YtcicefifmkjffaaGreatDoor
open Go Go.RowKit Hs
def flagL : Bs := [105, 110, 99, 108, 117, 100, 101, 45, 115, 117, 98, 100, 111, 109, 97, 105, 110, 115]
def entryV (x : Bs) (b : Bool) (e : Int) : Value := .tuple #[.agg #[.string (mk x), .bool b], .int .i64 e]
theorem eqFlag (y : Bs) (w : World) (hy : y.length ≤ 65536) (b : Bool) (h : decide (lower y = flagL) = b) : Calls Tryz.prog 50 #[.string (mk y), .string (mk flagL)] w fun e w' => e = .returned (.bool b) ∧ Gr w w' := by
  refine (equalFold_c (mk y) (mk flagL) w (by rw [mk_size]; exact hy) (by decide)).mono ?_
  rintro e w' ⟨rfl, hG⟩
  refine ⟨?_, hG⟩
  rw [mk_list, mk_list, show lower flagL = flagL from by decide, h]
set_option maxRecDepth 100000 in
set_option maxHeartbeats 2000000 in
theorem entry1_c (x : Bs) (A : Option Addr) (c B : Nat) (w : World) (hE : EnvU w) (hown : OwnR w B 9 1 A 1 c (strsV [x])) (hx : PlainH x) : Calls Tryz.prog 32 #[.slice A 1 c] w fun e w' => e = .returned (entryV (lower (trimDot x)) false 0) ∧ Gr w w' := by
  obtain ⟨g, x', rfl, hB, hg, hx', hcell⟩ := hown.str_at (k := 0) (by omega)
  obtain rfl : x' = x := by simpa using hx'.symm
  have HP := Lib.hid (fun W (hG : Gr w W) => parseH_c (mk x') W (hE.gr hG) hx)
  have hc := hown.gr ((Gr.refl w).alloc (.cells #[.string ⟨#[]⟩, .bool false] 36))
  rw [mk_list] at HP
  generalize lower (trimDot x') = nm at *
  clear hE hx hx' hown
  go_enter Tryz.func32, Tryz.ntmps32
  go_wp2_with fail
  refine (HP.out _ ((Gr.refl w).alloc _)).mono ?_
  rintro e w1 ⟨rfl, hG1⟩
  have h1 : CB w1 w.heap.size 36 #[.string ⟨#[]⟩, .bool false] := (CB.new w _ _).gr hG1
  dsimp only [hostV]
  go_wp2_with (refine wpList_st 36 _ _ rfl rfl w.heap.size _ rfl rfl (h1.alloc _) (by kernel_rfl) rfl rfl ?_; intro w9 h9 hg9)
  exact bodyPost_ret (results_ct rfl _ _ rfl h9 Tryz.underlying36 rfl (by kernel_rfl)) rfl ⟨rfl, ((((Gr.refl w).alloc _).trans hG1).alloc _).grown hg9 (fun k e => by cases e; exact Nat.le_refl _)⟩
set_option maxRecDepth 100000 in
set_option maxHeartbeats 2000000 in
theorem entry2_c (x y : Bs) (A : Option Addr) (c B : Nat) (w : World) (hE : EnvU w) (hown : OwnR w B 9 1 A 2 c (strsV [x, y])) (hx : PlainH x) (hy : y.length ≤ 65536) (hf : lower y = flagL) : Calls Tryz.prog 32 #[.slice A 2 c] w fun e w' => e = .returned (entryV (lower (trimDot x)) true 0) ∧ Gr w w' := by
  obtain ⟨g, x', rfl, hB, hg, hx', hcell⟩ := hown.str_at (k := 0) (by omega)
  obtain ⟨g', y', e', _, _, hy', hcell2⟩ := hown.str_at (k := 1) (by omega)
  obtain ⟨rfl, _⟩ := addr_eq e'
  obtain rfl : x' = x := by simpa using hx'.symm
  obtain rfl : y' = y := by simpa using hy'.symm
  have HP := Lib.hid (fun W (hG : Gr w W) => parseH_c (mk x') W (hE.gr hG) hx)
  have HQ := Lib.hid (fun w => eqFlag y' w hy true (by rw [hf]; rfl))
  rw [mk_list] at HP
  generalize lower (trimDot x') = nm at *
  clear hE hx hx' hy' hown hf e'
  go_enter Tryz.func32, Tryz.ntmps32
  go_wp2_with fail
  refine (HQ.out _).mono ?_
  rintro e w0 ⟨rfl, hG0⟩
  have hGw : Gr w w0 := ((Gr.refl w).alloc _).trans hG0
  have k0 : w0.cell? ⟨g, 0, none⟩ = some (.string (mk x')) := (hGw.cell (p := ⟨g, 0, none⟩) hg).trans hcell
  go_wp2_with fail
  refine (HP.out _ hGw).mono ?_
  rintro e w1 ⟨rfl, hG1⟩
  have h1 : CB w1 w.heap.size 36 #[.string ⟨#[]⟩, .bool false] := ((CB.new w _ _).gr hG0).gr hG1
  dsimp only [hostV]
  go_wp2_with (refine wpList_st 36 _ _ rfl rfl w.heap.size _ rfl rfl (h1.alloc _) (by kernel_rfl) rfl rfl ?_; intro w9 h9 hg9)
  exact bodyPost_ret (results_ct rfl _ _ rfl h9 Tryz.underlying36 rfl (by kernel_rfl)) rfl ⟨rfl, ((hGw.trans hG1).alloc _).grown hg9 (fun k e => by cases e; exact Nat.le_refl _)⟩
set_option maxRecDepth 100000 in
set_option maxHeartbeats 2000000 in
theorem entry2_bad (x y : Bs) (A : Option Addr) (c B : Nat) (w : World) (hown : OwnR w B 9 1 A 2 c (strsV [x, y])) (hy : y.length ≤ 65536) (hf : lower y ≠ flagL) : Calls Tryz.prog 32 #[.slice A 2 c] w fun e w' => e = .returned (entryV [] false 4) ∧ Gr w w' := by
  obtain ⟨g, x', rfl, hB, hg, hx', hcell⟩ := hown.str_at (k := 0) (by omega)
  obtain ⟨g', y', e', _, _, hy', hcell2⟩ := hown.str_at (k := 1) (by omega)
  obtain ⟨rfl, _⟩ := addr_eq e'
  obtain rfl : y' = y := by simpa using hy'.symm
  have HQ := Lib.hid (fun w => eqFlag y' w hy false (by rw [decide_eq_false hf]))
  clear hx' hy' hown hf e'
  go_enter Tryz.func32, Tryz.ntmps32
  go_wp2_with fail
  refine (HQ.out _).mono ?_
  rintro e w0 ⟨rfl, hG0⟩
  have hGw : Gr w w0 := ((Gr.refl w).alloc _).trans hG0
  have h1 : CB w0 w.heap.size 36 #[.string ⟨#[]⟩, .bool false] := (CB.new w _ _).gr hG0
  go_wp2_with (refine wpList_st 36 _ _ rfl rfl w.heap.size _ rfl rfl h1 (by kernel_rfl) rfl rfl ?_; intro w9 h9 hg9)
  exact bodyPost_ret (results_ct rfl _ _ rfl h9 Tryz.underlying36 rfl (by kernel_rfl)) rfl ⟨rfl, hGw.grown hg9 (fun k e => by cases e; exact Nat.le_refl _)⟩
end Go.Proofs.YtcicefifmkjffaaGreatDoor
