/- strings.Builder at this dump (its copy check bears a refused branch): copyCheck, WriteByte, WriteString, String. The walks follow the shelf's own. -/
import Derived.Test.YtcicefifmkjffaaGreatDoorAscii
import Derived.Test.YtcicefifmkjffaaGreatDoorProg
import Derived.Test.YtcicefifmkjffaaGreatDoorShelf3
import Derived.Lib.Builder
import Derived.Lib.AppendStr
import Derived.Laws.Externs
namespace Go.Proofs.YtcicefifmkjffaaGreatDoor
open Go Go.RowKit Hs
abbrev IsB (B b : Nat) (l : Bs) (w : World) : Prop := Lib.IsBuilder 55 5 B b (Lib.byteCells l) w
/-- Blocks of other types than a builder's two lie as they lay. -/
def KeepB (w w' : World) : Prop := ∀ (k : Nat) (cs : Array Value) (t : TypeId) (fr : Nat × Nat), w.heap[k]? = some (Obj.cells cs t fr) → t ≠ 55 → t ≠ 5 → w'.heap[k]? = some (Obj.cells cs t fr)
theorem KeepB.refl (w : World) : KeepB w w := fun _ _ _ _ h _ _ => h
theorem KeepB.trans {a b c : World} (h : KeepB a b) (k : KeepB b c) : KeepB a c := fun i cs t fr h1 h2 h3 => k i cs t fr (h i cs t fr h1 h2 h3) h2 h3
theorem KeepB.alloc (w : World) (o : Obj) : KeepB w (w.alloc o) := fun _ _ _ _ h _ _ => (heap_alloc_old w o (Array.getElem?_eq_some_iff.1 h).1).trans h
theorem KeepB.set {w : World} {b : Nat} {cs : Array Value} {fr : Nat × Nat} (h : w.heap[b]? = some (.cells cs 55 fr)) (i : Nat) (u : Value) : KeepB w (w.setCell ⟨b, i, none⟩ u) := fun k cs' t fr' h1 h2 _ => by
  have : k ≠ b := by rintro rfl; rw [h] at h1; injection h1 with h1; injection h1 with _ e; exact h2 e.symm
  exact (Below.heap_setCell w ⟨b, i, none⟩ u k this).trans h1
theorem KeepB.grown {w w' : World} {B n : Nat} {v : Value} {xs : List Value} (h : w.ownsRow B 5 1 v n xs) (hg : w.grownBy w' v.ownBlock) : KeepB w w' := fun k cs t fr h1 _ h3 => by
  refine (hg.block k (Array.getElem?_eq_some_iff.1 h1).1 ?_).trans h1
  rcases h.2 with ⟨rfl, _⟩ | ⟨g, cap, cur, rfl, _, hh, _⟩
  · simp [Value.ownBlock]
  · intro e
    obtain rfl : k = g := by simpa [Value.ownBlock] using e
    rw [hh] at h1; injection h1 with h1; injection h1 with _ e; exact h3 e.symm
theorem infoBld : (Tryz.prog.info? 55).map (·.size) = some 2 := by kernel_rfl
set_option maxRecDepth 100000 in
theorem bchk_c (B b : Nat) (bs : List Value) (w : World) (h : Lib.IsBuilder 55 5 B b bs w) :
    Calls Tryz.prog 46 #[.pointer (some ⟨b, 0, none⟩)] w fun e w' => e = .returned (.tuple #[]) ∧ Lib.BuilderAt 55 5 B b (.pointer (some ⟨b, 0, none⟩)) bs w' ∧ Below B w w' ∧ KeepB w w' := by
  obtain ⟨j, hj, hjs⟩ := Option.map_eq_some_iff.1 infoBld
  rcases h with h | h
  · have h0 := h.cell0
    have hfz := h.frozen0
    have hsh := h.shape
    have hu := h.used
    have hB := h.1
    have hK : KeepB w (w.setCell ⟨b, 0, none⟩ (.pointer (some ⟨b, 0, none⟩))) := by obtain ⟨_, v, hb, _⟩ := h; exact KeepB.set hb _ _
    clear h
    go_enter Tryz.func46, Tryz.ntmps46
    go_wp2
    rw [Lib.run_to_unsafe w ⟨b, 0, none⟩ Tryz.underlying52 Tryz.underlying108 hj (by rw [hjs]; decide) hsh (Nat.zero_lt_succ 1)]
    simp only [Result.andThen]
    rw [Oper.upon_value]
    go_wp2
    rw [run_callFunc_extern Tryz.func78 (by kernel_rfl) (by kernel_rfl) (by kernel_rfl) (e := Extern.AbiNoEscape.same) (by kernel_rfl)]
    rw [Lib.run_noEscape]
    simp only [Result.andThen]
    rw [Oper.upon_value]
    go_wp2
    rw [Lib.run_from_unsafe w ⟨b, 0, none⟩ Tryz.underlying108 Tryz.underlying52 hj hsh (by kernel_rfl)]
    simp only [Result.andThen]
    rw [Oper.upon_value]
    go_wp2
    go_end0
    exact ⟨rfl, hu _, (Below.refl B w).setCell (p := ⟨b, 0, none⟩) hB _, hK⟩
  · have h0 := h.cell0
    go_enter Tryz.func46, Tryz.ntmps46
    go_wp2
    rw [Lib.run_neq_ptr_same w _ Tryz.underlying52 hj]
    go_wp2
    go_end0
    exact ⟨rfl, h, Below.refl B _, KeepB.refl _⟩
set_option maxRecDepth 100000 in
set_option maxHeartbeats 1000000 in
theorem bbyte_c (B b : Nat) (l : Bs) (c : UInt8) (w : World) (h : IsB B b l w) (hlen : l.length + 1 ≤ 140737488355328) (hBw : B ≤ w.heap.size) :
    Calls Tryz.prog 27 #[.pointer (some ⟨b, 0, none⟩), .int .u8 c.toNat] w fun e w' => e = .returned .nilIface ∧ IsB B b (l ++ [c]) w' ∧ Below B w w' ∧ KeepB w w' := by
  obtain ⟨i0, hi, hz0, hz1, hz2⟩ := info_parts elBytes.info
  have hbl : (Lib.byteCells l).length = l.length := by simp [Lib.byteCells]
  have HB := Lib.hid (show Lib.byteCells l ++ [Value.int .u8 c.toNat] = Lib.byteCells (l ++ [c]) by simp [Lib.byteCells])
  unfold IsB at h
  rw [← hbl] at hlen
  unfold IsB
  rw [← HB.out]
  generalize Lib.byteCells l = bs at *
  clear hbl HB
  go_enter Tryz.func27, Tryz.ntmps27
  go_wp2_with (go_at_call 46; refine (bchk_c B b bs _ h).mono ?_)
  rintro e w1 ⟨rfl, h1, hb1, hk1⟩
  obtain ⟨hB, v, hbk, hown, hne⟩ := h1
  have c0 : w1.cell? ⟨b, 0, none⟩ = some (.pointer (some ⟨b, 0, none⟩)) := by rw [Lib.cell_of_heap hbk]; rfl
  have c1 : w1.cell? ⟨b, 1, none⟩ = some v := by rw [Lib.cell_of_heap hbk]; rfl
  go_wp2_with (at_builtin; refine wpList_append_own _ rfl _ _ 53 rfl B 5 i0 (.int .u8 0) 1 1 Tryz.underlying53 hi hz0 hz1 hz2 rfl (by decide) _ _ _ rfl (hown.alloc _) ⟨w1.heap.size, 0, none⟩ 1 1 [.int .u8 c.toNat] rfl rfl ?c1 ?c2 ?c3 ?c4 ?c5 ?_)
  case c1 =>
    intro j u hj
    match j, hj with
    | 0, hj => simp at hj; subst hj; simp [Addr.add]
  case c2 => intro u hu; simp at hu; subst hu; rfl
  case c3 => unfold maxLen; omega
  case c4 => omega
  case c5 => have := hb1.size; simp; omega
  intro v' w2 hown' hgrow _
  have hlt : b < w1.heap.size := (Array.getElem?_eq_some_iff.1 hbk).1
  have hb2 : w2.heap[b]? = some (.cells #[.pointer (some ⟨b, 0, none⟩), v] 55 (0, 0)) := by
    rw [hgrow.block b (by simp; omega) (fun e => hne e.symm), Lib.alloc_old w1 _ b hlt]
    exact hbk
  have d0 : w2.cell? ⟨b, 0, none⟩ = some (.pointer (some ⟨b, 0, none⟩)) := by rw [Lib.cell_of_heap hb2]; rfl
  have d1 : w2.cell? ⟨b, 1, none⟩ = some v := by rw [Lib.cell_of_heap hb2]; rfl
  have f1 : w2.frozen? ⟨b, 1, none⟩ = false := Lib.frozen_of_heap hb2 1
  obtain ⟨g, cap, rfl⟩ : ∃ g cap, v' = .slice (some ⟨g, 0, none⟩) (bs.length + 1) cap := by
    rcases hown'.2 with ⟨_, h0⟩ | ⟨g, cap, cur, hv, _⟩
    · omega
    · exact ⟨g, cap, hv⟩
  go_wp2
  go_ret
  refine ⟨rfl, .inr ?_, ?_, (hk1.trans ((KeepB.alloc w1 _).trans (KeepB.grown (World.ownsRow.alloc hown _) hgrow))).trans (KeepB.set hb2 _ _)⟩
  · exact Lib.BuilderAt.put (T := 55) (e := 5) hB hb2 (bs' := bs ++ [.int .u8 c.toNat]) (by simpa using hown') (by decide)
  · exact ((hb1.alloc (by have := hb1.size; omega) _).grown hgrow (by have := hb1.size; simp; omega) (fun k hk => (hown.lt k hk).1)).setCell (p := ⟨b, 1, none⟩) hB _
set_option maxRecDepth 100000 in
set_option maxHeartbeats 1000000 in
theorem bstr_c (B b : Nat) (l : Bs) (s : ByteArray) (w : World) (h : IsB B b l w) (hlen : l.length + s.size ≤ 140737488355328) (hBw : B ≤ w.heap.size) :
    Calls Tryz.prog 26 #[.pointer (some ⟨b, 0, none⟩), .string s] w fun e w' => e = .returned (.tuple #[.int .i64 s.size, .nilIface]) ∧ IsB B b (l ++ s.data.toList) w' ∧ Below B w w' ∧ KeepB w w' := by
  obtain ⟨i0, hi, hz0, hz1, hz2⟩ := info_parts elBytes.info
  have hbl : (Lib.byteCells l).length = l.length := by simp [Lib.byteCells]
  have HB := Lib.hid (show Lib.byteCells l ++ Lib.strCells s = Lib.byteCells (l ++ s.data.toList) by simp [Lib.byteCells, Lib.strCells])
  unfold IsB at h
  rw [← hbl] at hlen
  unfold IsB
  rw [← HB.out]
  generalize Lib.byteCells l = bs at *
  clear hbl HB
  go_enter Tryz.func26, Tryz.ntmps26
  go_wp2_with (go_at_call 46; refine (bchk_c B b bs _ h).mono ?_)
  rintro e w1 ⟨rfl, h1, hb1, hk1⟩
  obtain ⟨hB, v, hbk, hown, hne⟩ := h1
  have c0 : w1.cell? ⟨b, 0, none⟩ = some (.pointer (some ⟨b, 0, none⟩)) := by rw [Lib.cell_of_heap hbk]; rfl
  have c1 : w1.cell? ⟨b, 1, none⟩ = some v := by rw [Lib.cell_of_heap hbk]; rfl
  go_wp2_with (at_builtin; refine Lib.wpList_append_own_string _ rfl _ _ 53 9 rfl B 5 i0 Tryz.underlying53 Tryz.underlying9 hi hz0 hz1 hz2 _ _ _ rfl hown s rfl ?c3 ?c4 ?c5 ?_)
  case c3 => unfold maxLen; omega
  case c4 => omega
  case c5 => have := hb1.size; omega
  intro v' w2 hown' hgrow _
  have hlt : b < w1.heap.size := (Array.getElem?_eq_some_iff.1 hbk).1
  have hb2 : w2.heap[b]? = some (.cells #[.pointer (some ⟨b, 0, none⟩), v] 55 (0, 0)) := by
    rw [hgrow.block b hlt (fun e => hne e.symm)]
    exact hbk
  have d0 : w2.cell? ⟨b, 0, none⟩ = some (.pointer (some ⟨b, 0, none⟩)) := by rw [Lib.cell_of_heap hb2]; rfl
  have d1 : w2.cell? ⟨b, 1, none⟩ = some v := by rw [Lib.cell_of_heap hb2]; rfl
  have f1 : w2.frozen? ⟨b, 1, none⟩ = false := Lib.frozen_of_heap hb2 1
  obtain ⟨ao, n', cap, rfl⟩ : ∃ ao n' cap, v' = .slice ao n' cap := by
    rcases hown'.2 with ⟨hv, _⟩ | ⟨g, cap, cur, hv, _⟩
    · exact ⟨_, _, _, hv⟩
    · exact ⟨_, _, _, hv⟩
  go_wp2
  go_ret2
  refine ⟨rfl, .inr ?_, ?_, (hk1.trans (KeepB.grown hown hgrow)).trans (KeepB.set hb2 _ _)⟩
  · exact Lib.BuilderAt.put (T := 55) (e := 5) hB hb2 (bs' := bs ++ Lib.strCells s) (by simpa [Lib.strCells_length] using hown') (by decide)
  · exact (hb1.grown hgrow (by have := hb1.size; omega) (fun k hk => (hown.lt k hk).1)).setCell (p := ⟨b, 1, none⟩) hB _
end Go.Proofs.YtcicefifmkjffaaGreatDoor
