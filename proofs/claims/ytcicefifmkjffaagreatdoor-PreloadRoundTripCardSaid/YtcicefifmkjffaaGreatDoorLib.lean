/- The library's contracts in this seat's own words. -/
import Derived.Test.YtcicefifmkjffaaGreatDoorShelf
import Derived.Test.YtcicefifmkjffaaGreatDoorAscii
import Derived.Test.YtcicefifmkjffaaGreatDoorLawL
namespace Go.Proofs.YtcicefifmkjffaaGreatDoor
open Go Go.RowKit Hs

/-- What every call may lean on: the library's variable MaxLen holds some number. -/
def Env (w : World) : Prop := ∃ m, w.cell? ⟨0, 0, none⟩ = some (.int .i64 m)
theorem Env.gr {w w' : World} (h : Env w) (hg : Gr w w') : Env w' := by
  obtain ⟨m, hm⟩ := h
  exact ⟨m, (hg.cell (p := ⟨0, 0, none⟩) (World.block_lt_of_cell? w _ hm)).trans hm⟩

theorem split_c (s : ByteArray) (c : UInt8) (w : World) (hE : Env w) (hs : s.size ≤ 1000000) :
    Calls Tryz.prog 90 #[.string s, .string ⟨#[c]⟩] w fun e w' => ∃ A m, e = .returned (.slice A m m) ∧ Hid (m = (split c s.data.toList).length) ∧ OwnR w' w.heap.size 9 1 A m m (strsV (split c s.data.toList)) ∧ Gr w w' := by
  obtain ⟨m, hm⟩ := hE
  refine (Tryz.strings_Split s ⟨#[c]⟩ m w (by omega) hm (Nat.le_refl 1)).mono ?_
  rintro e w' ⟨rfl, rfl⟩
  refine ⟨_, _, rfl, splitB_len c s, ?_, Gr.alloc (Gr.refl w) _⟩
  have h := World.ownsRow_lit (base := w.heap.size) (e := 9) (size := 1) w ((Lib.splitB ⟨#[c]⟩ 0 (Lib.countB s ⟨#[c]⟩) s).map Value.string).toArray (Lib.countB s ⟨#[c]⟩ + 1) (Nat.le_refl _)
    (by have h1 := splitB_len c s; have h2 := split_length c s.data.toList; have h3 := list_len s; unfold maxLen; omega)
    (by rw [splitB_vals, splitB_len]; simp [strsV])
  simp only [splitB_vals] at h ⊢
  exact h
theorem hasPrefix_eq (l p : Bs) : Lib.hasPrefix l p = p.isPrefixOf l := rfl
theorem cutPrefix_c (s p : ByteArray) (w : World) :
    Calls Tryz.prog 59 #[.string s, .string p] w fun e w' => e = .returned (.tuple #[.string (mk (if p.data.toList.isPrefixOf s.data.toList then s.data.toList.drop p.data.toList.length else s.data.toList)), .bool (p.data.toList.isPrefixOf s.data.toList)]) ∧ w = w' :=
  (Tryz.strings_CutPrefix s p w).mono fun _ _ ⟨h1, h2⟩ => ⟨h1, h2.symm⟩
theorem hasPrefix_c (s p : ByteArray) (w : World) :
    Calls Tryz.prog 85 #[.string s, .string p] w fun e w' => e = .returned (.bool (p.data.toList.isPrefixOf s.data.toList)) ∧ w = w' :=
  (Tryz.strings_HasPrefix s p w).mono fun _ _ ⟨h1, h2⟩ => ⟨h1, h2.symm⟩
theorem lastIndexByte_c (s : ByteArray) (c : UInt8) (w : World) (hs : s.size ≤ 1000000) :
    Calls Tryz.prog 40 #[.string s, .int .u8 c.toNat] w fun e w' => e = .returned (.int .i64 (lastI c s.data.toList)) ∧ w = w' :=
  (Tryz.strings_LastIndexByte s c.toNat (by omega) w).mono fun _ _ ⟨h1, h2⟩ => ⟨by rw [h1, lastIndexByte_eq], h2.symm⟩
end Go.Proofs.YtcicefifmkjffaaGreatDoor
