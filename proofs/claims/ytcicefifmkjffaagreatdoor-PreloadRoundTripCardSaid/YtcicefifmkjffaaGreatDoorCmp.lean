import Derived.Test.YtcicefifmkjffaaGreatDoorHostV
namespace Go.Proofs.YtcicefifmkjffaaGreatDoor
open Go Go.RowKit Hs
theorem bytesLess_eq : ∀ a b : Bs, Op.bytesLess a b = bless a b
  | _, [] => by simp [Op.bytesLess, bless]
  | [], _ :: _ => rfl
  | x :: r, y :: t => by
    unfold Op.bytesLess bless
    rw [bytesLess_eq r t]
    by_cases h1 : x.toNat < y.toNat
    · rw [decide_eq_true (UInt8.lt_iff_toNat_lt.2 h1), if_pos h1, Bool.true_or]
    · rw [decide_eq_false (fun h => h1 (UInt8.lt_iff_toNat_lt.1 h)), if_neg h1, Bool.false_or]
      by_cases h2 : y.toNat < x.toNat
      · rw [if_pos h2, beq_eq_false_iff_ne.2 (fun e => by rw [e] at h2; omega), Bool.false_and]
      · rw [if_neg h2, beq_iff_eq.2 (UInt8.toNat_inj.1 (by omega)), Bool.true_and]
theorem cmpB_lt {a b : ByteArray} (h : Op.bytesLess a.toList b.toList = true) : cmpB a.data.toList b.data.toList = -1 := by
  rw [ByteArray.toList_eq, ByteArray.toList_eq, bytesLess_eq] at h
  unfold cmpB; rw [if_pos h]
theorem cmpB_gt {a b : ByteArray} (h : Op.bytesLess a.toList b.toList = false) (h2 : (!a.toList == b.toList) = true) : cmpB a.data.toList b.data.toList = 1 := by
  rw [ByteArray.toList_eq, ByteArray.toList_eq, bytesLess_eq] at h
  rw [ByteArray.toList_eq, ByteArray.toList_eq] at h2
  unfold cmpB; rw [if_neg (by simp [h]), if_neg (by simpa using h2)]
theorem cmpB_eq {a b : ByteArray} (h : Op.bytesLess a.toList b.toList = false) (h2 : (!a.toList == b.toList) = false) : cmpB a.data.toList b.data.toList = 0 := by
  rw [ByteArray.toList_eq, ByteArray.toList_eq, bytesLess_eq] at h
  rw [ByteArray.toList_eq, ByteArray.toList_eq] at h2
  unfold cmpB; rw [if_neg (by simp [h]), if_pos (by simpa using h2)]
theorem isNaNStr_c (a : ByteArray) (w : World) : Calls Tryz.prog 72 #[.string a] w fun e w' => e = .returned (.bool false) ∧ w = w' := by
  go_enter Tryz.func72, Tryz.ntmps72
  go_wp2_with fail
  go_ret
  exact ⟨by simp, rfl⟩
theorem cmpStr_c (a b : ByteArray) (w : World) : Calls Tryz.prog 41 #[.string a, .string b] w fun e w' => e = .returned (.int .i64 (cmpB a.data.toList b.data.toList)) ∧ w = w' := by
  go_enter Tryz.func41, Tryz.ntmps41
  go_wp2_with (go_at_call 72; refine (isNaNStr_c _ _).mono ?_; rintro e w1 ⟨rfl, rfl⟩)
  all_goals go_ret
  · exact ⟨by rw [cmpB_lt (by assumption)]; rfl, rfl⟩
  · exact ⟨by rw [cmpB_gt (by assumption) (by assumption)]; rfl, rfl⟩
  · exact ⟨by rw [cmpB_eq (by assumption) (by assumption)]; rfl, rfl⟩
theorem cmpInt_c (x y : Int) (w : World) : Calls Tryz.prog 42 #[.int .i64 x, .int .i64 y] w fun e w' => e = .returned (.int .i64 (if x < y then -1 else if y < x then 1 else 0)) ∧ w = w' :=
  (Tryz.cmp_Compare_int x y w).mono fun _ _ h => ⟨h.1, h.2.symm⟩
end Go.Proofs.YtcicefifmkjffaaGreatDoor
