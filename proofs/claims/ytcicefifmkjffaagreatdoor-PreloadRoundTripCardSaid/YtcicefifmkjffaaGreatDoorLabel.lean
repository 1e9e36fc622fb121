import Derived.Test.YtcicefifmkjffaaGreatDoorPunyDec
namespace Go.Proofs.YtcicefifmkjffaaGreatDoor
open Go Go.RowKit Hs
theorem decStep_pts {D D' : Dec} (h : decStep D = .ok D') : D'.pts.length ≤ 256 ∧ ((∀ p ∈ D.pts, p ≤ 1114111) → ∀ p ∈ D'.pts, p ≤ 1114111) := by
  refine ⟨(decStep_ok h).2.2.2.2, fun hD => ?_⟩
  have hn := (decStep_ok h).2.1
  unfold decStep at h
  rcases hx : decNum D.bias D.rest D.i 1 0 with k | ⟨r, i⟩
  · rw [hx] at h; cases h
  · rw [hx] at h
    simp only at h
    by_cases h1 : point (D.n + i / (D.pts.length + 1)) = false
    · rw [if_pos h1] at h; cases h
    · rw [if_neg h1] at h
      by_cases h2 : 256 < D.pts.length + 1
      · rw [if_pos h2] at h; cases h
      · rw [if_neg h2] at h
        injection h with h
        subst h
        intro p hp
        unfold insertAt at hp
        simp only [List.mem_append, List.mem_cons] at hp
        rcases hp with hp | rfl | hp
        · exact hD p (List.mem_of_mem_take hp)
        · exact hn
        · exact hD p (List.mem_of_mem_drop hp)
theorem decLoop_bd : ∀ (f : Nat) (D : Dec) (pts : List Nat), D.pts.length ≤ 256 → (∀ p ∈ D.pts, p ≤ 1114111) → decLoop f D = .ok pts → pts.length ≤ 256 ∧ ∀ p ∈ pts, p ≤ 1114111
  | 0, D, pts, h1, h2, h => by injection h with h; subst h; exact ⟨h1, h2⟩
  | f + 1, D, pts, h1, h2, h => by
    unfold decLoop at h
    by_cases hr : D.rest = []
    · rw [if_pos hr] at h; injection h with h; subst h; exact ⟨h1, h2⟩
    · rw [if_neg hr] at h
      rcases hs : decStep D with e | D'
      · rw [hs] at h; cases h
      · rw [hs] at h
        have := decStep_pts hs
        exact decLoop_bd f D' pts this.1 (this.2 h2) h
theorem decLoop_e : ∀ (f : Nat) (D : Dec) (e : Nat), decLoop f D = .error e → e = 2 ∨ e = 3 ∨ e = 4 ∨ e = 19
  | 0, D, e, h => by cases h
  | f + 1, D, e, h => by
    unfold decLoop at h
    by_cases hr : D.rest = []
    · rw [if_pos hr] at h; cases h
    · rw [if_neg hr] at h
      rcases hs : decStep D with e' | D'
      · rw [hs] at h; injection h with h; have := decStep_err hs; omega
      · rw [hs] at h
        exact decLoop_e f D' e h
theorem u8_map_le (l : Bs) : ∀ p ∈ l.map (·.toNat), p ≤ 1114111 := by
  intro p hp
  obtain ⟨b, _, rfl⟩ := List.mem_map.1 hp
  have := b.toNat_lt
  omega
def decParts (s : Bs) : Bs × Bs := match lastIdx 45 s with
  | some (k + 1) => (s.take (k + 1), s.drop (k + 2))
  | _ => ([], s)
theorem decode_parts (s : Bs) : Hs.decode s = if 1024 < s.length then .error 3 else if s.any (fun b => decide (128 ≤ b.toNat)) then .error 4 else if 256 < (decParts s).1.length then .error 3 else decLoop (decParts s).2.length { rest := (decParts s).2, pts := (decParts s).1.map (·.toNat), n := 128, i := 0, bias := 72, started := false } := rfl
theorem decode_bd {l : Bs} {pts : List Nat} (h : Hs.decode l = .ok pts) : pts.length ≤ 256 ∧ ∀ p ∈ pts, p ≤ 1114111 := by
  rw [decode_parts] at h
  by_cases h1 : 1024 < l.length
  · rw [if_pos h1] at h; cases h
  rw [if_neg h1] at h
  by_cases h2 : l.any (fun b => decide (128 ≤ b.toNat)) = true
  · rw [if_pos h2] at h; cases h
  rw [if_neg h2] at h
  generalize decParts l = p at h
  by_cases h3 : 256 < p.1.length
  · rw [if_pos h3] at h; cases h
  rw [if_neg h3] at h
  exact decLoop_bd _ _ _ (by simp; omega) (u8_map_le p.1) h
theorem decode_e {l : Bs} {e : Nat} (h : Hs.decode l = .error e) : e = 2 ∨ e = 3 ∨ e = 4 ∨ e = 19 := by
  rw [decode_parts] at h
  by_cases h1 : 1024 < l.length
  · rw [if_pos h1] at h; injection h with h; omega
  rw [if_neg h1] at h
  by_cases h2 : l.any (fun b => decide (128 ≤ b.toNat)) = true
  · rw [if_pos h2] at h; injection h with h; omega
  rw [if_neg h2] at h
  generalize decParts l = p at h
  by_cases h3 : 256 < p.1.length
  · rw [if_pos h3] at h; injection h with h; omega
  rw [if_neg h3] at h
  exact decLoop_e _ _ _ h
theorem encode_e {l : List Nat} {e : Nat} (h : encode l = .error e) : e = 2 ∨ e = 3 := by
  unfold encode at h
  by_cases h1 : 256 < l.length
  · rw [if_pos h1] at h; injection h with h; omega
  rw [if_neg h1] at h
  by_cases h2 : l.all point = true
  · rw [if_pos h2] at h; cases h
  · rw [if_neg h2] at h; injection h with h; omega
theorem mk_eq (t : Bs) (s : ByteArray) : decide ((mk t).data.toList = s.data.toList) = (t == s.data.toList) := by
  rw [Bool.eq_iff_iff, decide_eq_true_iff, beq_iff_eq]; rfl
theorem u8_ne45 {b : UInt8} (h : ¬ b = 45) : ((b.toNat : Int) == 45) = false := by
  rw [beq_eq_false_iff_ne]
  intro e
  exact h (UInt8.toNat_inj.1 (show b.toNat = 45 by omega))
def upper (p : Nat) : Bool := decide (65 ≤ p ∧ p ≤ 90)
theorem all_snoc {l : List Nat} {k : Nat} (hk : k < l.length) (f : Nat → Bool) : (l.take (k + 1)).all f = ((l.take k).all f && f l[k]) := by
  rw [take_at hk, List.all_append]; simp
theorem proper_upper {s : Bs} {pts : List Nat} (hd : Hs.decode s = .ok pts) {k : Nat} (hk : k < pts.length) (h : 65 ≤ pts[k] ∧ pts[k] ≤ 90) : proper s = false := by
  unfold proper
  rw [hd]
  have : pts.all (fun p => !decide (65 ≤ p ∧ p ≤ 90)) = false := by
    rw [List.all_eq_false]
    exact ⟨pts[k], List.getElem_mem hk, by simp; omega⟩
  simp only [this, Bool.false_and]
theorem not_all_lt (l : List Nat) : l.any (fun p => decide (128 ≤ p)) = !(l.all (fun p => decide (p < 128))) := by
  rw [List.not_all_eq_any_not]
  congr 1
  funext p
  rw [Bool.eq_iff_iff]; simp
theorem proper_end {s : Bs} {pts : List Nat} (hd : Hs.decode s = .ok pts) (hu : pts.all (fun p => !decide (65 ≤ p ∧ p ≤ 90)) = true) {b : Bool} (hb : b = pts.all (fun p => decide (p < 128))) :
    proper s = (!b && (match encode pts with | .ok t => t == s | .error _ => false)) := by
  unfold proper
  rw [hd]
  simp only
  rw [hu, not_all_lt, hb, Bool.true_and]
  rfl
set_option maxRecDepth 100000 in
set_option maxHeartbeats 2000000 in
theorem proper_c (s : ByteArray) (w : World) (hs : s.size ≤ 1000000) :
    Calls Tryz.prog 60 #[.string s] w fun e w' => e = .returned (.bool (proper s.data.toList)) ∧ Gr w w' := by
  rcases hd : Hs.decode s.data.toList with k | pts
  · have HP := Lib.hid (show proper s.data.toList = false by unfold proper; rw [hd])
    have HD := Lib.hid hd
    have hk : ¬ (k : Int) = 0 := by have := decode_e hd; omega
    clear hd
    go_enter Tryz.func60, Tryz.ntmps60
    go_wp2_with (go_at_call 94; refine (decode_c s _ hs).mono ?_; rintro e w1 ⟨hp, hG⟩; rw [HD.out] at hp; obtain rfl := (show e = .returned (.tuple #[.slice none 0 0, .int .i64 k]) from hp.out))
    go_ret
    exact ⟨by rw [HP.out]; rfl, hG⟩
  · obtain ⟨hl, hpb⟩ := decode_bd hd
    have HD := Lib.hid hd
    have HPB := Lib.hid hpb
    have HU := Lib.hid (fun (k : Nat) (hk : k < pts.length) h => proper_upper hd hk h)
    have HE := Lib.hid (fun hu (b : Bool) (hb : b = pts.all (fun p => decide (p < 128))) => proper_end hd hu hb)
    clear hd hpb
    go_enter Tryz.func60, Tryz.ntmps60
    go_wp2_with (go_at_call 94; refine (decode_c s _ hs).mono ?_; rintro e w1 ⟨hp, hG⟩; rw [HD.out] at hp; obtain ⟨A, n, c, rfl, rfl, hown⟩ := (show ∃ A n c, e = .returned (.tuple #[.slice A n c, .int .i64 0]) ∧ n = pts.length ∧ OwnR w1 w.heap.size 3 1 A n c (natsV pts) from hp.out); clear hp)
    go_loop [5, 18] (fun v5 v18 => ∃ (k : Nat) (bb : Bool), k ≤ pts.length ∧ v18 = .int .i64 k ∧ v5 = .bool bb ∧ Hid (bb = (pts.take k).all (fun p => decide (p < 128))) ∧ Hid ((pts.take k).all (fun p => !decide (65 ≤ p ∧ p ≤ 90)) = true)) (fun _ v => pts.length - (intOf v).toNat)
    case atStart => exact ⟨0, true, by omega, rfl, rfl, rfl, rfl⟩
    case round =>
      obtain ⟨k, bb, hk, rfl, rfl, hbb, hup⟩ := hrel
      by_cases hlt : k < pts.length
      · obtain ⟨b, off, rfl, hb, hcell⟩ := hown.rd.nat_at hlt
        have H1 := Lib.hid (all_snoc hlt (fun p => decide (p < 128)))
        have H2 := Lib.hid (all_snoc hlt (fun p => !decide (65 ≤ p ∧ p ≤ 90)))
        have H3 := Lib.hid (HU.out k hlt)
        have hpk := HPB.out _ (List.getElem_mem hlt)
        generalize pts[k] = p at *
        cases bb <;> go_wp2_with fail
        all_goals first
          | (go_ret; exact ⟨by rw [H3.out (by omega)]; rfl, hG⟩)
          | (go_round
             case rel => exact ⟨k + 1, _, by omega, by go_num, rfl, (by show _ = _; rw [H1.out, ← hbb.out, Bool.eq_iff_iff]; simp; try omega), (by show _ = _; rw [H2.out, hup.out]; simp; omega)⟩
             case measure => simp [intOf]; omega)
      · obtain rfl : k = pts.length := by omega
        have hbb' := hbb.out
        have hup' := hup.out
        rw [List.take_length] at hbb' hup'
        have HP := Lib.hid (HE.out hup' bb hbb')
        rcases hen : encode pts with k | t
        · have hk0 : ¬ (k : Int) = 0 := by have := encode_e hen; omega
          have hc : ∀ (w' : World), Rd w' A pts.length 1 (natsV pts) → Calls Tryz.prog 95 #[.slice A pts.length c] w' fun e w2 => e = .returned (.tuple #[.string ByteArray.empty, .int .i64 k]) ∧ Gr w' w2 := fun w' hr => by
            have := encode_c pts A c w' hr (by omega) (fun p hp => by have := HPB.out p hp; omega)
            rw [hen] at this
            exact this
          have HC := Lib.hid hc
          have HF := Lib.hid (show proper s.data.toList = false by rw [HP.out, hen]; simp)
          clear hen hbb' hup' hbb hup HP hc
          cases bb <;> go_wp2_with (go_at_call 95; refine (HC.out _ hown.rd).mono ?_; rintro e w2 ⟨rfl, hG2⟩)
          all_goals go_ret
          all_goals exact ⟨by rw [HF.out]; rfl, hG.trans hG2⟩
        · have hc : ∀ (w' : World), Rd w' A pts.length 1 (natsV pts) → Calls Tryz.prog 95 #[.slice A pts.length c] w' fun e w2 => e = .returned (.tuple #[.string (mk t), .int .i64 0]) ∧ Gr w' w2 := fun w' hr => by
            have := encode_c pts A c w' hr (by omega) (fun p hp => by have := HPB.out p hp; omega)
            rw [hen] at this
            exact this
          have HC := Lib.hid hc
          have HF := Lib.hid (show proper s.data.toList = (!bb && (t == s.data.toList)) by rw [HP.out, hen])
          have HS := Lib.hid (str_beq (mk t) s)
          clear hen hbb' hup' hbb hup HP hc
          cases bb <;> go_wp2_with (go_at_call 95; refine (HC.out _ hown.rd).mono ?_; rintro e w2 ⟨rfl, hG2⟩)
          all_goals go_ret
          all_goals refine ⟨ret_bool ?_, hG.trans hG2⟩
          all_goals rw [HF.out]
          all_goals first | rfl | (rw [HS.out, mk_eq]; rfl)
end Go.Proofs.YtcicefifmkjffaaGreatDoor
