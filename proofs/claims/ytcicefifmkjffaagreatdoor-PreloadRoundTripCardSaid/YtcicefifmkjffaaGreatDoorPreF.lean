/- preload.Format, Len, Entries. -/
import Derived.Test.YtcicefifmkjffaaGreatDoorPreN
import Derived.Test.YtcicefifmkjffaaGreatDoorBld
namespace Go.Proofs.YtcicefifmkjffaaGreatDoor
open Go Go.RowKit Hs
theorem newList_ok {l s : List Entry} (h : newList l = .ok s) : s = sortE l ∧ l.length ≤ 1000 ∧ (l.map (·.1)).Nodup ∧ (∀ x ∈ l, validName x.1 = true) := by
  unfold newList at h
  by_cases h1 : 1000 < l.length
  · rw [if_pos h1] at h; cases h
  rw [if_neg h1] at h
  by_cases h2 : l.all (fun x => validName x.1) = false
  · rw [if_pos h2] at h; cases h
  rw [if_neg h2] at h
  by_cases h3 : (l.map (·.1)).Nodup
  · rw [if_pos h3] at h; injection h with h
    exact ⟨h.symm, by omega, h3, fun x hx => List.all_eq_true.1 (eq_true_of_ne_false h2) x hx⟩
  · rw [if_neg h3] at h; cases h
theorem isB_gr {B b : Nat} {l : Bs} {w w' : World} (h : IsB B b l w) (hg : Gr w w') : IsB B b l w' := by
  have key : ∀ p, Lib.BuilderAt 55 5 B b p (Lib.byteCells l) w → Lib.BuilderAt 55 5 B b p (Lib.byteCells l) w' := by
    rintro p ⟨hB, v, hb, hown, hne⟩
    refine ⟨hB, v, (hg.block b (Array.getElem?_eq_some_iff.1 hb).1).trans hb, ?_, hne⟩
    refine ⟨hown.1, ?_⟩
    rcases hown.2 with h2 | ⟨g, cap, cur, hv, hbb, hh, r⟩
    · exact .inl h2
    · exact .inr ⟨g, cap, cur, hv, hbb, (hg.block g (Array.getElem?_eq_some_iff.1 hh).1).trans hh, r⟩
  exact h.imp (key _) (key _)
theorem isB_new (w : World) : IsB w.heap.size w.heap.size [] (w.alloc (.cells #[.pointer none, .slice none 0 0] 55)) :=
  .inl ⟨Nat.le_refl _, _, World.alloc_heap_new w _, World.ownsRow_nil _ _ _ _, by simp [Value.ownBlock]⟩
def flagB : Bs := [32, 105, 110, 99, 108, 117, 100, 101, 45, 115, 117, 98, 100, 111, 109, 97, 105, 110, 115]
theorem formatE_snoc (l : List Entry) (x : Entry) : formatE (l ++ [x]) = formatE l ++ (x.1 ++ (if x.2 then flagB else []) ++ [10]) := by
  simp [formatE, flagB]
theorem formatE_le : ∀ l : List Entry, (∀ x ∈ l, x.1.length ≤ 1000000) → (formatE l).length ≤ l.length * 1000100
  | [], _ => by simp [formatE]
  | x :: r, h => by
    have ih := formatE_le r (fun y hy => h y (by simp [hy]))
    have hx := h x (by simp)
    have : formatE (x :: r) = (x.1 ++ (if x.2 then flagB else []) ++ [10]) ++ formatE r := by simp [formatE, flagB]
    rw [this, List.length_append, List.length_append, List.length_append]
    have : (if x.2 then flagB else []).length ≤ 19 := by split <;> simp [flagB]
    show x.1.length + (if x.2 then flagB else []).length + 1 + (formatE r).length ≤ (r.length + 1) * 1000100
    omega
def fmtV (r : Except Nat (List Entry)) : Value := match r with
  | .error k => .tuple #[.string ByteArray.empty, .int .i64 k]
  | .ok s => .tuple #[.string (mk (formatE s)), .int .i64 0]
theorem newList_err {l : List Entry} {k : Nat} (h : newList l = .error k) : k = 3 ∨ k = 14 ∨ k = 17 := by
  unfold newList at h
  split at h
  · injection h with h; omega
  split at h
  · injection h with h; omega
  split at h
  · cases h
  · injection h with h; omega
set_option maxRecDepth 100000 in
set_option maxHeartbeats 1000000 in
theorem format_c (l : List Entry) (A : Option Addr) (c : Nat) (w : World) (hE : Env w) (hA : At w A) (hrd : Rd w A l.length 2 (entsV l)) (hl : l.length ≤ 1000000) (hsz : ∀ x ∈ l, x.1.length ≤ 1000000) :
    Calls Tryz.prog 10 #[.slice A l.length c] w fun e w' => e = .returned (fmtV (newList l)) ∧ Gr w w' := by
  have HC := Lib.hid (new_c l A c w hE hA hrd hl hsz)
  rcases hn : newList l with k | s
  · have hk := newList_err hn
    have hk0 : ¬ (k : Int) = 0 := by omega
    rw [hn] at HC
    clear hn hE hA hrd hsz hk
    go_enter Tryz.func10, Tryz.ntmps10
    go_wp2_with fail
    refine HC.out.mono ?_
    rintro e w1 ⟨hp, hG⟩
    obtain rfl : e = .returned (.tuple #[.pointer none, .int .i64 k]) := hp.out
    clear hp
    go_wp2_with fail
    go_ret2
    exact ⟨rfl, hG⟩
  · have hok := newList_ok hn
    have hss : ∀ x ∈ s, x.1.length ≤ 1000000 := fun x hx => hsz x ((sortE_perm l).subset (hok.1 ▸ hx))
    have hsl : s.length ≤ 1000 := by rw [hok.1, (sortE_perm l).length_eq]; exact hok.2.1
    have HSS := Lib.hid hss
    rw [hn] at HC
    clear hn hE hA hrd hsz hok hss
    go_enter Tryz.func10, Tryz.ntmps10
    go_wp2_with fail
    refine HC.out.mono ?_
    rintro e w1 ⟨hp, hG⟩
    obtain ⟨p, A', n, c', rfl, hn, hpb, hcb, hown⟩ := hp.out
    clear hp HC
    have k0 : w1.cell? ⟨p, 0, none⟩ = some (.slice A' n c') := hcb.cell 0
    have hlt := hcb.lt
    have HN := Lib.hid hn
    have hnl : n ≤ 1000 := by omega
    clear hn
    go_wp2_with fail
    go_loopw [22] (fun v22 wr => ∃ k : Nat, k ≤ n ∧ v22 = .int .i64 k ∧ Gr w1 wr ∧ IsB w1.heap.size w1.heap.size (formatE (s.take k)) wr) (fun v22 _ => n - (intOf v22).toNat)
    case atStart => exact ⟨0, by omega, rfl, (Gr.refl _).alloc _, isB_new _⟩
    case round =>
      obtain ⟨k, hk, rfl, hG1, hB⟩ := hrel
      by_cases hkn : k < n
      · obtain ⟨x, hx⟩ : ∃ x, s[k]? = some x := ⟨_, List.getElem?_eq_getElem (by have := HN.out; omega)⟩
        obtain ⟨g, rfl, hg, c1, c2⟩ := own_ent (hown.gr hG1) hx hkn
        have hbd := formatE_le (s.take k) (fun y hy => HSS.out y (List.mem_of_mem_take hy))
        have hxb := HSS.out x (List.mem_of_getElem? hx)
        have htk : (s.take k).length ≤ 1000 := by rw [List.length_take]; omega
        have hsn := formatE_snoc (s.take k) x
        rw [show s.take k ++ [x] = s.take (k + 1) by rw [List.take_add_one, hx]; rfl] at hsn
        have HSN := Lib.hid hsn
        have hb2 : (formatE (s.take k)).length ≤ 1100000000 := by omega
        clear hsn hbd htk hx
        generalize formatE (s.take k) = t at *
        obtain ⟨x1, x2⟩ := x
        have hsz1 := hG1.size
        have hbox : ∀ w2, KeepB (wr.alloc (.cells #[.string (mk x1), .bool x2] 36)) w2 → w2.cell? ⟨wr.heap.size, 1, none⟩ = some (.bool x2) := fun w2 hk => by
          have := hk wr.heap.size _ _ _ (CB.new wr 36 _) (by decide) (by decide)
          exact CB.cell (t := 36) this 1
        have HBX := Lib.hid hbox
        clear hbox
        have hxs : (mk x1).size ≤ 1000000 := hxb
        have hB1 : w1.heap.size ≤ (wr.alloc (.cells #[.string (mk x1), .bool x2] 36)).heap.size := ((hG1.alloc _).size)
        cases x2
        · go_wp2_with fail
          refine (bstr_c w1.heap.size _ t (mk x1) _ (isB_gr hB ((Gr.refl wr).alloc _)) (by omega) hB1).mono ?_
          rintro e w2 ⟨rfl, hB2, hbl2, hk2⟩
          have hbx := HBX.out w2 hk2
          have hG2 : Gr w1 w2 := Below.trans (hG1.alloc _) hbl2
          go_wp2_with fail
          refine (bbyte_c w1.heap.size _ _ 10 _ hB2 (by rw [List.length_append, list_len]; omega) hG2.size).mono ?_
          rintro e w3 ⟨rfl, hB3, hbl3, _⟩
          go_wp2_with fail
          go_roundw
          case rel => exact ⟨k + 1, by omega, by go_num, Below.trans hG2 hbl3, by rw [HSN.out]; simpa using hB3⟩
          case measure => simp [intOf]; omega
        · go_wp2_with fail
          refine (bstr_c w1.heap.size _ t (mk x1) _ (isB_gr hB ((Gr.refl wr).alloc _)) (by omega) hB1).mono ?_
          rintro e w2 ⟨rfl, hB2, hbl2, hk2⟩
          have hbx := HBX.out w2 hk2
          have hG2 : Gr w1 w2 := Below.trans (hG1.alloc _) hbl2
          go_wp2_with fail
          refine (bstr_c w1.heap.size _ _ _ _ hB2 ?_ hG2.size).mono ?_
          · rw [List.length_append, list_len]; change _ + 19 ≤ _; omega
          rintro e w4 ⟨rfl, hB4, hbl4, _⟩
          have hG4 : Gr w1 w4 := Below.trans hG2 hbl4
          go_wp2_with fail
          refine (bbyte_c w1.heap.size _ _ 10 _ hB4 (by rw [List.length_append, List.length_append, list_len]; change _ + 19 + 1 ≤ _; omega) hG4.size).mono ?_
          rintro e w3 ⟨rfl, hB3, hbl3, _⟩
          go_wp2_with fail
          go_roundw
          case rel => exact ⟨k + 1, by omega, by go_num, Below.trans hG4 hbl3, by rw [HSN.out]; simpa [flagB] using hB3⟩
          case measure => simp [intOf]; omega
      · obtain rfl : k = n := by omega
        rw [List.take_of_length_le (by have := HN.out; omega)] at hB
        go_wp2_with fail
        refine (Tryz.Builder_String_any w1.heap.size _ _ _ hB hG1.size).mono ?_
        rintro e w2 ⟨rfl, hb2⟩
        go_wp2_with fail
        go_ret2
        exact ⟨rfl, hG.trans (Below.trans hG1 hb2)⟩
theorem len_c (p n c : Nat) (A : Option Addr) (w : World) (h : CB w p 51 #[.slice A n c]) : Calls Tryz.prog 14 #[.pointer (some ⟨p, 0, none⟩)] w fun e w' => e = .returned (.int .i64 n) ∧ w = w' := by
  have k0 : w.cell? ⟨p, 0, none⟩ = some (.slice A n c) := h.cell 0
  go_enter Tryz.func14, Tryz.ntmps14
  go_wp2_with fail
  go_ret
  exact ⟨rfl, rfl⟩
theorem entries_c (p c : Nat) (A : Option Addr) (l : List Entry) (w : World) (h : CB w p 51 #[.slice A l.length c]) (hA : At w A) (hrd : Rd w A l.length 2 (entsV l)) (hl : l.length ≤ 1000000) : Calls Tryz.prog 13 #[.pointer (some ⟨p, 0, none⟩)] w fun e w' => ∃ A' c', e = .returned (.slice A' l.length c') ∧ OwnR w' w.heap.size 36 2 A' l.length c' (entsV l) ∧ Gr w w' := by
  have k0 : w.cell? ⟨p, 0, none⟩ = some (.slice A l.length c) := h.cell 0
  go_enter Tryz.func13, Tryz.ntmps13
  go_wp2_with fail
  refine (clone_c l A c w hA hrd hl).mono ?_
  rintro e w1 ⟨A', c', rfl, hown, hG⟩
  go_wp2_with fail
  go_ret
  exact ⟨A', c', rfl, hown, hG⟩
end Go.Proofs.YtcicefifmkjffaaGreatDoor
