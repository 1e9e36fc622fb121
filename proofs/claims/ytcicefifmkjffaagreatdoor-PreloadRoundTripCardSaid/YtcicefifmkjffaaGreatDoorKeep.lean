/- keep.SmallEntries, keep.Entries. -/
import Derived.Test.YtcicefifmkjffaaGreatDoorFind
import Derived.Laws.StructEq
namespace Go.Proofs.YtcicefifmkjffaaGreatDoor
open Go Go.RowKit Hs
def smallE (l : List Entry) (m : Nat) : Bool := decide (l.length ≤ m) && l.all (fun x => decide (x.1.length ≤ 300))
theorem small_c (l : List Entry) (m : Nat) (A : Option Addr) (n c : Nat) (w : World) (hn : Hid (n = l.length)) (hrd : Rd w A l.length 2 (entsV l)) (hm : m ≤ 1000000) :
    Calls Tryz.prog 5 #[.slice A n c, .int .i64 m] w fun e w' => e = .returned (.bool (smallE l m)) ∧ w = w' := by
  by_cases h1 : m < n
  · have HN := Lib.hid (show smallE l m = false by unfold smallE; rw [decide_eq_false (by have := hn.out; omega)]; rfl)
    go_enter Tryz.func5, Tryz.ntmps5
    go_wp2_with fail
    go_ret
    exact ⟨by rw [HN.out]; rfl, rfl⟩
  have HL := Lib.hid (show smallE l m = l.all (fun x => decide (x.1.length ≤ 300)) by unfold smallE; rw [decide_eq_true (by have := hn.out; omega), Bool.true_and])
  have HR := Lib.hid hrd
  clear hrd
  go_enter Tryz.func5, Tryz.ntmps5
  go_wp2_with fail
  go_loopw [5] (fun v5 wr => wr = w ∧ ∃ k : Nat, k ≤ n ∧ v5 = .int .i64 k ∧ Hid (∀ x ∈ l.take k, x.1.length ≤ 300)) (fun v5 _ => n - (intOf v5).toNat)
  case atStart => exact ⟨rfl, 0, by omega, rfl, by intro x hx; simp at hx⟩
  case round =>
    obtain ⟨rfl, k, hk, rfl, hA⟩ := hrel
    by_cases hkn : k < n
    · obtain ⟨x, hx⟩ : ∃ x, l[k]? = some x := ⟨_, List.getElem?_eq_getElem (by have := hn.out; omega)⟩
      obtain ⟨b, off, rfl, hb, c1, c2⟩ := rd_ent HR.out hx (by have := hn.out; omega)
      have HX := Lib.hid hx
      have hx1 : (mk x.1).size = x.1.length := mk_size _
      clear hx
      by_cases h3 : 300 < (mk x.1).size
      · go_wp2_with fail
        go_ret
        exact ⟨by rw [HL.out, List.all_eq_false.2 ⟨x, List.mem_of_getElem? HX.out, by simp; omega⟩]; rfl, rfl⟩
      · go_wp2_with fail
        go_roundw
        case rel =>
          refine ⟨trivial, k + 1, by omega, by go_num, fun y hy => ?_⟩
          rw [List.take_add_one, HX.out, List.mem_append] at hy
          rcases hy with hy | hy
          · exact hA.out y hy
          · simp at hy; subst hy; omega
        case measure => simp [intOf]; omega
    · obtain rfl : k = n := by omega
      go_wp2_with fail
      go_ret
      refine ⟨?_, rfl⟩
      rw [HL.out, List.all_eq_true.2 (fun x hx => ?_)]
      · rfl
      · have := hA.out x (by rw [hn.out, List.take_length]; exact hx)
        simpa using this
theorem ent_fs : ((Program.fieldsOf Tryz.prog 36).toList.map fun f => (f.name == "_", f.type, f.offset)) = [(false, 9, 0), (false, 4, 1)] := by kernel_rfl
theorem run_neq_ent (x y : Entry) (w : World) : (binOp .neq 36 (.agg #[.string (mk x.1), .bool x.2]) (.agg #[.string (mk y.1), .bool y.2])).run Tryz.prog w = .ok (.bool (!decide (x = y))) w := by
  obtain ⟨f, g, hfs, hf, hg⟩ : ∃ f g, (Program.fieldsOf Tryz.prog 36).toList = [f, g] ∧ (f.name == "_", f.type, f.offset) = (false, 9, 0) ∧ (g.name == "_", g.type, g.offset) = (false, 4, 1) := by
    have h := ent_fs
    rcases hq : (Program.fieldsOf Tryz.prog 36).toList with _ | ⟨f, _ | ⟨g, _ | ⟨_, r⟩⟩⟩ <;> rw [hq] at h <;> simp only [List.map_cons, List.map_nil, List.cons.injEq, reduceCtorEq, and_false] at h
    exact ⟨f, g, rfl, h.1, h.2.1⟩
  simp only [Prod.mk.injEq, beq_eq_false_iff_ne, ne_eq] at hf hg
  rw [run_neq_struct, run_equalIn_agg w 9999 36 _ _ (by kernel_rfl) (by kernel_rfl), hfs]
  obtain ⟨x1, x2⟩ := x
  obtain ⟨y1, y2⟩ := y
  have hp1 : ∀ (a : Bs) (b : Bool), (part 9 #[.string (mk a), .bool b] 0).run Tryz.prog w = .ok (.string (mk a)) w := fun a b => by simp [go_sem]
  have hp2 : ∀ (a : Bs) (b : Bool), (part 4 #[.string (mk a), .bool b] 1).run Tryz.prog w = .ok (.bool b) w := fun a b => by simp [go_sem]
  have he1 : (Op.equalIn 9999 9 (.string (mk x1)) (.string (mk y1))).run Tryz.prog w = .ok ((mk x1).toList == (mk y1).toList) w := run_equalIn_string (P := Tryz.prog) w 9998 9 (mk x1) (mk y1) (by kernel_rfl)
  have he2 : (Op.equalIn 9999 4 (.bool x2) (.bool y2)).run Tryz.prog w = .ok (x2 == y2) w := run_equalIn_bool' (P := Tryz.prog) w 9998 4 x2 y2 (by kernel_rfl)
  simp only [Op.eqFields, hf, hg, ne_eq, not_false_eq_true, if_true, Sem.run_bind, hp1, hp2, Result.andThen_ok, he1, he2, Bool.not_eq_true', Sem.run_ite, Sem.run_pure]
  rcases heq : ((mk x1).toList == (mk y1).toList) with _ | _
  · have : x1 ≠ y1 := by rintro rfl; simp at heq
    simp [this]
  · have : x1 = y1 := by
      have := eq_of_beq heq
      rwa [ByteArray.toList_eq, ByteArray.toList_eq, mk_list, mk_list] at this
    subst this
    cases x2 <;> cases y2 <;> simp
theorem run_guard_ent (o o' : Operand) (xs ys : Array Value) (w : World) : (eqGuard .neq 36 o o' (.agg xs) (.agg ys)).run Tryz.prog w = .ok () w := run_eqGuard_agg w _ _ _ _ _ _ (by kernel_rfl)
attribute [local go_sem ↓] run_neq_ent run_guard_ent
theorem ents_c (l m : List Entry) (A A' : Option Addr) (n c n' c' : Nat) (w : World) (hn : Hid (n = l.length)) (hn' : Hid (n' = m.length)) (hrd : Rd w A l.length 2 (entsV l)) (hrd' : Rd w A' m.length 2 (entsV m)) (hm : n ≤ 1000000) :
    Calls Tryz.prog 12 #[.slice A n c, .slice A' n' c'] w fun e w' => e = .returned (.bool (decide (l = m))) ∧ Gr w w' := by
  by_cases h1 : n = n'
  · subst h1
    have HR := Lib.hid hrd
    have HR' := Lib.hid hrd'
    clear hrd hrd'
    go_enter Tryz.func12, Tryz.ntmps12
    go_wp2_with fail
    go_loopw [5] (fun v5 wr => Gr w wr ∧ ∃ k : Nat, k ≤ n ∧ v5 = .int .i64 k ∧ Hid (l.take k = m.take k)) (fun v5 _ => n - (intOf v5).toNat)
    case atStart => exact ⟨Gr.refl _, 0, by omega, rfl, rfl⟩
    case round =>
      obtain ⟨hG, k, hk, rfl, hA⟩ := hrel
      by_cases hkn : k < n
      · obtain ⟨x, hx⟩ : ∃ x, l[k]? = some x := ⟨_, List.getElem?_eq_getElem (by have := hn.out; omega)⟩
        obtain ⟨y, hy⟩ : ∃ y, m[k]? = some y := ⟨_, List.getElem?_eq_getElem (by have := hn'.out; omega)⟩
        obtain ⟨b, off, rfl, hb, c1, c2⟩ := rd_ent (HR.out.gr hG) hx (by have := hn.out; omega)
        obtain ⟨b', off', rfl, hb', d1, d2⟩ := rd_ent (HR'.out.gr hG) hy (by have := hn'.out; omega)
        have HX := Lib.hid hx
        have HY := Lib.hid hy
        clear hx hy
        by_cases hxy : x = y
        · have HD := Lib.hid (show (!decide (x = y)) = false by rw [decide_eq_true hxy]; rfl)
          have HE := Lib.hid hxy
          clear hxy
          go_wp2_with fail
          go_quiet (fail)
          rw [HD.out]
          go_wp2_with fail
          go_roundw
          case rel => exact ⟨hG.drewN _, k + 1, by omega, by go_num, by rw [List.take_add_one, List.take_add_one, hA.out, HX.out, HY.out, HE.out]; rfl⟩
          case measure => simp [intOf]; omega
        · have HD := Lib.hid (show (!decide (x = y)) = true by rw [decide_eq_false hxy]; rfl)
          have HN := Lib.hid (show decide (l = m) = false by rw [decide_eq_false]; rintro rfl; exact hxy (Option.some.inj (HX.out.symm.trans HY.out)))
          clear hxy
          go_wp2_with fail
          go_quiet (fail)
          rw [HD.out]
          go_wp2_with fail
          go_ret
          exact ⟨by rw [HN.out]; rfl, hG.drewN _⟩
      · obtain rfl : k = n := by omega
        go_wp2_with fail
        go_ret
        refine ⟨?_, hG⟩
        have := hA.out
        rw [hn.out, List.take_length] at this
        rw [decide_eq_true (by rw [this, ← hn.out, hn'.out, List.take_length])]
        rfl
  · have HN := Lib.hid (show decide (l = m) = false by rw [decide_eq_false]; rintro rfl; exact h1 (hn.out.trans hn'.out.symm))
    go_enter Tryz.func12, Tryz.ntmps12
    go_wp2_with fail
    go_ret
    exact ⟨by rw [HN.out]; rfl, Gr.refl _⟩
end Go.Proofs.YtcicefifmkjffaaGreatDoor
