/- (*preload.List).Find. -/
import Derived.Test.YtcicefifmkjffaaGreatDoorGet
import Derived.Test.YtcicefifmkjffaaGreatDoorSup
namespace Go.Proofs.YtcicefifmkjffaaGreatDoor
open Go Go.RowKit Hs
attribute [local go_sem] Oper.semAt_some
def upE (l : List Entry) (r : Bs) : Option Entry := match findE l r with | some x => if x.2 then some x else none | none => none
def findUp (l : List Entry) (n : Bs) : Option Entry := match findE l n with | some x => some x | none => (supers n).findSome? (upE l)
theorem supers_size {s x : ByteArray} (h : x ∈ supersB s) : x.size ≤ s.size := by
  have key : ∀ (f : Nat) (l r : Bs), r ∈ supersF f l → r.length ≤ l.length := by
    intro f
    induction f with
    | zero => intro l r h; simp [supersF] at h
    | succ f ih =>
      intro l r h
      unfold supersF at h
      cases hf : find 46 l with
      | none => rw [hf] at h; simp at h
      | some i =>
        rw [hf] at h
        rcases List.mem_cons.1 h with rfl | h
        · rw [List.length_drop]; omega
        · have := ih _ _ h; rw [List.length_drop] at this; omega
  unfold supersB supers at h
  obtain ⟨r, hr, rfl⟩ := List.mem_map.1 h
  split at hr
  · have := key _ _ _ hr; rw [list_len] at this; exact this
  · simp at hr
set_option maxRecDepth 100000 in
set_option maxHeartbeats 4000000 in
theorem find_c (l : List Entry) (s : ByteArray) (p : Nat) (A : Option Addr) (n c : Nat) (w : World) (hE : Env w) (hp : CB w p 51 #[.slice A n c]) (hn : Hid (n = l.length)) (hrd : Rd w A n 2 (entsV l)) (hl : n ≤ 1000000) (hsz : ∀ x ∈ l, x.1.length ≤ 1000000) (hs : s.size ≤ 1000000) (hso : l.Pairwise leE) :
    Calls Tryz.prog 16 #[.pointer (some ⟨p, 0, none⟩), .string s] w fun e w' => e = .returned (getV (findUp l s.data.toList)) ∧ Gr w w' := by
  have HG := Lib.hid (fun (t : ByteArray) (ht : t.size ≤ 1000000) W (hG : Gr w W) => get_c l t p A n c W (hp.gr hG) hn (hrd.gr hG) hl hsz ht hso)
  have HE := Lib.hid hE
  clear hE hp hrd hsz hso
  refine (callsIn_wide (n := 9)).1 ?_
  refine callsIn_of_wp_marks Tryz.func16 rfl trivial ?_ rfl
  simp only [Tryz.ntmps16, List.size_toArray, List.length_cons, List.length_nil, Nat.reduceAdd, Nat.reduceSub, Array.replicate_succ, Array.replicate_zero, List.push_toArray, List.append_toArray, List.nil_append, List.cons_append]
  obtain ⟨w3, hw3⟩ : ∃ w3, ((w.alloc (.cells #[.pointer (some ⟨p, 0, none⟩)] 26)).alloc (.cells #[.string ⟨#[]⟩, .bool false] 36)).alloc (.cells #[.bool false] 4) = w3 := ⟨_, rfl⟩
  have hG3 : Gr w w3 := by rw [← hw3]; exact (((Gr.refl w).alloc _).alloc _).alloc _
  have hA : CB w3 w.heap.size 26 #[.pointer (some ⟨p, 0, none⟩)] := by rw [← hw3]; exact ((CB.new _ _ _).alloc _).alloc _
  have hB : CB w3 (w.heap.size + 1) 36 #[.string ⟨#[]⟩, .bool false] := by rw [← hw3]; have := (CB.new (w.alloc (.cells #[.pointer (some ⟨p, 0, none⟩)] 26)) 36 #[.string ⟨#[]⟩, .bool false]).alloc (.cells #[.bool false] 4); rwa [World.size_alloc] at this
  have hC : CB w3 (w.heap.size + 2) 4 #[.bool false] := by rw [← hw3]; have := CB.new ((w.alloc (.cells #[.pointer (some ⟨p, 0, none⟩)] 26)).alloc (.cells #[.string ⟨#[]⟩, .bool false] 36)) 4 #[.bool false]; rwa [World.size_alloc, World.size_alloc] at this
  have hsz3 : w3.heap.size = w.heap.size + 3 := by rw [← hw3]; simp
  have H1 := Lib.hid (HG.out s hs w3 hG3)
  have k0 : w3.cell? ⟨w.heap.size, 0, none⟩ = some (.pointer (some ⟨p, 0, none⟩)) := hA.cell 0
  rw [← hw3] at k0
  have HW := Lib.hid hw3
  rcases hf : findE l s.data.toList with _ | x
  · have HF := Lib.hid (show findUp l s.data.toList = (supers s.data.toList).findSome? (upE l) by unfold findUp; rw [hf])
    rw [hf] at H1
    clear hf hw3
    gi_wp2_with (first | (refine ⟨trivial, ?_⟩; gi_at_call 33; rw [HW.out]; refine (callsIn_wide.2 H1.out).mono ?_; rintro e w4 ⟨rfl, hG4⟩; dsimp only [getV]) | (refine ⟨trivial, ?_⟩; gi_at_call 34; refine (callsIn_wide.2 (Supers_c s _)).mono ?_; rintro e w5 ⟨rfl, rfl⟩))
    have hG6 : Gr w4 ((w4.alloc (Obj.cells #[.string ByteArray.empty, .bool false] 36)).alloc (.cells #[.string s] 9)) := ((Gr.refl _).alloc _).alloc _
    have hS6 : CB ((w4.alloc (Obj.cells #[.string ByteArray.empty, .bool false] 36)).alloc (.cells #[.string s] 9)) (w4.heap.size + 1) 9 #[.string s] := by have := CB.new (w4.alloc (Obj.cells #[.string ByteArray.empty, .bool false] 36)) 9 #[.string s]; rwa [World.size_alloc] at this
    have hz6 : ((w4.alloc (Obj.cells #[.string ByteArray.empty, .bool false] 36)).alloc (.cells #[.string s] 9)).heap.size = w4.heap.size + 2 := by simp
    generalize ((w4.alloc (Obj.cells #[.string ByteArray.empty, .bool false] 36)).alloc (.cells #[.string s] 9)) = w6 at *
    have hg6 : Gr w w6 := (hG3.trans hG4).trans hG6
    have hA6 := hA.gr (hG4.trans hG6)
    have hB6 := hB.gr (hG4.trans hG6)
    have hC6 := hC.gr (hG4.trans hG6)
    have hzw : w.heap.size + 3 ≤ w4.heap.size := by have := hG4.size; omega
    clear HW k0 H1 hA hB hC hG3 hG4 hG6
    have tCB : ∀ {X Y : World} {b : Nat} {t : TypeId} {cs : Array Value}, b < w4.heap.size → CB X b t cs → Turns (w4.heap.size + 1) (w6.heap.size + 2) X Y → CB Y b t cs := fun hb hX hT => (hT.block _ hX.lt (.inl (by omega))).trans hX
    have tGr : ∀ {X Y : World}, Gr w X → Turns (w4.heap.size + 1) (w6.heap.size + 2) X Y → Gr w Y := fun hX hT => ⟨hT.os.trans hX.os, hT.tape.trans hX.tape, hT.output.trans hX.output, Nat.le_trans hX.size hT.size, fun k hk => (hT.block k (Nat.lt_of_lt_of_le hk hX.size) (.inl (by omega))).trans (hX.block k hk)⟩
    refine wpIn_range_iter rfl (by omega) (gf := 54) (lb := #[.pointer (some ⟨w4.heap.size + 1, 0, none⟩)]) rfl trivial (enters_of Tryz.func54 (by kernel_rfl) rfl)
      (supers1_iter 8 (by omega) (w4.heap.size + 1) s w6 hs hS6) (by omega) (by omega) (Fix.refl _ _ _) (fun _ => rfl)
      (fun pre W => (∀ x ∈ pre, upE l x.data.toList = none) ∧ CB W w.heap.size 26 #[.pointer (some ⟨p, 0, none⟩)] ∧ CB W (w.heap.size + 1) 36 #[.string ⟨#[]⟩, .bool false] ∧ CB W (w.heap.size + 2) 4 #[.bool false] ∧ Gr w W)
      (fun c pre W => c = .ret ∧ ∃ y : Entry, CB W (w.heap.size + 1) 36 #[.string (mk y.1), .bool y.2] ∧ CB W (w.heap.size + 2) 4 #[.bool true] ∧ Gr w W ∧ ∃ pre0 x, pre = pre0 ++ [x] ∧ (∀ z ∈ pre0, upE l z.data.toList = none) ∧ upE l x.data.toList = some y)
      (fun s X Y h hT => ⟨h.1, tCB (by omega) h.2.1 hT, tCB (by omega) h.2.2.1 hT, tCB (by omega) h.2.2.2.1 hT, tGr h.2.2.2.2 hT⟩)
      (fun c s X Y h hT => by obtain ⟨h1, y, h2, h3, h4, h5⟩ := h; exact ⟨h1, y, tCB (by omega) h2 hT, tCB (by omega) h3 hT, tGr h4 hT, h5⟩)
      ⟨fun x h => by simp at h, hA6, hB6, hC6, hg6⟩ (fun pre W h => HE.out.gr h.2.2.2.2)
      (fun x => { tmps := #[.pointer (some ⟨p, 0, none⟩), .string s, .pointer (some ⟨w.heap.size, 0, none⟩), undef, .pointer (some ⟨w.heap.size + 1, 0, none⟩), .pointer (some ⟨w.heap.size + 1 + 1, 0, none⟩), .pointer (some ⟨w4.heap.size, 0, none⟩), .bool false, .string x, undef, undef, .tuple #[.agg #[.string ByteArray.empty, .bool false], .bool false], .pointer (some ⟨p, 0, none⟩), .string s, .tuple #[.agg #[.string ByteArray.empty, .bool false], .bool false], .agg #[.string ByteArray.empty, .bool false], .bool false, .bool false, undef, .string s, .func (.func 54) #[] #[.pointer (some ⟨w4.heap.size + 1, 0, none⟩)], .string x, undef, undef, undef, undef, undef, undef, undef, undef, undef, undef, undef, undef, undef], defers := [] }) ?assign ?body ?done ?stop
    case assign =>
      intro l' x W K hK
      dsimp only [strB]
      gi_wp2
      exact hK
    case body =>
      rintro l' pre x W ⟨hpre, hP, hB, hC, hg⟩ hlen hsp hWs
      have hxs : x.size ≤ 1000000 := by have := supers_size (hsp.subset (show x ∈ pre ++ [x] by simp)); omega
      have k0 : W.cell? ⟨w.heap.size, 0, none⟩ = some (.pointer (some ⟨p, 0, none⟩)) := hP.cell 0
      have HC := Lib.hid (HG.out x hxs W hg)
      have HPR := Lib.hid hpre
      clear hpre
      rcases hfx : findE l x.data.toList with _ | ⟨y1, y2⟩
      · have HX := Lib.hid (show upE l x.data.toList = none by unfold upE; rw [hfx])
        rw [hfx] at HC
        clear hfx
        gi_wp2_with (refine ⟨trivial, ?_⟩; gi_at_call 33; refine (CallsIn.inRound l' (callsIn_wide.2 HC.out)).mono ?_; rintro e w7 ⟨rfl, hG7⟩; dsimp only [getV])
        exact ⟨Fix.gr (hG7.alloc _) hWs, fun z hz => by rcases List.mem_append.1 hz with hz | hz; exact HPR.out z hz; rw [List.mem_singleton] at hz; subst hz; exact HX.out, (hP.gr hG7).alloc _, (hB.gr hG7).alloc _, (hC.gr hG7).alloc _, (hg.trans hG7).alloc _⟩
      · cases y2
        · have HX := Lib.hid (show upE l x.data.toList = none by unfold upE; rw [hfx]; rfl)
          rw [hfx] at HC
          clear hfx
          gi_wp2_with (refine ⟨trivial, ?_⟩; gi_at_call 33; refine (CallsIn.inRound l' (callsIn_wide.2 HC.out)).mono ?_; rintro e w7 ⟨rfl, hG7⟩; dsimp only [getV])
          exact ⟨Fix.gr (hG7.alloc _) hWs, fun z hz => by rcases List.mem_append.1 hz with hz | hz; exact HPR.out z hz; rw [List.mem_singleton] at hz; subst hz; exact HX.out, (hP.gr hG7).alloc _, (hB.gr hG7).alloc _, (hC.gr hG7).alloc _, (hg.trans hG7).alloc _⟩
        · have HX := Lib.hid (show upE l x.data.toList = some (y1, true) by unfold upE; rw [hfx]; rfl)
          rw [hfx] at HC
          clear hfx
          gi_wp2_with (refine ⟨trivial, ?_⟩; gi_at_call 33; refine (CallsIn.inRound l' (callsIn_wide.2 HC.out)).mono ?_; rintro e w7 ⟨rfl, hG7⟩; dsimp only [getV]; have hB4 := hB.gr hG7; have hC4 := hC.gr hG7; have b0 : w7.cell? ⟨w.heap.size + 1, 0, none⟩ = some (.string ⟨#[]⟩) := hB4.cell 0; have b1 : w7.cell? ⟨w.heap.size + 1, 1, none⟩ = some (.bool false) := hB4.cell 1; have f0 := hB4.frozen 0; have f1 := hB4.frozen 1; have c0 : w7.cell? ⟨w.heap.size + 1 + 1, 0, none⟩ = some (.bool false) := hC4.cell 0; have f2 : w7.frozen? ⟨w.heap.size + 1 + 1, 0, none⟩ = false := hC4.frozen 0; have hz4 : w.heap.size + 1 + 1 < w7.heap.size := hC4.lt; have hz5 : w.heap.size + 1 < w7.heap.size := hB4.lt)
          refine ⟨?_, rfl, (y1, true), (((hB4.set 0 (.string (mk y1))).set 1 (.bool true)).far (p := ⟨w.heap.size + 1 + 1, 0, none⟩) (by simp) (.bool true)).alloc _, (((hC4.far (p := ⟨w.heap.size + 1, 0, none⟩) (by simp) (.string (mk y1))).far (p := ⟨w.heap.size + 1, 1, none⟩) (by simp) (.bool true)).set 0 (.bool true)).alloc _, ((((hg.trans hG7).setCell (p := ⟨w.heap.size + 1, 0, none⟩) (by simp) _).setCell (p := ⟨w.heap.size + 1, 1, none⟩) (by simp) _).setCell (p := ⟨w.heap.size + 1 + 1, 0, none⟩) (by simp; omega) _).alloc _, pre, x, rfl, HPR.out, HX.out⟩
          have h7 := Fix.gr (n₁ := w4.heap.size + 1) hG7 hWs
          have hs7 := hG7.size
          have st : ∀ (X : World) (q : Addr) (u : Value), q.block ≤ w4.heap.size → Fix (w4.heap.size + 1) (w6.heap.size + 2) X (X.setCell q u) := fun X q u hq k h1 _ => Below.heap_setCell _ _ _ _ (by omega)
          exact (((h7.trans (st _ _ _ (by show w.heap.size + 1 ≤ _; omega))).trans (st _ _ _ (by show w.heap.size + 1 ≤ _; omega))).trans (st _ _ _ (by show w.heap.size + 1 + 1 ≤ _; omega))).trans (Fix.gr ((Gr.refl _).alloc _) (by simp; omega))
    case done =>
      rintro D ys W hD rfl ⟨hpre, hP, hB, hC, hg⟩ hK
      have HR := Lib.hid (show findUp l s.data.toList = none by rw [HF.out, List.findSome?_eq_none_iff]; intro r hr; have := hpre (mk r) (List.mem_map_of_mem hr); exact this)
      have b0 : W.cell? ⟨w.heap.size + 1, 0, none⟩ = some (.string ⟨#[]⟩) := hB.cell 0
      have b1 : W.cell? ⟨w.heap.size + 1, 1, none⟩ = some (.bool false) := hB.cell 1
      have f0 := hB.frozen 0
      have f1 := hB.frozen 1
      have c0 : W.cell? ⟨w.heap.size + 1 + 1, 0, none⟩ = some (.bool false) := hC.cell 0
      have f2 : W.frozen? ⟨w.heap.size + 1 + 1, 0, none⟩ = false := hC.frozen 0
      clear hpre
      have hDk : ∀ (Y : World) (q : Addr) (u : Value), q.block < w6.heap.size → Y.heap[D]? = some (.deferred (some [])) → (Y.setCell q u).heap[D]? = some (.deferred (some [])) := fun Y q u hq hY => (Below.heap_setCell Y q u D (by omega)).trans hY
      have cbPut : ∀ {X : World} {b : Nat} {t : TypeId} {cs : Array Value} (o : Obj), CB X b t cs → b < w6.heap.size → CB (X.putObj D o) b t cs := fun o h hb => (World.putObj_heap_other (by omega)).trans h
      have grPut : ∀ {X : World} (o : Obj), Gr w X → Gr w (X.putObj D o) := fun o h => h.grown (grownBy_putObj' _ D _) (fun k e => by cases e; omega)
      gi_wp2
      refine ⟨by simp, .inl ⟨_, _, rfl, run_takeDeferred (hDk _ _ _ (by show w.heap.size + 1 + 1 < _; omega) (hDk _ _ _ (by show w.heap.size + 1 < _; omega) (hDk _ _ _ (by show w.heap.size + 1 < _; omega) hK))), ?_⟩⟩
      have r := cbPut (.deferred none) (((hB.set 0 (.string ⟨#[]⟩)).set 1 (.bool false)).far (p := ⟨w.heap.size + 1 + 1, 0, none⟩) (by simp) (.bool false)) (by omega)
      have r' := cbPut (.deferred none) (((hC.far (p := ⟨w.heap.size + 1, 0, none⟩) (by simp) (.string ⟨#[]⟩)).far (p := ⟨w.heap.size + 1, 1, none⟩) (by simp) (.bool false)).set 0 (.bool false)) (by omega)
      have hg5 := grPut (.deferred none) (((hg.setCell (p := ⟨w.heap.size + 1, 0, none⟩) (by simp) (.string ⟨#[]⟩)).setCell (p := ⟨w.heap.size + 1, 1, none⟩) (by simp) (.bool false)).setCell (p := ⟨w.heap.size + 1 + 1, 0, none⟩) (by simp; omega) (.bool false))
      have r0 := r.cell 0
      have r1 := r.cell 1
      have r2 := r'.cell 0
      simp only [List.setIfInBounds_toArray, List.set_cons_zero, List.set_cons_succ, List.getElem?_toArray, List.getElem?_cons_zero, List.getElem?_cons_succ] at r0 r1 r2
      refine ⟨getV none, ?_, by rw [HR.out], hg5⟩
      simp [results, Tryz.f16, go_sem, getV, r0, r1, r2]
      try rfl
    case stop =>
      rintro D c pre W hD hp ⟨rfl, y, hB, hC, hg, pre0, x, rfl, hpre, hx⟩ hK
      have HR := Lib.hid (show findUp l s.data.toList = some y by
        obtain ⟨post, hpost⟩ := hp
        have hm : (supers s.data.toList).findSome? (upE l) = (supersB s).findSome? (fun z => upE l z.data.toList) := by unfold supersB; rw [List.findSome?_map]; rfl
        rw [HF.out, hm, ← hpost, List.append_assoc, List.findSome?_append, (List.findSome?_eq_none_iff).2 hpre]
        simp [hx])
      have cbPut : ∀ {X : World} {b : Nat} {t : TypeId} {cs : Array Value} (o : Obj), CB X b t cs → b < w6.heap.size → CB (X.putObj D o) b t cs := fun o h hb => (World.putObj_heap_other (by omega)).trans h
      have grPut : ∀ {X : World} (o : Obj), Gr w X → Gr w (X.putObj D o) := fun o h => h.grown (grownBy_putObj' _ D _) (fun k e => by cases e; omega)
      gi_wp2
      refine ⟨by simp, .inl ⟨_, _, rfl, run_takeDeferred hK, ?_⟩⟩
      have r := cbPut (.deferred none) hB (by omega)
      have r0 : (W.putObj D (.deferred none)).cell? ⟨w.heap.size + 1, 0, none⟩ = some (.string (mk y.1)) := r.cell 0
      have r1 : (W.putObj D (.deferred none)).cell? ⟨w.heap.size + 1, 1, none⟩ = some (.bool y.2) := r.cell 1
      have r2 : (W.putObj D (.deferred none)).cell? ⟨w.heap.size + 1 + 1, 0, none⟩ = some (.bool true) := (cbPut (.deferred none) hC (by omega)).cell 0
      refine ⟨getV (some y), ?_, by rw [HR.out], grPut _ hg⟩
      simp [results, Tryz.f16, go_sem, getV, r0, r1, r2]
  · have HF := Lib.hid (show findUp l s.data.toList = some x by unfold findUp; rw [hf])
    rw [hf] at H1
    clear hf HG hw3
    gi_wp2_with (refine ⟨trivial, ?_⟩; gi_at_call 33; rw [HW.out]; refine (callsIn_wide.2 H1.out).mono ?_; rintro e w4 ⟨rfl, hG4⟩; dsimp only [getV]; have hB4 := hB.gr hG4; have hC4 := hC.gr hG4; have b0 : w4.cell? ⟨w.heap.size + 1, 0, none⟩ = some (.string ⟨#[]⟩) := hB4.cell 0; have b1 : w4.cell? ⟨w.heap.size + 1, 1, none⟩ = some (.bool false) := hB4.cell 1; have f0 := hB4.frozen 0; have f1 := hB4.frozen 1; have c0 : w4.cell? ⟨w.heap.size + 1 + 1, 0, none⟩ = some (.bool false) := hC4.cell 0; have f2 : w4.frozen? ⟨w.heap.size + 1 + 1, 0, none⟩ = false := hC4.frozen 0; have hz4 : w.heap.size + 1 + 1 < w4.heap.size := hC4.lt; have hz5 : w.heap.size + 1 < w4.heap.size := hB4.lt)
    refine ⟨getV (some x), ?_, by rw [HF.out], ((((hG3.trans hG4).setCell (p := ⟨w.heap.size + 1, 0, none⟩) (by simp) _).setCell (p := ⟨w.heap.size + 1, 1, none⟩) (by simp) _).setCell (p := ⟨w.heap.size + 1 + 1, 0, none⟩) (by simp; omega) _).alloc _⟩
    have r := (((hB4.set 0 (.string (mk x.1))).set 1 (.bool x.2)).far (p := ⟨w.heap.size + 1 + 1, 0, none⟩) (by simp) (.bool true)).alloc (.cells #[.string (mk x.1), .bool x.2] 36)
    have r0 := r.cell 0
    have r1 := r.cell 1
    have r2 := ((((hC4.far (p := ⟨w.heap.size + 1, 0, none⟩) (by simp) (.string (mk x.1))).far (p := ⟨w.heap.size + 1, 1, none⟩) (by simp) (.bool x.2)).set 0 (.bool true)).alloc (.cells #[.string (mk x.1), .bool x.2] 36)).cell 0
    simp only [List.setIfInBounds_toArray, List.set_cons_zero, List.set_cons_succ, List.getElem?_toArray, List.getElem?_cons_zero, List.getElem?_cons_succ] at r0 r1 r2
    simp [results, Tryz.f16, go_sem, getV, r0, r1, r2]
end Go.Proofs.YtcicefifmkjffaaGreatDoor
