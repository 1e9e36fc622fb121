/- preload.Parse, where each line is blank, good, or of a bad second word. -/
import Derived.Test.YtcicefifmkjffaaGreatDoorEntry
import Derived.Test.YtcicefifmkjffaaGreatDoorSup
import Derived.Shelf.RegionOpen
namespace Go.Proofs.YtcicefifmkjffaaGreatDoor
open Go Go.RowKit Hs
attribute [local go_sem] Oper.semAt_some
def cutH (l : Bs) : Bs := match find 35 l with | none => l | some i => l.take i
def cutB (x : ByteArray) : ByteArray := match find 35 x.data.toList with | none => x | some i => x.extract 0 i
theorem cutB_list (x : ByteArray) : (cutB x).data.toList = cutH x.data.toList := by
  unfold cutB cutH
  cases find 35 x.data.toList with
  | none => rfl
  | some i => exact toList_take x i
theorem cutB_size (x : ByteArray) : (cutB x).size ≤ x.size := by
  unfold cutB
  cases find 35 x.data.toList with
  | none => exact Nat.le_refl _
  | some i => simp only [ByteArray.size_extract]; omega
theorem cutB_V (x : ByteArray) : ∃ r m, cutV 35 x = .tuple #[.string (cutB x), .string r, .bool m] := by
  unfold cutV cutB
  cases find 35 x.data.toList with
  | none => exact ⟨_, _, rfl⟩
  | some i => exact ⟨_, _, rfl⟩
abbrev LineR := Option (Except Nat Entry)
def LineOK (l : Bs) (r : LineR) : Prop :=
  (words (cutH l) = [] ∧ r = none) ∨ (∃ x, words (cutH l) = [x] ∧ PlainH x ∧ r = some (.ok (lower (trimDot x), false))) ∨
  (∃ x y, words (cutH l) = [x, y] ∧ PlainH x ∧ lower y = flagL ∧ r = some (.ok (lower (trimDot x), true))) ∨ (∃ x y, words (cutH l) = [x, y] ∧ lower y ≠ flagL ∧ r = some (.error 4))
def EntC (ws : List Bs) (nm : Bs) (sub : Bool) (er : Nat) : Prop := ∀ (W : World) (A : Option Addr) (c B : Nat), EnvU W → OwnR W B 9 1 A ws.length c (strsV ws) → Calls Tryz.prog 32 #[.slice A ws.length c] W fun e w' => e = .returned (entryV nm sub er) ∧ Gr W w'
theorem LineOK.ent {l : Bs} {r : LineR} (h : LineOK l r) (hl : l.length ≤ 65536) : (words (cutH l) = [] ∧ r = none) ∨ (∃ nm sub, 0 < (words (cutH l)).length ∧ (words (cutH l)).length ≤ 2 ∧ EntC (words (cutH l)) nm sub 0 ∧ r = some (.ok (nm, sub))) ∨ (0 < (words (cutH l)).length ∧ (words (cutH l)).length ≤ 2 ∧ EntC (words (cutH l)) [] false 4 ∧ r = some (.error 4)) := by
  have hz : (cutH l).length ≤ l.length := by unfold cutH; split <;> simp; omega
  have hW := (words_le (cutH l)).1
  rcases h with ⟨hw, rfl⟩ | ⟨x, hw, hx, rfl⟩ | ⟨x, y, hw, hx, hy, rfl⟩ | ⟨x, y, hw, hy, rfl⟩
  · exact .inl ⟨hw, rfl⟩
  · rw [hw]; exact .inr (.inl ⟨_, _, by simp, by simp, fun W A c B hE ho => entry1_c x A c B W hE ho hx, rfl⟩)
  · rw [hw] at hW ⊢
    have := hW y (by simp)
    exact .inr (.inl ⟨_, _, by simp, by simp, fun W A c B hE ho => entry2_c x y A c B W hE ho hx (by omega) hy, rfl⟩)
  · rw [hw] at hW ⊢
    have := hW y (by simp)
    exact .inr (.inr ⟨by simp, by simp, fun W A c B hE ho => entry2_bad x y A c B W ho (by omega) hy, rfl⟩)
def Lines (ls : List Bs) (rs : List LineR) : Prop := ls.length = rs.length ∧ ∀ (k : Nat) (l : Bs) (r : LineR), ls[k]? = some l → rs[k]? = some r → LineOK l r
def parseR : List LineR → Nat → List Entry → Except (Nat × Nat) (List Entry)
  | [], _, acc => .ok acc
  | none :: r, k, acc => parseR r (k + 1) acc
  | some (.ok x) :: r, k, acc => parseR r (k + 1) (acc ++ [x])
  | some (.error e) :: _, k, _ => .error (k + 1, e)
def parsePost (W : World) (r : Except (Nat × Nat) (List Entry)) (e : Ending) (w' : World) : Prop := match r with
  | .error (k, m) => e = .returned (.tuple #[.slice none 0 0, .int .i64 k, .int .i64 m])
  | .ok l => ∃ A n c, e = .returned (.tuple #[.slice A n c, .int .i64 0, .int .i64 0]) ∧ n = l.length ∧ OwnR w' W.heap.size 36 2 A n c (entsV l)
theorem own_turns {X Y : World} {B n1 n3 e size n c : Nat} {A : Option Addr} {xs : List Value} (h : OwnR X B e size A n c xs) (hT : Turns n1 n3 X Y) (hB : n3 ≤ B) : OwnR Y B e size A n c xs := by
  refine ⟨h.1, ?_⟩
  rcases h.2 with h2 | ⟨g, cap, cur, hv, hb, hh, r⟩
  · exact .inl h2
  · exact .inr ⟨g, cap, cur, hv, hb, (hT.block g (Array.getElem?_eq_some_iff.1 hh).1 (.inr (by omega))).trans hh, r⟩
theorem own_put {X : World} {B e size n c D : Nat} {A : Option Addr} {xs : List Value} (h : OwnR X B e size A n c xs) {d : Option (List Deferred)} (hD : X.heap[D]? = some (.deferred d)) (o : Obj) : OwnR (X.putObj D o) B e size A n c xs := by
  refine ⟨h.1, ?_⟩
  rcases h.2 with h2 | ⟨g, cap, cur, hv, hb, hh, r⟩
  · exact .inl h2
  · exact .inr ⟨g, cap, cur, hv, hb, (World.putObj_heap_other (by rintro rfl; rw [hD] at hh; cases hh)).trans hh, r⟩
def w8 (w : World) (s : ByteArray) : World := ((((((((w.alloc (Obj.cells #[.slice none 0 0] 22)).alloc (Obj.cells #[.int .i64 0] 3)).alloc (Obj.cells #[.int .i64 0] 27)).alloc (Obj.cells #[.slice none 0 0] 22)).alloc (Obj.cells #[.int .i64 0] 3)).alloc (Obj.cells #[.string s] 9)).alloc (Obj.cells #[.string ⟨#[10]⟩] 9)).alloc (Obj.cells #[.int .i64 0] 3))
theorem w8_size (w : World) (s : ByteArray) : (w8 w s).heap.size = w.heap.size + 8 := by simp [w8]
theorem w8_gr (w : World) (s : ByteArray) : Gr w (w8 w s) := by unfold w8; exact ((((((((Gr.refl w).alloc _).alloc _).alloc _).alloc _).alloc _).alloc _).alloc _).alloc _
theorem cb_new (W : World) (t : TypeId) (cs : Array Value) (b : Nat) (h : b = W.heap.size) : CB (W.alloc (.cells cs t)) b t cs := by subst h; exact CB.new _ _ _
theorem w8_2 (w : World) (s : ByteArray) : CB (w8 w s) w.heap.size 22 #[.slice none 0 0] := by unfold w8; exact (((((((CB.new w _ _).alloc _).alloc _).alloc _).alloc _).alloc _).alloc _).alloc _
theorem w8_3 (w : World) (s : ByteArray) : CB (w8 w s) (w.heap.size + 1) 3 #[.int .i64 0] := by unfold w8; exact ((((((cb_new _ _ _ _ (by simp)).alloc _).alloc _).alloc _).alloc _).alloc _).alloc _
theorem w8_4 (w : World) (s : ByteArray) : CB (w8 w s) (w.heap.size + 2) 27 #[.int .i64 0] := by unfold w8; exact (((((cb_new _ _ _ _ (by simp)).alloc _).alloc _).alloc _).alloc _).alloc _
theorem w8_5 (w : World) (s : ByteArray) : CB (w8 w s) (w.heap.size + 3) 22 #[.slice none 0 0] := by unfold w8; exact ((((cb_new _ _ _ _ (by simp)).alloc _).alloc _).alloc _).alloc _
theorem w8_6 (w : World) (s : ByteArray) : CB (w8 w s) (w.heap.size + 4) 3 #[.int .i64 0] := by unfold w8; exact (((cb_new _ _ _ _ (by simp)).alloc _).alloc _).alloc _
theorem w8_7 (w : World) (s : ByteArray) : CB (w8 w s) (w.heap.size + 5) 9 #[.string s] := by unfold w8; exact ((cb_new _ _ _ _ (by simp)).alloc _).alloc _
theorem w8_8 (w : World) (s : ByteArray) : CB (w8 w s) (w.heap.size + 6) 9 #[.string ⟨#[10]⟩] := by unfold w8; exact (cb_new _ _ _ _ (by simp)).alloc _
theorem w8_9 (w : World) (s : ByteArray) : CB (w8 w s) (w.heap.size + 7) 3 #[.int .i64 0] := by unfold w8; exact cb_new _ _ _ _ (by simp)
/-- between two lines -/
def ParI (w : World) (rs : List LineR) (N : Nat) (k : Nat) (W : World) : Prop :=
  Gr w W ∧ CB W N 22 #[.slice none 0 0] ∧ CB W (N + 1) 3 #[.int .i64 0] ∧ CB W (N + 2) 27 #[.int .i64 0] ∧ CB W (N + 4) 3 #[.int .i64 (k : Nat)] ∧
  ∃ (acc : List Entry) (A : Option Addr) (n c : Nat), CB W (N + 3) 22 #[.slice A n c] ∧ Hid (n = acc.length) ∧ n ≤ k ∧ OwnR W (N + 10) 36 2 A n c (entsV acc) ∧ Hid (parseR rs 0 [] = parseR (rs.drop k) k acc)
def stepR (rs : List LineR) (r : LineR) (k : Nat) (acc : List Entry) : Except (Nat × Nat) (List Entry) := match r with
  | none => parseR (rs.drop (k + 1)) (k + 1) acc
  | some (.ok x) => parseR (rs.drop (k + 1)) (k + 1) (acc ++ [x])
  | some (.error e) => .error (k + 1, e)
theorem parseR_step {rs : List LineR} {k : Nat} {r : LineR} {acc : List Entry} (h : rs[k]? = some r) : parseR (rs.drop k) k acc = stepR rs r k acc := by
  obtain ⟨h1, h2⟩ := List.getElem?_eq_some_iff.1 h
  rw [List.drop_eq_getElem_cons h1, h2]
  rcases r with _ | (e | x) <;> rfl
set_option maxRecDepth 100000 in
set_option maxHeartbeats 4000000 in
theorem parse_c (s : ByteArray) (rs : List LineR) (w : World) (hE : EnvU w) (hs : s.size ≤ 65536) (hf : Lines (split 10 s.data.toList) rs) (hn : rs.length ≤ 1000) :
    Calls Tryz.prog 15 #[.string s] w fun e w' => Hid (parsePost w (parseR rs 0 []) e w') ∧ Gr w w' := by
  have HF := Lib.hid hf
  have HE := Lib.hid hE
  clear hf hE
  refine (callsIn_wide (n := 9)).1 ?_
  refine callsIn_of_wp_marks Tryz.func15 rfl trivial ?_ rfl
  simp only [Tryz.ntmps15, List.size_toArray, List.length_cons, List.length_nil, Nat.reduceAdd, Nat.reduceSub, Array.replicate_succ, Array.replicate_zero, List.push_toArray, List.append_toArray, List.nil_append, List.cons_append]
  gi_wp2_with (refine ⟨trivial, ?_⟩; gi_at_call 29; refine (callsIn_wide.2 (SplitSeq_c s 10 _)).mono ?_; rintro e w3 ⟨rfl, rfl⟩)
  simp only [Nat.add_assoc, Nat.reduceAdd]
  change Code.wpIn _ _ _ _ _ _ (w8 w s)
  have hz := w8_size w s
  have h7 := w8_7 w s
  have h8 := w8_8 w s
  have h9 := w8_9 w s
  have hI0 : ParI w rs w.heap.size 0 (w8 w s) := ⟨w8_gr w s, w8_2 w s, w8_3 w s, w8_4 w s, w8_6 w s, [], none, 0, 0, w8_5 w s, rfl, by omega, OwnR.nil _ _ _ _, by rw [List.drop_zero]; rfl⟩
  generalize w8 w s = w3 at *
  have tCB : ∀ {X Y : World} {b : Nat} {t : TypeId} {cs : Array Value}, b < w.heap.size + 5 → CB X b t cs → Turns (w.heap.size + 5) (w3.heap.size + 2) X Y → CB Y b t cs := fun hb hX hT => (hT.block _ hX.lt (.inl (by omega))).trans hX
  have tGr : ∀ {X Y : World}, Gr w X → Turns (w.heap.size + 5) (w3.heap.size + 2) X Y → Gr w Y := fun hX hT => ⟨hT.os.trans hX.os, hT.tape.trans hX.tape, hT.output.trans hX.output, Nat.le_trans hX.size hT.size, fun k hk => (hT.block k (Nat.lt_of_lt_of_le hk hX.size) (.inl (by omega))).trans (hX.block k hk)⟩
  refine wpIn_range_iter rfl (by omega) (gf := 79) (lb := #[.pointer (some ⟨w.heap.size + 6, 0, none⟩), .pointer (some ⟨w.heap.size + 5, 0, none⟩), .pointer (some ⟨w.heap.size + 7, 0, none⟩)]) rfl trivial (enters_of Tryz.func79 (by kernel_rfl) rfl)
    (splitSeq1_iter 8 (by omega) (w.heap.size + 5) s 10 w3 (by omega) h7 h8 h9) (by omega) (by omega) (Fix.refl _ _ _) (fun _ => rfl)
    (fun pre W => ParI w rs w.heap.size pre.length W)
    (fun c pre W => c = .ret ∧ ∃ k m : Nat, CB W w.heap.size 22 #[.slice none 0 0] ∧ CB W (w.heap.size + 1) 3 #[.int .i64 k] ∧ CB W (w.heap.size + 2) 27 #[.int .i64 m] ∧ Gr w W ∧ Hid (parseR rs 0 [] = .error (k, m)))
    (fun s X Y h hT => by
      obtain ⟨h1, h2, h3, h4, h6, acc, A, n, c, h5, hn, hk, ho, hR⟩ := h
      exact ⟨tGr h1 hT, tCB (by omega) h2 hT, tCB (by omega) h3 hT, tCB (by omega) h4 hT, tCB (by omega) h6 hT, acc, A, n, c, tCB (by omega) h5 hT, hn, hk, own_turns ho hT (by omega), hR⟩)
    (fun c s X Y h hT => by obtain ⟨h1, k, m, h2, h3, h4, h5, h6⟩ := h; exact ⟨h1, k, m, tCB (by omega) h2 hT, tCB (by omega) h3 hT, tCB (by omega) h4 hT, tGr h5 hT, h6⟩)
    hI0 (fun _ _ _ => trivial)
    (fun x => { tmps := #[.string s, undef, .pointer (some ⟨w.heap.size, 0, none⟩), .pointer (some ⟨w.heap.size + 1, 0, none⟩), .pointer (some ⟨w.heap.size + 2, 0, none⟩), .pointer (some ⟨w.heap.size + 3, 0, none⟩), .pointer (some ⟨w.heap.size + 4, 0, none⟩), .string x, undef, undef, undef, .string s, .int .i64 s.size, .bool (decide (524288 < (s.size : Int))), .string s, .func (.func 79) #[] #[.pointer (some ⟨w.heap.size + 6, 0, none⟩), .pointer (some ⟨w.heap.size + 5, 0, none⟩), .pointer (some ⟨w.heap.size + 7, 0, none⟩)], .string x, undef, undef, undef, undef, undef, undef, undef, undef, undef, undef, undef, undef, undef, undef, undef, undef, undef, undef, undef, undef, undef, undef, undef, undef, undef, undef, undef, undef, undef, undef, undef], defers := [] }) ?assign ?body ?done ?stop
  case assign =>
    intro l x W K hK
    dsimp only [strB]
    gi_wp2
    exact hK
  case body =>
    rintro l pre x W ⟨hg, c2, c3, c4, c6, acc, A, n, c, c5, hn', hk, hown, hR⟩ hlen hsp hWs
    have hpx : (piecesB 10 s)[pre.length]? = some x := by obtain ⟨post, h⟩ := hsp; rw [← h]; simp
    have hxz : x.size ≤ 65536 := by have := pieces_size (List.mem_of_getElem? hpx); omega
    have hsx : (split 10 s.data.toList)[pre.length]? = some x.data.toList := by
      unfold piecesB at hpx; rw [List.getElem?_map] at hpx
      cases hq : (split 10 s.data.toList)[pre.length]? with
      | none => rw [hq] at hpx; simp at hpx
      | some q => rw [hq] at hpx; simp at hpx; rw [← hpx]; rfl
    obtain ⟨r, hr⟩ : ∃ r, rs[pre.length]? = some r := ⟨_, List.getElem?_eq_getElem (by rw [← HF.out.1]; exact (List.getElem?_eq_some_iff.1 hsx).1)⟩
    have hkr : pre.length < rs.length := (List.getElem?_eq_some_iff.1 hr).1
    have hok := HF.out.2 _ _ _ hsx hr
    have hst : parseR rs 0 [] = stepR rs r pre.length acc := hR.out.trans (parseR_step hr)
    clear hr hsx hpx hsp hlen
    have hlx := Lib.hid (show (pre ++ [x]).length = pre.length + 1 by simp)
    generalize pre.length = k at *
    generalize pre ++ [x] = pre' at *
    have hk1 : k ≤ 1000 := by omega
    obtain ⟨rr, rm, hcv⟩ := cutB_V x
    have g1 : Gr w (W.setCell ⟨w.heap.size + 4, 0, none⟩ (.int .i64 ((k : Int) + 1))) := hg.setCell (p := ⟨w.heap.size + 4, 0, none⟩) (by simp) _
    have HC := Lib.hid (cut_c x 35 (W.setCell ⟨w.heap.size + 4, 0, none⟩ (.int .i64 ((k : Int) + 1))) (HE.out.gr g1).mx (by omega))
    rw [hcv] at HC
    have HWd := Lib.hid (fun w => words_c (cutB x) w (by have := cutB_size x; omega))
    rw [cutB_list] at HWd
    have j6 : W.cell? ⟨w.heap.size + 4, 0, none⟩ = some (.int .i64 k) := c6.cell 0
    have f6 := c6.frozen 0
    have d6 := c6.set 0 (.int .i64 ((k : Int) + 1))
    have d2 := c2.far (p := ⟨w.heap.size + 4, 0, none⟩) (by simp) (.int .i64 ((k : Int) + 1))
    have d3 := c3.far (p := ⟨w.heap.size + 4, 0, none⟩) (by simp) (.int .i64 ((k : Int) + 1))
    have d4 := c4.far (p := ⟨w.heap.size + 4, 0, none⟩) (by simp) (.int .i64 ((k : Int) + 1))
    have d5 := c5.far (p := ⟨w.heap.size + 4, 0, none⟩) (by simp) (.int .i64 ((k : Int) + 1))
    have do' := own_turns hown ((Turns.refl (w.heap.size + 4) (w.heap.size + 5) W).setCell ⟨w.heap.size + 4, 0, none⟩ (.int .i64 ((k : Int) + 1)) ⟨by simp, by simp⟩) (by omega)
    have fx1 : Fix (w.heap.size + 5) (w3.heap.size + 2) W (W.setCell ⟨w.heap.size + 4, 0, none⟩ (.int .i64 ((k : Int) + 1))) := fun b h1 _ => Below.heap_setCell _ _ _ _ (by simp; omega)
    have hs1 : (W.setCell ⟨w.heap.size + 4, 0, none⟩ (.int .i64 ((k : Int) + 1))).heap.size = W.heap.size := by simp
    rcases hok.ent hxz with ⟨hw, rfl⟩ | ⟨nm, sub, h0, h2, hC, rfl⟩ | ⟨h0, h2, hC, rfl⟩
    · rw [hw] at HWd
      have HS := Lib.hid hst
      clear hst hw hcv
      gi_wp2_with (first | (refine ⟨trivial, ?_⟩; gi_at_call 30; refine (CallsIn.inRound l (callsIn_wide.2 HC.out)).mono ?_; rintro e w4 ⟨rfl, nn, rfl⟩) | (refine ⟨trivial, ?_⟩; gi_at_call 31; refine (CallsIn.inRound l (callsIn_wide.2 (HWd.out _))).mono ?_; rintro e w5 ⟨A2, cc2, rfl, hown2, hG5⟩))
      refine ⟨fx1.trans (Fix.gr (((Gr.refl _).drewN nn).trans hG5) (by show _ ≤ (World.setCell _ _ _).heap.size; rw [hs1]; omega)), ?_⟩
      show ParI w rs w.heap.size pre'.length _
      rw [hlx.out]
      have gg := ((Gr.refl (W.setCell ⟨w.heap.size + 4, 0, none⟩ (.int .i64 ((k : Int) + 1)))).drewN nn).trans hG5
      exact ⟨g1.trans gg, d2.gr gg, d3.gr gg, d4.gr gg, d6.gr gg, acc, A, n, c, d5.gr gg, hn', by omega, do'.gr gg, HS.out⟩
    · generalize words (cutH x.data.toList) = ws at *
      have HS := Lib.hid hst
      have HEn := Lib.hid hC
      clear hst hC hcv
      gi_wp2_with (first | (refine ⟨trivial, ?_⟩; gi_at_call 30; refine (CallsIn.inRound l (callsIn_wide.2 HC.out)).mono ?_; rintro e w4 ⟨rfl, nn, rfl⟩) | (refine ⟨trivial, ?_⟩; gi_at_call 31; refine (CallsIn.inRound l (callsIn_wide.2 (HWd.out _))).mono ?_; rintro e w5 ⟨A2, cc2, rfl, hown2, hG5⟩; have gg := ((Gr.refl (W.setCell ⟨w.heap.size + 4, 0, none⟩ (.int .i64 ((k : Int) + 1)))).drewN nn).trans hG5; have e5 := d5.gr gg; have j5 : w5.cell? ⟨w.heap.size + 3, 0, none⟩ = some (.slice A n c) := e5.cell 0; have f5 := e5.frozen 0) | (refine ⟨trivial, ?_⟩; gi_at_call 32; refine (CallsIn.inRound l (callsIn_wide.2 (HEn.out _ _ _ _ ((HE.out.gr g1).gr gg) hown2))).mono ?_; rintro e w6 ⟨rfl, hG6⟩; dsimp only [entryV]; have hg6 := gg.trans hG6; have e6 := d5.gr hg6; have hb6 : w.heap.size + 3 < w6.heap.size := e6.lt; have j5 : w6.cell? ⟨w.heap.size + 3, 0, none⟩ = some (.slice A n c) := e6.cell 0; have f5 := e6.frozen 0) | (gi_at_builtin; obtain ⟨i0, hi0, hz0, hz1, hz2⟩ := info_parts elEnts.info; refine wpListIn_append_own _ rfl _ _ 22 rfl (w.heap.size + 10) 36 i0 _ 2 24 elEnts.und hi0 hz0 hz1 hz2 elEnts.zs elEnts.pos _ _ _ rfl (((do'.gr hg6).alloc _).alloc _) ⟨w6.heap.size + 1, 0, none⟩ 1 1 [.string (mk nm), .bool sub] rfl rfl ?c1 ?c2 ?c3 ?c4 ?c5 ?_))
      case c1 =>
        intro j u hj
        match j, hj with
        | 0, hj => simp at hj; subst hj; simp [Addr.add]
        | 1, hj => simp at hj; subst hj; simp [Addr.add]
      case c2 => intro u hu; simp at hu; rcases hu with rfl | rfl <;> rfl
      case c3 => unfold maxLen; omega
      case c4 => omega
      case c5 => have := hg6.size; rw [hs1] at this; simp; omega
      intro v' w7 hown' hgrow _
      obtain ⟨A', c', rfl⟩ : ∃ A' c', v' = .slice A' (n + 1) c' := by
        rcases hown'.2 with ⟨_, h0⟩ | ⟨g, cap, cur, hv, _⟩
        · omega
        · exact ⟨_, _, hv⟩
      have hrow : ∀ q, (Value.slice A n c).ownBlock = some q → w.heap.size + 10 ≤ q := fun q hq => (do'.ownBlock q hq).1
      have tp : ∀ {b : Nat} {t : TypeId} {cs : Array Value}, CB (W.setCell ⟨w.heap.size + 4, 0, none⟩ (.int .i64 ((k : Int) + 1))) b t cs → b < w.heap.size + 8 → CB w7 b t cs := fun h hb => (((h.gr hg6).alloc _).alloc _).grown hgrow (by intro e; have := hrow _ e.symm; omega)
      have g7 : Gr w w7 := (((g1.trans hg6).alloc _).alloc _).grown hgrow (fun q hq => by have := hrow q hq; omega)
      have fx7 : Fix (w.heap.size + 5) (w3.heap.size + 2) (W.setCell ⟨w.heap.size + 4, 0, none⟩ (.int .i64 ((k : Int) + 1))) w7 := fun b h1 h2 => (hgrow.block b (by have := hg6.size; rw [hs1] at this; simp; omega) (by intro e; have := hrow _ e.symm; omega)).trans (((hg6.alloc _).alloc _).block b (by rw [hs1]; omega))
      have e7 := tp d5 (by omega)
      have j7 : w7.cell? ⟨w.heap.size + 3, 0, none⟩ = some (.slice A n c) := e7.cell 0
      have f7 := e7.frozen 0
      gi_wp2
      refine ⟨(fx1.trans fx7).trans (fun b h1 _ => Below.heap_setCell _ _ _ _ (by show b ≠ w.heap.size + 3; omega)), ?_⟩
      show ParI w rs w.heap.size pre'.length _
      rw [hlx.out]
      have tq : ∀ {b : Nat} {t : TypeId} {cs : Array Value}, CB (W.setCell ⟨w.heap.size + 4, 0, none⟩ (.int .i64 ((k : Int) + 1))) b t cs → b < w.heap.size + 8 → b ≠ w.heap.size + 3 → CB (w7.setCell ⟨w.heap.size + 3, 0, none⟩ (.slice A' (n + 1) c')) b t cs := fun h hb hne => (tp h hb).far (p := ⟨w.heap.size + 3, 0, none⟩) hne _
      exact ⟨g7.setCell (p := ⟨w.heap.size + 3, 0, none⟩) (by simp) _, tq d2 (by omega) (by omega), tq d3 (by omega) (by omega), tq d4 (by omega) (by omega), tq d6 (by omega) (by omega), acc ++ [(nm, sub)], A', n + 1, c', e7.set 0 _, by rw [List.length_append, ← hn'.out]; rfl, by omega, own_turns (by rw [entsV_append]; exact hown') ((Turns.refl (w.heap.size + 3) (w.heap.size + 5) w7).setCell ⟨w.heap.size + 3, 0, none⟩ (.slice A' (n + 1) c') ⟨by simp, by simp⟩) (by omega), HS.out⟩
    · generalize words (cutH x.data.toList) = ws at *
      have HS := Lib.hid hst
      have HEn := Lib.hid hC
      clear hst hC hcv
      gi_wp2_with (first | (refine ⟨trivial, ?_⟩; gi_at_call 30; refine (CallsIn.inRound l (callsIn_wide.2 HC.out)).mono ?_; rintro e w4 ⟨rfl, nn, rfl⟩) | (refine ⟨trivial, ?_⟩; gi_at_call 31; refine (CallsIn.inRound l (callsIn_wide.2 (HWd.out _))).mono ?_; rintro e w5 ⟨A2, cc2, rfl, hown2, hG5⟩; have gg := ((Gr.refl (W.setCell ⟨w.heap.size + 4, 0, none⟩ (.int .i64 ((k : Int) + 1)))).drewN nn).trans hG5; have e5 := d5.gr gg; have j5 : w5.cell? ⟨w.heap.size + 3, 0, none⟩ = some (.slice A n c) := e5.cell 0; have f5 := e5.frozen 0) | (refine ⟨trivial, ?_⟩; gi_at_call 32; refine (CallsIn.inRound l (callsIn_wide.2 (HEn.out _ _ _ _ ((HE.out.gr g1).gr gg) hown2))).mono ?_; rintro e w6 ⟨rfl, hG6⟩; dsimp only [entryV]; have hg6 := gg.trans hG6; have e2 := d2.gr hg6; have e3 := d3.gr hg6; have e4 := d4.gr hg6; have e6 := d6.gr hg6; have m2 : w6.cell? ⟨w.heap.size, 0, none⟩ = some (.slice none 0 0) := e2.cell 0; have m3 : w6.cell? ⟨w.heap.size + 1, 0, none⟩ = some (.int .i64 0) := e3.cell 0; have m4 : w6.cell? ⟨w.heap.size + 2, 0, none⟩ = some (.int .i64 0) := e4.cell 0; have m6 : w6.cell? ⟨w.heap.size + 4, 0, none⟩ = some (.int .i64 ((k : Int) + 1)) := e6.cell 0; have p2 := e2.frozen 0; have p3 := e3.frozen 0; have p4 := e4.frozen 0; have p6 := e6.frozen 0; have hb6 : w.heap.size + 4 < w6.heap.size := e6.lt; have hb2 : w.heap.size < w6.heap.size := e2.lt; have hb3 : w.heap.size + 1 < w6.heap.size := e3.lt; have hb4 : w.heap.size + 2 < w6.heap.size := e4.lt))
      have hm : (Tryz.prog).follows .mixedOrders = true := by kernel_rfl
      gi_region_elder_o
      all_goals gi_wp2
      all_goals
        refine ⟨fx1.trans (fun b h1 h2 => (((((Gr.refl _).alloc _).drew).block b (by have := hg6.size; rw [hs1] at this; simp; omega)).trans ((Below.heap_setCell _ _ _ b (by show b ≠ w.heap.size + 2; omega)).trans ((Below.heap_setCell _ _ _ b (by show b ≠ w.heap.size + 1; omega)).trans ((Below.heap_setCell _ _ _ b (by show b ≠ w.heap.size; omega)).trans (hg6.block b (by rw [hs1]; omega))))))), rfl, k + 1, 4, ?_, ?_, ?_, ?_, HS.out⟩
        · exact ((((e2.set 0 (.slice none 0 0)).far (p := ⟨w.heap.size + 1, 0, none⟩) (by simp) (.int .i64 ((k : Int) + 1))).far (p := ⟨w.heap.size + 2, 0, none⟩) (by simp) (.int .i64 4)).alloc _).drew
        · exact ((((e3.far (p := ⟨w.heap.size, 0, none⟩) (by simp) (.slice none 0 0)).set 0 (.int .i64 ((k : Int) + 1))).far (p := ⟨w.heap.size + 2, 0, none⟩) (by simp) (.int .i64 4)).alloc _).drew
        · exact ((((e4.far (p := ⟨w.heap.size, 0, none⟩) (by simp) (.slice none 0 0)).far (p := ⟨w.heap.size + 1, 0, none⟩) (by simp) (.int .i64 ((k : Int) + 1))).set 0 (.int .i64 4)).alloc _).drew
        · exact (((((g1.trans hg6).setCell (p := ⟨w.heap.size, 0, none⟩) (by simp) _).setCell (p := ⟨w.heap.size + 1, 0, none⟩) (by simp) _).setCell (p := ⟨w.heap.size + 2, 0, none⟩) (by simp) _).alloc _).drew
  case done =>
    rintro D ys W hD rfl ⟨hg, c2, c3, c4, c6, acc, A, n, c, c5, hn', hk, hown, hR⟩ hK
    have hlen : (piecesB 10 s).length = rs.length := by unfold piecesB; rw [List.length_map]; exact HF.out.1
    have HR := Lib.hid (show parseR rs 0 [] = .ok acc by rw [hR.out, hlen, List.drop_length]; rfl)
    have hDk : ∀ (Y : World) (q : Addr) (u : Value), q.block < w3.heap.size → Y.heap[D]? = some (.deferred (some [])) → (Y.setCell q u).heap[D]? = some (.deferred (some [])) := fun Y q u hq hY => (Below.heap_setCell Y q u D (by omega)).trans hY
    have b5 : W.cell? ⟨w.heap.size + 3, 0, none⟩ = some (.slice A n c) := c5.cell 0
    have b2 : W.cell? ⟨w.heap.size, 0, none⟩ = some (.slice none 0 0) := c2.cell 0
    have b3 : W.cell? ⟨w.heap.size + 1, 0, none⟩ = some (.int .i64 0) := c3.cell 0
    have b4 : W.cell? ⟨w.heap.size + 2, 0, none⟩ = some (.int .i64 0) := c4.cell 0
    have f2 := c2.frozen 0
    have f3 := c3.frozen 0
    have f4 := c4.frozen 0
    have f5 := c5.frozen 0
    gi_wp2
    have cbPut : ∀ {X : World} {b : Nat} {t : TypeId} {cs : Array Value} (o : Obj), CB X b t cs → b < w3.heap.size → CB (X.putObj D o) b t cs := fun o h hb => (World.putObj_heap_other (by omega)).trans h
    have grPut : ∀ {X : World} (o : Obj), Gr w X → Gr w (X.putObj D o) := fun o h => h.grown (grownBy_putObj' _ D _) (fun k e => by cases e; omega)
    have hg5 := grPut (.deferred none) (((hg.setCell (p := ⟨w.heap.size, 0, none⟩) (by simp) (.slice A n c)).setCell (p := ⟨w.heap.size + 1, 0, none⟩) (by simp) (.int .i64 0)).setCell (p := ⟨w.heap.size + 2, 0, none⟩) (by simp) (.int .i64 0))
    have hK3 := hDk _ ⟨w.heap.size + 2, 0, none⟩ (.int .i64 0) (by show w.heap.size + 2 < _; omega) (hDk _ ⟨w.heap.size + 1, 0, none⟩ (.int .i64 0) (by show w.heap.size + 1 < _; omega) (hDk _ ⟨w.heap.size, 0, none⟩ (.slice A n c) (by show w.heap.size < _; omega) hK))
    have ho5 := own_put (own_turns hown (((Turns.refl w.heap.size (w.heap.size + 5) W).setCell ⟨w.heap.size, 0, none⟩ (.slice A n c) ⟨by simp, by simp⟩).setCell ⟨w.heap.size + 1, 0, none⟩ (.int .i64 0) ⟨by simp, by simp⟩ |>.setCell ⟨w.heap.size + 2, 0, none⟩ (.int .i64 0) ⟨by simp, by simp⟩) (by omega)) hK3 (.deferred none)
    have r2 := (cbPut (.deferred none) (((c2.set 0 (.slice A n c)).far (p := ⟨w.heap.size + 1, 0, none⟩) (by simp) (.int .i64 0)).far (p := ⟨w.heap.size + 2, 0, none⟩) (by simp) (.int .i64 0)) (by omega)).cell 0
    have r3 := (cbPut (.deferred none) (((c3.far (p := ⟨w.heap.size, 0, none⟩) (by simp) (.slice A n c)).set 0 (.int .i64 0)).far (p := ⟨w.heap.size + 2, 0, none⟩) (by simp) (.int .i64 0)) (by omega)).cell 0
    have r4 := (cbPut (.deferred none) (((c4.far (p := ⟨w.heap.size, 0, none⟩) (by simp) (.slice A n c)).far (p := ⟨w.heap.size + 1, 0, none⟩) (by simp) (.int .i64 0)).set 0 (.int .i64 0)) (by omega)).cell 0
    simp only [List.setIfInBounds_toArray, List.set_cons_zero, List.getElem?_toArray, List.getElem?_cons_zero] at r2 r3 r4
    refine ⟨by simp, .inl ⟨_, _, rfl, run_takeDeferred hK3, ?_⟩⟩
    refine ⟨.tuple #[.slice A n c, .int .i64 0, .int .i64 0], ?_, by rw [HR.out]; exact ⟨A, n, c, rfl, hn'.out, ho5.mono (by omega)⟩, hg5⟩
    simp [results, Tryz.f15, go_sem, r2, r3, r4]
  case stop =>
    rintro D c pre W hD hp ⟨rfl, k, m, h2, h3, h4, hg, hR⟩ hK
    have cbPut : ∀ {X : World} {b : Nat} {t : TypeId} {cs : Array Value} (o : Obj), CB X b t cs → b < w3.heap.size → CB (X.putObj D o) b t cs := fun o h hb => (World.putObj_heap_other (by omega)).trans h
    have grPut : ∀ {X : World} (o : Obj), Gr w X → Gr w (X.putObj D o) := fun o h => h.grown (grownBy_putObj' _ D _) (fun k e => by cases e; omega)
    gi_wp2
    refine ⟨by simp, .inl ⟨_, _, rfl, run_takeDeferred hK, ?_⟩⟩
    have r2 : (W.putObj D (.deferred none)).cell? ⟨w.heap.size, 0, none⟩ = some (.slice none 0 0) := (cbPut (.deferred none) h2 (by omega)).cell 0
    have r3 : (W.putObj D (.deferred none)).cell? ⟨w.heap.size + 1, 0, none⟩ = some (.int .i64 k) := (cbPut (.deferred none) h3 (by omega)).cell 0
    have r4 : (W.putObj D (.deferred none)).cell? ⟨w.heap.size + 2, 0, none⟩ = some (.int .i64 m) := (cbPut (.deferred none) h4 (by omega)).cell 0
    refine ⟨.tuple #[.slice none 0 0, .int .i64 k, .int .i64 m], ?_, by rw [hR.out]; rfl, grPut _ hg⟩
    simp [results, Tryz.f15, go_sem, r2, r3, r4]
    try rfl
end Go.Proofs.YtcicefifmkjffaaGreatDoor
