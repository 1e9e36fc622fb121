/- preload.New: the closures, slices.ContainsFunc, Clone, SortFunc at Entry, New. -/
import Derived.Test.YtcicefifmkjffaaGreatDoorPinC
import Derived.Test.YtcicefifmkjffaaGreatDoorLawC
import Derived.Test.YtcicefifmkjffaaGreatDoorShelf2
import Derived.Shelf.SlSortCmp.NoneTotal
namespace Go.Proofs.YtcicefifmkjffaaGreatDoor
open Go Go.RowKit Go.Sort Hs
abbrev E1 := { x : Entry // x.1.length ≤ 1000000 }
instance instE1 : Inhabited E1 := ⟨⟨([], false), by simp⟩⟩
def entV (x : Entry) : List Value := [.string (mk x.1), .bool x.2]
def entsV (l : List Entry) : List Value := (l.map entV).flatten
def encE (x : E1) : List Value := entV x.1
theorem entsV_cons (x : Entry) (l : List Entry) : entsV (x :: l) = .string (mk x.1) :: .bool x.2 :: entsV l := rfl
theorem entsV_append (a b : List Entry) : entsV (a ++ b) = entsV a ++ entsV b := by simp [entsV]
theorem entsV_length : ∀ l : List Entry, (entsV l).length = l.length * 2
  | [] => rfl
  | x :: r => by rw [entsV_cons, List.length_cons, List.length_cons, entsV_length r, List.length_cons]; omega
theorem entsV_get : ∀ (l : List Entry) (j : Nat) (x : Entry), l[j]? = some x → (entsV l)[j * 2]? = some (.string (mk x.1)) ∧ (entsV l)[j * 2 + 1]? = some (.bool x.2)
  | [], j, x, h => by simp at h
  | y :: r, 0, x, h => by
    have : y = x := by simpa using h
    subst this; exact ⟨rfl, rfl⟩
  | y :: r, j + 1, x, h => by
    have := entsV_get r j x (by simpa using h)
    rw [entsV_cons, Nat.add_mul, show j * 2 + 1 * 2 = (j * 2) + 1 + 1 by omega]
    exact ⟨by simpa using this.1, by simpa [Nat.add_right_comm] using this.2⟩
theorem entsV_one (l : List Entry) : ∀ u ∈ entsV l, u.oneCell' = true := by
  intro u hu
  unfold entsV at hu
  simp only [List.mem_flatten, List.mem_map] at hu
  obtain ⟨_, ⟨x, _, rfl⟩, hu⟩ := hu
  simp only [entV, List.mem_cons, List.not_mem_nil, or_false] at hu
  rcases hu with rfl | rfl <;> rfl
theorem addr_eq {b b' off off' : Nat} (h : (some ⟨b, off, none⟩ : Option Addr) = some ⟨b', off', none⟩) : b = b' ∧ off = off' := by
  injection h with h; injection h with h1 h2; exact ⟨h1, h2⟩
theorem exists_sub {α : Type} {p : α → Prop} : ∀ l : List α, (∀ x ∈ l, p x) → ∃ l' : List { x // p x }, l'.map Subtype.val = l
  | [], _ => ⟨[], rfl⟩
  | x :: r, h => by
    obtain ⟨l', hl⟩ := exists_sub r (fun y hy => h y (by simp [hy]))
    exact ⟨⟨x, h x (by simp)⟩ :: l', by rw [List.map_cons, hl]⟩
theorem elEnts : ElT Tryz.prog 22 36 (.agg #[.string ByteArray.empty, .bool false]) 2 24 := ⟨Tryz.underlying22, by kernel_rfl, rfl, by omega⟩
/-- How a slice that came in lies: nil or in a block. -/
def At (w : World) (A : Option Addr) : Prop := A = none ∨ ∃ b off, A = some ⟨b, off, none⟩ ∧ b < w.heap.size
theorem own_at {w : World} {B e size n c : Nat} {A : Option Addr} {xs : List Value} (h : OwnR w B e size A n c xs) : At w A := by
  rcases h.form0 with ⟨rfl, _⟩ | ⟨g, rfl, _, hg⟩
  · exact .inl rfl
  · exact .inr ⟨g, 0, rfl, hg⟩
theorem At.gr {w w' : World} {A : Option Addr} (h : At w A) (hg : Gr w w') : At w' A := by
  rcases h with h | ⟨b, off, h, hb⟩
  · exact .inl h
  · exact .inr ⟨b, off, h, Nat.lt_of_lt_of_le hb hg.size⟩

theorem new1_c (x : Entry) (w : World) (hE : Env w) (hx : x.1.length ≤ 1000000) : Calls Tryz.prog 18 #[.agg #[.string (mk x.1), .bool x.2]] w fun e w' => e = .returned (.bool (!validName x.1)) ∧ Gr w w' := by
  go_enter Tryz.func18, Tryz.ntmps18
  go_wp2_with fail
  refine (validName_c (mk x.1) _ (hE.gr ((Gr.refl w).alloc _)) hx).mono ?_
  rintro e w1 ⟨rfl, hG⟩
  go_wp2_with fail
  go_ret
  exact ⟨rfl, ((Gr.refl w).alloc _).trans hG⟩
theorem grow_drewN (w : World) (os : Array Obj) (n : Nat) : (grow w os).drewN n = grow (w.drewN n) os := rfl
theorem new2_c (x y : Entry) (w : World) (hx : x.1.length ≤ 1000000) (hy : y.1.length ≤ 1000000) : Calls Tryz.prog 22 #[.agg #[.string (mk x.1), .bool x.2], .agg #[.string (mk y.1), .bool y.2]] w fun e w' => e = .returned (.int .i64 (Hs.compare x.1 y.1)) ∧ ∃ q os', w' = grow (w.drewN q) os' := by
  go_enter Tryz.func22, Tryz.ntmps22
  go_wp2_with fail
  refine (pinCompare_c (mk x.1) (mk y.1) _ hx hy).mono ?_
  rintro e w1 ⟨rfl, n, rfl⟩
  go_wp2_with fail
  go_ret
  exact ⟨rfl, n, _, by rw [alloc_eq_grow, alloc_eq_grow, grow_grow, grow_drewN]⟩
theorem index0_c (c : Nat) (fv : Value) (w : World) : Calls Tryz.prog 35 #[.slice none 0 c, fv] w fun e w' => e = .returned (.int .i64 (-1)) ∧ w = w' := by
  go_enter Tryz.func35, Tryz.ntmps35
  go_wp2_with fail
  go_loop [8] (fun v => v = .int .i64 0) (fun _ => 0)
  case atStart => rfl
  case round =>
    subst hrel
    go_wp2_with fail
    go_ret
    exact ⟨rfl, rfl⟩
theorem contains_c (l : List Entry) (A : Option Addr) (c : Nat) (w : World) (hE : Env w) (hA : At w A) (hrd : Rd w A l.length 2 (entsV l)) (hl : l.length ≤ 1000000) (hsz : ∀ x ∈ l, x.1.length ≤ 1000000) :
    Calls Tryz.prog 17 #[.slice A l.length c, .func (.func 18) #[] #[]] w fun e w' => e = .returned (.bool (l.any fun x => !validName x.1)) ∧ Gr w w' := by
  obtain ⟨zs, rfl⟩ := exists_sub l hsz
  rw [List.length_map] at *
  rcases hA with rfl | ⟨b, off, rfl, hb⟩
  · have h0 : zs = [] := by
      cases zs with
      | nil => rfl
      | cons x r => obtain ⟨b, off, h, _⟩ := hrd.2 (by simp); cases h
    subst h0
    go_enter Tryz.func17, Tryz.ntmps17
    go_wp2_with fail
    refine (index0_c _ _ _).mono ?_
    rintro e w1 ⟨rfl, rfl⟩
    go_wp2_with fail
    go_ret
    exact ⟨rfl, Gr.refl _⟩
  · have eg : ∀ args w, (callFunc 18 args).run Tryz.prog w = .ok (.enter 18 args) w := enters_of Tryz.func18 (by kernel_rfl) rfl
    have hcon := AnyQ.slices_ContainsFunc Tryz.layContains 2 Tryz.isAgg36 Tryz.sizeOf36 encE (fun _ => rfl) (fun x : E1 => !validName x.1.1) 18 #[] eg b off zs.length c zs w
      (fun W x hb => (new1_c x.1 W (hE.gr hb) x.2).mono fun _ _ h => ⟨h.1, hb.trans (h.2.mono hb.size)⟩) (Nat.le_refl _) (by omega) hb (by
        intro j hj i v hi
        obtain ⟨b', off', e', _, hc⟩ := hrd.2 (by omega)
        obtain ⟨rfl, rfl⟩ := addr_eq e'
        have hz : (zs.map Subtype.val)[j]? = some zs[j]!.1 := by rw [List.getElem?_map, List.getElem?_eq_getElem hj, getElem!_pos zs j hj]; rfl
        have hg := entsV_get _ j _ hz
        match i, hi with
        | 0, hi => injection hi with hi; subst hi; rw [Nat.add_zero, hc _ (by omega)]; exact hg.1
        | 1, hi => injection hi with hi; subst hi; rw [Nat.add_assoc, hc _ (by omega)]; exact hg.2
        | i + 2, hi => cases hi)
    change Calls Tryz.prog 17 _ _ _ at hcon
    refine hcon.mono ?_
    rintro e w' ⟨rfl, hG⟩
    exact ⟨by rw [List.take_length, List.any_map]; rfl, hG⟩
theorem clone_c (l : List Entry) (A : Option Addr) (c : Nat) (w : World) (hA : At w A) (hrd : Rd w A l.length 2 (entsV l)) (hl : l.length ≤ 1000000) :
    Calls Tryz.prog 20 #[.slice A l.length c] w fun e w' => ∃ A' c', e = .returned (.slice A' l.length c') ∧ OwnR w' w.heap.size 36 2 A' l.length c' (entsV l) ∧ Gr w w' := by
  rcases hA with rfl | ⟨b, off, rfl, hb⟩
  · have h0 : l = [] := by
      cases l with
      | nil => rfl
      | cons x r => obtain ⟨b, off, h, _⟩ := hrd.2 (by simp); cases h
    subst h0
    have hcon := AnyE.slices_Clone_nil Tryz.layClone 0 c w
    change Calls Tryz.prog 20 _ _ _ at hcon
    exact hcon.mono fun e w' ⟨h1, h2⟩ => ⟨none, 0, h1, by subst h2; exact OwnR.nil _ _ _ _, by subst h2; exact Gr.refl _⟩
  · obtain ⟨i, hi, hz, hsz, hby⟩ := info_parts elEnts.info
    have hcon := AnyE.slices_Clone Tryz.layClone i _ 2 24 hi hz hsz hby elEnts.zs elEnts.pos Tryz.sizeOf36 b off l.length c (entsV l) w (entsV_length l) (by unfold maxLen; omega) (by omega) (by
      intro j u hj
      have hjl := (List.getElem?_eq_some_iff.1 hj).1
      rw [entsV_length] at hjl
      obtain ⟨b', off', e', _, hc⟩ := hrd.2 (by omega)
      obtain ⟨rfl, rfl⟩ := addr_eq e'
      exact (hc j hjl).trans hj) (entsV_one l)
    change Calls Tryz.prog 20 _ _ _ at hcon
    refine hcon.mono ?_
    rintro e w' ⟨v', rfl, hown, _, hG⟩
    rcases hown.2 with ⟨rfl, h0⟩ | ⟨g, cap, cur, rfl, _⟩
    · exact ⟨none, 0, by rw [h0], by rw [h0] at hown ⊢; exact hown, hG⟩
    · exact ⟨_, cap, rfl, hown, hG⟩
theorem flatK_list (d : Array E1) : (flatK encE 2 d).toList = entsV (d.toList.map Subtype.val) := by
  apply List.ext_getElem?
  intro t
  have hs := size_flatK encE 2 d
  by_cases ht : t < d.size * 2
  · have h1 : (flatK encE 2 d).toList[t]? = some ((encE d[t / 2]!)[t % 2]!) := by
      rw [Array.getElem?_toList, Array.getElem?_eq_getElem (by omega), ← get_flatK encE 2 d t ht, getElem!_pos _ t (by omega)]
    rw [h1]
    have hj : t / 2 < d.size := by omega
    have hz : (d.toList.map Subtype.val)[t / 2]? = some d[t / 2]!.1 := by
      rw [List.getElem?_map, Array.getElem?_toList, Array.getElem?_eq_getElem hj, getElem!_pos d _ hj]; rfl
    have hg := entsV_get _ _ _ hz
    rcases Nat.mod_two_eq_zero_or_one t with h | h
    · rw [h, show t = t / 2 * 2 by omega, hg.1, show t / 2 * 2 / 2 = t / 2 by omega]; rfl
    · rw [h]
      conv => rhs; rw [show t = t / 2 * 2 + 1 by omega]
      rw [hg.2]; rfl
  · rw [List.getElem?_eq_none (by rw [Array.length_toList]; omega), List.getElem?_eq_none (by rw [entsV_length, List.length_map, Array.length_toList]; omega)]
theorem swoE : SWO (ltOf fun x y : E1 => Hs.compare x.1.1 y.1.1) where
  irrefl x := by show decide (Hs.compare x.1.1 x.1.1 < 0) = false; rw [(compare_lin.eq0 _ _).2 rfl]; rfl
  trans x y z h1 h2 := by unfold ltOf at *; rw [decide_eq_true_iff] at *; exact compare_lin.tr _ _ _ h1 h2
  ntrans x y z h1 h2 := by
    unfold ltOf at *; rw [decide_eq_false_iff_not] at *
    exact (le_iff _ _).1 (compare_le_tr ((le_iff _ _).2 h2) ((le_iff _ _).2 h1))
set_option maxRecDepth 100000 in
theorem sort_c (B : Nat) (l : List Entry) (A : Option Addr) (c : Nat) (w : World) (hown : OwnR w B 36 2 A l.length c (entsV l)) (hl : l.length ≤ 1000000) (hsz : ∀ x ∈ l, x.1.length ≤ 1000000) :
    Calls Tryz.prog 21 #[.slice A l.length c, .func (.func 22) #[] #[]] w fun e w' => e = .returned (.tuple #[]) ∧ ∃ l', l'.Perm l ∧ l'.Pairwise leE ∧ OwnR w' B 36 2 A l.length c (entsV l') ∧ w.grownBy w' (Value.slice A l.length c).ownBlock := by
  obtain ⟨zs, rfl⟩ := exists_sub l hsz
  rw [List.length_map] at *
  by_cases h0 : zs.length = 0
  · have hz : zs = [] := List.eq_nil_of_length_eq_zero h0
    subst hz
    have hcon := AnyF.slices_SortFunc_none Tryz.laySort A c (.func (.func 22) #[] #[]) w
    change Calls Tryz.prog 21 _ _ _ at hcon
    refine hcon.mono ?_
    rintro e w' ⟨rfl, rfl⟩
    exact ⟨rfl, [], List.Perm.refl _, List.Pairwise.nil, hown, World.grownBy.refl _ _⟩
  obtain ⟨hlen, hown2⟩ := hown
  rcases hown2 with ⟨_, h⟩ | ⟨g, cap, cur, hv, hB, hg, hn, hm, hs, ht⟩
  · exact absurd h h0
  injection hv with h1 h2 h3
  subst h1 h3
  have hgs : g < w.heap.size := (Array.getElem?_eq_some_iff.1 hg).1
  have eg : ∀ args w, (callFunc 22 args).run Tryz.prog w = .ok (.enter 22 args) w := enters_of Tryz.func22 (by kernel_rfl) rfl
  have hF : (flatK encE 2 zs.toArray).toList = entsV (zs.map Subtype.val) := flatK_list zs.toArray
  have hFs := size_flatK encE 2 zs.toArray
  have hH : HoldsK encE 2 w g 0 zs.toArray := by
    intro j hj
    rw [hFs] at hj
    have hj' : j < zs.length * 2 := by simpa using hj
    have hcj : cur[j]? = some ((flatK encE 2 zs.toArray)[j]!) := by
      have e1 : (entsV (zs.map Subtype.val))[j]? = cur[j]? := by rw [← ht, List.getElem?_take_of_lt hj', Array.getElem?_toList]
      rw [← e1, ← hF, Array.getElem?_toList, Array.getElem?_eq_getElem (by rw [hFs]; simpa using hj'), getElem!_pos _ j (by rw [hFs]; simpa using hj')]
    exact ⟨by rw [Nat.zero_add, cell_of_row w g j cur _ _ hg]; exact hcj, frozen_of_row w g _ cur _ hg⟩
  have hcon := AnyQ.slices_SortFunc Tryz.laySort 2 Tryz.isAgg36 Tryz.sizeOf36 encE (fun _ => rfl) (fun x v hv => by simp only [encE, entV, List.mem_cons, List.not_mem_nil, or_false] at hv; rcases hv with rfl | rfl <;> rfl)
    (fun x y : E1 => Hs.compare x.1.1 y.1.1) swoE 22 #[] g 0 c zs.toArray w eg (fun m os dk _ x y => new2_c x.1 y.1 _ x.2 y.2) hH hgs (by simp; omega)
  change Calls Tryz.prog 21 _ _ _ at hcon
  refine hcon.mono ?_
  rintro e w' ⟨rfl, d', n, os, hp, hsd, rfl⟩
  refine ⟨rfl, d'.toList.map Subtype.val, ?_, ?_, ?_, ?_⟩
  · have h := hp.2.2
    have e1 : d'.size = zs.length := by simpa using hp.1
    rw [Array.extract_eq_self_of_le (by simp [e1]), Array.extract_eq_self_of_le (by simp)] at h
    exact h.map _
  · rw [List.pairwise_map, List.pairwise_iff_getElem]
    intro i j hi hj hij
    have e1 : d'.size = zs.length := by simpa using hp.1
    rw [Array.length_toList] at hi hj
    have := hsd i j (by omega) hij (by simp; omega)
    rw [getElem!_pos d' i hi, getElem!_pos d' j hj] at this
    unfold ltOf at this
    rw [decide_eq_false_iff_not] at this
    exact (le_iff _ _).2 (by simpa using this)
  · have e1 : d'.size = zs.length := by simpa using hp.1
    refine ⟨by rw [entsV_length, List.length_map, Array.length_toList, e1], .inr ⟨g, c, putCells id 0 (flatK encE 2 d') cur, rfl, hB, ?_, hn, hm, by simp [putCells, hs], ?_⟩⟩
    · show ((w.heap.modify g (onCells (putCells id 0 (flatK encE 2 d')))) ++ os)[g]? = _
      rw [Array.getElem?_append_left (by simpa using hgs), Array.getElem?_modify, if_pos rfl, hg]; rfl
    · rw [← flatK_list]
      have hF2 := size_flatK encE 2 d'
      apply List.ext_getElem?
      intro t
      by_cases hlt : t < zs.length * 2
      · rw [List.getElem?_take_of_lt hlt, Array.getElem?_toList, Array.getElem?_toList]
        have hc1 : t < cur.size := by omega
        have hf1 : t < (flatK encE 2 d').size := by omega
        simp only [putCells, Array.getElem?_mapIdx, Array.getElem?_eq_getElem hc1, Array.getElem?_eq_getElem hf1, Option.map_some]
        rw [if_pos ⟨Nat.zero_le _, by omega⟩, Nat.sub_zero, getElem!_pos _ t hf1]; rfl
      · rw [List.getElem?_eq_none (by simp; omega), List.getElem?_eq_none (by rw [Array.length_toList]; omega)]
  · refine ⟨rfl, rfl, rfl, by show _ ≤ ((w.heap.modify g _) ++ os).size; simp, fun b hb hne => ?_⟩
    show ((w.heap.modify g (onCells (putCells id 0 (flatK encE 2 d')))) ++ os)[b]? = _
    rw [Array.getElem?_append_left (by simpa using hb), Array.getElem?_modify, if_neg (fun h => hne (by rw [h]; rfl))]
def newPost (W : World) (r : Except Nat (List Entry)) (e : Ending) (w' : World) : Prop := match r with
  | .error k => e = .returned (.tuple #[.pointer none, .int .i64 k])
  | .ok s => ∃ p A n c, e = .returned (.tuple #[.pointer (some ⟨p, 0, none⟩), .int .i64 0]) ∧ n = s.length ∧ W.heap.size ≤ p ∧ CB w' p 51 #[.slice A n c] ∧ OwnR w' W.heap.size 36 2 A n c (entsV s)
theorem newList_14 {l : List Entry} (h : ¬ 1000 < l.length) (h2 : l.any (fun x => !validName x.1) = true) : newList l = .error 14 := by
  unfold newList
  rw [if_neg h, if_pos (by rw [List.any_eq_true] at h2; rw [List.all_eq_false]; obtain ⟨x, hx, hv⟩ := h2; exact ⟨x, hx, by simpa using hv⟩)]
theorem newList_of {l : List Entry} (h : ¬ 1000 < l.length) (h2 : l.any (fun x => !validName x.1) = false) : newList l = if (l.map (·.1)).Nodup then .ok (sortE l) else .error 17 := by
  unfold newList
  rw [if_neg h, if_neg (by rw [List.any_eq_false] at h2; simp only [Bool.not_eq_false, List.all_eq_true]; intro x hx; simpa using h2 x hx)]
theorem own_ent {w : World} {B n c : Nat} {A : Option Addr} {l : List Entry} (h : OwnR w B 36 2 A n c (entsV l)) {k : Nat} {x : Entry} (hx : l[k]? = some x) (hk : k < n) : ∃ g, A = some ⟨g, 0, none⟩ ∧ g < w.heap.size ∧ w.cell? ⟨g, k * 2, none⟩ = some (.string (mk x.1)) ∧ w.cell? ⟨g, k * 2 + 1, none⟩ = some (.bool x.2) := by
  obtain ⟨g, rfl, _, hg⟩ := h.form (by omega)
  have := entsV_get l k x hx
  exact ⟨g, rfl, hg, (h.cell _ (by omega)).trans this.1, (h.cell _ (by omega)).trans this.2⟩
set_option maxRecDepth 100000 in
set_option maxHeartbeats 1000000 in
theorem new_c (l : List Entry) (A : Option Addr) (c : Nat) (w : World) (hE : Env w) (hA : At w A) (hrd : Rd w A l.length 2 (entsV l)) (hl : l.length ≤ 1000000) (hsz : ∀ x ∈ l, x.1.length ≤ 1000000) :
    Calls Tryz.prog 8 #[.slice A l.length c] w fun e w' => Hid (newPost w (newList l) e w') ∧ Gr w w' := by
  by_cases h1 : 1000 < l.length
  · have HN := Lib.hid (show newList l = .error 3 by unfold newList; rw [if_pos h1])
    go_enter Tryz.func8, Tryz.ntmps8
    go_wp2_with fail
    go_ret2
    exact ⟨by rw [HN.out]; rfl, Gr.refl _⟩
  · have HC := Lib.hid (contains_c l A c w hE hA hrd hl hsz)
    rcases h2 : l.any (fun x => !validName x.1) with _ | _
    · have HN := Lib.hid (newList_of h1 h2)
      rw [h2] at HC
      have HCl := Lib.hid (fun (w' : World) (hG : Gr w w') => clone_c l A c w' (hA.gr hG) (hrd.gr hG) hl)
      have HS := Lib.hid hsz
      clear h2 hrd hE hA hsz
      go_enter Tryz.func8, Tryz.ntmps8
      go_wp2_with fail
      refine HC.out.mono ?_
      rintro e w1 ⟨rfl, hG1⟩
      go_wp2_with fail
      refine (HCl.out w1 hG1).mono ?_
      rintro e w2 ⟨A', c', rfl, hown, hG2⟩
      go_wp2_with fail
      refine (sort_c _ l A' c' w2 hown hl HS.out).mono ?_
      rintro e w3 ⟨rfl, l', hp, hso, hown3, hgr⟩
      have hG3 : Gr w w3 := (hG1.trans hG2).grown hgr (fun k hk => by have := (hown.ownBlock k hk).1; have := hG1.size; omega)
      have hown4 := hown3.mono hG1.size
      have hlen := hp.length_eq
      have HP := Lib.hid (And.intro hp hso)
      clear hown hown3 hgr HC HCl hp hso
      go_wp2_with fail
      go_loopw [5] (fun v5 wr => Gr w wr ∧ OwnR wr w.heap.size 36 2 A' l.length c' (entsV l') ∧ ∃ k : Nat, v5 = .int .i64 (k + 1 : Nat) ∧ (k = 0 ∨ k + 1 ≤ l.length) ∧ Hid (∀ i x y, i < k → l'[i]? = some x → l'[i + 1]? = some y → x.1 ≠ y.1)) (fun v5 _ => l.length - (intOf v5).toNat)
      case atStart => exact ⟨hG3, hown4, 0, rfl, .inl rfl, fun i x y h => by omega⟩
      case round =>
        clear hG3 hown4
        obtain ⟨hG3, hown4, k, rfl, hk, hR⟩ := hrel
        by_cases hlt : k + 1 < l.length
        · obtain ⟨x, hx⟩ : ∃ x, l'[k]? = some x := ⟨_, List.getElem?_eq_getElem (by omega)⟩
          obtain ⟨y, hy⟩ : ∃ y, l'[k + 1]? = some y := ⟨_, List.getElem?_eq_getElem (by omega)⟩
          obtain ⟨g, rfl, hg, c1, _⟩ := own_ent hown4 hx (by omega)
          obtain ⟨g', e', _, c2, _⟩ := own_ent hown4 hy (by omega)
          obtain ⟨rfl, _⟩ := addr_eq e'
          have HX := Lib.hid (And.intro hx hy)
          clear e' hx hy
          rcases heq : ((mk y.1).toList == (mk x.1).toList) with _ | _
          · have HE := Lib.hid heq
            go_wp2_with fail
            go_quiet (fail)
            go_wp2_with fail
            go_roundw
            case rel =>
              refine ⟨hG3.drewN _, hown4.drewN _, k + 1, by go_num, .inr (by omega), fun i u v hi hu hv => ?_⟩
              rcases Nat.lt_or_ge i k with h | h
              · exact hR.out i u v h hu hv
              · obtain rfl : i = k := by omega
                have e1 := HX.out.1.symm.trans hu
                have e2 := HX.out.2.symm.trans hv
                injection e1 with e1; injection e2 with e2; subst e1 e2
                rintro h9
                have := HE.out; rw [h9] at this; simp at this
            case measure => simp [intOf]; omega
          · have HD : Hid (newList l = .error 17) := by
              rw [HN.out, if_neg]
              · rfl
              intro hnd
              have h8 : y.1 = x.1 := by rw [ByteArray.toList_eq, ByteArray.toList_eq] at heq; simpa using heq
              exact (nodup_adj HP.out.2).1 (((HP.out.1.map _).nodup_iff).2 hnd) k x y HX.out.1 HX.out.2 h8.symm
            go_wp2_with fail
            go_quiet (fail)
            go_wp2_with fail
            go_ret2
            exact ⟨by rw [HD.out]; rfl, hG3.drewN _⟩
        · have HD : Hid (newList l = .ok l') := by
            have hn : (l'.map (·.1)).Nodup := (nodup_adj HP.out.2).2 (fun i x y hx hy => by
              have := (List.getElem?_eq_some_iff.1 hy).1
              exact hR.out i x y (by omega) hx hy)
            have hn2 := ((HP.out.1.map (·.1)).nodup_iff).1 hn
            rw [HN.out, if_pos hn2, ← sorted_uniq (HP.out.1.trans (sortE_perm l).symm) HP.out.2 (sortE_sorted l) hn]; rfl
          go_wp2_with fail
          have hsz3 := hG3.size
          exact bodyPost_ret (v := .tuple #[.pointer (some ⟨wr.heap.size, 0, none⟩), .int .i64 0]) (by simp [results, Tryz.results8, go_sem]) rfl ⟨by rw [HD.out]; exact ⟨_, A', l.length, c', rfl, hlen.symm, hsz3, CB.new _ _ _, OwnR.alloc hown4 _⟩, hG3.alloc _⟩
    · have HN := Lib.hid (newList_14 h1 h2)
      rw [h2] at HC
      clear h2 hrd hE hA hsz
      go_enter Tryz.func8, Tryz.ntmps8
      go_wp2_with fail
      refine HC.out.mono ?_
      rintro e w1 ⟨rfl, hG1⟩
      go_wp2_with fail
      go_ret2
      exact ⟨by rw [HN.out]; rfl, hG1⟩
end Go.Proofs.YtcicefifmkjffaaGreatDoor
