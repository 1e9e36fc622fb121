/- 'compare' is a linear order; sorted lists of entries: plain. -/
import Derived.Test.YtcicefifmkjffaaGreatDoorLawL
namespace Hs
structure LinC {α : Type} (c : α → α → Int) : Prop where
  eq0 : ∀ a b, c a b = 0 ↔ a = b
  anti : ∀ a b, c a b < 0 ↔ 0 < c b a
  tr : ∀ a b d, c a b < 0 → c b d < 0 → c a d < 0
theorem bless_irr : ∀ l : Bs, bless l l = false
  | [] => rfl
  | x :: r => by
    show (if x.toNat < x.toNat then true else if x.toNat < x.toNat then false else bless r r) = false
    rw [if_neg (by omega), if_neg (by omega), bless_irr r]
theorem bless_cons (x y : UInt8) (r t : Bs) : bless (x :: r) (y :: t) = true ↔ x.toNat < y.toNat ∨ x = y ∧ bless r t = true := by
  show (if x.toNat < y.toNat then true else if y.toNat < x.toNat then false else bless r t) = true ↔ _
  by_cases h1 : x.toNat < y.toNat
  · rw [if_pos h1]; exact ⟨fun _ => .inl h1, fun _ => rfl⟩
  · rw [if_neg h1]
    by_cases h2 : y.toNat < x.toNat
    · rw [if_pos h2]
      exact ⟨(fun h => by cases h), fun h => by rcases h with h | ⟨rfl, _⟩ <;> omega⟩
    · rw [if_neg h2]
      have : x = y := UInt8.toNat_inj.1 (by omega)
      exact ⟨fun h => .inr ⟨this, h⟩, fun h => by rcases h with h | h; (omega); exact h.2⟩
theorem bless_tri : ∀ a b : Bs, bless a b = true ∨ a = b ∨ bless b a = true
  | [], [] => .inr (.inl rfl)
  | [], _ :: _ => .inl rfl
  | _ :: _, [] => .inr (.inr rfl)
  | x :: r, y :: t => by
    rw [bless_cons, bless_cons]
    rcases Nat.lt_trichotomy x.toNat y.toNat with h | h | h
    · exact .inl (.inl h)
    · obtain rfl := UInt8.toNat_inj.1 h
      rcases bless_tri r t with h | rfl | h
      · exact .inl (.inr ⟨rfl, h⟩)
      · exact .inr (.inl rfl)
      · exact .inr (.inr (.inr ⟨rfl, h⟩))
    · exact .inr (.inr (.inl h))
theorem bless_tr : ∀ a b d : Bs, bless a b = true → bless b d = true → bless a d = true
  | _, _, [], _, h => by simp [bless] at h
  | _, [], _ :: _, h, _ => by simp [bless] at h
  | [], _ :: _, _ :: _, _, _ => rfl
  | x :: r, y :: t, z :: u, h1, h2 => by
    rw [bless_cons] at h1 h2 ⊢
    rcases h1 with h1 | ⟨rfl, h1⟩ <;> rcases h2 with h2 | ⟨rfl, h2⟩
    · exact .inl (by omega)
    · exact .inl h1
    · exact .inl h2
    · exact .inr ⟨rfl, bless_tr r t u h1 h2⟩
theorem bless_asym {a b : Bs} (h : bless a b = true) : bless b a = false := by
  cases h2 : bless b a with
  | false => rfl
  | true => have := bless_tr a b a h h2; rw [bless_irr] at this; cases this
theorem cmpB_cases (a b : Bs) : (cmpB a b = -1 ∧ bless a b = true) ∨ (cmpB a b = 0 ∧ a = b) ∨ (cmpB a b = 1 ∧ bless b a = true) := by
  unfold cmpB
  rcases bless_tri a b with h | rfl | h
  · exact .inl ⟨if_pos h, h⟩
  · exact .inr (.inl ⟨by rw [if_neg (by simp [bless_irr]), if_pos rfl], rfl⟩)
  · refine .inr (.inr ⟨?_, h⟩)
    rw [if_neg (by simp [bless_asym h]), if_neg]
    rintro rfl; rw [bless_irr] at h; cases h
theorem cmpB_lin : LinC cmpB where
  eq0 a b := by
    rcases cmpB_cases a b with ⟨h, h2⟩ | ⟨h, h2⟩ | ⟨h, h2⟩
    · rw [h]; exact ⟨(fun e => by cases e), fun e => by subst e; rw [bless_irr] at h2; cases h2⟩
    · exact ⟨fun _ => h2, fun _ => h⟩
    · rw [h]; exact ⟨(fun e => by cases e), fun e => by subst e; rw [bless_irr] at h2; cases h2⟩
  anti a b := by
    rcases cmpB_cases a b with ⟨h, h2⟩ | ⟨h, h2⟩ | ⟨h, h2⟩ <;> rcases cmpB_cases b a with ⟨k, k2⟩ | ⟨k, k2⟩ | ⟨k, k2⟩ <;> rw [h, k] <;>
      first | omega | (exfalso; subst_vars; simp_all; done) | (exfalso; have := bless_asym h2; simp_all)
  tr a b d := by
    intro h1 h2
    rcases cmpB_cases a b with ⟨h, k⟩ | ⟨h, k⟩ | ⟨h, k⟩ <;> rcases cmpB_cases b d with ⟨h', k'⟩ | ⟨h', k'⟩ | ⟨h', k'⟩ <;> try omega
    have := bless_tr a b d k k'
    unfold cmpB; rw [if_pos this]; omega
theorem cmpL_cons (x y : Bs) (r t : List Bs) : cmpL (x :: r) (y :: t) = if cmpB x y = 0 then cmpL r t else cmpB x y := rfl
theorem cmpL_eq0 : ∀ a b, cmpL a b = 0 ↔ a = b
  | [], [] => ⟨fun _ => rfl, fun _ => rfl⟩
  | [], _ :: _ => ⟨(fun h => by cases h), fun h => by cases h⟩
  | _ :: _, [] => ⟨(fun h => by cases h), fun h => by cases h⟩
  | x :: r, y :: t => by
    rw [cmpL_cons]
    by_cases h : cmpB x y = 0
    · rw [if_pos h, cmpL_eq0 r t, (cmpB_lin.eq0 x y).1 h]; simp
    · rw [if_neg h]
      exact ⟨fun e => absurd e h, fun e => by injection e with e; exact absurd ((cmpB_lin.eq0 x y).2 e) h⟩
theorem cmpL_anti : ∀ a b, cmpL a b < 0 ↔ 0 < cmpL b a
  | [], [] => by simp [cmpL]
  | [], _ :: _ => by simp [cmpL]
  | _ :: _, [] => by simp [cmpL]
  | x :: r, y :: t => by
    rw [cmpL_cons, cmpL_cons]
    by_cases h : x = y
    · rw [if_pos ((cmpB_lin.eq0 x y).2 h), if_pos ((cmpB_lin.eq0 y x).2 h.symm), cmpL_anti r t]
    · rw [if_neg (fun e => h ((cmpB_lin.eq0 x y).1 e)), if_neg (fun e => h ((cmpB_lin.eq0 y x).1 e).symm), cmpB_lin.anti x y]
theorem cmpL_tr : ∀ a b d, cmpL a b < 0 → cmpL b d < 0 → cmpL a d < 0
  | _, _, [], _, h => by rename_i b _; cases b <;> simp [cmpL] at h
  | _, [], _ :: _, h, _ => by rename_i a _ _ _; cases a <;> simp [cmpL] at h
  | [], _ :: _, _ :: _, _, _ => by simp [cmpL]
  | x :: r, y :: t, z :: u, h1, h2 => by
    rw [cmpL_cons] at h1 h2 ⊢
    by_cases e1 : x = y
    · subst e1
      rw [if_pos ((cmpB_lin.eq0 x x).2 rfl)] at h1
      by_cases e2 : x = z
      · subst e2
        rw [if_pos ((cmpB_lin.eq0 x x).2 rfl)] at h2 ⊢
        exact cmpL_tr r t u h1 h2
      · rw [if_neg (fun e => e2 ((cmpB_lin.eq0 x z).1 e))] at h2 ⊢; exact h2
    · rw [if_neg (fun e => e1 ((cmpB_lin.eq0 x y).1 e))] at h1
      by_cases e2 : y = z
      · subst e2
        rw [if_neg (fun e => e1 ((cmpB_lin.eq0 x y).1 e))]; exact h1
      · rw [if_neg (fun e => e2 ((cmpB_lin.eq0 y z).1 e))] at h2
        have := cmpB_lin.tr x y z h1 h2
        rw [if_neg (by omega)]; exact this
def joinB (c : UInt8) : List Bs → Bs
  | [] => []
  | [x] => x
  | x :: r => x ++ c :: joinB c r
theorem joinB_splitAux (c : UInt8) : ∀ (l cur : Bs), joinB c (splitAux c cur l) = cur ++ l
  | [], cur => by simp [splitAux, joinB]
  | b :: l, cur => by
    show joinB c (if b = c then cur :: splitAux c [] l else splitAux c (cur ++ [b]) l) = _
    by_cases h : b = c
    · rw [if_pos h]
      have ih := joinB_splitAux c l []
      have hl := (splitAux_length c l []).1
      cases hs : splitAux c [] l with
      | nil => rw [hs] at hl; simp at hl
      | cons x r => rw [hs] at ih; show cur ++ c :: joinB c (x :: r) = _; rw [ih, h]; rfl
    · rw [if_neg h, joinB_splitAux c l (cur ++ [b])]; simp
theorem joinB_split (c : UInt8) (l : Bs) : joinB c (split c l) = l := joinB_splitAux c l []
theorem compare_lin : LinC compare where
  eq0 a b := by
    unfold compare
    rw [cmpL_eq0, List.reverse_inj]
    exact ⟨fun h => by rw [← joinB_split 46 a, h, joinB_split], fun h => by rw [h]⟩
  anti a b := cmpL_anti _ _
  tr a b d := cmpL_tr _ _ _
/- sorted lists of entries -/
def leE (x y : Entry) : Prop := compare x.1 y.1 ≤ 0
theorem le_iff (a b : Bs) : compare a b ≤ 0 ↔ ¬ compare b a < 0 := by
  rw [compare_lin.anti b a]; omega
theorem compare_le_tr {a b d : Bs} (h1 : compare a b ≤ 0) (h2 : compare b d ≤ 0) : compare a d ≤ 0 := by
  rcases Int.lt_or_eq_of_le h1 with h1 | h1
  · rcases Int.lt_or_eq_of_le h2 with h2 | h2
    · exact Int.le_of_lt (compare_lin.tr a b d h1 h2)
    · rw [(compare_lin.eq0 b d).1 h2] at h1; exact Int.le_of_lt h1
  · rw [(compare_lin.eq0 a b).1 h1]; exact h2
theorem ins_perm (x : Entry) : ∀ l, (ins x l).Perm (x :: l)
  | [] => List.Perm.refl _
  | y :: r => by
    show (if compare y.1 x.1 < 0 then y :: ins x r else x :: y :: r).Perm _
    by_cases h : compare y.1 x.1 < 0
    · rw [if_pos h]; exact ((ins_perm x r).cons y).trans (List.Perm.swap x y r)
    · rw [if_neg h]
theorem ins_sorted (x : Entry) : ∀ l, l.Pairwise leE → (ins x l).Pairwise leE
  | [], _ => by simp [ins]
  | y :: r, h => by
    show (if compare y.1 x.1 < 0 then y :: ins x r else x :: y :: r).Pairwise leE
    rw [List.pairwise_cons] at h
    by_cases hc : compare y.1 x.1 < 0
    · rw [if_pos hc, List.pairwise_cons]
      refine ⟨fun z hz => ?_, ins_sorted x r h.2⟩
      rcases List.mem_cons.1 ((ins_perm x r).subset hz) with rfl | hz
      · exact Int.le_of_lt hc
      · exact h.1 z hz
    · rw [if_neg hc, List.pairwise_cons, List.pairwise_cons]
      have hxy : leE x y := (le_iff _ _).2 hc
      refine ⟨fun z hz => ?_, h.1, h.2⟩
      rcases List.mem_cons.1 hz with rfl | hz
      · exact hxy
      · exact compare_le_tr hxy (h.1 z hz)
theorem sortE_snoc (l : List Entry) (x : Entry) : sortE (l ++ [x]) = ins x (sortE l) := by simp [sortE]
theorem foldl_ins_perm : ∀ (l acc : List Entry), (l.foldl (fun acc x => ins x acc) acc).Perm (acc ++ l)
  | [], acc => by simp
  | x :: r, acc => by
    refine (foldl_ins_perm r (ins x acc)).trans ?_
    exact (((ins_perm x acc).append_right r)).trans (by rw [List.cons_append]; exact List.perm_middle.symm)
theorem foldl_ins_sorted : ∀ (l acc : List Entry), acc.Pairwise leE → (l.foldl (fun acc x => ins x acc) acc).Pairwise leE
  | [], _, h => h
  | x :: r, acc, h => foldl_ins_sorted r (ins x acc) (ins_sorted x acc h)
theorem sortE_perm (l : List Entry) : (sortE l).Perm l := foldl_ins_perm l []
theorem sortE_sorted (l : List Entry) : (sortE l).Pairwise leE := foldl_ins_sorted l [] List.Pairwise.nil
/-- A sorted list without two equal hosts is determined by its entries. -/
theorem sorted_uniq : ∀ {a b : List Entry}, a.Perm b → a.Pairwise leE → b.Pairwise leE → (a.map (·.1)).Nodup → a = b
  | [], b, hp, _, _, _ => (List.Perm.nil_eq hp)
  | x :: r, [], hp, _, _, _ => absurd hp.length_eq (by simp)
  | x :: r, y :: t, hp, ha, hb, hn => by
    rw [List.pairwise_cons] at ha hb
    have hxy : x = y := by
      have hx : x ∈ y :: t := hp.subset (by simp)
      have hy : y ∈ x :: r := hp.symm.subset (by simp)
      rcases List.mem_cons.1 hx with h | hx
      · exact h
      · rcases List.mem_cons.1 hy with h | hy
        · exact h.symm
        · exfalso
          have h1 := hb.1 x hx
          have h2 := ha.1 y hy
          have h3 : compare x.1 y.1 = 0 := by
            have := (le_iff y.1 x.1).1 h1
            unfold leE at h2; omega
          have h4 := (compare_lin.eq0 _ _).1 h3
          rw [List.map_cons, List.nodup_cons] at hn
          exact hn.1 (h4 ▸ List.mem_map_of_mem hy)
    subst hxy
    rw [List.map_cons, List.nodup_cons] at hn
    rw [sorted_uniq (hp.cons_inv) ha.2 hb.2 hn.2]
/-- In a sorted list two equal hosts stand side by side. -/
theorem nodup_adj : ∀ {l : List Entry}, l.Pairwise leE → ((l.map (·.1)).Nodup ↔ ∀ i x y, l[i]? = some x → l[i + 1]? = some y → x.1 ≠ y.1)
  | [], _ => by simp
  | [x], _ => by simp
  | x :: y :: r, h => by
    have h2 := h
    rw [List.pairwise_cons] at h
    have ih := nodup_adj h.2
    rw [List.map_cons, List.nodup_cons, ih]
    constructor
    · rintro ⟨h3, h4⟩ i u v hu hv
      cases i with
      | zero =>
        simp only [List.getElem?_cons_zero, Option.some.injEq, Nat.zero_add, List.getElem?_cons_succ] at hu hv
        subst hu hv
        intro e; exact h3 (by rw [e]; simp)
      | succ i => exact h4 i u v (by simpa using hu) (by simpa using hv)
    · intro hh
      refine ⟨fun hm => ?_, fun i u v hu hv => hh (i + 1) u v (by simpa using hu) (by simpa using hv)⟩
      obtain ⟨z, hz, e⟩ := List.mem_map.1 hm
      have hxy : x.1 ≠ y.1 := hh 0 x y rfl rfl
      have h5 : leE x y := h.1 y (by simp)
      have h6 : leE y z := by
        rcases List.mem_cons.1 hz with rfl | hz
        · exact Int.le_of_eq ((compare_lin.eq0 _ _).2 rfl)
        · exact (List.pairwise_cons.1 h.2).1 z hz
      have h7 : compare y.1 x.1 ≤ 0 := by unfold leE at h6; rw [e] at h6; exact h6
      have h8 := (le_iff y.1 x.1).1 h7
      unfold leE at h5
      exact hxy ((compare_lin.eq0 _ _).1 (by omega))
end Hs
