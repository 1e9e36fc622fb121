/- A region that draws its order, walked in one order: reads of cells that nobody writes before they are read are taken first, the rest comes in the one order that is left. What the reads lean on (S) is asked only till the operation t, for which the reads are waited. -/
import Derived.StillTail
import Derived.OrdersHeld
import Derived.Deep.RegionHeld3
import Derived.Deep.Cut
import Derived.Deep.DeepCutAuto
import Derived.Test.YtcicefifmkjffaaGreatDoorOwn
namespace Hs
open Go Go.RowKit
section
variable {P : Program} {ops : Array Oper} {Q : Exit → Act → World → Prop} {md : Region.Mode} {S : World → Prop} {t : Nat}
def wpAnyE (P : Program) (md : Region.Mode) (ops : Array Oper) (Q : Exit → Act → World → Prop) (S : World → Prop) (t : Nat) : Nat → Array Bool → Act → World → Prop
  | 0, listed, a, w => Region.ready md ops listed = [] ∧ Q .normal a w
  | fuel + 1, listed, a, w =>
    (Region.ready md ops listed = [] → Q .normal a w) ∧
    ∀ i ∈ Region.ready md ops listed, wpOp P ops Q i (fun a' w' => ((listed.setIfInBounds i true).getD t false = false → S w') ∧ wpAnyE P md ops Q S t fuel (listed.setIfInBounds i true) a' w') a w
theorem wpAny_of_E : ∀ (fuel : Nat) (listed : Array Bool) (a : Act) (w : World), wpAnyE P md ops Q S t fuel listed a w → wpAny P md ops Q fuel listed a w
  | 0, _, _, _, h => h
  | fuel + 1, _, _, _, h => ⟨h.1, fun i hi => wpOp_mono (fun _ _ h' => wpAny_of_E fuel _ _ _ h'.2) (h.2 i hi)⟩
theorem getD_set_true' {listed : Array Bool} {i j : Nat} (h : listed.getD j false = true) : (listed.setIfInBounds i true).getD j false = true := by
  by_cases hij : i = j
  · subst hij
    by_cases hl : i < listed.size
    · simp [hl]
    · simp [Array.getElem?_eq_none (Nat.le_of_not_lt hl)] at h
  · simpa [Array.getElem?_setIfInBounds, hij] using h
theorem getD_set_ne' {listed : Array Bool} {i j : Nat} (hij : i ≠ j) (b : Bool) : (listed.setIfInBounds i true).getD j b = listed.getD j b := by
  simp [hij]
theorem wpAnyE_first {i : Nat} {oi : Oper} {v : Value} (hi : ops[i]? = some oi) (hsel : ∀ (j : Nat) (o : Oper) cs b, ops[j]? = some o → o.op ≠ .select cs b)
    (hQ : ∀ c a d v w, Q (.panic c) (Act.put a d v) w → Q (.panic c) a w) (hit : i ≠ t) (hti : ops.size ≤ t ∨ Region.waitsFor md ops t i = true) :
    ∀ (fuel : Nat) (listed : Array Bool) (a : Act) (w : World), listed.getD t false = false →
      (∀ j oj, ops[j]? = some oj → j ≠ i → listed.getD j true = false → (∀ e ∈ oj.after, Region.binds md e = true → e.on ≠ i) → oi.apart ops oj = true) →
      i ∈ Region.ready md ops listed → YieldsIf P ops S oi v a → S w →
      wpAnyE P md ops Q S t fuel (listed.setIfInBounds i true) (a.put oi.dst v) w → wpAnyE P md ops Q S t (fuel + 1) listed a w := by
  intro fuel
  induction fuel with
  | zero =>
    intro listed a w _ _ hr hy hS H
    refine ⟨fun h => (by rw [h] at hr; cases hr), fun j hj => ?_⟩
    by_cases hji : j = i
    · subst hji; exact hy.wpOp hi hS ⟨fun _ => hS, H⟩
    · have := ready_mono hj hji
      rw [H.1] at this
      cases this
  | succ fuel ih =>
    intro listed a w ht hfree hr hy hS H
    refine ⟨fun h => (by rw [h] at hr; cases hr), fun j hj => ?_⟩
    by_cases hji : j = i
    · subst hji; exact hy.wpOp hi hS ⟨fun _ => hS, H⟩
    · have h1 := H.2 j (ready_mono hj hji)
      obtain ⟨hjun, oj, hoj, hall⟩ := mem_ready.1 hj
      have hnot : ∀ e ∈ oj.after, Region.binds md e = true → e.on ≠ i := fun e he hb heq => by
        have h1 := hall e he hb
        have h0 := (mem_ready.1 hr).1
        rw [heq] at h1
        rcases Nat.lt_or_ge i listed.size with h' | h'
        · simp [h'] at h0 h1; rw [h0] at h1; cases h1
        · simp [Array.getElem?_eq_none h'] at h1
      have hjt : j ≠ t := by
        rintro rfl
        rcases hti with h | h
        · have := (Array.getElem?_eq_some_iff.1 hoj).1; omega
        · obtain ⟨o', ho', e, he, hb, hon⟩ := Region.waitsFor_spec h
          have : o' = oj := Option.some.inj (ho'.symm.trans hoj)
          subst this
          exact hnot e he hb hon
      have h2 := wpOp_putIf hoj (hfree j oj hoj hji hjun hnot) (fun cs b => hsel i oi cs b hi) (fun cs b => hsel j oj cs b hoj) (fun c a' w' h => hQ c _ _ _ w' h) hy h1
      have hfree' : ∀ k ok, ops[k]? = some ok → k ≠ i → (listed.setIfInBounds j true).getD k true = false →
          (∀ e ∈ ok.after, Region.binds md e = true → e.on ≠ i) → oi.apart ops ok = true := fun k ok hk hki hun hno => by
        refine hfree k ok hk hki ?_ hno
        by_cases hjk : j = k
        · subst hjk; exact hjun
        · rw [getD_set_ne' hjk] at hun; exact hun
      have hri : i ∈ Region.ready md ops (listed.setIfInBounds j true) := ready_mono hr (Ne.symm hji)
      refine wpOp_mono (fun a' w' h3 => ?_) h2
      have ht' : (listed.setIfInBounds j true).getD t false = false := by rw [getD_set_ne' hjt]; exact ht
      have hS' : S w' := h3.2.1 (by rw [getD_set_ne' hjt, getD_set_ne' hit]; exact ht)
      refine ⟨fun _ => hS', ih (listed.setIfInBounds j true) a' w' ht' hfree' hri h3.1 hS' ?_⟩
      rw [Array.setIfInBounds_comm _ _ hji]
      exact h3.2.2
/-- The walk: 'true': a read, taken first; 'false': the one operation that may come up. -/
def wpOrd (P : Program) (ops : Array Oper) (Q : Exit → Act → World → Prop) (S : World → Prop) (t : Nat) : List (Nat × Bool) → Act → World → Prop
  | [], a, w => Q .normal a w
  | (i, true) :: r, a, w => ∃ o v, ops[i]? = some o ∧ S w ∧ YieldsIf P ops S o v a ∧ wpOrd P ops Q S t r (a.put o.dst v) w
  | (i, false) :: r, a, w => wpOp P ops Q i (fun a' w' => (((decide (ops.size ≤ t)) || r.any (fun p => p.1 == t)) = true → S w') ∧ wpOrd P ops Q S t r a' w') a w
def ordB (md : Region.Mode) (ops : Array Oper) (t : Nat) : List (Nat × Bool) → Array Bool → Bool
  | [], listed => (Region.ready md ops listed).isEmpty
  | (i, true) :: r, listed => (Region.ready md ops listed).contains i && Region.free md ops listed i && (i != t) && (decide (ops.size ≤ t) || Region.waitsFor md ops t i) && !listed.getD t false && ordB md ops t r (listed.setIfInBounds i true)
  | (i, false) :: r, listed => decide (Region.ready md ops listed = [i]) && ((listed.setIfInBounds i true).getD t false || decide (ops.size ≤ t) || r.any (fun p => p.1 == t)) && ordB md ops t r (listed.setIfInBounds i true)
theorem wpAnyE_of_ord (hs : Region.noSelect ops = true) (hQ : ∀ c a d v w, Q (.panic c) (Act.put a d v) w → Q (.panic c) a w) : ∀ (r : List (Nat × Bool)) (listed : Array Bool) (a : Act) (w : World), ordB md ops t r listed = true → wpOrd P ops Q S t r a w → wpAnyE P md ops Q S t r.length listed a w
  | [], listed, a, w, hB, h => ⟨by simpa [ordB] using hB, h⟩
  | (i, true) :: r, listed, a, w, hB, h => by
    obtain ⟨o, v, ho, hS, hy, hK⟩ := h
    simp only [ordB, Bool.and_eq_true, Bool.or_eq_true, decide_eq_true_eq, bne_iff_ne, Bool.not_eq_true'] at hB
    obtain ⟨⟨⟨⟨⟨hr, hf⟩, hit⟩, hti⟩, ht⟩, hB'⟩ := hB
    exact wpAnyE_first ho (Region.noSelect_spec hs) hQ hit hti r.length listed a w ht (Region.free_spec ho hf) (by simpa using hr) hy hS (wpAnyE_of_ord hs hQ r _ _ _ hB' hK)
  | (i, false) :: r, listed, a, w, hB, h => by
    simp only [ordB, Bool.and_eq_true, decide_eq_true_eq] at hB
    obtain ⟨⟨hr, hc⟩, hB'⟩ := hB
    refine ⟨fun h0 => (by rw [hr] at h0; cases h0), fun j hj => ?_⟩
    rw [hr] at hj
    obtain rfl : j = i := by simpa using hj
    refine wpOp_mono (fun a' w' h3 => ⟨fun ht => h3.1 ?_, wpAnyE_of_ord hs hQ r _ _ _ hB' h3.2⟩) h
    rw [ht] at hc
    simpa using hc
theorem wp_region_ord {id : Nat} {a : Act} {w : World} {l : List Oper} (S : World → Prop) (t : Nat) (r : List (Nat × Bool)) (hm : P.follows .mixedOrders = true) (hs : Region.noSelect l.toArray = true) (hB : ordB .any l.toArray t r (Array.replicate l.length false) = true) (hl : r.length = l.length)
    (hQ : ∀ c a d v w, Q (.panic c) (Act.put a d v) w → Q (.panic c) a w) (h : wpOrd P l.toArray Q S t r a w.drew) : (Code.region id l.toArray true).wp P Q a w := by
  refine wp_region_any hm (wpAny_of_E (S := S) (t := t) _ _ _ _ ?_)
  have := wpAnyE_of_ord hs hQ r _ _ _ hB h
  rw [hl] at this
  simpa using this
theorem wpOrd_read {i : Nat} {o : Oper} {r : List (Nat × Bool)} {a : Act} {w : World} {v : Value} (ho : ops[i]? = some o) (hg : o.guard = none) (hS : S w) (hv : ∀ w', S w' → (execOp a.eval o).run P w' = .ok (.value v) w')
    (h : wpOrd P ops Q S t r (a.put o.dst v) w) : wpOrd P ops Q S t ((i, true) :: r) a w :=
  ⟨o, v, ho, hS, .inl ⟨by simp [Region.wanted, hg], hv⟩, h⟩
theorem wpOrd_op {i : Nat} {o : Oper} {r : List (Nat × Bool)} {a : Act} {w : World} (ho : ops[i]? = some o) (hg : o.guard = none)
    (h : ∀ K : Act → World → Prop, (∀ a' w', (((decide (ops.size ≤ t)) || r.any (fun p => p.1 == t)) = true → S w') → wpOrd P ops Q S t r a' w' → K a' w') → o.wp P a w K Q) : wpOrd P ops Q S t ((i, false) :: r) a w := by
  unfold wpOrd wpOp
  rw [ho]
  simp only [Region.wanted, hg]
  exact .inl (h _ (fun _ _ h1 h2 => ⟨h1, h2⟩))
theorem wpOrd_nil {a : Act} {w : World} (h : Q .normal a w) : wpOrd P ops Q S t [] a w := h
/-- append of one element as one operation; its cells lie in the block b. -/
theorem wp_app1 {w W : World} {e size n c : Nat} {A : Option Addr} {xs : List Value} {o : Oper} {a : Act} {K : Act → World → Prop} (s x : Operand) {tt : TypeId} {z : Value} {bytes : Nat} (E : ElT P tt e z size bytes)
    (ho : o.op = .call { callee := .builtin .append, args := #[s, x], argTypes := #[tt, tt] })
    (hs : a.eval s = .slice A n c) (hown : OwnR w W.heap.size e size A n c xs) (hG : Gr W w) (b : Nat)
    (us : List Value) (hx : a.eval x = .slice (some ⟨b, 0, none⟩) 1 1) (hb : CB w b e us.toArray) (hu : us.length = size) (h1 : us.all Value.oneCell' = true) (hbytes : (n + 1) * bytes ≤ 140737488355328) (hn : n < 140737488355328)
    (h : ∀ A' c' w', OwnR w' W.heap.size e size A' (n + 1) c' (xs ++ us) → Gr W w' → w.grownBy w' (Value.slice A n c).ownBlock → K (a.put o.dst (.slice A' (n + 1) c')) w') : o.wp P a w K Q := by
  obtain ⟨i, hi, hz, hsz, hby⟩ := info_parts E.info
  refine wp_append_own (P := P) w s x tt ho W.heap.size e i z size bytes E.und hi hz hsz hby E.zs E.pos (.slice A n c) n xs hs hown ⟨b, 0, none⟩ 1 1 us hx (by omega) ?_ (List.all_eq_true.1 h1) (by unfold maxLen; omega) hbytes hG.size ?_
  · intro j u hj
    rw [Addr.add_lit, Nat.zero_add, hb.cell]
    simpa using hj
  · intro v' w' hown' hgr hnil
    rcases hown'.2 with ⟨_, h0⟩ | ⟨g, cap, cur, rfl, r⟩
    · omega
    · exact h _ _ w' hown' (hG.grown hgr fun k hk => (World.ownsRow.lt hown k hk).1) hgr
end
end Hs
