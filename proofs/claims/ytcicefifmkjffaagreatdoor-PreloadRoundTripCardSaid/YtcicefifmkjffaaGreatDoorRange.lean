/- A range over a function whose iterator keeps state of its own in cells (captured variables): the law. The blocks from n₁ to n₂ are the iterator's. -/
import Derived.RangeFuncNested
import Derived.RangeFuncBound
import Derived.RangeFuncCalls
import Derived.RangeFuncLeaves
import Derived.Shelf.Abstract
import Derived.Shelf.RegionOpen
import Derived.OwnWalkIn
import Derived.TacticsInMore
import Derived.LoopNIn
import Derived.LoopIn
import Derived.Test.YtcicefifmkjffaaGreatDoorOrd
namespace Hs
open Go Go.RowKit
/-- Nothing but the blocks from n₁ to n₃ turns; new blocks may come. -/
structure Turns (n₁ n₃ : Nat) (A B : World) : Prop where
  os : B.os = A.os
  tape : B.tape = A.tape
  output : B.output = A.output
  size : A.heap.size ≤ B.heap.size
  block : ∀ b, b < A.heap.size → (b < n₁ ∨ n₃ ≤ b) → B.heap[b]? = A.heap[b]?
theorem Turns.refl (n₁ n₃ : Nat) (A : World) : Turns n₁ n₃ A A := ⟨rfl, rfl, rfl, Nat.le_refl _, fun _ _ _ => rfl⟩
theorem Turns.trans {n₁ n₃ : Nat} {A B C : World} (h : Turns n₁ n₃ A B) (k : Turns n₁ n₃ B C) : Turns n₁ n₃ A C :=
  ⟨k.os.trans h.os, k.tape.trans h.tape, k.output.trans h.output, Nat.le_trans h.size k.size, fun b hb ho => (k.block b (Nat.lt_of_lt_of_le hb h.size) ho).trans (h.block b hb ho)⟩
theorem Turns.mono {n₁ n₂ n₃ : Nat} {A B : World} (h : Turns n₁ n₂ A B) (hn : n₂ ≤ n₃) : Turns n₁ n₃ A B := ⟨h.os, h.tape, h.output, h.size, fun b hb ho => h.block b hb (by omega)⟩
theorem Turns.grown {n₁ n₃ : Nat} {A B : World} {row : Option Nat} (h : A.grownBy B row) (hr : ∀ k, row = some k → n₁ ≤ k ∧ k < n₃) : Turns n₁ n₃ A B :=
  ⟨h.os, h.tape, h.output, h.size, fun b hb ho => h.block b hb (fun e => by have := hr b e.symm; omega)⟩
theorem Turns.alloc {n₁ n₃ : Nat} {A B : World} (h : Turns n₁ n₃ A B) (o : Obj) : Turns n₁ n₃ A (B.alloc o) := h.trans (Turns.grown (World.grownBy_alloc B o none) (fun k e => by cases e))
theorem Turns.drew {n₁ n₃ : Nat} {A B : World} (h : Turns n₁ n₃ A B) : Turns n₁ n₃ A B.drew := h.trans ⟨rfl, rfl, rfl, Nat.le_refl _, fun _ _ _ => rfl⟩
theorem Turns.setCell {n₁ n₃ : Nat} {A B : World} (h : Turns n₁ n₃ A B) (p : Addr) (u : Value) (hp : n₁ ≤ p.block ∧ p.block < n₃) : Turns n₁ n₃ A (B.setCell p u) :=
  h.trans ⟨rfl, rfl, rfl, by simp, fun b _ ho => Below.heap_setCell B p u b (by omega)⟩
theorem Turns.put {n₁ n₃ : Nat} {A B : World} (h : Turns n₁ n₃ A B) (l : Nat) (o : Obj) (hl : n₁ ≤ l ∧ l < n₃) : Turns n₁ n₃ A (B.putObj l o) :=
  h.trans (Turns.grown (grownBy_putObj' B l o) (fun k e => by cases e; exact hl))
/-- The blocks from n₁ to n₃ lie as they lay. -/
def Fix (n₁ n₃ : Nat) (A B : World) : Prop := ∀ b, n₁ ≤ b → b < n₃ → B.heap[b]? = A.heap[b]?
theorem Fix.refl (n₁ n₃ : Nat) (A : World) : Fix n₁ n₃ A A := fun _ _ _ => rfl
theorem Fix.trans {n₁ n₃ : Nat} {A B C : World} (h : Fix n₁ n₃ A B) (k : Fix n₁ n₃ B C) : Fix n₁ n₃ A C := fun b h1 h2 => (k b h1 h2).trans (h b h1 h2)
theorem Fix.mono {n₁ n₂ n₃ : Nat} {A B : World} (h : Fix n₁ n₃ A B) (hn : n₂ ≤ n₃) : Fix n₁ n₂ A B := fun b h1 h2 => h b h1 (by omega)
theorem Fix.below {n₁ n₃ : Nat} {A B : World} (h : Below n₃ A B) : Fix n₁ n₃ A B := fun b _ h2 => h.block b h2
theorem Fix.gr {n₁ n₃ : Nat} {A B : World} (h : Gr A B) (hn : n₃ ≤ A.heap.size) : Fix n₁ n₃ A B := fun b _ h2 => h.block b (by omega)
theorem Fix.put {n₁ n₃ : Nat} {A : World} (l : Nat) (o : Obj) (hl : n₃ ≤ l) : Fix n₁ n₃ A (A.putObj l o) := fun b _ h2 => World.putObj_heap_other (by omega)

/-- The contract of an iterator whose own blocks are those from n₁ to n₂. -/
def IterE {α : Type} (E : World → Prop) (F : Fence) (n : Nat) (P : Program) (g : Nat) (lb : Array Value) (encs : α → Array Value) (n₁ n₂ : Nat) (S Sp : List α → Prop) (N : Nat) (w : World) : Prop :=
  ∀ (l : Nat) (J Jx : List α → World → Prop) (W : World), Fix n₁ n₂ w W → n₂ ≤ W.heap.size → (∀ s A B, J s A → Turns n₁ n₂ A B → J s B) → (∀ s A B, Jx s A → Turns n₁ n₂ A B → Jx s B) →
    (∀ pre x W1, J pre W1 → pre.length < N → Sp (pre ++ [x]) → YieldAt F (n - 1) P l (encs x) W1 fun e W' =>
      (e = .returned (.bool true) ∧ J (pre ++ [x]) W' ∧ Fix n₁ n₂ W1 W') ∨ (e = .returned (.bool false) ∧ Jx (pre ++ [x]) W')) →
    J [] W → (∀ pre W1, J pre W1 → E W1) →
    CallsIn F n P g (#[.func (.yield l) #[] #[]] ++ lb) W fun e W' => (∃ v, e = .returned v) ∧ ((∃ xs, S xs ∧ J xs W') ∨ (∃ pre, Sp pre ∧ Jx pre W'))
abbrev Iter {α : Type} (F : Fence) (n : Nat) (P : Program) (g : Nat) (lb : Array Value) (encs : α → Array Value) (n₁ n₂ : Nat) (S Sp : List α → Prop) (N : Nat) (w : World) : Prop := IterE (fun _ => True) F n P g lb encs n₁ n₂ S Sp N w
def bodyOut {α : Type} (n₁ n₃ : Nat) (I : List α → World → Prop) (Ix : Code → List α → World → Prop) (xs : List α) (W : World) : Exit → Act → World → Prop
  | .normal, _, W' => Fix n₁ n₃ W W' ∧ I xs W'
  | .ret, _, W' => Fix n₁ n₃ W W' ∧ Ix .ret xs W'
  | .exit id, _, W' => Fix n₁ n₃ W W' ∧ Ix (.exit id) xs W'
  | .goto t, _, W' => Fix n₁ n₃ W W' ∧ Ix (.goto t) xs W'
  | .panic _, _, _ => False
  | .outgrown, _, _ => False
variable {F : Fence} {n : Nat} {P : Program}
theorem wpIn_range_iter {α : Type} {E : World → Prop} {g : Operand} {ps : Array Tmp} {assign body : Code} {Q : Exit → Act → World → Prop} {a : Act} {w : World}
    (hro : F.round = none) (h1 : 1 ≤ n) {gf : Nat} {lb : Array Value} (hg : a.eval g = .func (.func gf) #[] lb) (hFg : F.fn gf) (eg : ∀ args w, (callFunc gf args).run P w = .ok (.enter gf args) w)
    {encs : α → Array Value} {n₁ n₂ : Nat} {S Sp : List α → Prop} {N : Nat} {w0 : World} (hseq : IterE E F (n - 1) P gf lb encs n₁ n₂ S Sp N w0)
    (hn1 : n₁ ≤ w.heap.size) (hn2 : n₂ ≤ w.heap.size) (hb0 : Fix n₁ n₂ w0 w) (hps : ∀ x, (encs x).size = ps.size)
    (I : List α → World → Prop) (Ix : Code → List α → World → Prop) (hI : ∀ s A B, I s A → Turns n₁ (w.heap.size + 2) A B → I s B) (hIx : ∀ c s A B, Ix c s A → Turns n₁ (w.heap.size + 2) A B → Ix c s B) (h0 : I [] w) (hIE : ∀ pre W, I pre W → E W) (a₁ : α → Act)
    (hassign : ∀ (l : Nat) (x : α) (W : World) (K : Act → World → Prop), K (a₁ x) W →
      assign.wpIn (F.inRound l) (n - 1 - 1) P (Exit.then K (fun _ _ _ => False)) { tmps := (ps.zip (encs x)).foldl (fun t (p, v) => t.setIfInBounds p v) a.tmps, defers := [] } W)
    (hbody : ∀ (l : Nat) (pre : List α) (x : α) (W : World), I pre W → pre.length < N → Sp (pre ++ [x]) → w.heap.size + 2 ≤ W.heap.size → body.wpIn (F.inRound l) (n - 1 - 1) P (bodyOut n₁ (w.heap.size + 2) I Ix (pre ++ [x]) W) (a₁ x) W)
    (hdone : ∀ (D : Nat) (xs : List α) (W : World), w.heap.size ≤ D → S xs → I xs W → W.heap[D]? = some (.deferred (some [])) → Q .normal { a with defers := { target := .collected D, args := #[] } :: a.defers } W)
    (hstop : ∀ (D : Nat) (c : Code) (pre : List α) (W : World), w.heap.size ≤ D → Sp pre → Ix c pre W → W.heap[D]? = some (.deferred (some [])) → c.wpIn F n P Q { a with defers := { target := .collected D, args := #[] } :: a.defers } W) :
    (Code.rangeFunc g ps assign body).wpIn F n P Q a w := by
  refine wpIn_rangeFunc (fun fn hfn => ?_)
  rw [hro]
  generalize hB : w.heap.size = B at *
  obtain ⟨rec, hrec⟩ : ∃ rec : LoopState → Option Code → Loop, rec = fun st pe => { state := st, pending := pe, fn, tmps := a.tmps, params := ps, assign, body, defers := B } := ⟨_, rfl⟩
  -- the world in which the iterator is called, and its two new blocks
  obtain ⟨V, hV⟩ : ∃ V, (w.alloc (.deferred (some []))).alloc (.loop (rec .ready none)) = V := ⟨_, rfl⟩
  have hVl : V.heap[B + 1]? = some (.loop (rec .ready none)) := by
    rw [← hV]; have := World.alloc_heap_new (w.alloc (.deferred (some []))) (.loop (rec .ready none)); rwa [World.size_alloc, hB] at this
  have hVd : V.heap[B]? = some (.deferred (some [])) := by
    rw [← hV, ← hB]; exact (((Gr.refl (w.alloc (.deferred (some [])))).alloc _).block w.heap.size (by simp)).trans (World.alloc_heap_new w _)
  have hVt : Turns n₁ (B + 2) w V := by rw [← hV]; exact ((Turns.refl _ _ w).alloc _).alloc _
  have hVs : V.heap.size = B + 2 := by rw [← hV]; simp [hB]
  refine ⟨B + 1, [{ target := .collected B, args := #[] }], V, { target := .fn (.func gf) lb, args := #[.func (.yield (B + 1)) #[] #[]] }, V, gf,
    #[.func (.yield (B + 1)) #[] #[]] ++ lb, V, ?_, ?_, ?_, ?_, fun _ => h1, ?_⟩
  · rw [← hV, hrec, ← hB]; exact run_enterLoop_outer _ _ _ _ _
  · simp only [resolve, hg]
    simp [go_sem]
  · intro f' hf'; simp [Target.leads] at hf'; subst hf'; exact hFg
  · simp [invoke, go_sem, eg]
  have kept : ∀ {A C : World} {k : Nat} {o : Obj}, Turns n₁ n₂ A C → B ≤ k → A.heap[k]? = some o → C.heap[k]? = some o := fun ht hk ho => (ht.block _ (Array.getElem?_eq_some_iff.1 ho).1 (by omega)).trans ho
  refine (hseq (B + 1)
    (fun pre W => I pre W ∧ W.heap[B + 1]? = some (.loop (rec .ready none)) ∧ W.heap[B]? = some (.deferred (some [])))
    (fun pre W => ∃ c, Ix c pre W ∧ W.heap[B + 1]? = some (.loop (rec .done (some c))) ∧ W.heap[B]? = some (.deferred (some [])))
    V (hb0.trans (fun b _ h2 => by rw [← hV]; exact (((Gr.refl w).alloc _).alloc _).block b (by omega))) (by omega)
    (fun s A C h ht => ⟨hI s A C h.1 (ht.mono (by omega)), kept ht (by omega) h.2.1, kept ht (by omega) h.2.2⟩)
    (fun s A C h ht => by obtain ⟨c, h2, h3, h4⟩ := h; exact ⟨c, hIx c s A C h2 (ht.mono (by omega)), kept ht (by omega) h3, kept ht (by omega) h4⟩)
    ?_ ⟨hI _ _ _ h0 hVt, hVl, hVd⟩ (fun pre W h => hIE pre W h.1)).mono ?_
  · -- a round
    rintro pre x W ⟨hi, hl, hd⟩ hlen hsp
    have hlt : B + 1 < W.heap.size := (Array.getElem?_eq_some_iff.1 hl).1
    have hy := run_yield (P := P) (args := encs x) hl (by rw [hrec]; exact hps x)
    rw [hrec] at hy
    refine ⟨fn, _, assign, body, hy, roundIn_of_wpIn hfn (hassign _ x W _ ⟨_, run_beginRound hl (by rw [hrec]), ?_⟩)⟩
    obtain ⟨W2, hW2⟩ : ∃ W2, W.putObj (B + 1) (.loop { rec .ready none with state := .busy }) = W2 := ⟨_, rfl⟩
    rw [hW2]
    have hl2 : W2.heap[B + 1]? = some (.loop { rec .ready none with state := .busy }) := by rw [← hW2]; exact World.putObj_heap_same hlt
    have hd2 : W2.heap[B]? = some (.deferred (some [])) := by rw [← hW2]; exact (World.putObj_heap_other (by omega)).trans hd
    have hi2 : I pre W2 := hI _ _ _ hi (by rw [← hW2]; exact (Turns.refl _ _ W).put _ _ ⟨by omega, by omega⟩)
    have hf2 : Fix n₁ n₂ W W2 := by rw [← hW2]; exact Fix.put _ _ (by omega)
    have hs2 : B + 2 ≤ W2.heap.size := by have := (Array.getElem?_eq_some_iff.1 hl2).1; omega
    have fin : ∀ (jump : Option Code) (W3 : World), Fix n₁ (B + 2) W2 W3 →
        (Instr.endRound (B + 1) jump).run P W3 = .ok (.bool jump.isNone) (W3.putObj (B + 1) (.loop (rec (if jump.isNone then .ready else .done) jump))) ∧
        (W3.putObj (B + 1) (.loop (rec (if jump.isNone then .ready else .done) jump))).heap[B + 1]? = some (.loop (rec (if jump.isNone then .ready else .done) jump)) ∧
        (W3.putObj (B + 1) (.loop (rec (if jump.isNone then .ready else .done) jump))).heap[B]? = some (.deferred (some [])) := fun jump W3 hf => by
      have hl3 := (hf (B + 1) (by omega) (by omega)).trans hl2
      have := run_endRound (P := P) jump hl3
      rw [hrec] at this ⊢
      exact ⟨this, World.putObj_heap_same (Array.getElem?_eq_some_iff.1 hl3).1, (World.putObj_heap_other (by omega)).trans ((hf B (by omega) (by omega)).trans hd2)⟩
    have turn : ∀ {W3 : World} {o : Obj}, Turns n₁ (B + 2) W3 (W3.putObj (B + 1) o) := fun {W3 _} => (Turns.refl _ _ W3).put _ _ ⟨by omega, by omega⟩
    refine wpIn_mono (hbody _ pre x W2 hi2 hlen hsp hs2) ?_
    rintro e a3 W3 hp
    cases e with
    | normal =>
      obtain ⟨hr, hl4, hd4⟩ := fin none W3 hp.1
      exact ⟨_, _, hr, .inl ⟨rfl, ⟨hI _ _ _ hp.2 turn, hl4, hd4⟩, (hf2.trans (hp.1.mono (by omega))).trans (Fix.put _ _ (by omega))⟩⟩
    | ret =>
      obtain ⟨hr, hl4, hd4⟩ := fin (some .ret) W3 hp.1
      exact ⟨_, _, hr, .inr ⟨rfl, .ret, hIx _ _ _ _ hp.2 turn, hl4, hd4⟩⟩
    | exit id =>
      obtain ⟨hr, hl4, hd4⟩ := fin (some (.exit id)) W3 hp.1
      exact ⟨_, _, hr, .inr ⟨rfl, .exit id, hIx _ _ _ _ hp.2 turn, hl4, hd4⟩⟩
    | goto t =>
      obtain ⟨hr, hl4, hd4⟩ := fin (some (.goto t)) W3 hp.1
      exact ⟨_, _, hr, .inr ⟨rfl, .goto t, hIx _ _ _ _ hp.2 turn, hl4, hd4⟩⟩
    | panic ch => exact hp.elim
    | outgrown => exact hp.elim
  · -- behind the iterator
    have turn : ∀ {W3 : World} {o : Obj}, Turns n₁ (B + 2) W3 (W3.putObj (B + 1) o) := fun {W3 _} => (Turns.refl _ _ W3).put _ _ ⟨by omega, by omega⟩
    rintro e W2 ⟨⟨v, rfl⟩, (⟨xs, hS, hi, hl, hd⟩ | ⟨pre, hSp, c, hi, hl, hd⟩)⟩
    · exact ⟨none, _, by have := run_endLoop (P := P) hl (by rw [hrec]; simp); rw [hrec] at this; exact this, hdone _ xs _ (Nat.le_refl _) hS (hI _ _ _ hi turn) ((World.putObj_heap_other (by omega)).trans hd)⟩
    · exact ⟨some c, _, by have := run_endLoop (P := P) hl (by rw [hrec]; simp); rw [hrec] at this; exact this, hstop _ c pre _ (Nat.le_refl _) hSp (hIx c _ _ _ hi turn) ((World.putObj_heap_other (by omega)).trans hd)⟩
end Hs
