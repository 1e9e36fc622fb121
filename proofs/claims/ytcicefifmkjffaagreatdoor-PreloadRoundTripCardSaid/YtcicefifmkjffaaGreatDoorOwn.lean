/- A slice that the call owns: its value '.slice A n c' with A, n, c open; append, load, store, []byte to string. -/
import Derived.Test.YtcicefifmkjffaaGreatDoorU
import Derived.Test.YtcicefifmkjffaaGreatDoorLawA
namespace Hs
open Go Go.RowKit

/-- What is asked of a slice type t with elements e: one bundle, by the kernel. -/
structure ElT (P : Program) (t e : TypeId) (z : Value) (size bytes : Nat) : Prop where
  und : P.underlying t = some (.slice e)
  info : (P.info? e).map (fun i => (i.zero, i.size, i.bytes)) = some (some z, size, bytes)
  zs : z.cells.size = size
  pos : 0 < size

def OwnR (w : World) (B e size : Nat) (A : Option Addr) (n c : Nat) (xs : List Value) : Prop := w.ownsRow B e size (.slice A n c) n xs

section
variable {P : Program} {w w' W : World} {B e size n c : Nat} {A : Option Addr} {xs : List Value}

theorem OwnR.nil (w : World) (B e size : Nat) : OwnR w B e size none 0 0 [] := World.ownsRow_nil w B e size
theorem OwnR.len (h : OwnR w B e size A n c xs) : xs.length = n * size := h.1
theorem OwnR.alloc (h : OwnR w B e size A n c xs) (o : Obj) : OwnR (w.alloc o) B e size A n c xs := World.ownsRow.alloc h o
theorem OwnR.drew (h : OwnR w B e size A n c xs) : OwnR w.drew B e size A n c xs := h
theorem OwnR.drewN (h : OwnR w B e size A n c xs) (k : Nat) : OwnR (w.drewN k) B e size A n c xs := h
/-- The slice's block, where it is not nil. -/
theorem OwnR.form (h : OwnR w B e size A n c xs) (hn : 0 < n) : ∃ g, A = some ⟨g, 0, none⟩ ∧ B ≤ g ∧ g < w.heap.size := by
  rcases h.2 with ⟨_, h0⟩ | ⟨g, cap, cur, hv, hb, hg, _⟩
  · omega
  · injection hv with ha
    exact ⟨g, ha, hb, (Array.getElem?_eq_some_iff.1 hg).1⟩
theorem OwnR.form0 (h : OwnR w B e size A n c xs) : (A = none ∧ n = 0 ∧ c = 0) ∨ ∃ g, A = some ⟨g, 0, none⟩ ∧ B ≤ g ∧ g < w.heap.size := by
  rcases h.2 with ⟨hv, h0⟩ | ⟨g, cap, cur, hv, hb, hg, _⟩
  · injection hv with h1 h2 h3; exact .inl ⟨h1, h2, h3⟩
  · injection hv with ha
    exact .inr ⟨g, ha, hb, (Array.getElem?_eq_some_iff.1 hg).1⟩
theorem OwnR.mono (h : OwnR w B e size A n c xs) {B' : Nat} (hB : B' ≤ B) : OwnR w B' e size A n c xs := by
  refine ⟨h.1, ?_⟩
  rcases h.2 with h2 | ⟨g, cap, cur, hv, hb, r⟩
  · exact .inl h2
  · exact .inr ⟨g, cap, cur, hv, by omega, r⟩
theorem OwnR.le (h : OwnR w B e size A n c xs) : n ≤ c ∧ c ≤ maxLen := by
  rcases h.2 with ⟨hv, h0⟩ | ⟨g, cap, cur, hv, hb, hg, hn, hm, _⟩
  · injection hv with _ _ h3; subst h3; subst h0; exact ⟨Nat.le_refl _, by unfold maxLen; omega⟩
  · injection hv with _ _ h3; subst h3; exact ⟨hn, hm⟩
theorem OwnR.cell {g : Nat} (h : OwnR w B e size (some ⟨g, 0, none⟩) n c xs) (j : Nat) (hj : j < n * size) : w.cell? ⟨g, j, none⟩ = xs[j]? := World.ownsRow.cellAt h j hj
theorem OwnR.frozen {g : Nat} (h : OwnR w B e size (some ⟨g, 0, none⟩) n c xs) (j : Nat) : w.frozen? ⟨g, j, none⟩ = false := World.ownsRow.frozenAt h j
theorem OwnR.stored {g : Nat} (h : OwnR w B e size (some ⟨g, 0, none⟩) n c xs) (j : Nat) (u : Value) : OwnR (w.setCell ⟨g, j, none⟩ u) B e size (some ⟨g, 0, none⟩) n c (xs.set j u) := (World.ownsRow.stored h j u).1
/-- What grows above the heap's end keeps it. -/
theorem OwnR.gr (h : OwnR w B e size A n c xs) (hg : Gr w w') : OwnR w' B e size A n c xs := by
  refine ⟨h.1, ?_⟩
  rcases h.2 with h2 | ⟨g, cap, cur, hv, hb, hh, r⟩
  · exact .inl h2
  · exact .inr ⟨g, cap, cur, hv, hb, by rw [hg.block g (Array.getElem?_eq_some_iff.1 hh).1]; exact hh, r⟩
/-- A row below B is kept by what keeps all below B. -/
theorem OwnR.below (h : OwnR w B e size A n c xs) {D : Nat} (hb : Below D w w') (hD : ∀ g, A = some ⟨g, 0, none⟩ → g < D) : OwnR w' B e size A n c xs := by
  refine ⟨h.1, ?_⟩
  rcases h.2 with h2 | ⟨g, cap, cur, hv, hb', hh, r⟩
  · exact .inl h2
  · exact .inr ⟨g, cap, cur, hv, hb', by injection hv with ha; rw [hb.block g (hD g ha)]; exact hh, r⟩
theorem OwnR.ownBlock (h : OwnR w B e size A n c xs) : ∀ k, (Value.slice A n c).ownBlock = some k → B ≤ k ∧ k < w.heap.size := World.ownsRow.lt h

theorem OwnR.take (h : OwnR w B e size A n c xs) {m : Nat} (hm : m ≤ n) : OwnR w B e size A m c (xs.take (m * size)) := by
  have hms : m * size ≤ n * size := Nat.mul_le_mul_right _ hm
  refine ⟨by rw [List.length_take, h.1]; omega, ?_⟩
  rcases h.2 with ⟨hv, h0⟩ | ⟨g, cap, cur, hv, hb, hg, hn, hM, hs, ht⟩
  · injection hv with h1 h2 h3
    exact .inl ⟨by rw [h1, h3, show m = 0 by omega], by omega⟩
  · injection hv with h1 h2 h3
    exact .inr ⟨g, cap, cur, by rw [h1, h3], hb, hg, by omega, hM, hs, by rw [← ht, List.take_take, Nat.min_eq_left hms]⟩

/-- append of one element, behind 'buildSlice' has laid its cells. -/
theorem wpList_app1 {ops : Array Oper} {rest : List Oper} {o : Oper} {a : Act} {Q : Exit → Act → World → Prop} (s x : Operand) {t : TypeId} {z : Value} {bytes : Nat} (E : ElT P t e z size bytes)
    (hgd : o.guard = none) (ho : o.op = .call { callee := .builtin .append, args := #[s, x], argTypes := #[t, t] })
    (W : World) (hs : a.eval s = .slice A n c) (hown : OwnR w W.heap.size e size A n c xs) (hG : Gr W w)
    (us : List Value) (hx : a.eval x = .slice (some ⟨w.heap.size, 0, none⟩) 1 1) (hu : us.length = size) (h1 : us.all Value.oneCell' = true) (hbytes : (n + 1) * bytes ≤ 140737488355328) (hn : n < 140737488355328)
    (h : ∀ A' c' w', OwnR w' W.heap.size e size A' (n + 1) c' (xs ++ us) → Gr W w' → (w.alloc (.cells us.toArray e)).grownBy w' (Value.slice A n c).ownBlock → wpList P ops Q rest (a.put o.dst (.slice A' (n + 1) c')) w') :
    wpList P ops Q (o :: rest) a (w.alloc (.cells us.toArray e)) := by
  obtain ⟨i, hi, hz, hsz, hby⟩ := info_parts E.info
  refine wpList_append_own (P := P) (w := w.alloc (.cells us.toArray e)) hgd s x t ho W.heap.size e i z size bytes E.und hi hz hsz hby E.zs E.pos (.slice A n c) n xs hs (OwnR.alloc hown _) ⟨w.heap.size, 0, none⟩ 1 1 us hx (by omega) ?_ (List.all_eq_true.1 h1) (by unfold maxLen; omega) hbytes (Gr.alloc hG _).size ?_
  · intro j u hj
    rw [Addr.add_lit, Nat.zero_add, World.cell?_alloc_at _ _ _ _ rfl]
    simpa using hj
  · intro v' w' hown' hgr hnil
    rcases hown'.2 with ⟨_, h0⟩ | ⟨g, cap, cur, rfl, r⟩
    · omega
    · exact h _ _ w' hown' ((Gr.alloc hG _).grown hgr fun k hk => (World.ownsRow.lt hown k hk).1) hgr

/-- make([]T, 0, n). -/
theorem wpList_mk0 {ops : Array Oper} {rest : List Oper} {o : Oper} {a : Act} {Q : Exit → Act → World → Prop} (l x : Operand) {t : TypeId} {z : Value} {bytes : Nat} (E : ElT P t e z size bytes)
    (hgd : o.guard = none) (ho : o.op = Op.makeSlice t l x) (W : World) (hG : Gr W w) (m : Nat) {kl kc : IntKind} (hl : a.eval l = .int kl 0) (hx : a.eval x = .int kc m) (hm : m ≤ 1000000) (hbytes : bytes ≤ 1000)
    (h : ∀ A' c' w', OwnR w' W.heap.size e size A' 0 c' [] → Gr W w' → w.grownBy w' none → wpList P ops Q rest (a.put o.dst (.slice A' 0 c')) w') :
    wpList P ops Q (o :: rest) a w := by
  obtain ⟨i, hi, hz, hsz, hby⟩ := info_parts E.info
  have hb : i.bytes * m ≤ 281474976710656 := by
    rw [hby]; exact Nat.le_trans (Nat.mul_le_mul hbytes hm) (by omega)
  refine wpList_make_own (P := P) w hgd l x t ho W.heap.size e i z size E.und hi hz hsz kl kc m m hl hx rfl hb (by unfold maxLen; omega) hG.size ?_
  intro w' hown hgr
  exact h _ _ w' hown (hG.grown hgr (fun k hk => by cases hk)) hgr

/-- what an append leaves, without the block of its one element -/
theorem grow_app {w w' : World} {o : Obj} {row : Option Nat} (h : (w.alloc o).grownBy w' row) : w.grownBy w' row :=
  ⟨h.os, h.tape, h.output, Nat.le_trans (by simp) h.size, fun k hk hne => (h.block k (by simp; omega) hne).trans (heap_alloc_old w o hk)⟩
/-- Block b is known whole: the cells cs of type t, none frozen. -/
def CB (w : World) (b : Nat) (t : TypeId) (cs : Array Value) : Prop := w.heap[b]? = some (.cells cs t (0, 0))
section
variable {b : Nat} {t : TypeId} {cs : Array Value}
theorem CB.lt (h : CB w b t cs) : b < w.heap.size := (Array.getElem?_eq_some_iff.1 h).1
theorem CB.cell (h : CB w b t cs) (i : Nat) : w.cell? ⟨b, i, none⟩ = cs[i]? := cell_of_row w b i cs t (0, 0) h
theorem CB.frozen (h : CB w b t cs) (i : Nat) : w.frozen? ⟨b, i, none⟩ = false := frozen_of_row w b i cs t h
theorem CB.new (w : World) (t : TypeId) (cs : Array Value) : CB (w.alloc (.cells cs t)) w.heap.size t cs := heap_alloc_new w _
theorem CB.drew (h : CB w b t cs) : CB w.drew b t cs := h
theorem CB.drewN (h : CB w b t cs) (n : Nat) : CB (w.drewN n) b t cs := h
theorem CB.gr (h : CB w b t cs) (hg : Gr w w') : CB w' b t cs := (hg.block b h.lt).trans h
theorem CB.alloc (h : CB w b t cs) (o : Obj) : CB (w.alloc o) b t cs := h.gr (Gr.alloc (Gr.refl w) o)
theorem CB.below (h : CB w b t cs) {D : Nat} (hb : Below D w w') (hD : b < D) : CB w' b t cs := (hb.block b hD).trans h
theorem CB.grown {row : Option Nat} (h : CB w b t cs) (hg : w.grownBy w' row) (hne : some b ≠ row) : CB w' b t cs := (hg.block b h.lt hne).trans h
theorem CB.set (h : CB w b t cs) (i : Nat) (u : Value) : CB (w.setCell ⟨b, i, none⟩ u) b t (cs.setIfInBounds i u) := heap_setCell_same w b i cs t u h
theorem CB.far (h : CB w b t cs) {p : Addr} (hp : b ≠ p.block) (u : Value) : CB (w.setCell p u) b t cs := (Below.heap_setCell w p u b hp).trans h
theorem CB.not_row (h : CB w b t cs) (hte : t ≠ e) (hr : OwnR w B e size A n c xs) : some b ≠ (Value.slice A n c).ownBlock := by
  rcases hr.2 with ⟨hv, _⟩ | ⟨g, cap, cur, hv, _, hg, _⟩
  · rw [hv]; simp [Value.ownBlock]
  · rw [hv]
    intro he
    obtain rfl : b = g := by simpa [Value.ownBlock] using he
    have := (show w.heap[b]? = _ from h).symm.trans hg
    injection this with this
    injection this with _ h2
    exact hte h2
theorem CB.ne {b' : Nat} {t' : TypeId} {cs' : Array Value} (h : CB w b t cs) (h' : CB w b' t' cs') (hne : t ≠ t') : b ≠ b' := by
  rintro rfl
  have := (show w.heap[b]? = _ from h).symm.trans h'
  injection this with this
  injection this with _ h2
  exact hne h2
/-- A row of the call's own is kept where another block is written. -/
theorem OwnR.far (h : OwnR w B e size A n c xs) {p : Addr} (hp : some p.block ≠ (Value.slice A n c).ownBlock) (u : Value) : OwnR (w.setCell p u) B e size A n c xs := by
  refine ⟨h.1, ?_⟩
  rcases h.2 with h2 | ⟨g, cap, cur, hv, hb, hh, r⟩
  · exact .inl h2
  · refine .inr ⟨g, cap, cur, hv, hb, ?_, r⟩
    rw [Below.heap_setCell _ _ _ _ (fun e => hp (by rw [hv, ← e]; rfl))]
    exact hh
theorem OwnR.grown {row : Option Nat} (h : OwnR w B e size A n c xs) (hg : w.grownBy w' row) (hne : (Value.slice A n c).ownBlock = none ∨ (Value.slice A n c).ownBlock ≠ row) : OwnR w' B e size A n c xs := World.ownsRow.kept h hg hne
end

/-- A slice that reads as the cells xs (size cells an element), wherever it lies. -/
def Rd (w : World) (A : Option Addr) (n size : Nat) (xs : List Value) : Prop := xs.length = n * size ∧ (0 < n → ∃ b off, A = some ⟨b, off, none⟩ ∧ b < w.heap.size ∧ ∀ j, j < n * size → w.cell? ⟨b, off + j, none⟩ = xs[j]?)
theorem Rd.nil (w : World) (A : Option Addr) (size : Nat) : Rd w A 0 size [] := ⟨by simp, fun h => absurd h (by omega)⟩
theorem Rd.gr (h : Rd w A n size xs) (hg : Gr w w') : Rd w' A n size xs :=
  ⟨h.1, fun hn => by
    obtain ⟨b, off, e, hb, hc⟩ := h.2 hn
    exact ⟨b, off, e, Nat.lt_of_lt_of_le hb hg.size, fun j hj => (hg.cell (p := ⟨b, off + j, none⟩) hb).trans (hc j hj)⟩⟩
theorem Rd.at_ (h : Rd w A n 1 xs) {k : Nat} (hk : k < n) : ∃ b off v, A = some ⟨b, off, none⟩ ∧ b < w.heap.size ∧ xs[k]? = some v ∧ w.cell? ⟨b, off + k, none⟩ = some v := by
  obtain ⟨b, off, e, hb, hc⟩ := h.2 (by omega)
  have hl : k < xs.length := by have := h.1; omega
  exact ⟨b, off, xs[k], e, hb, List.getElem?_eq_getElem hl, (hc k (by omega)).trans (List.getElem?_eq_getElem hl)⟩
theorem OwnR.rd (h : OwnR w B e size A n c xs) : Rd w A n size xs :=
  ⟨h.1, fun hn => by
    obtain ⟨g, rfl, _, hg⟩ := h.form hn
    exact ⟨g, 0, rfl, hg, fun j hj => by rw [Nat.zero_add]; exact h.cell j hj⟩⟩
def natsV (l : List Nat) : List Value := l.map fun (n : Nat) => Value.int .i64 (n : Int)
theorem natsV_length (l : List Nat) : (natsV l).length = l.length := by simp [natsV]
theorem Rd.nat_at {l : List Nat} (h : Rd w A l.length 1 (natsV l)) {k : Nat} (hk : k < l.length) : ∃ b off, A = some ⟨b, off, none⟩ ∧ b < w.heap.size ∧ w.cell? ⟨b, off + k, none⟩ = some (.int .i64 (l[k] : Nat)) := by
  obtain ⟨b, off, v, e, hb, hx, hc⟩ := h.at_ hk
  refine ⟨b, off, e, hb, ?_⟩
  rw [hc, ← hx]
  simp [natsV, hk]

theorem OwnR.str_at {ls : List Bs} (h : OwnR w B e 1 A n c (strsV ls)) {k : Nat} (hk : k < n) : ∃ g x, A = some ⟨g, 0, none⟩ ∧ B ≤ g ∧ g < w.heap.size ∧ ls[k]? = some x ∧ w.cell? ⟨g, k, none⟩ = some (.string (mk x)) := by
  obtain ⟨g, rfl, hb, hg⟩ := h.form (by omega)
  have hlen : ls.length = n := by have := h.len; simp [strsV] at this; omega
  refine ⟨g, ls[k], rfl, hb, hg, List.getElem?_eq_getElem (by omega), ?_⟩
  rw [h.cell k (by omega)]
  simp [strsV, strV, show k < ls.length by omega]

def bv (b : UInt8) : Value := .int .u8 b.toNat
def bytesV (l : Bs) : List Value := l.map bv
theorem bytesV_length (l : Bs) : (bytesV l).length = l.length := by simp [bytesV]
theorem bytesV_snoc (l : Bs) (b : UInt8) : bytesV l ++ [bv b] = bytesV (l ++ [b]) := by simp [bytesV]

/-- string(b), b a row of bytes of the call's own. -/
theorem own_string {l : Bs} (h : OwnR w B e 1 A n c (bytesV l)) {src dst : TypeId} (hs : P.underlying src = some (.slice e)) (he : P.underlying e = some (.int .u8)) (hd : P.underlying dst = some .string) :
    (convert src dst (.slice A n c)).run P w = .ok (.string (mk l)) w := by
  have hlen : l.length = n := by have := h.len; rw [bytesV_length] at this; omega
  rcases h.form0 with ⟨rfl, rfl, rfl⟩ | ⟨g, rfl, _, _⟩
  · have : l = [] := List.eq_nil_of_length_eq_zero hlen
    subst this
    exact run_convert_bytes_nil w src e hs he _ _ dst hd
  · have := run_convert_bytes_arg (P := P) w src e hs he g 0 n c (l.map fun b => (b.toNat : Int)) (by simpa using hlen) (fun i hi => by
      rw [Nat.zero_add, h.cell i (by omega)]
      simp [bytesV, bv, List.getD, show i < l.length by omega]) dst hd
    rw [this]
    congr 3
    unfold strOfNums mk
    congr 2
    rw [List.map_map]
    conv => rhs; rw [← List.map_id l]
    congr 1
    funext b
    simp
end
end Hs
