/- Whole structs stored into a variable of their own, and handed back out of one. -/
import Derived.Test.YtcicefifmkjffaaGreatDoorOwn
import Derived.Laws.Tables
namespace Hs
open Go Go.RowKit
section
variable {P : Program} {w : World}
theorem setRow_cb {g : Nat} {t : TypeId} {old cells : Array Value} (h : CB w g t old) : CB (w.setRow g cells) g t cells ∧ w.grownBy (w.setRow g cells) (some g) :=
  ⟨setRow_heap w g old cells t (0, 0) h, rfl, rfl, rfl, by simp, fun k _ hne => setRow_other w g k cells (fun e => hne (by rw [e]))⟩
/-- '*x = v', v a struct (or an array), x a variable of its own. -/
theorem wpList_st {ops : Array Oper} {rest : List Oper} {o : Oper} {a : Act} {Q : Exit → Act → World → Prop} (ty : TypeId) (x y : Operand) (hgd : o.guard = none) (ho : o.op = .store ty x y)
    (g : Nat) (cells : List Value) (hx : a.eval x = .pointer (some ⟨g, 0, none⟩)) (hy : a.eval y = .agg cells.toArray) {t : TypeId} {old : Array Value} (hb : CB w g t old)
    (hi : (P.info? ty).map (·.size) = some cells.length) (hold : old.size = cells.length) (h1 : cells.all Value.oneCell' = true)
    (h : ∀ w', CB w' g t cells.toArray → w.grownBy w' (some g) → wpList P ops Q rest (a.put o.dst undef) w') : wpList P ops Q (o :: rest) a w :=
  wpList_plain hgd fun _ hK => wp_store_row ty x y ho g cells.toArray hx hy t old hb hi hold (by simpa using h1) (hK _ _ (h _ (setRow_cb hb).1 (setRow_cb hb).2))
theorem results_ct {fn : Func} {p q : Tmp} {ty : TypeId} (h : fn.results = #[.cell p ty, .tmp q]) (tmps : Array Value) (w : World) {g : Nat} {t : TypeId} {cs : Array Value} {d : TypeDesc}
    (hp : tmps.getD p undef = .pointer (some ⟨g, 0, none⟩)) (hg : CB w g t cs) (hu : P.underlying ty = some d) (hd : (match d with | .struct _ | .array _ _ => true | _ => false) = true) (hi : (P.info? ty).map (·.size) = some cs.size) :
    (results fn tmps).run P w = .ok (.tuple #[.agg cs, tmps.getD q undef]) w := by
  have hp' : tmps[p]?.getD undef = .pointer (some ⟨g, 0, none⟩) := by simpa using hp
  simp [results, h, hp', asAddr, run_loadVar_row w g t ty cs (0, 0) d hg hu hd hi]
end
end Hs
