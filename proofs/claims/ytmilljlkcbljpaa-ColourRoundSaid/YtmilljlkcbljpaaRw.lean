/- A whole array or struct, stored. -/
import Derived.Test.YtmilljlkcbljpaaLo
namespace Go.Proofs.Ytmilljlkcbljpaa
open Go.RowKit Go.Sort

theorem Exc.setRow {b : Nat} {w : World} (cs : Array Value) : Exc b w (w.setRow b cs) := ⟨⟨rfl, rfl, rfl⟩, by simp, fun k _ hk => setRow_other w b k cs hk⟩
theorem list_store {ops : Array Oper} {rest : List Oper} {o : Oper} {a : Act} {w : World} {Q : Exit → Act → World → Prop} (hgd : o.guard = none) (ty : TypeId) (x y : Operand) (ho : o.op = .store ty x y) {b : Nat} {cs old : Array Value} {t : TypeId}
    (hx : a.eval x = .pointer (some ⟨b, 0, none⟩)) (hy : a.eval y = .agg cs) (hg : w.heap[b]? = some (.cells old t (0, 0))) (hi : (Try.prog.info? ty).map (·.size) = some cs.size) (hold : old.size = cs.size) (h1 : cs.all (·.oneCell') = true)
    (h : ∀ w', w'.heap[b]? = some (.cells cs t (0, 0)) → Exc b w w' → wpList Try.prog ops Q rest (a.put o.dst undef) w') : wpList Try.prog ops Q (o :: rest) a w :=
  wpList_store_row hgd ty x y ho b cs hx hy t old hg hi hold h1 (h _ (setRow_heap w b old cs t _ hg) (Exc.setRow cs))

theorem sl_one {w : World} {B n : Nat} {v : Value} {f : Nat → Int} (h : Sl w B v n f) : v.oneCell' = true := by
  obtain ⟨a, cap, rfl⟩ := h.shape; rfl
theorem sp_one {w : World} {B : Nat} {v : Nat → Value} {n : Nat → Nat} {f : Nat → Nat → Int} (h : Crv w B v n f) (t m : Nat → Int) : (spA v t m).all (·.oneCell') = true := by
  obtain ⟨a0, c0, h0⟩ := (h 0 (by omega)).2.shape
  obtain ⟨a1, c1, h1⟩ := (h 1 (by omega)).2.shape
  obtain ⟨a2, c2, h2⟩ := (h 2 (by omega)).2.shape
  simp [spA, h0, h1, h2, Value.oneCell']

end Go.Proofs.Ytmilljlkcbljpaa
