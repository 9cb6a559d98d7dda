/- Slices of integers that came in. -/
import Derived.Test.YtmilljlkcbljpaaBw
import Derived.Test.YtmilljlkcbljpaaAc
namespace Go.Proofs.Ytmilljlkcbljpaa
open Go.ChangeShapes Go.WideShapes Go.ChangeAt Go.RowKit

/-- A slice that came in. -/
theorem sl_of_row {w : World} {a : Option Addr} {len cap : Nat} {zs : List Int}
    (h : (a = none ∧ len = 0 ∧ cap = 0 ∧ zs = []) ∨ ∃ x, a = some x ∧ len ≤ cap ∧ cap ≤ maxLen ∧ zs.length = cap ∧ (∀ i, i < zs.length → w.cell? (x.add i) = some (.int .i64 (zs.getD i 0))) ∧ ∀ n ∈ zs, (Lit.int .i64 n).wf = true) :
    len ≤ 9223372036854775807 ∧ Sl w w.heap.size (.slice a len cap) len (fun k => zs.getD k 0) := by
  rcases h with ⟨rfl, rfl, rfl, rfl⟩ | ⟨x, rfl, hl, hm, hz, hc, _⟩
  · exact ⟨by omega, .inl ⟨rfl, _, _, rfl, fun _ => rfl⟩⟩
  · unfold maxLen at hm
    refine ⟨by omega, ?_⟩
    by_cases h0 : len = 0
    · subst h0
      exact .inl ⟨rfl, _, _, rfl, fun h => by cases h⟩
    · obtain ⟨b, off, rfl, hc'⟩ := ints_at hc (by omega)
      refine .inr ⟨b, off, cap, rfl, ⟨?_, hl⟩, fun k hk => hc' k (by omega)⟩
      exact World.block_lt_of_cell? w _ (hc' 0 (by omega))

/-- A slice's cell, read. -/
theorem sl_of_trod {H : Type} {enc : TypeId × Value → H} {W : World} {t : TypeId} {fuel : Nat} {v : Value} {x : DataW H × List MemPlace} (ht : Try.prog.underlying t = some (.slice 3))
    (hf : DataW.trod enc Try.prog W 0 (fun _ => true) true fuel t [v] = some x) : ∃ n f, n ≤ 9223372036854775807 ∧ Sl W W.heap.size v n f := by
  rcases open_ints ht Try.underlying3 (by kernel_rfl) hf with ⟨hcs, _⟩ | ⟨x, l, c, zs, hcs, _, hl, hm, hz, _, hcell, hwz⟩
  · obtain rfl : v = .slice none 0 0 := by simpa using hcs
    obtain ⟨h1, h2⟩ := sl_of_row (w := W) (a := none) (len := 0) (cap := 0) (zs := []) (.inl ⟨rfl, rfl, rfl, rfl⟩)
    exact ⟨_, _, h1, h2⟩
  · obtain rfl : v = .slice (some x) l c := by simpa using hcs
    obtain ⟨h1, h2⟩ := sl_of_row (w := W) (a := some x) (len := l) (cap := c) (zs := zs) (.inr ⟨_, rfl, hl, hm, by simpa using hz, hcell, hwz⟩)
    exact ⟨_, _, h1, h2⟩

set_option maxRecDepth 100000 in
theorem open_sl {H : Type} {enc : TypeId × Value → H} {W : World} {r : Reach} {base : Nat} {t : TypeId} {v : Value} {d : DataW H} {p : List MemPlace} (ht : Try.prog.underlying t = some (.slice 3))
    (hv : Value.okWide Try.prog W r base t v) (h : DataW.Trod enc Try.prog W 0 (fun _ => true) true t v d p) : ∃ n f, n ≤ 9223372036854775807 ∧ Sl W W.heap.size v n f := by
  obtain ⟨a, len, cap, rfl⟩ := okWide_slice ht hv
  obtain ⟨fuel, hf⟩ := h
  exact sl_of_trod ht hf

end Go.Proofs.Ytmilljlkcbljpaa
