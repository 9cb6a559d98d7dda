/- Arguments that came in: a slice of integers with its bounds, a pair of integers. -/
import Derived.Test.YtmilljlkcbljpaaLq
import Derived.Test.YtmilljlkcbljpaaBx
namespace Go.Proofs.Ytmilljlkcbljpaa
open Go.ChangeShapes Go.WideShapes Go.ChangeAt Go.RowKit

theorem slb_of_trod {H : Type} {enc : TypeId × Value → H} {W : World} {t : TypeId} {fuel : Nat} {v : Value} {x : DataW H × List MemPlace} (ht : Try.prog.underlying t = some (.slice 3))
    (hf : DataW.trod enc Try.prog W 0 (fun _ => true) true fuel t [v] = some x) : ∃ (n : Nat) (f : Nat → Int), (n ≤ 9223372036854775807 ∧ ∀ k, -9223372036854775808 ≤ f k ∧ f k ≤ 9223372036854775807) ∧ Sl W W.heap.size v n f := by
  rcases open_ints ht Try.underlying3 (by kernel_rfl) hf with ⟨hcs, _⟩ | ⟨x, l, c, zs, hcs, _, hl, hm, hz, _, hcell, hwz⟩
  · obtain rfl : v = .slice none 0 0 := by simpa using hcs
    obtain ⟨h1, h2⟩ := sl_of_row (w := W) (a := none) (len := 0) (cap := 0) (zs := []) (.inl ⟨rfl, rfl, rfl, rfl⟩)
    exact ⟨_, _, ⟨h1, fun k => by simp⟩, h2⟩
  · obtain rfl : v = .slice (some x) l c := by simpa using hcs
    obtain ⟨h1, h2⟩ := sl_of_row (w := W) (a := some x) (len := l) (cap := c) (zs := zs) (.inr ⟨_, rfl, hl, hm, by simpa using hz, hcell, hwz⟩)
    exact ⟨_, _, ⟨h1, fun k => by have := range_i64 hwz k; simpa [List.getD_eq_getElem?_getD] using this⟩, h2⟩

set_option maxRecDepth 100000 in
theorem open_slb {H : Type} {enc : TypeId × Value → H} {W : World} {r : Reach} {base : Nat} {t : TypeId} {v : Value} {d : DataW H} {p : List MemPlace} (ht : Try.prog.underlying t = some (.slice 3))
    (hv : Value.okWide Try.prog W r base t v) (h : DataW.Trod enc Try.prog W 0 (fun _ => true) true t v d p) : ∃ (n : Nat) (f : Nat → Int), (n ≤ 9223372036854775807 ∧ ∀ k, -9223372036854775808 ≤ f k ∧ f k ≤ 9223372036854775807) ∧ Sl W W.heap.size v n f := by
  obtain ⟨a, len, cap, rfl⟩ := okWide_slice ht hv
  obtain ⟨fuel, hf⟩ := h
  exact slb_of_trod ht hf

set_option maxRecDepth 100000 in
theorem open_two {H : Type} {enc : TypeId × Value → H} {W : World} {r : Reach} {base : Nat} {t : TypeId} {v : Value} {d : DataW H} {p : List MemPlace} (ht : Try.prog.underlying t = some (.array 2 3)) (hct : Try.prog.cellsOf t = 2)
    (hv : Value.okWide Try.prog W r base t v) (h : DataW.Trod enc Try.prog W 0 (fun _ => true) true t v d p) : ∃ a b : Int, v = .agg #[.int .i64 a, .int .i64 b] := by
  have hce : Try.prog.cellsOf 3 = 1 := by kernel_rfl
  obtain ⟨cs, rfl, hsz, _⟩ : ∃ cs, v = .agg cs ∧ cs.size = Try.prog.cellsOf t ∧ Row.okWide Try.prog W r base t cs := by
    simpa [Value.okWide, ht] using hv
  rw [hct] at hsz
  obtain ⟨l⟩ := cs
  obtain ⟨x0, x1, rfl⟩ := list2 l hsz
  obtain ⟨fuel, hf⟩ := h
  obtain ⟨xs, m, rfl, _, _, hxs, hel⟩ := DataW.trod_array ht hf
  have key : ∀ j, j < 2 → ∃ a : Int, ([x0, x1] : List Value)[j]? = some (.int .i64 a) := fun j hj => by
    have h0 := hel j hj
    rw [hce] at h0
    obtain ⟨y, hy⟩ : ∃ y, xs[j]? = some y := ⟨_, List.getElem?_eq_getElem (by omega)⟩
    rw [hy] at h0
    obtain rfl | rfl : j = 0 ∨ j = 1 := by omega
    · obtain ⟨a, h1, h2⟩ := int_of_trod (by simpa [Value.cells] using h0); exact ⟨a, by simp [h1]⟩
    · obtain ⟨a, h1, h2⟩ := int_of_trod (by simpa [Value.cells] using h0); exact ⟨a, by simp [h1]⟩
  obtain ⟨a, ha⟩ := key 0 (by omega)
  obtain ⟨b, hb⟩ := key 1 (by omega)
  simp at ha hb
  subst ha hb
  exact ⟨a, b, rfl⟩

end Go.Proofs.Ytmilljlkcbljpaa
