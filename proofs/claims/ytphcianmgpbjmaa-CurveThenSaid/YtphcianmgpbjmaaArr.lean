/- Arguments that came in, as the walks speak of them: a slice of integers, an array of two such slices. -/
import Derived.Test.YtphcianmgpbjmaaS
import Derived.ShutString
import Derived.ChangeOld
import Derived.ProofKit
namespace Go.Proofs.Ytphcianmgpbjmaa
open Go.ChangeShapes Go.WideShapes Go.ChangeAt Go.RowKit

/-- A slice's cell, read. -/
theorem sl_of_trod {H : Type} {enc : TypeId × Value → H} {W : World} {t : TypeId} {fuel : Nat} {v : Value} {x : DataW H × List MemPlace} (ht : Try.prog.underlying t = some (.slice 3))
    (hf : DataW.trod enc Try.prog W 0 (fun _ => true) true fuel t [v] = some x) : ∃ n f, n ≤ 9223372036854775807 ∧ Sl W W.heap.size v n f := by
  rcases open_ints ht Try.underlying3 (by kernel_rfl) hf with ⟨hcs, _⟩ | ⟨x, l, c, zs, hcs, _, hl, hm, hz, _, hcell, hwz⟩
  · obtain rfl : v = .slice none 0 0 := by simpa using hcs
    obtain ⟨h1, h2⟩ := sl_of_row (w := W) (a := none) (len := 0) (cap := 0) (zs := []) (.inl ⟨rfl, rfl, rfl, rfl⟩)
    exact ⟨_, _, h1, h2⟩
  · obtain rfl : v = .slice (some x) l c := by simpa using hcs
    obtain ⟨h1, h2⟩ := sl_of_row (w := W) (a := some x) (len := l) (cap := c) (zs := zs) (.inr ⟨_, rfl, hl, hm, by simpa using hz, hcell, hwz⟩)
    exact ⟨_, _, h1, h2⟩

theorem open_sl {H : Type} {enc : TypeId × Value → H} {W : World} {r : Reach} {base : Nat} {t : TypeId} {v : Value} {d : DataW H} {p : List MemPlace} (ht : Try.prog.underlying t = some (.slice 3))
    (hv : Value.okWide Try.prog W r base t v) (h : DataW.Trod enc Try.prog W 0 (fun _ => true) true t v d p) : ∃ n f, n ≤ 9223372036854775807 ∧ Sl W W.heap.size v n f := by
  obtain ⟨a, len, cap, rfl⟩ := okWide_slice ht hv
  obtain ⟨fuel, hf⟩ := h
  exact sl_of_trod ht hf

/-- In a context of its own. -/
theorem list2 {α : Type} (l : List α) (h : (⟨l⟩ : Array α).size = 2) : ∃ a b, l = [a, b] := by
  match l, h with
  | [a, b], _ => exact ⟨a, b, rfl⟩

theorem open_sl2 {H : Type} {enc : TypeId × Value → H} {W : World} {r : Reach} {base : Nat} {t e : TypeId} {v : Value} {d : DataW H} {p : List MemPlace} (ht : Try.prog.underlying t = some (.array 2 e)) (he : Try.prog.underlying e = some (.slice 3))
    (hct : Try.prog.cellsOf t = 2) (hce : Try.prog.cellsOf e = 1) (hv : Value.okWide Try.prog W r base t v) (h : DataW.Trod enc Try.prog W 0 (fun _ => true) true t v d p) :
    ∃ v0 v1, v = .agg #[v0, v1] ∧ (∃ n f, n ≤ 9223372036854775807 ∧ Sl W W.heap.size v0 n f) ∧ ∃ n f, n ≤ 9223372036854775807 ∧ Sl W W.heap.size v1 n f := by
  obtain ⟨cs, rfl, hsz, _⟩ : ∃ cs, v = .agg cs ∧ cs.size = Try.prog.cellsOf t ∧ Row.okWide Try.prog W r base t cs := by
    simpa [Value.okWide, ht] using hv
  rw [hct] at hsz
  obtain ⟨l⟩ := cs
  obtain ⟨c0, c1, rfl⟩ := list2 l hsz
  obtain ⟨fuel, hf⟩ := h
  obtain ⟨xs, m, rfl, _, _, hxs, hel⟩ := DataW.trod_array ht hf
  refine ⟨c0, c1, rfl, ?_, ?_⟩
  · have h0 := hel 0 (by omega)
    rw [hce] at h0
    obtain ⟨y, hy⟩ : ∃ y, xs[0]? = some y := ⟨_, List.getElem?_eq_getElem (by omega)⟩
    rw [hy] at h0
    exact sl_of_trod he (by simpa [Value.cells] using h0)
  · have h0 := hel 1 (by omega)
    rw [hce] at h0
    obtain ⟨y, hy⟩ : ∃ y, xs[1]? = some y := ⟨_, List.getElem?_eq_getElem (by omega)⟩
    rw [hy] at h0
    exact sl_of_trod he (by simpa [Value.cells] using h0)

end Go.Proofs.Ytphcianmgpbjmaa
