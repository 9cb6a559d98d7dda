/- Arguments that came in: arrays of integers. -/
import Derived.Test.YtmilljlkcbljpaaSn
import Derived.Test.YtmilljlkcbljpaaRows
import Derived.ShutString
import Derived.ChangeOld
import Derived.ProofKit
import Derived.OpenShut
namespace Go.Proofs.Ytmilljlkcbljpaa
open Go.ChangeShapes Go.WideShapes Go.ChangeAt Go.RowKit

/-- An integer's cell, read. -/
theorem int_of_trod {H : Type} {enc : TypeId × Value → H} {W : World} {fuel : Nat} {v : Value} {x : DataW H × List MemPlace} (hf : DataW.trod enc Try.prog W 0 (fun _ => true) true fuel 3 [v] = some x) :
    ∃ a : Int, v = .int .i64 a ∧ -9223372036854775808 ≤ a ∧ a ≤ 9223372036854775807 := by
  obtain ⟨a, e0, rfl, wa⟩ := DataW.trod_int Try.underlying3 hf
  simp at e0
  subst e0
  exact ⟨a, rfl, bounds_i64 wa⟩

theorem list3 {α : Type} (l : List α) (h : (⟨l⟩ : Array α).size = 3) : ∃ a b c, l = [a, b, c] := by
  match l, h with
  | [a, b, c], _ => exact ⟨a, b, c, rfl⟩
theorem list2 {α : Type} (l : List α) (h : (⟨l⟩ : Array α).size = 2) : ∃ a b, l = [a, b] := by
  match l, h with
  | [a, b], _ => exact ⟨a, b, rfl⟩

set_option maxRecDepth 100000 in
theorem open_col {H : Type} {enc : TypeId × Value → H} {W : World} {r : Reach} {base : Nat} {t : TypeId} {v : Value} {d : DataW H} {p : List MemPlace} (ht : Try.prog.underlying t = some (.array 3 3)) (hct : Try.prog.cellsOf t = 3)
    (hv : Value.okWide Try.prog W r base t v) (h : DataW.Trod enc Try.prog W 0 (fun _ => true) true t v d p) : ∃ c : Nat → Int, v = col c ∧ ∀ i, i < 3 → -9223372036854775808 ≤ c i ∧ c i ≤ 9223372036854775807 := by
  have hce : Try.prog.cellsOf 3 = 1 := by kernel_rfl
  obtain ⟨cs, rfl, hsz, _⟩ : ∃ cs, v = .agg cs ∧ cs.size = Try.prog.cellsOf t ∧ Row.okWide Try.prog W r base t cs := by
    simpa [Value.okWide, ht] using hv
  rw [hct] at hsz
  obtain ⟨l⟩ := cs
  obtain ⟨x0, x1, x2, rfl⟩ := list3 l hsz
  obtain ⟨fuel, hf⟩ := h
  obtain ⟨xs, m, rfl, _, _, hxs, hel⟩ := DataW.trod_array ht hf
  have key : ∀ j, j < 3 → ∃ a : Int, ([x0, x1, x2] : List Value)[j]? = some (.int .i64 a) ∧ -9223372036854775808 ≤ a ∧ a ≤ 9223372036854775807 := fun j hj => by
    have h0 := hel j hj
    rw [hce] at h0
    obtain ⟨y, hy⟩ : ∃ y, xs[j]? = some y := ⟨_, List.getElem?_eq_getElem (by omega)⟩
    rw [hy] at h0
    obtain rfl | rfl | rfl : j = 0 ∨ j = 1 ∨ j = 2 := by omega
    · obtain ⟨a, h1, h2⟩ := int_of_trod (by simpa [Value.cells] using h0); exact ⟨a, by simp [h1], h2⟩
    · obtain ⟨a, h1, h2⟩ := int_of_trod (by simpa [Value.cells] using h0); exact ⟨a, by simp [h1], h2⟩
    · obtain ⟨a, h1, h2⟩ := int_of_trod (by simpa [Value.cells] using h0); exact ⟨a, by simp [h1], h2⟩
  obtain ⟨a, ha, ha'⟩ := key 0 (by omega)
  obtain ⟨b, hb, hb'⟩ := key 1 (by omega)
  obtain ⟨c, hc, hc'⟩ := key 2 (by omega)
  simp at ha hb hc
  subst ha hb hc
  refine ⟨c3 a b c, rfl, fun i hi => ?_⟩
  obtain rfl | rfl | rfl : i = 0 ∨ i = 1 ∨ i = 2 := by omega
  · exact ha'
  · exact hb'
  · exact hc'

end Go.Proofs.Ytmilljlkcbljpaa
