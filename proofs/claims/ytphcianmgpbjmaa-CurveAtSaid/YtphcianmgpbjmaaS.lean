/- A slice of integers that came in, as the walks speak of it; the statement CurveAt, walked. -/
import Derived.Test.YtphcianmgpbjmaaQ
import Derived.OpenShut
namespace Go.Proofs.Ytphcianmgpbjmaa
open Go.RowKit

/-- A slice that came in. -/
theorem sl_of_row {w : World} {a : Option Addr} {len cap : Nat} {zs : List Int}
    (h : (a = none ∧ len = 0 ∧ cap = 0 ∧ zs = []) ∨ ∃ x, a = some x ∧ len ≤ cap ∧ cap ≤ maxLen ∧ zs.length = cap ∧ (∀ i, i < zs.length → w.cell? (x.add i) = some (.int .i64 (zs.getD i 0))) ∧ ∀ n ∈ zs, (Lit.int .i64 n).wf = true) :
    len ≤ 9223372036854775807 ∧ Sl w w.heap.size (.slice a len cap) len (fun k => zs.getD k 0) := by
  rcases h with ⟨rfl, rfl, rfl, rfl⟩ | ⟨x, rfl, hl, hm, hz, hc, _⟩
  · exact ⟨by omega, .inl ⟨rfl, _, _, rfl, fun _ => rfl⟩⟩
  · unfold maxLen at hm
    refine ⟨by omega, ?_⟩
    by_cases h0 : len = 0
    · subst h0
      exact .inl ⟨rfl, _, _, rfl, fun h => by cases h⟩
    · obtain ⟨b, off, rfl, hc'⟩ := ints_at hc (by omega)
      refine .inr ⟨b, off, cap, rfl, ⟨?_, hl⟩, fun k hk => hc' k (by omega)⟩
      exact World.block_lt_of_cell? w _ (hc' 0 (by omega))

/-- What some and Made leave, as slices. -/
theorem some_sl {f : Nat → Int} {n B : Nat} {v : Value} {w : World} (hn : n ≤ 9223372036854775807) (hs : Sl w B v n f) (hB : B ≤ w.heap.size) :
    Calls Try.prog 16 #[v] w fun e w' => ∃ v', e = .returned v' ∧ Sl w' w'.heap.size v' (min n 260) f ∧ Below w.heap.size w w' :=
  (some_any hn hs hB).mono fun _ _ ⟨v', he, ho, hb⟩ => ⟨v', he, Sl.own ho, hb⟩
theorem made_sl {g : Nat → Int} {n B : Nat} {v : Value} {w : World} (hn : n ≤ 9223372036854775807) (hs : Sl w B v n g) (hB : B ≤ w.heap.size) :
    Calls Try.prog 17 #[v] w fun e w' => ∃ v', e = .returned v' ∧ Sl w' w'.heap.size v' (madeN n) (madeV n g) ∧ Below w.heap.size w w' :=
  (made_any hn hs hB).mono fun _ _ ⟨v', he, ho, hb⟩ => ⟨v', he, Sl.own ho, hb⟩
theorem Sl.on {w w' : World} {n : Nat} {v : Value} {f : Nat → Int} (h : Sl w w.heap.size v n f) (hb : Below w.heap.size w w') : Sl w' w'.heap.size v n f := (h.below hb (Nat.le_refl _)).mono hb.size

end Go.Proofs.Ytphcianmgpbjmaa
