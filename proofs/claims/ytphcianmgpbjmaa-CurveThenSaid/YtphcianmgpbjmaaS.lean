/- A slice of integers that came in, as the walks speak of it; the statement CurveAt, walked. -/
import Derived.Test.YtphcianmgpbjmaaQ
import Derived.OpenShut
namespace Go.Proofs.Ytphcianmgpbjmaa
open Go.RowKit

/-- A slice that came in. -/
theorem sl_of_row {w : World} {a : Option Addr} {len cap : Nat} {zs : List Int}
    (h : (a = none ∧ len = 0 ∧ cap = 0 ∧ zs = []) ∨ ∃ x, a = some x ∧ len ≤ cap ∧ cap ≤ maxLen ∧ zs.length = cap ∧ (∀ i, i < zs.length → w.cell? (x.add i) = some (.int .i64 (zs.getD i 0))) ∧ ∀ n ∈ zs, (Lit.int .i64 n).wf = true) :
    len ≤ 9223372036854775807 ∧ Sl w w.heap.size (.slice a len cap) len (fun k => zs.getD k 0) := by
  rcases h with ⟨rfl, rfl, rfl, rfl⟩ | ⟨x, rfl, hl, hm, hz, hc, _⟩
  · exact ⟨by omega, .inl ⟨rfl, _, _, rfl, fun _ => rfl⟩⟩
  · unfold maxLen at hm
    refine ⟨by omega, ?_⟩
    by_cases h0 : len = 0
    · subst h0
      exact .inl ⟨rfl, _, _, rfl, fun h => by cases h⟩
    · obtain ⟨b, off, rfl, hc'⟩ := ints_at hc (by omega)
      refine .inr ⟨b, off, cap, rfl, ⟨?_, hl⟩, fun k hk => hc' k (by omega)⟩
      exact World.block_lt_of_cell? w _ (hc' 0 (by omega))

/-- What some and Made leave, as slices. -/
theorem some_sl {f : Nat → Int} {n B : Nat} {v : Value} {w : World} (hn : n ≤ 9223372036854775807) (hs : Sl w B v n f) (hB : B ≤ w.heap.size) :
    Calls Try.prog 16 #[v] w fun e w' => ∃ v', e = .returned v' ∧ Sl w' w'.heap.size v' (min n 260) f ∧ Below w.heap.size w w' :=
  (some_any hn hs hB).mono fun _ _ ⟨v', he, ho, hb⟩ => ⟨v', he, Sl.own ho, hb⟩
theorem made_sl {g : Nat → Int} {n B : Nat} {v : Value} {w : World} (hn : n ≤ 9223372036854775807) (hs : Sl w B v n g) (hB : B ≤ w.heap.size) :
    Calls Try.prog 17 #[v] w fun e w' => ∃ v', e = .returned v' ∧ Sl w' w'.heap.size v' (madeN n) (madeV n g) ∧ Below w.heap.size w w' :=
  (made_any hn hs hB).mono fun _ _ ⟨v', he, ho, hb⟩ => ⟨v', he, Sl.own ho, hb⟩
theorem Sl.on {w w' : World} {n : Nat} {v : Value} {f : Nat → Int} (h : Sl w w.heap.size v n f) (hb : Below w.heap.size w w') : Sl w' w'.heap.size v n f := (h.below hb (Nat.le_refl _)).mono hb.size

/-- At, its value under a name. -/
theorem At_is {f : Nat → Int} {n B : Nat} {v : Value} {x r : Int} {w : World} (hn : n ≤ 9223372036854775807) (hs : Sl w B v n f) (h : AtV n f x = r) :
    Calls Try.prog 20 #[v, .int .i64 x] w fun e w' => e = .returned (.int .i64 r) ∧ Drawn w w' := h ▸ At_any hn hs
theorem AtV_in {n : Nat} {f : Nat → Int} {x : Int} (h : Vld n f) (h0 : 0 ≤ x) (h1 : x ≤ 65535) : AtV n f x = atV f (n - 1) x := by rw [AtV_yes h, clp_in h0 h1]
theorem AtV_low {n : Nat} {f : Nat → Int} {x : Int} (h : Vld n f) (h0 : x ≤ 0) : AtV n f x = f 0 := by
  rw [AtV_yes h]
  by_cases e : x = 0
  · subst e; rw [clp_in (by omega) (by omega)]; exact atV_zero
  · rw [clp_lo (by omega)]; exact atV_zero
theorem AtV_high {n : Nat} {f : Nat → Int} {x : Int} (h : Vld n f) (h0 : 65535 ≤ x) : AtV n f x = f (n - 1) := by
  rw [AtV_yes h]
  by_cases e : x = 65535
  · subst e; rw [clp_in (by omega) (by omega)]; exact atV_top
  · rw [clp_hi (by omega)]; exact atV_top
theorem AtV_mono {n : Nat} {f : Nat → Int} {x y : Int} (h : Vld n f) (hxy : x ≤ y) : AtV n f x ≤ AtV n f y := by
  rw [AtV_yes h, AtV_yes h]
  have a := clp_bd x
  have b := clp_bd y
  exact atV_mono h a.1 (by unfold clp; split <;> split <;> (try split) <;> (try split) <;> omega) b.2

end Go.Proofs.Ytphcianmgpbjmaa
