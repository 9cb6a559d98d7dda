/- some and Made of the statements: the curves that they build. -/
import Derived.Test.YtphcianmgpbjmaaN
namespace Go.Proofs.Ytphcianmgpbjmaa
open Go.RowKit

/-- The first k numbers, as values. -/
def vals (f : Nat → Int) (k : Nat) : List Value := (List.range k).map fun i => .int .i64 (f i)
theorem vals_len (f : Nat → Int) (k : Nat) : (vals f k).length = k := by simp [vals]
theorem vals_get {f : Nat → Int} {k j : Nat} (h : j < k) : (vals f k)[j]? = some (.int .i64 (f j)) := by simp [vals, h]
theorem vals_one {f : Nat → Int} {k : Nat} : ∀ u ∈ vals f k, u.oneCell' = true := by
  intro u hu
  obtain ⟨i, _, rfl⟩ := List.mem_map.1 hu
  rfl

theorem made_empty (w : World) : (w.alloc (.cells #[] 3)).ownsRow w.heap.size 3 1 (.slice (some ⟨w.heap.size, 0, none⟩) 0 0) 0 [] :=
  World.ownsRow_made w #[] 0 (Nat.le_refl _) (by unfold maxLen; omega) rfl

theorem addr_add (b off j : Nat) : (⟨b, off, none⟩ : Addr).add j = ⟨b, off + j, none⟩ := by
  unfold Addr.add
  split
  · subst_vars; rfl
  · rfl

theorem vals_cells {f : Nat → Int} {w : World} {b off n k : Nat} (hc : Cells w b off n f) (hk : k ≤ n) (hb : b < w.heap.size) (o : Obj) :
    ∀ j u, (vals f k)[j]? = some u → (w.alloc o).cell? ((⟨b, off, none⟩ : Addr).add j) = some u := by
  intro j u hu
  have hj : j < k := by
    have := (List.getElem?_eq_some_iff.1 hu).1
    rwa [vals_len] at this
  rw [vals_get hj] at hu
  rw [← hu, addr_add]
  exact (World.cell?_alloc_past _ _ _ hb).trans (hc j (by omega))

set_option maxHeartbeats 1000000 in
theorem some_any {f : Nat → Int} {n B : Nat} {v : Value} {w : World} (hn : n ≤ 9223372036854775807) (hs : Sl w B v n f) (hB : B ≤ w.heap.size) :
    Calls Try.prog 16 #[v] w fun e w' => ∃ v', e = .returned v' ∧ w'.ownsRow w.heap.size 3 1 v' (min n 260) (vals f (min n 260)) ∧ Below w.heap.size w w' := by
  obtain ⟨i0, hi, hz0, hz1, hz2⟩ := info_parts Try.infoI
  have hmade := made_empty w
  rcases hs with ⟨rfl, a, cap, rfl, hcap⟩ | ⟨b, off, cap, rfl, ⟨hbB, hcap⟩, hc⟩
  · rcases a with _ | ⟨b, off, idx⟩
    · obtain rfl := hcap rfl
      go_enter Try.func16, Try.ntmps16
      go_wp2
      go_ret
      refine ⟨_, rfl, by simpa [vals] using hmade, ?_⟩
      exact (Below.refl w.heap.size w).alloc (Nat.le_refl _) _
    · go_enter Try.func16, Try.ntmps16
      go_wp2
      go_ret
      refine ⟨_, rfl, by simpa [vals] using hmade, ?_⟩
      exact (Below.refl w.heap.size w).alloc (Nat.le_refl _) _
  · by_cases h1 : n ≤ 260
    · have hnews := Lib.hid (vals_cells (k := n) hc (Nat.le_refl _) (show b < w.heap.size by omega) (.cells #[] 3))
      rw [Nat.min_eq_left h1]
      go_enter Try.func16, Try.ntmps16
      go_wp2_with (at_builtin; refine wpList_append_own _ rfl _ _ 23 rfl w.heap.size 3 i0 (.int .i64 0) 1 8 Try.underlying23 hi hz0 hz1 hz2 rfl (by decide) _ 0 [] rfl hmade ⟨b, off, none⟩ n cap (vals f n) rfl ((vals_len f _).trans (Nat.mul_one _).symm) hnews.out vals_one (by unfold maxLen; omega) (by omega) (by simp) ?_; intro v' w3 hown' hgrow _)
      go_ret
      refine ⟨_, rfl, by simpa using hown', ?_⟩
      exact ((Below.refl w.heap.size w).alloc (Nat.le_refl _) _).grown hgrow (by simp) (fun j hj => by have h : some w.heap.size = some j := hj; cases h; exact Nat.le_refl _)
    · have hnews := Lib.hid (vals_cells (k := 260) hc (by omega) (show b < w.heap.size by omega) (.cells #[] 3))
      rw [Nat.min_eq_right (by omega)]
      go_enter Try.func16, Try.ntmps16
      go_wp2_with (at_builtin; refine wpList_append_own _ rfl _ _ 23 rfl w.heap.size 3 i0 (.int .i64 0) 1 8 Try.underlying23 hi hz0 hz1 hz2 rfl (by decide) _ 0 [] rfl hmade ⟨b, off, none⟩ 260 cap (vals f 260) rfl ((vals_len f _).trans (Nat.mul_one _).symm) hnews.out vals_one (by unfold maxLen; omega) (by omega) (by simp) ?_; intro v' w3 hown' hgrow _)
      go_ret
      refine ⟨_, rfl, by simpa using hown', ?_⟩
      exact ((Below.refl w.heap.size w).alloc (Nat.le_refl _) _).grown hgrow (by simp) (fun j hj => by have h : some w.heap.size = some j := hj; cases h; exact Nat.le_refl _)


end Go.Proofs.Ytphcianmgpbjmaa
