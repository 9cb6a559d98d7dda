/- A reference function's answer in its two cells; the laws of Then and Inverse. -/
import Derived.Test.YtphcianmgpbjmaaRt
import Derived.Test.YtphcianmgpbjmaaPow
namespace Go.Proofs.Ytphcianmgpbjmaa
open Go.RowKit

/-- A pair in two cells: the value and the error that a reference function hands back. -/
def Pair (w : World) (b : Nat) (v : Value) (e : Int) : Prop := b < w.heap.size ∧ w.cell? ⟨b, 0, none⟩ = some v ∧ w.cell? ⟨b, 1, none⟩ = some (.int .i64 e) ∧ w.frozen? ⟨b, 0, none⟩ = false ∧ w.frozen? ⟨b, 1, none⟩ = false
theorem Pair.new (w : World) (v : Value) (e : Int) (t : TypeId) : Pair (w.alloc (.cells #[v, .int .i64 e] t)) w.heap.size v e :=
  ⟨by simp, by rw [World.cell?_alloc_at _ _ _ _ rfl]; rfl, by rw [World.cell?_alloc_at _ _ _ _ rfl]; rfl, by simp [go_sem], by simp [go_sem]⟩
theorem Pair.on {w w' : World} {b : Nat} {v : Value} {e : Int} (h : Pair w b v e) (hb : Below w.heap.size w w') : Pair w' b v e := by
  obtain ⟨h0, h1, h2, h3, h4⟩ := h
  exact ⟨Nat.lt_of_lt_of_le h0 hb.size, (hb.cell (p := ⟨b, 0, none⟩) h0).trans h1, (hb.cell (p := ⟨b, 1, none⟩) h0).trans h2, (hb.frozen (p := ⟨b, 0, none⟩) h0).trans h3, (hb.frozen (p := ⟨b, 1, none⟩) h0).trans h4⟩

theorem Pair.put {w : World} {b : Nat} {v : Value} {e : Int} (h : Pair w b v e) (v' : Value) (e' : Int) : ∃ w', (w.setCell ⟨b, 0, none⟩ v').setCell ⟨b, 1, none⟩ (.int .i64 e') = w' ∧ Pair w' b v' e' ∧ Below b w w' ∧
    ∀ base t size n u xs, w.ownsRow base t size u n xs → b < base → w'.ownsRow base t size u n xs := by
  obtain ⟨h0, h1, h2, h3, h4⟩ := h
  refine ⟨_, rfl, ⟨by simpa [World.setCell] using h0, by simp [go_sem, h1], by simp [go_sem, h2], by simp [go_sem, h3], by simp [go_sem, h4]⟩, ?_, ?_⟩
  · exact ((Below.refl b w).setCell (p := ⟨b, 0, none⟩) (Nat.le_refl _) _).setCell (p := ⟨b, 1, none⟩) (Nat.le_refl _) _
  · intro base t size n u xs ho hb
    exact ownsRow_setCell_below (ownsRow_setCell_below ho hb _) hb _

theorem argV_mono {N : Nat} (h : 2 ≤ N) (i : Nat) : argV i N ≤ argV (i + 1) N := by
  unfold argV
  exact Int.ediv_le_ediv (by omega) (by omega)

theorem slv_mono {n : Nat} {f : Nat → Int} {y y' : Int} (h : Vld n f) (hy : y ≤ y') : slv n f y ≤ slv n f y' := by
  refine fnd_le (reach_stays h y') (reach_stays h y) fun x hx => ?_
  simp only [reach, decide_eq_true_eq] at hx ⊢
  omega

theorem invF_vld {n N : Nat} {f : Nat → Int} (h : Vld n f) (h1 : 2 ≤ N) (h2 : N ≤ 257) : Vld N (invF f n N) := by
  have hbd : ∀ i, 0 ≤ invF f n N i ∧ invF f n N i ≤ 65535 := fun i => by
    unfold invF
    cases hk : slvOk n f (argV i N) with
    | false => simp
    | true =>
      have := (fnd_found (reach n f (argV i N))).1
      simp only [cond_true]
      unfold slv
      omega
  refine ⟨h1, h2, (hbd 0).1, (hbd _).2, fun i hi => ?_⟩
  cases hk' : slvOk n f (argV (i + 1) N) with
  | false =>
    have := (hbd i).2
    have e : invF f n N (i + 1) = 65535 := by unfold invF; rw [hk']; rfl
    omega
  | true =>
    have hy' : argV (i + 1) N ≤ f (n - 1) := by
      refine Classical.not_not.1 fun hn => ?_
      rw [slvOk_f fun q => hn q.2] at hk'
      cases hk'
    have hm := argV_mono h1 i
    have hk : slvOk n f (argV i N) = true := slvOk_t ⟨h, by omega⟩
    have := slv_mono (n := n) h hm
    unfold invF
    rw [hk, hk']
    simp only [cond_true]
    omega

theorem thenF_vld {n m N : Nat} {f g : Nat → Int} (hf : Vld n f) (hg : Vld m g) (h1 : 2 ≤ N) (h2 : N ≤ 257) : Vld N (thenF f g n m N) := by
  have A := fun i (hi : i < N) => argV_bd h1 hi
  have R := fun i (hi : i < N) => atV_range hf (A i hi).1 (A i hi).2
  refine ⟨h1, h2, (atV_range hg (R 0 (by omega)).1 (R 0 (by omega)).2).1, (atV_range hg (R _ (by omega)).1 (R _ (by omega)).2).2, fun i hi => ?_⟩
  exact atV_mono hg (R i (by omega)).1 (atV_mono hf (A i (by omega)).1 (argV_mono h1 i) (A (i + 1) hi).2) (R (i + 1) hi).2

theorem inverse_yes {f : Nat → Int} {n N : Nat} {v : Value} {w : World} (hv : Vld n f) (h1 : 2 ≤ N) (h2 : N ≤ 257) (hs : Sl w w.heap.size v n f) :
    Calls Try.prog 32 #[v, .int .i64 N] w fun e w' => ∃ v', e = .returned (.tuple #[v', .int .i64 0]) ∧ w'.ownsRow w.heap.size 3 1 v' N (vals (invF f n N) N) ∧ Below w.heap.size w w' := by
  have h := inverse_any (N := N) (by have := hv.2.1; omega) hs
  rw [vldB_t hv, pts_t (by omega) (by omega)] at h
  exact h
theorem refInverse_yes {f : Nat → Int} {n N : Nat} {v : Value} {w : World} (hv : Vld n f) (h1 : 2 ≤ N) (h2 : N ≤ 257) (hs : Sl w w.heap.size v n f) :
    Calls Try.prog 33 #[v, .int .i64 N] w fun e w' => ∃ v', e = .returned (.agg #[v', .int .i64 0]) ∧ w'.ownsRow w.heap.size 3 1 v' N (vals (invF f n N) N) ∧ Below w.heap.size w w' := by
  have h := refInverse_any (N := N) (by have := hv.2.1; omega) hs
  rw [vldB_t hv, pts_t (by omega) (by omega)] at h
  exact h
theorem then_yes {f g : Nat → Int} {n m N : Nat} {v u : Value} {w : World} (hv : Vld n f) (hu : Vld m g) (h1 : 2 ≤ N) (h2 : N ≤ 257) (hs : Sl w w.heap.size v n f) (ht : Sl w w.heap.size u m g) :
    Calls Try.prog 29 #[v, u, .int .i64 N] w fun e w' => ∃ v', e = .returned (.tuple #[v', .int .i64 0]) ∧ w'.ownsRow w.heap.size 3 1 v' N (vals (thenF f g n m N) N) ∧ Below w.heap.size w w' := by
  have h := then_any (N := N) (by have := hv.2.1; omega) (by have := hu.2.1; omega) hs ht
  rw [vldB_t hv, vldB_t hu, pts_t (by omega) (by omega)] at h
  exact h
theorem refThen_yes {f g : Nat → Int} {n m N : Nat} {v u : Value} {w : World} (hv : Vld n f) (hu : Vld m g) (h1 : 2 ≤ N) (h2 : N ≤ 257) (hs : Sl w w.heap.size v n f) (ht : Sl w w.heap.size u m g) :
    Calls Try.prog 30 #[v, u, .int .i64 N] w fun e w' => ∃ v', e = .returned (.agg #[v', .int .i64 0]) ∧ w'.ownsRow w.heap.size 3 1 v' N (vals (thenF f g n m N) N) ∧ Below w.heap.size w w' := by
  have h := refThen_any (N := N) (by have := hv.2.1; omega) (by have := hu.2.1; omega) hs ht
  rw [vldB_t hv, vldB_t hu, pts_t (by omega) (by omega)] at h
  exact h

end Go.Proofs.Ytphcianmgpbjmaa
