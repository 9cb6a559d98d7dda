/- Stores into a part of a space. -/
import Derived.Test.YtmilljlkcbljpaaRs
namespace Go.Proofs.Ytmilljlkcbljpaa
open Go.RowKit Go.Sort

def set9 (w : World) (b off : Nat) (t : Nat → Int) : World := ((((((((w.setCell ⟨b, off, none⟩ (.int .i64 (t 0))).setCell ⟨b, off + 1, none⟩ (.int .i64 (t 1))).setCell ⟨b, off + 2, none⟩ (.int .i64 (t 2))).setCell ⟨b, off + 3, none⟩ (.int .i64 (t 3))).setCell ⟨b, off + 4, none⟩ (.int .i64 (t 4))).setCell ⟨b, off + 5, none⟩ (.int .i64 (t 5))).setCell ⟨b, off + 6, none⟩ (.int .i64 (t 6))).setCell ⟨b, off + 7, none⟩ (.int .i64 (t 7))).setCell ⟨b, off + 8, none⟩ (.int .i64 (t 8))
theorem set9_heap {w : World} {b off : Nat} {cs : Array Value} {ty : TypeId} (h : w.heap[b]? = some (.cells cs ty (0, 0))) (t : Nat → Int) :
    (set9 w b off t).heap[b]? = some (.cells (((((((((cs.setIfInBounds off (.int .i64 (t 0))).setIfInBounds (off + 1) (.int .i64 (t 1))).setIfInBounds (off + 2) (.int .i64 (t 2))).setIfInBounds (off + 3) (.int .i64 (t 3))).setIfInBounds (off + 4) (.int .i64 (t 4))).setIfInBounds (off + 5) (.int .i64 (t 5))).setIfInBounds (off + 6) (.int .i64 (t 6))).setIfInBounds (off + 7) (.int .i64 (t 7))).setIfInBounds (off + 8) (.int .i64 (t 8))) ty (0, 0)) := by
  have h0 := heap_setCell_same w b off _ _ (.int .i64 (t 0)) h
  have h1 := heap_setCell_same _ b (off + 1) _ _ (.int .i64 (t 1)) h0
  have h2 := heap_setCell_same _ b (off + 2) _ _ (.int .i64 (t 2)) h1
  have h3 := heap_setCell_same _ b (off + 3) _ _ (.int .i64 (t 3)) h2
  have h4 := heap_setCell_same _ b (off + 4) _ _ (.int .i64 (t 4)) h3
  have h5 := heap_setCell_same _ b (off + 5) _ _ (.int .i64 (t 5)) h4
  have h6 := heap_setCell_same _ b (off + 6) _ _ (.int .i64 (t 6)) h5
  have h7 := heap_setCell_same _ b (off + 7) _ _ (.int .i64 (t 7)) h6
  exact heap_setCell_same _ b (off + 8) _ _ (.int .i64 (t 8)) h7
theorem Spb.setTo {ty : TypeId} {w : World} {b : Nat} {v : Nat → Value} {t m : Nat → Int} (h : Spb ty w b v t m) (t' : Nat → Int) : Spb ty (set9 w b 3 t') b v t' m := by
  unfold Spb
  rw [set9_heap h t']
  kernel_rfl
theorem Spb.setFr {ty : TypeId} {w : World} {b : Nat} {v : Nat → Value} {t m : Nat → Int} (h : Spb ty w b v t m) (m' : Nat → Int) : Spb ty (set9 w b 12 m') b v t m' := by
  unfold Spb
  rw [set9_heap h m']
  kernel_rfl
theorem Spb.setCv {ty : TypeId} {w : World} {b j : Nat} {v : Nat → Value} {t m : Nat → Int} (h : Spb ty w b v t m) (hj : j < 3) (x : Value) : Spb ty (w.setCell ⟨b, j, none⟩ x) b (fun i => if i = j then x else v i) t m := by
  unfold Spb
  rw [heap_setCell_same w b j _ _ x h]
  obtain rfl | rfl | rfl : j = 0 ∨ j = 1 ∨ j = 2 := by omega
  all_goals rfl

end Go.Proofs.Ytmilljlkcbljpaa
