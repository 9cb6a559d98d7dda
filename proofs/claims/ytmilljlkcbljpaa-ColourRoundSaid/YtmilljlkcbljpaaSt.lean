/- SortStableFunc of three axes. -/
import Derived.Test.YtmilljlkcbljpaaSo
namespace Go.Proofs.Ytmilljlkcbljpaa
open Go.RowKit Go.Sort

set_option maxRecDepth 100000 in
set_option maxHeartbeats 1000000 in
theorem stable_any {t t' : TypeId} {o : Nat → Int} {y : Nat → Nat} {bs bo cap : Nat} {w : World} (hy : AxOk y) (ho : ∀ k, k < 3 → 0 ≤ o k ∧ o k ≤ 65535) (h1 : Tri t w bs (axs y)) (h2 : Tri t' w bo o) (hne : bo ≠ bs) :
    Calls Try.prog 106 #[.slice (some ⟨bs, 0, none⟩) 3 cap, .int .i64 3, .func (.func 85) #[] #[.pointer (some ⟨bo, 0, none⟩)]] w
      fun e w' => e = .returned (.tuple #[]) ∧ Tri t w' bs (axs (srt o y 3)) ∧ Exc bs w w' := by
  have H := Lib.hid (insertion_any (cap := cap) hy ho h1 h2 hne)
  clear hy ho h1 h2
  go_enter Try.func106, Try.ntmps106
  go_wp2
  refine wp_loop_rounds 1 ?_
  rw [rounds_succ]
  go_wp2_with fail
  refine H.out.mono ?_
  rintro e w1 ⟨rfl, t1, hq⟩
  have T1 := Lib.hid t1
  clear t1
  go_wp2
  refine wp_loop_rounds 1 ?_
  rw [rounds_succ]
  go_wp2
  go_end0
  exact ⟨rfl, T1.out, hq⟩

set_option maxRecDepth 100000 in
set_option maxHeartbeats 1000000 in
theorem sort_any {t t' : TypeId} {o : Nat → Int} {y : Nat → Nat} {bs bo cap : Nat} {w : World} (hy : AxOk y) (ho : ∀ k, k < 3 → 0 ≤ o k ∧ o k ≤ 65535) (h1 : Tri t w bs (axs y)) (h2 : Tri t' w bo o) (hne : bo ≠ bs) :
    Calls Try.prog 84 #[.slice (some ⟨bs, 0, none⟩) 3 cap, .func (.func 85) #[] #[.pointer (some ⟨bo, 0, none⟩)]] w
      fun e w' => e = .returned (.tuple #[]) ∧ Tri t w' bs (axs (srt o y 3)) ∧ Exc bs w w' := by
  have H := Lib.hid (stable_any (cap := cap) hy ho h1 h2 hne)
  clear hy ho h1 h2
  go_enter Try.func84, Try.ntmps84
  go_wp2_with fail
  refine H.out.mono ?_
  rintro e w1 ⟨rfl, t1, hq⟩
  have T1 := Lib.hid t1
  clear t1
  go_wp2
  go_end0
  exact ⟨rfl, T1.out, hq⟩

end Go.Proofs.Ytmilljlkcbljpaa
