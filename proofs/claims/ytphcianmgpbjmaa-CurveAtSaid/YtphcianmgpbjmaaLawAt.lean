/- The statement CurveAt: for every curve and argument, Valid and At agree with the reference. -/
import Derived.Test.YtphcianmgpbjmaaS
namespace Go.Proofs.Ytphcianmgpbjmaa
open Go.RowKit

set_option maxHeartbeats 2000000 in
theorem curveAt_walk {f g : Nat → Int} {n m : Nat} {v u : Value} {x : Int} {w : World} (hn : n ≤ 9223372036854775807) (hm : m ≤ 9223372036854775807) (hs : Sl w w.heap.size v n f) (ht : Sl w w.heap.size u m g) :
    Calls Try.prog 3 #[v, u, .int .i64 x] w fun e w' => e = .returned (.bool true) ∧ Below w.heap.size w w' := by
  have a1 := and_ffff x
  have hx0 : 0 ≤ x % 65536 := by omega
  have hx1 : x % 65536 ≤ 65535 := by omega
  have hd := madeN_bd m
  go_enter Try.func3, Try.ntmps3
  go_wp2_with fail
  refine (sanity_any w).mono ?_
  rintro e w1 ⟨rfl, b1⟩
  replace hs := hs.on b1
  replace ht := ht.on b1
  go_wp2_with fail
  refine (some_sl hn hs (Nat.le_refl _)).mono ?_
  rintro e w2 ⟨c, rfl, hc, b2⟩
  replace ht := ht.on b2
  replace b2 := b1.trans (b2.mono b1.size)
  clear b1 hs
  go_wp2_with fail
  refine (made_sl hm ht (Nat.le_refl _)).mono ?_
  rintro e w3 ⟨d, rfl, hd', b3⟩
  replace hc := hc.on b3
  replace b3 := b2.trans (b3.mono b2.size)
  clear b2 ht
  go_wp2_with fail
  refine (valid_any (by omega) hc).mono ?_
  rintro e w4 ⟨rfl, q⟩
  replace hc := hc.on (q.below _)
  replace hd' := hd'.on (q.below _)
  have b4 := b3.trans (q.below _)
  clear b3 q
  go_wp2_with fail
  refine (refValid_any (by omega) hc).mono ?_
  rintro e w5 ⟨rfl, q⟩
  replace hc := hc.on (q.below _)
  replace hd' := hd'.on (q.below _)
  have b5 := b4.trans (q.below _)
  clear b4 q
  go_wp2_with fail
  refine (At_any (by omega) hc).mono ?_
  rintro e w6 ⟨rfl, q⟩
  replace hc := hc.on (q.below _)
  replace hd' := hd'.on (q.below _)
  have b6 := b5.trans (q.below _)
  clear b5 q
  go_wp2_with fail
  refine (refAt_any (by omega) hc).mono ?_
  rintro e w7 ⟨rfl, q⟩
  replace hd' := hd'.on (q.below _)
  have b7 := b6.trans (q.below _)
  clear b6 q hc
  go_wp2_with fail
  refine (valid_any (by omega) hd').mono ?_
  rintro e w8 ⟨rfl, q⟩
  rw [vldB_t (made_vld m g)]
  replace hd' := hd'.on (q.below _)
  have b8 := b7.trans (q.below _)
  clear b7 q
  go_wp2_with fail
  refine (At_any (by omega) hd').mono ?_
  rintro e w9 ⟨rfl, q⟩
  replace hd' := hd'.on (q.below _)
  have b9 := b8.trans (q.below _)
  clear b8 q
  go_wp2_with fail
  refine (refAt_any (by omega) hd').mono ?_
  rintro e w10 ⟨rfl, q⟩
  replace hd' := hd'.on (q.below _)
  have b10 := b9.trans (q.below _)
  clear b9 q
  go_wp2_with fail
  refine (At_any (by omega) hd').mono ?_
  rintro e w11 ⟨rfl, q⟩
  replace hd' := hd'.on (q.below _)
  have b11 := b10.trans (q.below _)
  clear b10 q
  go_wp2_with fail
  refine (refAt_any (by omega) hd').mono ?_
  rintro e w12 ⟨rfl, q⟩
  have b12 := b11.trans (q.below _)
  clear b11 q hd'
  go_wp2_with fail
  go_ret
  exact ⟨rfl, b12⟩

end Go.Proofs.Ytphcianmgpbjmaa
