/- Gamma: the test of the search, and the search. -/
import Derived.Test.YtphcianmgpbjmaaI
import Derived.Test.YtphcianmgpbjmaaE
namespace Go.Proofs.Ytphcianmgpbjmaa
open Go.RowKit

/-- The reach of a number: what y must not pass. -/
def over (num den m : Nat) (i y : Nat) : Bool := decide (65535 ^ den * i ^ num < y ^ den * m ^ num)

theorem pow_bd {a e A : Nat} (h : a ≤ A) : a ^ e ≤ A ^ e := Nat.pow_le_pow_left h e
theorem prod_bd {a b e f : Nat} (ha : a ≤ 65536) (hb : b ≤ 256) (he : e ≤ 8) (hf : f ≤ 8) : a ^ e * b ^ f < 18446744073709551616 ^ 4 := by
  have h1 : a ^ e ≤ 65536 ^ 8 := Nat.le_trans (pow_bd ha) (Nat.pow_le_pow_right (by omega) he)
  have h2 : b ^ f ≤ 256 ^ 8 := Nat.le_trans (pow_bd hb) (Nat.pow_le_pow_right (by omega) hf)
  have h3 := Nat.mul_le_mul h1 h2
  have h4 : 65536 ^ 8 * 256 ^ 8 < 18446744073709551616 ^ 4 := by decide +kernel
  omega

set_option maxHeartbeats 2000000 in
theorem gamma1_any {num den m L : Nat} {y : Nat} {b1 b2 b3 b4 : Nat} {w : World} (hnum : num ≤ 8) (hden : den ≤ 8) (hm : m ≤ 256) (hy : y < 65535) (hL : L < 18446744073709551616 ^ 4)
    (h1 : Four w b1 (dig L)) (h2 : w.cell? ⟨b2, 0, none⟩ = some (.int .i64 den)) (h3 : w.cell? ⟨b3, 0, none⟩ = some (.int .u64 m)) (h4 : w.cell? ⟨b4, 0, none⟩ = some (.int .i64 num)) :
    Calls Try.prog 46 #[.int .i64 y, .pointer (some ⟨b1, 0, none⟩), .pointer (some ⟨b2, 0, none⟩), .pointer (some ⟨b3, 0, none⟩), .pointer (some ⟨b4, 0, none⟩)] w fun e w' =>
      e = .returned (.bool (decide (L < (y + 1) ^ den * m ^ num))) ∧ Below w.heap.size w w' := by
  have l1 := h1.lt
  have l2 := World.block_lt_of_cell? w _ h2
  have l3 := World.block_lt_of_cell? w _ h3
  have l4 := World.block_lt_of_cell? w _ h4
  obtain ⟨R, hR⟩ : ∃ R, (y + 1) ^ den * m ^ num = R := ⟨_, rfl⟩
  have HE := Lib.hid (lessW_dig hL (hR ▸ prod_bd (by omega) hm hden hnum : R < _))
  have HR := Lib.hid hR
  rw [hR, ← HE.out]
  clear hR hL
  go_enter Try.func46, Try.ntmps46
  go_wp2
  refine wp_region_quiet (C := fun w' => Below w.heap.size w w') (by kernel_rfl) (by kernel_rfl) ((Below.refl _ w).drew) ?_
  dsimp only
  refine wpQuiet_step (fun K hK => ?_)
  refine (if_pos (show _ = true by rfl)).mpr ?_
  refine ⟨.agg #[.int .u64 (dig (L) 0 : Nat), .int .u64 (dig (L) 1 : Nat), .int .u64 (dig (L) 2 : Nat), .int .u64 (dig (L) 3 : Nat)], fun w' hw => ?_, ?_⟩
  · replace hw : Below w.heap.size w w' := hw
    have f := h1.below hw l1
    have c0 := f.c0
    have c1 := f.c1
    have c2 := f.c2
    have c3 := f.c3
    clear f hw
    go_simp
  go_simp
  refine hK _ ?_
  clear hK K
  refine wpQuiet_step (fun K hK => ?_)
  refine (if_pos (show _ = true by rfl)).mpr ?_
  refine ⟨.int .i64 (y : Int), fun w' _ => ?_, ?_⟩
  · go_simp
  go_simp
  refine hK _ ?_
  clear hK K
  refine wpQuiet_step (fun K hK => ?_)
  refine (if_pos (show _ = true by rfl)).mpr ?_
  refine ⟨.int .i64 ((y : Int) + 1), fun w' _ => ?_, ?_⟩
  · go_simp
    exact IntWalk.i64_in _ (by omega)
  go_simp
  refine hK _ ?_
  clear hK K
  refine wpQuiet_step (fun K hK => ?_)
  refine (if_pos (show _ = true by rfl)).mpr ?_
  refine ⟨.int .u64 ((y : Int) + 1), fun w' _ => ?_, ?_⟩
  · go_simp
    rw [IntKind.wrap_u64]
    omega
  go_simp
  refine hK _ ?_
  clear hK K
  refine wpQuiet_step (fun K hK => ?_)
  refine (if_pos (show _ = true by rfl)).mpr ?_
  refine ⟨.int .i64 (den : Int), fun w' hw => ?_, ?_⟩
  · replace hw : Below w.heap.size w w' := hw
    have c := (hw.cell (p := ⟨b2, 0, none⟩) l2).trans h2
    clear hw
    go_simp
  go_simp
  refine hK _ ?_
  clear hK K
  refine wpQuiet_step (fun K hK => ?_)
  refine (if_pos (show _ = true by rfl)).mpr ?_
  refine ⟨.int .u64 (m : Int), fun w' hw => ?_, ?_⟩
  · replace hw : Below w.heap.size w w' := hw
    have c := (hw.cell (p := ⟨b3, 0, none⟩) l3).trans h3
    clear hw
    go_simp
  go_simp
  refine hK _ ?_
  clear hK K
  refine wpQuiet_step (fun K hK => ?_)
  refine (if_pos (show _ = true by rfl)).mpr ?_
  refine ⟨.int .i64 (num : Int), fun w' hw => ?_, ?_⟩
  · replace hw : Below w.heap.size w w' := hw
    have c := (hw.cell (p := ⟨b4, 0, none⟩) l4).trans h4
    clear hw
    go_simp
  go_simp
  refine hK _ ?_
  clear hK K
  refine wpQuiet_step (fun K hK => ?_)
  refine (if_pos (show _ = true by rfl)).mpr ?_
  refine ⟨.agg #[.int .u64 (dig (R) 0 : Nat), .int .u64 (dig (R) 1 : Nat), .int .u64 (dig (R) 2 : Nat), .int .u64 (dig (R) 3 : Nat)], fun w' hw => ?_, ?_⟩
  · replace hw : Below w.heap.size w w' := hw
    go_simp
    rw [show ((y : Int) + 1) = ((y + 1 : Nat) : Int) from by omega]
    refine (raised_any (y + 1) den m num (by unfold U64; omega) (by unfold U64; omega) (by omega) (by omega) w').mono ?_
    rintro e w2 ⟨rfl, hb⟩
    rw [HR.out]
    exact ⟨rfl, hw.trans (hb.mono hw.size)⟩
  go_simp
  refine hK _ ?_
  clear hK K
  refine wpQuiet_step (fun K hK => ?_)
  refine (if_pos (show _ = true by rfl)).mpr ?_
  refine ⟨.bool (lessW (dig L) (dig R)), fun w' hw => ?_, ?_⟩
  · replace hw : Below w.heap.size w w' := hw
    go_simp
    refine (less_any (dig L) (dig R) w').mono ?_
    rintro e w2 ⟨rfl, hb⟩
    exact ⟨rfl, hw.trans (hb.mono hw.size)⟩
  go_simp
  refine hK _ ?_
  clear hK K
  refine wpQuiet_step (fun K hK => ?_)
  refine (if_pos (show _ = true by rfl)).mpr ?_
  refine ⟨.bool (lessW (dig L) (dig R)), fun w' _ => ?_, ?_⟩
  · go_simp
  go_simp
  refine hK _ ?_
  clear hK K
  refine wpQuiet_nil ?_
  intro w' hw
  go_wp2
  go_ret
  exact ⟨rfl, hw⟩

set_option maxHeartbeats 1000000 in
theorem search_gamma {p : Nat → Bool} {c1 c2 c3 c4 : Value} {w : World}
    (hf : ∀ (k : Nat) (w' : World), k < 65535 → Below w.heap.size w w' → Calls Try.prog 46 #[.int .i64 k, c1, c2, c3, c4] w' fun e w'' => e = .returned (.bool (p k)) ∧ Below w.heap.size w w'') :
    Calls Try.prog 43 #[.int .i64 65535, .func (.func 46) #[] #[c1, c2, c3, c4]] w fun e w' => ∃ r : Nat, e = .returned (.int .i64 r) ∧ Found p r ∧ Below w.heap.size w w' := by
  have HF := Lib.hid hf
  clear hf
  go_enter Try.func43, Try.ntmps43
  go_wp2
  go_loopw [5, 6] (fun i j wr => ∃ a b : Nat, a ≤ b ∧ b ≤ 65535 ∧ i = .int .i64 a ∧ j = .int .i64 b ∧ Hid (a = 0 ∨ p (a - 1) = false) ∧ Hid (b = 65535 ∨ p b = true) ∧ Below w.heap.size w wr) (fun i j _ => (intOf j - intOf i).toNat)
  case atStart => exact ⟨0, 65535, by omega, by omega, rfl, rfl, Lib.hid (.inl rfl), Lib.hid (.inl rfl), Below.refl _ _⟩
  case round =>
    obtain ⟨a, b, hab, hb, rfl, rfl, ha', hb', hq⟩ := hrel
    by_cases hlt : a < b
    · obtain ⟨h, hh, h1, h2⟩ : ∃ h : Nat, Hid (((a : Int) + b) / 2 = (h : Int)) ∧ a ≤ h ∧ h < b := ⟨(a + b) / 2, Lib.hid (by omega), by omega, by omega⟩
      cases hp : p h with
      | true =>
        go_wp2_with fail
        rw [hh.out]
        refine (HF.out h wr (by omega) hq).mono ?_
        rintro e w1 ⟨rfl, hq1⟩
        go_wp2
        go_roundw
        case rel => exact ⟨a, h, h1, by omega, rfl, rfl, ha', Lib.hid (.inr hp), hq1⟩
        case measure => simp [intOf]; omega
      | false =>
        go_wp2_with fail
        rw [hh.out]
        refine (HF.out h wr (by omega) hq).mono ?_
        rintro e w1 ⟨rfl, hq1⟩
        go_wp2
        go_roundw
        case rel => exact ⟨h + 1, b, by omega, by omega, by go_num, rfl, Lib.hid (.inr (by simpa using hp)), hb', hq1⟩
        case measure => simp [intOf]; omega
    · obtain rfl : a = b := by omega
      go_wp2
      go_ret
      exact ⟨a, rfl, ⟨hb, ha'.out, hb'.out⟩, hq⟩

end Go.Proofs.Ytphcianmgpbjmaa
