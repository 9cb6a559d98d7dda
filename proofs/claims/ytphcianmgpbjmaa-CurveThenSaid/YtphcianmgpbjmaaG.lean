/- Numbers of 256 bits: the products of package curve. -/
import Derived.Test.YtphcianmgpbjmaaB
import Derived.Test.YtphcianmgpbjmaaRows
import Derived.Deep.QuietTactic
import Derived.BigQuiet
import Derived.Lib.Mul64
namespace Go.Proofs.Ytphcianmgpbjmaa
open Go.RowKit

theorem maskN (a : Nat) (ha : a < 18446744073709551616) : bits .and .u64 (a : Int) 4294967295 = ((a % 4294967296 : Nat) : Int) := by
  have h := bits_and_u64_nat a 4294967295 ha (by omega)
  have e : a &&& 4294967295 = a % 4294967296 := Nat.and_two_pow_sub_one_eq_mod a 32
  rw [e] at h
  exact h
theorem divN (a : Nat) : (a : Int) / 4294967296 = ((a / 4294967296 : Nat) : Int) := by omega
theorem mulN (a b : Nat) : (a : Int) * (b : Int) = ((a * b : Nat) : Int) := (Int.natCast_mul a b).symm
theorem addN (a b : Nat) : (a : Int) + (b : Int) = ((a + b : Nat) : Int) := (Int.natCast_add a b).symm
theorem wrapN (a : Nat) (ha : a < 18446744073709551616) : IntKind.u64.wrap (a : Int) = (a : Int) := by rw [IntKind.wrap_u64]; omega
theorem wrapM (a : Nat) : IntKind.u64.wrap (a : Int) = ((a % 18446744073709551616 : Nat) : Int) := by rw [IntKind.wrap_u64]; omega

/-- The upper and the lower 64 bits. -/
def hi64 (a : Nat) : Nat := a / 18446744073709551616
def lo64 (a : Nat) : Nat := a % 18446744073709551616
/-- A number of 64 bits. -/
def U64 (a : Nat) : Prop := a < 18446744073709551616
theorem lo64_u (a : Nat) : U64 (lo64 a) := Nat.mod_lt _ (by omega)

theorem two_hi {x f c : Nat} : hi64 (x * f) + hi64 (lo64 (x * f) + c) = hi64 (x * f + c) := by unfold hi64 lo64; omega
theorem two_lo {x f c : Nat} : lo64 (lo64 (x * f) + c) = lo64 (x * f + c) := by unfold lo64; omega
theorem carry_u {x f c : Nat} (hx : U64 x) (hf : U64 f) (hc : U64 c) : U64 (hi64 (x * f + c)) := by
  unfold U64 hi64 at *
  have h := Nat.mul_le_mul (show x ≤ 18446744073709551615 by omega) (show f ≤ 18446744073709551615 by omega)
  omega

set_option maxHeartbeats 1000000 in
theorem mul64_any (x y : Nat) (hx : U64 x) (hy : U64 y) (w : World) :
    Calls Try.prog 58 #[.int .u64 x, .int .u64 y] w fun e w' => e = .returned (.tuple #[.int .u64 (hi64 (x * y) : Nat), .int .u64 (lo64 (x * y) : Nat)]) ∧ w = w' := by
  unfold U64 at hx hy
  obtain ⟨bd, bt, bw, hhi⟩ := Lib.mul64_hi x y hx hy
  have ba := Lib.half_mul_le (a := x / 4294967296) (b := y / 4294967296) (by omega) (by omega)
  have bb := Lib.half_mul_le (a := x / 4294967296) (b := y % 4294967296) (by omega) (by omega)
  have bc := Lib.half_mul_le (a := x % 4294967296) (b := y / 4294967296) (by omega) (by omega)
  have ba' : x / 4294967296 * (y / 4294967296) < 18446744073709551616 := by omega
  have bb' : x / 4294967296 * (y % 4294967296) < 18446744073709551616 := by omega
  have bc' : x % 4294967296 * (y / 4294967296) < 18446744073709551616 := by omega
  have bh1 : x / 4294967296 * (y / 4294967296) + (x / 4294967296 * (y % 4294967296) + x % 4294967296 * (y % 4294967296) / 4294967296) / 4294967296 < 18446744073709551616 := by omega
  have bh : x / 4294967296 * (y / 4294967296) + (x / 4294967296 * (y % 4294967296) + x % 4294967296 * (y % 4294967296) / 4294967296) / 4294967296 + ((x / 4294967296 * (y % 4294967296) + x % 4294967296 * (y % 4294967296) / 4294967296) % 4294967296 + x % 4294967296 * (y / 4294967296)) / 4294967296 < 18446744073709551616 := by omega
  go_enter Try.func58, Try.ntmps58
  go_wp2
  simp only [maskN x hx, maskN y hy, divN, mulN, addN, wrapN _ bd, wrapN _ bb', wrapN _ bt, maskN _ bt, wrapN _ bc', wrapN _ bw, wrapN _ ba', wrapN _ bh1, wrapN _ bh, wrapM (x * y)]
  rw [hhi]
  go_ret2
  exact ⟨rfl, rfl⟩

/-- Four words, as an array. -/
def W4 (l : Nat → Nat) : Value := .agg #[.int .u64 (l 0 : Nat), .int .u64 (l 1 : Nat), .int .u64 (l 2 : Nat), .int .u64 (l 3 : Nat)]
/-- What is carried into word k of a product, and that word. -/
def carry (l : Nat → Nat) (f : Nat) : Nat → Nat
  | 0 => 0
  | k + 1 => hi64 (l k * f + carry l f k)
def word (l : Nat → Nat) (f k : Nat) : Nat := lo64 (l k * f + carry l f k)
theorem carry_ok {l : Nat → Nat} {f : Nat} (hl : ∀ k, U64 (l k)) (hf : U64 f) : ∀ k, U64 (carry l f k)
  | 0 => by simp [carry, U64]
  | k + 1 => carry_u (hl k) hf (carry_ok hl hf k)
theorem word_u (l : Nat → Nat) (f k : Nat) : U64 (word l f k) := lo64_u _

/-- The words after k rounds. -/
def mid (l : Nat → Nat) (f k j : Nat) : Nat := if j < k then word l f j else l j
theorem mid_lt {l : Nat → Nat} {f k j : Nat} (h : j < k) : mid l f k j = word l f j := if_pos h
theorem mid_ge {l : Nat → Nat} {f k j : Nat} (h : k ≤ j) : mid l f k j = l j := if_neg (by omega)

/-- A block of four words. -/
def Four (w : World) (b : Nat) (l : Nat → Nat) : Prop := w.heap[b]? = some (.cells #[.int .u64 (l 0 : Nat), .int .u64 (l 1 : Nat), .int .u64 (l 2 : Nat), .int .u64 (l 3 : Nat)] 64 (0, 0))
theorem Four.c0 {w : World} {b : Nat} {l : Nat → Nat} (h : Four w b l) : w.cell? ⟨b, 0, none⟩ = some (.int .u64 (l 0 : Nat)) := by simp [World.cell?, show w.heap[b]? = _ from h]
theorem Four.c1 {w : World} {b : Nat} {l : Nat → Nat} (h : Four w b l) : w.cell? ⟨b, 1, none⟩ = some (.int .u64 (l 1 : Nat)) := by simp [World.cell?, show w.heap[b]? = _ from h]
theorem Four.c2 {w : World} {b : Nat} {l : Nat → Nat} (h : Four w b l) : w.cell? ⟨b, 2, none⟩ = some (.int .u64 (l 2 : Nat)) := by simp [World.cell?, show w.heap[b]? = _ from h]
theorem Four.c3 {w : World} {b : Nat} {l : Nat → Nat} (h : Four w b l) : w.cell? ⟨b, 3, none⟩ = some (.int .u64 (l 3 : Nat)) := by simp [World.cell?, show w.heap[b]? = _ from h]
theorem Four.free {w : World} {b : Nat} {l : Nat → Nat} (h : Four w b l) (j : Nat) : w.frozen? ⟨b, j, none⟩ = false := frozen_of_row w b j _ _ h
theorem Four.lt {w : World} {b : Nat} {l : Nat → Nat} (h : Four w b l) : b < w.heap.size := (Array.getElem?_eq_some_iff.1 h).1
theorem Four.below {w w' : World} {b B : Nat} {l : Nat → Nat} (h : Four w b l) (hb : Below B w w') (hB : b < B) : Four w' b l := (hb.block b hB).trans h
theorem Four.set {w : World} {b j : Nat} {l l' : Nat → Nat} {v : Nat} (h : Four w b l) (hj : j < 4) (hv : l' j = v) (ho : ∀ i, i ≠ j → l' i = l i) : Four (w.setCell ⟨b, j, none⟩ (.int .u64 v)) b l' := by
  have h1 := heap_setCell_same w b j _ _ (.int .u64 v) h
  unfold Four
  rw [h1]
  subst hv
  rcases j with _ | _ | _ | _ | j
  · simp [ho 1 (by omega), ho 2 (by omega), ho 3 (by omega)]
  · simp [ho 0 (by omega), ho 2 (by omega), ho 3 (by omega)]
  · simp [ho 0 (by omega), ho 1 (by omega), ho 3 (by omega)]
  · simp [ho 0 (by omega), ho 1 (by omega), ho 2 (by omega)]
  · omega

theorem index_0 (x0 x1 x2 x3 : Value) (w : World) : (Instr.index 64 (.agg #[x0, x1, x2, x3]) (.int .i64 0)).run Try.prog w = .ok x0 w := by kernel_rfl
theorem index_1 (x0 x1 x2 x3 : Value) (w : World) : (Instr.index 64 (.agg #[x0, x1, x2, x3]) (.int .i64 1)).run Try.prog w = .ok x1 w := by kernel_rfl
theorem index_2 (x0 x1 x2 x3 : Value) (w : World) : (Instr.index 64 (.agg #[x0, x1, x2, x3]) (.int .i64 2)).run Try.prog w = .ok x2 w := by kernel_rfl
theorem index_3 (x0 x1 x2 x3 : Value) (w : World) : (Instr.index 64 (.agg #[x0, x1, x2, x3]) (.int .i64 3)).run Try.prog w = .ok x3 w := by kernel_rfl

theorem add64_run (x y : Nat) (w : World) : (callFunc 59 #[.int .u64 x, .int .u64 y, .int .u64 0]).run Try.prog w =
    .ok (.value (.tuple #[.int .u64 (lo64 (x + y) : Nat), .int .u64 (hi64 (x + y) : Nat)])) w := by
  rw [run_callFunc_extern Try.func59 (by kernel_rfl) (by kernel_rfl) (by kernel_rfl) (e := add64Entry) (by kernel_rfl), run_add64 x y 0 (by omega) (by omega) (by omega) (by omega)]
  unfold lo64 hi64
  simp only [Result.andThen]
  congr 5 <;> omega

theorem Four.keep {w : World} {b b' j : Nat} {l : Nat → Nat} {v : Value} (h : Four w b l) (hb : b ≠ b') : Four (w.setCell ⟨b', j, none⟩ v) b l := (Below.heap_setCell w ⟨b', j, none⟩ v b hb).trans h
theorem four_new (w : World) (l : Nat → Nat) :
    Four ((w.alloc (.cells #[.int .u64 (l 0 : Nat), .int .u64 (l 1 : Nat), .int .u64 (l 2 : Nat), .int .u64 (l 3 : Nat)] 64)).alloc (.cells #[.int .u64 0, .int .u64 0, .int .u64 0, .int .u64 0] 64)) w.heap.size l ∧
    Four ((w.alloc (.cells #[.int .u64 (l 0 : Nat), .int .u64 (l 1 : Nat), .int .u64 (l 2 : Nat), .int .u64 (l 3 : Nat)] 64)).alloc (.cells #[.int .u64 0, .int .u64 0, .int .u64 0, .int .u64 0] 64)) (w.heap.size + 1) (fun _ => 0) ∧
    Below w.heap.size w ((w.alloc (.cells #[.int .u64 (l 0 : Nat), .int .u64 (l 1 : Nat), .int .u64 (l 2 : Nat), .int .u64 (l 3 : Nat)] 64)).alloc (.cells #[.int .u64 0, .int .u64 0, .int .u64 0, .int .u64 0] 64)) := by
  refine ⟨?_, ?_, ((Below.refl _ w).alloc (Nat.le_refl _) _).alloc (by simp) _⟩
  · exact (Below.heap_alloc _ _ _ (by simp)).trans (heap_alloc_new w _)
  · have := heap_alloc_new (w.alloc (.cells #[.int .u64 (l 0 : Nat), .int .u64 (l 1 : Nat), .int .u64 (l 2 : Nat), .int .u64 (l 3 : Nat)] 64)) (.cells #[.int .u64 0, .int .u64 0, .int .u64 0, .int .u64 0] 64)
    rwa [World.size_alloc] at this

/-- What a round reckons. -/
theorem word_eq (l : Nat → Nat) (f k : Nat) : lo64 (lo64 (l k * f) + carry l f k) = word l f k := two_lo
theorem carry_eq {l : Nat → Nat} {f k : Nat} (hl : ∀ k, U64 (l k)) (hf : U64 f) :
    IntKind.u64.wrap (((hi64 (l k * f) : Nat) : Int) + ((hi64 (lo64 (l k * f) + carry l f k) : Nat) : Int)) = ((carry l f (k + 1) : Nat) : Int) := by
  have h1 : hi64 (l k * f) + hi64 (lo64 (l k * f) + carry l f k) = carry l f (k + 1) := two_hi
  have h2 := carry_ok hl hf (k + 1)
  unfold U64 at h2
  rw [IntKind.wrap_u64, ← Int.natCast_add, h1]
  omega

set_option maxHeartbeats 4000000 in
theorem times_any (l : Nat → Nat) (f : Nat) (hl : ∀ k, U64 (l k)) (hf : U64 f) (w : World) :
    Calls Try.prog 54 #[.agg #[.int .u64 (l 0 : Nat), .int .u64 (l 1 : Nat), .int .u64 (l 2 : Nat), .int .u64 (l 3 : Nat)], .int .u64 f] w fun e w' => e = .returned (W4 (word l f)) ∧ Below w.heap.size w w' := by
  have i0 := index_0
  have i1 := index_1
  have i2 := index_2
  have i3 := index_3
  have ha := add64_run
  have s0 := Lib.hid (four_new w l)
  go_enter Try.func54, Try.ntmps54
  go_wp2
  go_loopw [5, 13] (fun c i wr => ∃ k : Nat, k ≤ 4 ∧ i = .int .i64 k ∧ c = .int .u64 (carry l f k : Nat) ∧ Four wr w.heap.size (mid l f k) ∧ Four wr (w.heap.size + 1) (fun _ => 0) ∧ Below w.heap.size w wr) (fun _ i _ => 4 - (intOf i).toNat)
  case atStart =>
    exact ⟨0, by omega, rfl, rfl, s0.out.1, s0.out.2.1, s0.out.2.2⟩
  case round =>
    obtain ⟨k, hk, rfl, rfl, hF, hR, hB⟩ := hrel
    by_cases hlt : k < 4
    · rcases k with _ | _ | _ | _ | k
      · have hm : wr.cell? ⟨w.heap.size, 0, none⟩ = some (.int .u64 (mid l f 0 0 : Nat)) := hF.c0
        have hfr := hF.free 0
        have hw := word_eq l f 0
        have hq := carry_eq (k := 0) hl hf
        have hset := hF.set (j := 0) (l' := mid l f 1) (by omega) (mid_lt (by omega)) (fun i hi => by unfold mid; by_cases h : i < 0 <;> simp [h] <;> omega)
        have HS := Lib.hid hset
        clear hset
        go_wp2_with (first | (go_at_call 58; refine (mul64_any (l 0) f (hl 0) hf _).mono ?_; rintro e w1 ⟨rfl, rfl⟩))
        go_roundw
        case rel => exact ⟨1, by omega, rfl, rfl, HS.out, hR.keep (by omega), hB.setCell (by simp) _⟩
        case measure => simp [intOf]
      · have hm : wr.cell? ⟨w.heap.size, 1, none⟩ = some (.int .u64 (mid l f 1 1 : Nat)) := hF.c1
        have hfr := hF.free 1
        have hw := word_eq l f 1
        have hq := carry_eq (k := 1) hl hf
        have hset := hF.set (j := 1) (l' := mid l f 2) (by omega) (mid_lt (by omega)) (fun i hi => by unfold mid; by_cases h : i < 1 <;> simp [h] <;> omega)
        have HS := Lib.hid hset
        clear hset
        go_wp2_with (first | (go_at_call 58; refine (mul64_any (l 1) f (hl 1) hf _).mono ?_; rintro e w1 ⟨rfl, rfl⟩))
        go_roundw
        case rel => exact ⟨2, by omega, rfl, rfl, HS.out, hR.keep (by omega), hB.setCell (by simp) _⟩
        case measure => simp [intOf]
      · have hm : wr.cell? ⟨w.heap.size, 2, none⟩ = some (.int .u64 (mid l f 2 2 : Nat)) := hF.c2
        have hfr := hF.free 2
        have hw := word_eq l f 2
        have hq := carry_eq (k := 2) hl hf
        have hset := hF.set (j := 2) (l' := mid l f 3) (by omega) (mid_lt (by omega)) (fun i hi => by unfold mid; by_cases h : i < 2 <;> simp [h] <;> omega)
        have HS := Lib.hid hset
        clear hset
        go_wp2_with (first | (go_at_call 58; refine (mul64_any (l 2) f (hl 2) hf _).mono ?_; rintro e w1 ⟨rfl, rfl⟩))
        go_roundw
        case rel => exact ⟨3, by omega, rfl, rfl, HS.out, hR.keep (by omega), hB.setCell (by simp) _⟩
        case measure => simp [intOf]
      · have hm : wr.cell? ⟨w.heap.size, 3, none⟩ = some (.int .u64 (mid l f 3 3 : Nat)) := hF.c3
        have hfr := hF.free 3
        have hw := word_eq l f 3
        have hq := carry_eq (k := 3) hl hf
        have hset := hF.set (j := 3) (l' := mid l f 4) (by omega) (mid_lt (by omega)) (fun i hi => by unfold mid; by_cases h : i < 3 <;> simp [h] <;> omega)
        have HS := Lib.hid hset
        clear hset
        go_wp2_with (first | (go_at_call 58; refine (mul64_any (l 3) f (hl 3) hf _).mono ?_; rintro e w1 ⟨rfl, rfl⟩))
        go_roundw
        case rel => exact ⟨4, by omega, rfl, rfl, HS.out, hR.keep (by omega), hB.setCell (by simp) _⟩
        case measure => simp [intOf]
      · omega
    · obtain rfl : k = 4 := by omega
      have m0 : wr.cell? ⟨w.heap.size, 0, none⟩ = some (.int .u64 (word l f 0 : Nat)) := hF.c0
      have m1 : wr.cell? ⟨w.heap.size, 1, none⟩ = some (.int .u64 (word l f 1 : Nat)) := hF.c1
      have m2 : wr.cell? ⟨w.heap.size, 2, none⟩ = some (.int .u64 (word l f 2 : Nat)) := hF.c2
      have m3 : wr.cell? ⟨w.heap.size, 3, none⟩ = some (.int .u64 (word l f 3 : Nat)) := hF.c3
      have r0 := hR.c0
      have r1 := hR.c1
      have r2 := hR.c2
      have r3 := hR.c3
      have hfr := hR.free
      go_wp2
      refine bodyPost_ret (v := W4 (word l f)) (by simp [results, Try.results54, go_sem, W4, r0, r1, r2, r3]) rfl ⟨rfl, ?_⟩
      exact (((hB.setCell (by simp) _).setCell (by simp) _).setCell (by simp) _).setCell (by simp) _

end Go.Proofs.Ytphcianmgpbjmaa
