/- The leaf functions of package curve and of its reference: what each call returns. -/
import Derived.Test.YtmilljlkcbljpaaRows
import Derived.Test.YtmilljlkcbljpaaB
import Derived.Deep.QuietTactic
import Derived.BigQuiet
namespace Go.Proofs.Ytmilljlkcbljpaa
open Go.RowKit

set_option maxHeartbeats 400000 in
theorem points_same (n : Int) (w : World) :
    Calls Try.prog 90 #[.int .i64 n] w fun e w' => e = .returned (.bool (pts n)) ∧ w = w' := by
  by_cases h1 : 2 ≤ n
  · by_cases h2 : n ≤ 257
    · go_enter Try.func90, Try.ntmps90
      go_wp2
      go_ret
      exact ⟨ret_bool (pts_t h1 h2).symm, rfl⟩
    · go_enter Try.func90, Try.ntmps90
      go_wp2
      go_ret
      exact ⟨ret_bool (pts_f (by omega)).symm, rfl⟩
  · go_enter Try.func90, Try.ntmps90
    go_wp2
    go_ret
    exact ⟨ret_bool (pts_f (by omega)).symm, rfl⟩

set_option maxHeartbeats 400000 in
theorem refPoints_same (n : Int) (w : World) :
    Calls Try.prog 94 #[.int .i64 n] w fun e w' => e = .returned (.bool (pts n)) ∧ w = w' := by
  by_cases h1 : 2 ≤ n
  · by_cases h2 : n ≤ 257
    · go_enter Try.func94, Try.ntmps94
      go_wp2
      go_ret
      exact ⟨ret_bool (pts_t h1 h2).symm, rfl⟩
    · go_enter Try.func94, Try.ntmps94
      go_wp2
      go_ret
      exact ⟨ret_bool (pts_f (by omega)).symm, rfl⟩
  · go_enter Try.func94, Try.ntmps94
    go_wp2
    go_ret
    exact ⟨ret_bool (pts_f (by omega)).symm, rfl⟩

theorem points_any (n : Int) (w : World) : Calls Try.prog 90 #[.int .i64 n] w fun e w' => e = .returned (.bool (pts n)) ∧ Drawn w w' :=
  (points_same n w).mono fun _ _ ⟨h, k⟩ => ⟨h, k ▸ .refl _⟩
theorem refPoints_any (n : Int) (w : World) : Calls Try.prog 94 #[.int .i64 n] w fun e w' => e = .returned (.bool (pts n)) ∧ Drawn w w' :=
  (refPoints_same n w).mono fun _ _ ⟨h, k⟩ => ⟨h, k ▸ .refl _⟩

set_option maxHeartbeats 400000 in
theorem less_int (x y : Int) (w : World) :
    Calls Try.prog 107 #[.int .i64 x, .int .i64 y] w fun e w' => e = .returned (.bool (decide (x < y))) ∧ Drawn w w' := by
  by_cases h : x < y
  · have hd : decide (x < y) = true := by simpa using h
    go_enter Try.func107, Try.ntmps107
    go_wp2
    go_ret
    exact ⟨ret_bool (by simp [h]), .refl _⟩
  · have hd : decide (x < y) = false := by simpa using h
    go_enter Try.func107, Try.ntmps107
    go_wp2
    go_ret
    exact ⟨ret_bool (by simp), .refl _⟩

set_option maxHeartbeats 400000 in
theorem at_cells (f : Nat → Int) (m b off cap : Nat) (x : Int) (w : World) (hm' : m ≤ 256) (hx : 0 ≤ x) (hx' : x ≤ 65535)
    (hc : Cells w b off (m + 1) f) (hf : ∀ k, k < m + 1 → 0 ≤ f k ∧ f k ≤ 65535) :
    Calls Try.prog 74 #[.slice (some ⟨b, off, none⟩) (m + 1) cap, .int .i64 x] w fun e w' => e = .returned (.int .i64 (atV f m x)) ∧ Drawn w w' := by
  obtain ⟨⟨q1, q2⟩, i, r, hi, hr, hr0, hr1, him⟩ := at_place m x hm' hx hx'
  by_cases he : i = m
  · have e1 := Lib.hid (atV_end (f := f) (he ▸ hi))
    subst he
    have c1 := hc i (by omega)
    go_enter Try.func74, Try.ntmps74
    go_wp2
    go_ret
    exact ⟨ret_int e1.out.symm, .refl _⟩
  · have e1 := Lib.hid (atV_mid (f := f) hi hr he)
    have c1 := hc i (by omega)
    have c2 := hc (i + 1) (by omega)
    have hne : ((i : Int) == (m : Int)) = false := by simp; omega
    obtain ⟨p1, p2⟩ := mul_bd (hf i (by omega)).1 (hf i (by omega)).2 (b := 65535 - r) (B := 65535) (by omega) (by omega)
    obtain ⟨p3, p4⟩ := mul_bd (hf (i + 1) (by omega)).1 (hf (i + 1) (by omega)).2 (b := r) (B := 65535) (by omega) (by omega)
    go_enter Try.func74, Try.ntmps74
    go_wp2
    go_quiet (fail)
    go_wp2
    go_ret
    exact ⟨ret_int e1.out.symm, .of _⟩

theorem round_two (a : Int) : (2 * a + 65535) / 131070 = (a + 32767) / 65535 := by omega

set_option maxHeartbeats 400000 in
theorem value_cells (f : Nat → Int) (m b off cap : Nat) (x : Int) (w : World) (hm' : m ≤ 256) (hx : 0 ≤ x) (hx' : x ≤ 65535)
    (hc : Cells w b off (m + 1) f) (hf : ∀ k, k < m + 1 → 0 ≤ f k ∧ f k ≤ 65535) :
    Calls Try.prog 110 #[.slice (some ⟨b, off, none⟩) (m + 1) cap, .int .i64 x] w fun e w' => e = .returned (.int .i64 (atV f m x)) ∧ Drawn w w' := by
  obtain ⟨⟨q1, q2⟩, i, r, hi, hr, hr0, hr1, him⟩ := at_place m x hm' hx hx'
  by_cases he : i = m
  · have e1 := Lib.hid (atV_end (f := f) (he ▸ hi))
    subst he
    have c1 := hc i (by omega)
    go_enter Try.func110, Try.ntmps110
    go_wp2
    go_ret
    exact ⟨ret_int e1.out.symm, .refl _⟩
  · have e1 := Lib.hid (atV_mid (f := f) hi hr he)
    have c1 := hc i (by omega)
    have c2 := hc (i + 1) (by omega)
    have hne : ((i : Int) == (m : Int)) = false := by simp; omega
    obtain ⟨p1, p2⟩ := mul_bd (hf i (by omega)).1 (hf i (by omega)).2 (b := 65535 - r) (B := 65535) (by omega) (by omega)
    obtain ⟨p3, p4⟩ := mul_bd (hf (i + 1) (by omega)).1 (hf (i + 1) (by omega)).2 (b := r) (B := 65535) (by omega) (by omega)
    have e2 := Lib.hid (round_two (f i * (65535 - r) + f (i + 1) * r))
    go_enter Try.func110, Try.ntmps110
    go_wp2
    go_quiet (fail)
    go_wp2
    go_ret
    exact ⟨ret_int (e2.out.trans e1.out.symm), .of _⟩

/-- curve.at on a slice whose shape is not looked at. -/
theorem at_any {f : Nat → Int} {n B : Nat} {v : Value} {x : Int} {w : World} (hv : Vld n f) (hs : Sl w B v n f) (hx : 0 ≤ x) (hx' : x ≤ 65535) :
    Calls Try.prog 74 #[v, .int .i64 x] w fun e w' => e = .returned (.int .i64 (atV f (n - 1) x)) ∧ Drawn w w' := by
  obtain ⟨b, off, cap, rfl, _, hc⟩ := hs.at (by have := hv.1; omega)
  obtain ⟨m, rfl⟩ : ∃ m, n = m + 1 := ⟨n - 1, by have := hv.1; omega⟩
  exact at_cells f m b off cap x w (by have := hv.2.1; omega) hx hx' hc hv.bd
theorem value_any {f : Nat → Int} {n B : Nat} {v : Value} {x : Int} {w : World} (hv : Vld n f) (hs : Sl w B v n f) (hx : 0 ≤ x) (hx' : x ≤ 65535) :
    Calls Try.prog 110 #[v, .int .i64 x] w fun e w' => e = .returned (.int .i64 (atV f (n - 1) x)) ∧ Drawn w w' := by
  obtain ⟨b, off, cap, rfl, _, hc⟩ := hs.at (by have := hv.1; omega)
  obtain ⟨m, rfl⟩ : ∃ m, n = m + 1 := ⟨n - 1, by have := hv.1; omega⟩
  exact value_cells f m b off cap x w (by have := hv.2.1; omega) hx hx' hc hv.bd

end Go.Proofs.Ytmilljlkcbljpaa
