/- The closures that each is called with. -/
import Derived.Test.YtmilljlkcbljpaaCh
import Derived.Test.YtmilljlkcbljpaaQt
namespace Go.Proofs.Ytmilljlkcbljpaa
open Go.RowKit

set_option maxHeartbeats 400000 in
theorem clip1_any {g v n m i : Int} {b1 b2 b3 : Nat} {w : World} (hg : 0 ≤ g) (hg' : g ≤ 65535) (hv : -16777216 ≤ v) (hv' : v ≤ 16777216) (hn : 0 ≤ n) (hn' : n ≤ 65535) (hnm : n ≤ m) (hm : 1 ≤ m) (hm' : m ≤ 16842751)
    (c1 : w.cell? ⟨b1, 0, none⟩ = some (.int .i64 g)) (c2 : w.cell? ⟨b2, 0, none⟩ = some (.int .i64 n)) (c3 : w.cell? ⟨b3, 0, none⟩ = some (.int .i64 m)) :
    Calls Try.prog 59 #[.int .i64 i, .int .i64 v, .pointer (some ⟨b1, 0, none⟩), .pointer (some ⟨b2, 0, none⟩), .pointer (some ⟨b3, 0, none⟩)] w fun e w' => e = .returned (.int .i64 (g + ((v - g) * n).tdiv m)) ∧ Drawn w w' := by
  obtain ⟨p1, p2⟩ := mul_abs (a := v - g) (A := 16842751) (b := n) (B := 65535) (by omega) (by omega) hn hn'
  obtain ⟨q1, q2⟩ : -16842751 ≤ ((v - g) * n).tdiv m ∧ ((v - g) * n).tdiv m ≤ 16842751 := by
    by_cases h : 0 ≤ v - g
    · have := share_pos (u := v - g) (n := n) (m := m) (t := 0) h hn hnm hm; omega
    · have := share_neg (u := v - g) (n := n) (m := m) (t := 0) (by omega) hn hnm hm; omega
  have hm0 : (m == 0) = false := by simp; omega
  go_enter Try.func59, Try.ntmps59
  go_wp2
  go_quiet (fail)
  go_wp2
  go_ret
  exact ⟨rfl, .of _⟩

set_option maxHeartbeats 400000 in
theorem narrow1_any {v i : Int} {w : World} (hv : 0 ≤ v) (hv' : v ≤ 65535) :
    Calls Try.prog 76 #[.int .i64 i, .int .i64 v] w fun e w' => e = .returned (.int .i64 ((v + 128) / 257)) ∧ Drawn w w' := by
  go_enter Try.func76, Try.ntmps76
  go_wp2
  go_ret
  exact ⟨rfl, .refl _⟩

set_option maxHeartbeats 400000 in
theorem look3_any {v i : Int} {w : World} (hv : 0 ≤ v) (hv' : v ≤ 4294836225) :
    Calls Try.prog 88 #[.int .i64 i, .int .i64 v] w fun e w' => e = .returned (.int .i64 ((v + 32767) / 65535)) ∧ Drawn w w' := by
  go_enter Try.func88, Try.ntmps88
  go_wp2
  go_ret
  exact ⟨rfl, .refl _⟩

set_option maxHeartbeats 400000 in
theorem look21_any {t : TypeId} {v k : Int} {i : Nat} {c : Nat → Int} {b1 b2 : Nat} {w : World} (hi : i < 3) (hv : 0 ≤ v) (hv' : v ≤ 4294836225) (hk : 0 ≤ k) (hk' : k ≤ 65535) (hc : InG c)
    (c1 : w.cell? ⟨b1, 0, none⟩ = some (.int .i64 k)) (c2 : Tri t w b2 c) :
    Calls Try.prog 87 #[.int .i64 i, .int .i64 v, .pointer (some ⟨b1, 0, none⟩), .pointer (some ⟨b2, 0, none⟩)] w fun e w' => e = .returned (.int .i64 (v + k * c i)) ∧ Drawn w w' := by
  have d := c2.cell i hi
  have hci := hc i hi
  obtain ⟨p1, p2⟩ := mul_bd hk hk' hci.1 hci.2
  have i1 : 0 ≤ (i : Int) ∧ (i : Int) < 3 := by omega
  clear c2 hc
  go_enter Try.func87, Try.ntmps87
  go_wp2
  go_quiet (fail)
  go_wp2
  go_ret
  exact ⟨rfl, .of _⟩

end Go.Proofs.Ytmilljlkcbljpaa
