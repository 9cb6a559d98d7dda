/- The examples of the document's chapter on colours. -/
import Derived.Test.YtmilljlkcbljpaaDv
namespace Go.Proofs.Ytmilljlkcbljpaa
open Go.RowKit Go.Sort

/-- Three numbers. -/
def c3 (x y z : Int) (i : Nat) : Int := if i = 0 then x else if i = 1 then y else z

/-- The table of the identity. -/
def tbI (m k : Nat) : Nat → Int := gam (crd m k)
theorem tab_one (S : Nat → Sp) (m : Nat) : tabV S 1 m = tbI m := rfl

theorem look_lit (S : Nat → Sp) : col (lkV 2 (tabV S 1 2) (c3 1000 2000 3000)) = .agg #[.int .i64 1000, .int .i64 2000, .int .i64 3000] := by
  rw [tab_one]
  have h0 : lkV 2 (tbI 2) (c3 1000 2000 3000) 0 = 1000 := by decide +kernel
  have h1 : lkV 2 (tbI 2) (c3 1000 2000 3000) 1 = 2000 := by decide +kernel
  have h2 : lkV 2 (tbI 2) (c3 1000 2000 3000) 2 = 3000 := by decide +kernel
  unfold col
  rw [h0, h1, h2]
theorem clip_lit : col (clpV (c3 70000 0 0)) = .agg #[.int .i64 65535, .int .i64 2233, .int .i64 2233] := by
  have hn : ¬ InG (bnd (c3 70000 0 0)) := fun h => by
    have h1 := (h 0 (by omega)).2
    have h2 : bnd (c3 70000 0 0) 0 = 70000 := by decide +kernel
    omega
  have h0 : clpO (bnd (c3 70000 0 0)) 0 = 65535 := by decide +kernel
  have h1 : clpO (bnd (c3 70000 0 0)) 1 = 2233 := by decide +kernel
  have h2 : clpO (bnd (c3 70000 0 0)) 2 = 2233 := by decide +kernel
  unfold col
  rw [clpV_out hn, clpV_out hn, clpV_out hn, h0, h1, h2]
theorem narrow_lit : pix (narV (c3 65535 300 0) 255) = .agg #[.int .u8 255, .int .u8 1, .int .u8 0, .int .u8 255] := by
  have h0 : narV (c3 65535 300 0) 255 0 = 255 := by decide +kernel
  have h1 : narV (c3 65535 300 0) 255 1 = 1 := by decide +kernel
  have h2 : narV (c3 65535 300 0) 255 2 = 0 := by decide +kernel
  have h3 : narV (c3 65535 300 0) 255 3 = 255 := by decide +kernel
  unfold pix
  rw [h0, h1, h2, h3]

theorem spc_chn {w : World} {b cap : Nat} {s : Sp} {ty : TypeId} (h : Spb ty w b s.v s.t s.m) (hs : s.ok w w.heap.size) (hc : 1 ≤ cap) : Chn w w.heap.size (.slice (some ⟨b, 0, none⟩) 1 cap) 1 (fun _ => s) :=
  ⟨fun _ _ => hs, .inr ⟨b, 0, cap, rfl, ⟨h.lt, hc⟩, fun k hk j x hx => by
    obtain rfl : k = 0 := by omega
    rw [show 0 + 0 * 21 + j = j by omega, cell_of_row w b j _ _ _ h]
    exact hx⟩⟩

theorem tab_grid {S : Nat → Sp} {n m : Nat} (h : 2 ≤ m) (h' : m ≤ 17) : GrV m (m * m * m) (tabV S n m) := ⟨h, h', rfl, fun _ _ => InG.of _⟩
theorem eql_lit1 (w : World) : (binOp .eql 28 (.agg #[.int .i64 65535, .int .i64 2233, .int .i64 2233]) (.agg #[.int .i64 65535, .int .i64 2233, .int .i64 2233])).run Try.prog w = .ok (.bool true) w := by
  rw [run_eql_struct, equalIn_col]; rfl
theorem eql_lit2 (w : World) : (binOp .eql 28 (.agg #[.int .i64 1000, .int .i64 2000, .int .i64 3000]) (.agg #[.int .i64 1000, .int .i64 2000, .int .i64 3000])).run Try.prog w = .ok (.bool true) w := by
  rw [run_eql_struct, equalIn_col]; rfl
theorem eql_lit3 (w : World) : (binOp .eql 33 (.agg #[.int .u8 255, .int .u8 1, .int .u8 0, .int .u8 255]) (.agg #[.int .u8 255, .int .u8 1, .int .u8 0, .int .u8 255])).run Try.prog w = .ok (.bool true) w := by kernel_rfl

set_option maxRecDepth 100000 in
set_option maxHeartbeats 4000000 in
theorem sanity_any (w : World) : Calls Try.prog 12 #[] w fun e w' => e = .returned (.bool true) ∧ Below w.heap.size w w' := by
  go_enter Try.func12, Try.ntmps12
  go_wp2_with fail
  refine (device_any w).mono ?_
  rintro e w1 ⟨v, rfl, hv, hb1⟩
  have hsh0 := (hv 0 (by omega)).2.shape
  have hsh1 := (hv 1 (by omega)).2.shape
  have hsh2 := (hv 2 (by omega)).2.shape
  obtain ⟨S, hS⟩ : ∃ S : Sp, S = ⟨v, fun _ => 2, fun _ => dvf, idM, idM⟩ := ⟨_, rfl⟩
  obtain ⟨w2, h2⟩ : ∃ w2, w1.alloc (.cells (spA v idM idM) 63) = w2 := ⟨_, rfl⟩
  have hb2 : Below w1.heap.size w1 w2 := by rw [← h2]; exact (Below.refl _ _).alloc (Nat.le_refl _) _
  have hz2 : w1.heap.size ≤ w2.heap.size := hb2.size
  have hP : Spb 63 w2 w1.heap.size v idM idM := by rw [← h2]; exact Spb.new w1 v idM idM _
  have hok : S.ok w2 w2.heap.size := by rw [hS]; exact Crv.mono (Crv.below hv hb2 (Nat.le_refl _)) hz2
  have hch := Lib.hid (spc_chn (s := S) (cap := 1) (by rw [hS]; exact hP) hok (Nat.le_refl _))
  have hq2 := hb1.trans (hb2.mono hb1.size)
  have hval : S.val = true := by rw [hS]; exact spB_t device_val
  have kt := Lib.hid (table_yes (m := 2) (by omega) (Nat.le_refl _) hch.out (chkV_is (by omega) (by omega) (fun _ _ => hval)) (by omega) (by omega))
  obtain ⟨x0, y0, e0⟩ := hsh0
  obtain ⟨x1, y1, e1⟩ := hsh1
  obtain ⟨x2, y2, e2⟩ := hsh2
  unfold spA at h2
  unfold spc spA
  rw [e0, e1, e2] at h2 ⊢
  simp [idM] at h2 ⊢
  clear e0 e1 e2 hS hP hok hval hv
  go_wp2_with fail
  refine kt.out.mono ?_
  rintro e w3 ⟨x, rfl, hown, hb3⟩
  rw [show 2 * 2 * 2 = 8 from rfl] at hown
  rw [show ((2 : Nat) : Int) = 2 from rfl]
  have hq3 := hq2.trans (hb3.mono hq2.size)
  have hcl := Cls.of_own hown (Nat.le_refl _)
  obtain ⟨gb, cap, rfl⟩ := own_pos hown (by omega)
  obtain ⟨w4, h4⟩ : ∃ w4, w3.alloc (.cells #[.int .i64 2, .slice (some ⟨gb, 0, none⟩) 8 cap] 31) = w4 := ⟨_, rfl⟩
  have hb4 : Below w3.heap.size w3 w4 := by rw [← h4]; exact (Below.refl _ _).alloc (Nat.le_refl _) _
  have hw4 : Two 31 w4 w3.heap.size (.int .i64 2) (.slice (some ⟨gb, 0, none⟩) 8 cap) := by rw [← h4]; exact Two.new _ _ _ _
  have kl : Hid (Calls Try.prog 22 #[.agg #[.int .i64 2, .slice (some ⟨gb, 0, none⟩) 8 cap], .agg #[.int .i64 1000, .int .i64 2000, .int .i64 3000]] w4 fun e w' => e = .returned (.tuple #[.agg #[.int .i64 1000, .int .i64 2000, .int .i64 3000], .int .i64 0]) ∧ Below w4.heap.size w4 w') := Lib.hid (by
    have := Look_yes (N := 2) (n := 8) (c := c3 1000 2000 3000) (w := w4) (Nat.le_refl _) (hcl.on hb4) (tab_grid (by omega) (by omega))
    rw [look_lit] at this
    exact this)
  have g0 := hw4.c0
  have g1 := hw4.c1
  have hq4 := hq3.trans (hb4.mono hq3.size)
  clear hown hcl hw4 hb4 hb3 h2
  go_wp2_with fail
  refine kl.out.mono ?_
  rintro e w5 ⟨rfl, hb5⟩
  have hq5 := hq4.trans (hb5.mono hq4.size)
  obtain ⟨w6, h6⟩ : ∃ w6, w5.alloc (.cells #[.int .i64 1000, .int .i64 2000, .int .i64 3000] 28) = w6 := ⟨_, rfl⟩
  have hb6 : Below w5.heap.size w5 w6 := by rw [← h6]; exact (Below.refl _ _).alloc (Nat.le_refl _) _
  have t6 : Tri 28 w6 w5.heap.size (c3 1000 2000 3000) := by rw [← h6]; exact Tri.new w5 (c3 1000 2000 3000) _
  have T6 := Lib.hid t6
  have hq6 := hq5.trans (hb6.mono hq5.size)
  have l1 := eql_lit1
  have l2 := eql_lit2
  have l3 := eql_lit3
  have kc : Hid (∀ w, Calls Try.prog 25 #[.agg #[.int .i64 70000, .int .i64 0, .int .i64 0]] w fun e w' => e = .returned (.agg #[.int .i64 65535, .int .i64 2233, .int .i64 2233]) ∧ Below w.heap.size w w') := Lib.hid (fun w => by
    have := clip_any (c := c3 70000 0 0) (w := w)
    rw [clip_lit] at this
    exact this)
  have kn : Hid (∀ w, Calls Try.prog 41 #[.agg #[.int .i64 65535, .int .i64 300, .int .i64 0], .int .i64 255] w fun e w' => e = .returned (.agg #[.int .u8 255, .int .u8 1, .int .u8 0, .int .u8 255]) ∧ Below w.heap.size w w') := Lib.hid (fun w => by
    have := narrow_any (c := c3 65535 300 0) (al := 255) (w := w)
    rw [narrow_lit] at this
    exact this)
  clear t6 h4 g0 g1 hb5 hb6
  go_wp2_with fail
  refine (kc.out _).mono ?_
  rintro e w7 ⟨rfl, hb7⟩
  have hq7 := hq6.trans (hb7.mono hq6.size)
  have T7 := Lib.hid (T6.out.on hb7)
  clear h6 hb7
  go_wp2_with fail
  refine (kn.out _).mono ?_
  rintro e w8 ⟨rfl, hb8⟩
  have hq8 := hq7.trans (hb8.mono hq7.size)
  have t8 := T7.out.on hb8
  have x0 : w8.cell? ⟨w5.heap.size, 0, none⟩ = some (.int .i64 1000) := t8.c0
  have x1 : w8.cell? ⟨w5.heap.size, 1, none⟩ = some (.int .i64 2000) := t8.c1
  have x2 : w8.cell? ⟨w5.heap.size, 2, none⟩ = some (.int .i64 3000) := t8.c2
  clear t8 hb8
  go_wp2
  go_ret
  exact ⟨rfl, hq8⟩

end Go.Proofs.Ytmilljlkcbljpaa
