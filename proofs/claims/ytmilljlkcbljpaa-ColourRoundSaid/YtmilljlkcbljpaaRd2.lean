/- Device of the reference. -/
import Derived.Test.YtmilljlkcbljpaaRc
namespace Go.Proofs.Ytmilljlkcbljpaa
open Go.RowKit Go.Sort

set_option maxRecDepth 100000 in
set_option maxHeartbeats 4000000 in
theorem refDevice_any (w : World) :
    Calls Try.prog 60 #[] w fun e w' => ∃ v : Nat → Value, e = .returned (spc v idM idM) ∧ Crv w' w'.heap.size v (fun _ => 2) (fun _ => cvF 0) ∧ Below w.heap.size w w' := by
  obtain ⟨w0, h0⟩ : ∃ w0, w.alloc (.cells #[.slice none 0 0, .slice none 0 0, .slice none 0 0, .int .i64 0, .int .i64 0, .int .i64 0, .int .i64 0, .int .i64 0, .int .i64 0, .int .i64 0, .int .i64 0, .int .i64 0, .int .i64 0, .int .i64 0, .int .i64 0, .int .i64 0, .int .i64 0, .int .i64 0, .int .i64 0, .int .i64 0, .int .i64 0] 63) = w0 := ⟨_, rfl⟩
  have t0 : Spb 63 w0 w.heap.size (fun _ => .slice none 0 0) (fun _ => 0) (fun _ => 0) := by rw [← h0]; exact Spb.new w (fun _ => .slice none 0 0) (fun _ => 0) (fun _ => 0) _
  have hb0 : Below w.heap.size w w0 := by rw [← h0]; exact (Below.refl _ _).alloc (Nat.le_refl _) _
  obtain ⟨w1, h1⟩ : ∃ w1, w0.alloc (.cells #[.int .i64 0, .int .i64 65535] 3) = w1 := ⟨_, rfl⟩
  have sl : Sl w1 w1.heap.size (.slice (some ⟨w0.heap.size, 0, none⟩) 2 2) 2 (cvF 0) := by
    rw [← h1]
    exact (sl_of_list (w := w0) (l := [0, 65535]) (t := 3)).mono (by simp)
  have hb1 : Below w0.heap.size w0 w1 := by rw [← h1]; exact (Below.refl _ _).alloc (Nat.le_refl _) _
  obtain ⟨w2, h2⟩ : ∃ w2, w1.alloc (.cells #[.int .i64 4096, .int .i64 0, .int .i64 0, .int .i64 0, .int .i64 4096, .int .i64 0, .int .i64 0, .int .i64 0, .int .i64 4096] 61) = w2 := ⟨_, rfl⟩
  have hM : Mat 61 w2 w1.heap.size idM := by rw [← h2]; exact Mat.new w1 idM _
  have hb2 : Below w1.heap.size w1 w2 := by rw [← h2]; exact (Below.refl _ _).alloc (Nat.le_refl _) _
  have hb02 : Below w0.heap.size w0 w2 := hb1.trans (hb2.mono hb1.size)
  have T0 := Lib.hid (t0.on hb02)
  have SL := Lib.hid ((sl.below hb2 (Nat.le_refl _)).mono hb2.size)
  have hq2 := hb0.trans (hb02.mono hb0.size)
  have l0 := t0.lt
  have s0 := hM.cell 0 (by omega)
  have s1 := hM.cell 1 (by omega)
  have s2 := hM.cell 2 (by omega)
  have s3 := hM.cell 3 (by omega)
  have s4 := hM.cell 4 (by omega)
  have s5 := hM.cell 5 (by omega)
  have s6 := hM.cell 6 (by omega)
  have s7 := hM.cell 7 (by omega)
  have s8 := hM.cell 8 (by omega)
  simp [idM] at s0 s1 s2 s3 s4 s5 s6 s7 s8
  clear t0 sl hM hb0 hb1 hb2 hb02
  obtain ⟨vs, hvs⟩ : ∃ vs : Nat → Value, vs = fun _ => .slice (some ⟨w0.heap.size, 0, none⟩) 2 2 := ⟨_, rfl⟩
  have HV := Lib.hid hvs
  clear hvs
  have hl := T0.out.lt
  go_enter Try.func60, Try.ntmps60
  go_wp2_with (refine list_store (cs := #[.slice (some ⟨w0.heap.size, 0, none⟩) 2 2, .slice (some ⟨w0.heap.size, 0, none⟩) 2 2, .slice (some ⟨w0.heap.size, 0, none⟩) 2 2, .int .i64 4096, .int .i64 0, .int .i64 0, .int .i64 0, .int .i64 4096, .int .i64 0, .int .i64 0, .int .i64 0, .int .i64 4096, .int .i64 4096, .int .i64 0, .int .i64 0, .int .i64 0, .int .i64 4096, .int .i64 0, .int .i64 0, .int .i64 0, .int .i64 4096]) rfl 63 (.tmp 0) (.tmp 11) (by rfl) (by rfl) (by rfl) T0.out info_space rfl (by simp [Value.oneCell']) ?_; intro W4 h4 hx; have h4' := Lib.hid h4; clear h4)
  have hR : Hid (Spb 63 W4 w.heap.size vs idM idM) := Lib.hid (by rw [HV.out]; exact h4'.out)
  refine bodyPost_ret (v := spc vs idM idM) (results_cell_row rfl _ _ w.heap.size _ _ _ _ rfl hR.out Try.underlying63 rfl info_space) rfl ?_
  have hbs : Below w.heap.size w W4 := Exc.below hq2 hx (Nat.le_refl _) hq2.size
  refine ⟨vs, rfl, fun i hi => ⟨show 2 ≤ 9223372036854775807 by omega, ?_⟩, hbs⟩
  rw [HV.out]
  refine .inr ⟨w0.heap.size, 0, 2, rfl, ⟨?_, Nat.le_refl _⟩, fun k hk => ?_⟩
  · have := hx.2.1; have h := SL.out; rcases h with ⟨h, _⟩ | ⟨b, off, cap, hs, hb, _⟩
    · cases h
    · cases hs; omega
  · have h := SL.out; rcases h with ⟨h, _⟩ | ⟨b, off, cap, hs, hb, hc⟩
    · cases h
    · cases hs
      have hc' := hc k hk
      rw [← hc']
      unfold World.cell?
      rw [hx.2.2 w0.heap.size (by omega) (by omega)]

end Go.Proofs.Ytmilljlkcbljpaa
