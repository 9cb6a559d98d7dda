/- The statement ColourRound, walked. -/
import Derived.Test.YtmilljlkcbljpaaRp
namespace Go.Proofs.Ytmilljlkcbljpaa
open Go.RowKit Go.Sort

theorem cols_new (w : World) (c d : Nat → Int) (t : TypeId) : ∃ w0, (w.alloc (.cells #[.int .i64 (c 0), .int .i64 (c 1), .int .i64 (c 2)] t)).alloc (.cells #[.int .i64 (d 0), .int .i64 (d 1), .int .i64 (d 2)] t) = w0 ∧
    Below w.heap.size w w0 ∧ w0.heap.size = w.heap.size + 2 ∧ Tri t w0 w.heap.size c ∧ Tri t w0 (w.heap.size + 1) d := by
  refine ⟨_, rfl, ((Below.refl _ w).alloc (Nat.le_refl _) _).alloc (by simp) _, by simp, (Tri.new w c t).alloc _, ?_⟩
  have h := Tri.new (w.alloc (.cells #[.int .i64 (c 0), .int .i64 (c 1), .int .i64 (c 2)] t)) d t
  simp only [World.size_alloc] at h
  exact h
theorem spc_lit (v : Nat → Value) (T M : Nat → Int) : spA v T M = #[v 0, v 1, v 2, .int .i64 (T 0), .int .i64 (T 1), .int .i64 (T 2), .int .i64 (T 3), .int .i64 (T 4), .int .i64 (T 5), .int .i64 (T 6), .int .i64 (T 7), .int .i64 (T 8), .int .i64 (M 0), .int .i64 (M 1), .int .i64 (M 2), .int .i64 (M 3), .int .i64 (M 4), .int .i64 (M 5), .int .i64 (M 6), .int .i64 (M 7), .int .i64 (M 8)] := rfl
theorem spc_two (v : Nat → Value) (T M : Nat → Int) : (#[v 0, v 1, v 2, .int .i64 (T 0), .int .i64 (T 1), .int .i64 (T 2), .int .i64 (T 3), .int .i64 (T 4), .int .i64 (T 5), .int .i64 (T 6), .int .i64 (T 7), .int .i64 (T 8), .int .i64 (M 0), .int .i64 (M 1), .int .i64 (M 2), .int .i64 (M 3), .int .i64 (M 4), .int .i64 (M 5), .int .i64 (M 6), .int .i64 (M 7), .int .i64 (M 8), v 0, v 1, v 2, .int .i64 (T 0), .int .i64 (T 1), .int .i64 (T 2), .int .i64 (T 3), .int .i64 (T 4), .int .i64 (T 5), .int .i64 (T 6), .int .i64 (T 7), .int .i64 (T 8), .int .i64 (M 0), .int .i64 (M 1), .int .i64 (M 2), .int .i64 (M 3), .int .i64 (M 4), .int .i64 (M 5), .int .i64 (M 6), .int .i64 (M 7), .int .i64 (M 8)] : Array Value) = spA v T M ++ spA v T M := by
  kernel_rfl
theorem chn_two {w : World} {b cap B : Nat} {s : Sp} {t : TypeId} (h : w.heap[b]? = some (.cells (s.cells ++ s.cells) t (0, 0))) (hs : s.ok w B) (hb : b < B) (hc : 2 ≤ cap) : Chn w B (.slice (some ⟨b, 0, none⟩) 2 cap) 2 (fun _ => s) :=
  ⟨fun _ _ => hs, .inr ⟨b, 0, cap, rfl, ⟨hb, hc⟩, fun k hk j x hx => by
    have hj : j < 21 := (Array.getElem?_eq_some_iff.1 hx).1
    have hsz : s.cells.size = 21 := rfl
    obtain rfl | rfl : k = 0 ∨ k = 1 := by omega
    · rw [show 0 + 0 * 21 + j = j by omega, cell_of_row w b j _ _ _ h, Array.getElem?_append_left (by omega)]; exact hx
    · rw [show 0 + 1 * 21 + j = 21 + j by omega, cell_of_row w b _ _ _ _ h, Array.getElem?_append_right (by omega)]; rw [hsz, show 21 + j - 21 = j by omega]; exact hx⟩⟩

set_option maxRecDepth 100000 in
set_option maxHeartbeats 8000000 in
theorem colourRound_walk {q : Int} {c o : Nat → Int} {w : World} :
    Calls Try.prog 10 #[.int .i64 q, col c, col o] w fun e w' => e = .returned (.bool true) ∧ Below w.heap.size w w' := by
  have am : ∀ x : Int, bits .and .i64 x 65535 = x % 65536 := fun x => and_mask 16 x (by omega)
  obtain ⟨w0, h0, hb0, hz0, t1, t2⟩ := cols_new w c o 28
  have T1 := Lib.hid t1
  have T2 := Lib.hid t2
  clear t1 t2
  unfold col
  go_enter Try.func10, Try.ntmps10
  go_wp2_with fail
  refine (sanity_any w0).mono ?_
  rintro e w1 ⟨rfl, hb1⟩
  have T1' := Lib.hid (T1.out.on hb1)
  have T2' := Lib.hid (T2.out.on hb1)
  have hq1 := hb0.trans (hb1.mono hb0.size)
  clear h0 T1 T2 hb1
  go_wp2_with fail
  refine (refSpace_any (q := q) (w := w1)).mono ?_
  rintro e w2 ⟨v, rfl, hcv, hb2⟩
  have hr4 : spQ q % 4 < 4 := by omega
  have hk4 : ∀ i, spQ q / 4 / 4 ^ i % 4 < 4 := fun i => by omega
  obtain ⟨r, hr⟩ : ∃ r, spQ q % 4 = r := ⟨_, rfl⟩
  obtain ⟨κ, hκ⟩ : ∃ κ : Nat → Nat, κ = fun i => spQ q / 4 / 4 ^ i % 4 := ⟨_, rfl⟩
  have hκ4 : ∀ i, κ i < 4 := fun i => by rw [hκ]; exact hk4 i
  have hcv' : Crv w2 w2.heap.size v (fun i => cvN (κ i)) (fun i => cvF (κ i)) := by rw [hκ]; exact hcv
  rw [hr] at hr4 ⊢
  clear hcv hk4 hκ hr
  obtain ⟨T, hT⟩ : ∃ T, spT r = T := ⟨_, rfl⟩
  obtain ⟨M, hM⟩ : ∃ M, spF r = M := ⟨_, rfl⟩
  rw [hT, hM]
  have HT := Lib.hid hT
  have HM := Lib.hid hM
  have hval : spB (fun i => cvN (κ i)) (fun i => cvF (κ i)) T M = true := by rw [← hT, ← hM]; exact spB_t (sp_val hr4 hκ4)
  have HVL := Lib.hid hval
  have HCV := Lib.hid hcv'
  have T1a := Lib.hid (T1'.out.on hb2)
  have T2a := Lib.hid (T2'.out.on hb2)
  have hq2 := hq1.trans (hb2.mono hq1.size)
  have hone := Lib.hid (sp_one hcv' T M)
  obtain ⟨w3, h3⟩ : ∃ w3, w2.alloc (.cells #[.slice none 0 0, .slice none 0 0, .slice none 0 0, .int .i64 0, .int .i64 0, .int .i64 0, .int .i64 0, .int .i64 0, .int .i64 0, .int .i64 0, .int .i64 0, .int .i64 0, .int .i64 0, .int .i64 0, .int .i64 0, .int .i64 0, .int .i64 0, .int .i64 0, .int .i64 0, .int .i64 0, .int .i64 0] 63) = w3 := ⟨_, rfl⟩
  have TS3 : Hid (Spb 63 w3 w2.heap.size (fun _ => .slice none 0 0) (fun _ => 0) (fun _ => 0)) := Lib.hid (by rw [← h3]; exact Spb.new w2 (fun _ => .slice none 0 0) (fun _ => 0) (fun _ => 0) _)
  have hb3 : Below w2.heap.size w2 w3 := by rw [← h3]; exact (Below.refl _ _).alloc (Nat.le_refl _) _
  obtain ⟨F, hF⟩ : ∃ F : Nat → Int, F = fun i => c i % 65536 := ⟨_, rfl⟩
  have e0 : c 0 % 65536 = F 0 := by rw [hF]
  have e1 : c 1 % 65536 = F 1 := by rw [hF]
  have e2 : c 2 % 65536 = F 2 := by rw [hF]
  have HFG : Hid (InG F) := Lib.hid (fun i _ => by rw [hF]; show 0 ≤ c i % 65536 ∧ c i % 65536 ≤ 65535; omega)
  have hsz := hcv' 0 (by omega)
  obtain ⟨a0, b0, s0⟩ := (hcv' 0 (by omega)).2.shape
  obtain ⟨a1, b1, s1⟩ := (hcv' 1 (by omega)).2.shape
  obtain ⟨a2, b2, s2⟩ := (hcv' 2 (by omega)).2.shape
  have HS0 := Lib.hid s0
  have HS1 := Lib.hid s1
  have HS2 := Lib.hid s2
  clear hT hM hval hF hb2 T1' T2' hcv' hsz s0 s1 s2
  go_wp2_with (first
    | (refine list_store (cs := spA v T M) rfl 63 (.tmp 8) (.tmp 17) (by rfl) (by rfl) (by rfl) TS3.out info_space rfl hone.out ?_
       intro w4 h4 hx4
       have TS4 : Hid (Spb 63 w4 w2.heap.size v T M) := Lib.hid h4
       have hb4 : Below w2.heap.size w2 w4 := Exc.below hb3 hx4 (Nat.le_refl _) hb3.size
       have hq4 := hq2.trans (hb4.mono hq2.size)
       have HC4 : Hid (Crv w4 w4.heap.size v (fun i => cvN (κ i)) (fun i => cvF (κ i))) := Lib.hid (Crv.mono (Crv.below HCV.out hb4 (Nat.le_refl _)) hb4.size)
       have T2b := Lib.hid (T2a.out.on hb4)
       have t1 := T1a.out.on hb4
       have d0 := t1.c0
       have d1 := t1.c1
       have d2 := t1.c2
       obtain ⟨w5, h5⟩ : ∃ w5, w4.alloc (.cells #[.int .i64 (F 0), .int .i64 (F 1), .int .i64 (F 2)] 28) = w5 := ⟨_, rfl⟩
       have hb5 : Below w4.heap.size w4 w5 := by rw [← h5]; exact (Below.refl _ _).alloc (Nat.le_refl _) _
       have t5 : Tri 28 w5 w4.heap.size F := by rw [← h5]; exact Tri.new w4 F _
       have TS5 : Hid (Spb 63 w5 w2.heap.size v T M) := Lib.hid (TS4.out.on hb5)
       have HL5 : Hid ((loadVar 63 ⟨w2.heap.size, 0, none⟩).run Try.prog w5 = .ok (.agg #[v 0, v 1, v 2, .int .i64 (T 0), .int .i64 (T 1), .int .i64 (T 2), .int .i64 (T 3), .int .i64 (T 4), .int .i64 (T 5), .int .i64 (T 6), .int .i64 (T 7), .int .i64 (T 8), .int .i64 (M 0), .int .i64 (M 1), .int .i64 (M 2), .int .i64 (M 3), .int .i64 (M 4), .int .i64 (M 5), .int .i64 (M 6), .int .i64 (M 7), .int .i64 (M 8)]) w5) := Lib.hid (Sp.load0 (s := ⟨v, fun _ => 0, fun _ _ => 0, T, M⟩) TS5.out)
       have g0 := t5.c0
       have g1 := t5.c1
       have g2 := t5.c2
       obtain ⟨w6, h6⟩ : ∃ w6, w5.alloc (.cells #[v 0, v 1, v 2, .int .i64 (T 0), .int .i64 (T 1), .int .i64 (T 2), .int .i64 (T 3), .int .i64 (T 4), .int .i64 (T 5), .int .i64 (T 6), .int .i64 (T 7), .int .i64 (T 8), .int .i64 (M 0), .int .i64 (M 1), .int .i64 (M 2), .int .i64 (M 3), .int .i64 (M 4), .int .i64 (M 5), .int .i64 (M 6), .int .i64 (M 7), .int .i64 (M 8), v 0, v 1, v 2, .int .i64 (T 0), .int .i64 (T 1), .int .i64 (T 2), .int .i64 (T 3), .int .i64 (T 4), .int .i64 (T 5), .int .i64 (T 6), .int .i64 (T 7), .int .i64 (T 8), .int .i64 (M 0), .int .i64 (M 1), .int .i64 (M 2), .int .i64 (M 3), .int .i64 (M 4), .int .i64 (M 5), .int .i64 (M 6), .int .i64 (M 7), .int .i64 (M 8)] 63) = w6 := ⟨_, rfl⟩
       have g06 : w6.cell? ⟨w4.heap.size, 0, none⟩ = some (.int .i64 (F 0)) := by rw [← h6]; exact (t5.alloc _).c0
       have g16 : w6.cell? ⟨w4.heap.size, 1, none⟩ = some (.int .i64 (F 1)) := by rw [← h6]; exact (t5.alloc _).c1
       have g26 : w6.cell? ⟨w4.heap.size, 2, none⟩ = some (.int .i64 (F 2)) := by rw [← h6]; exact (t5.alloc _).c2
       have T5 := Lib.hid t5
       clear h4 hx4 h3 t1 t5)
    | (refine list_load rfl 63 (.tmp 8) (by rfl) (by rfl) HL5.out ?_))
  obtain ⟨s, hs⟩ : ∃ s : Sp, s = ⟨v, fun i => cvN (κ i), fun i => cvF (κ i), T, M⟩ := ⟨_, rfl⟩
  have hb6 : Below w5.heap.size w5 w6 := by rw [← h6]; exact (Below.refl _ _).alloc (Nat.le_refl _) _
  have hB6 : w6.heap[w5.heap.size]? = some (.cells (s.cells ++ s.cells) 63 (0, 0)) := by rw [← h6, hs, spc_two]; exact heap_alloc_new w5 _
  have hb46 : Below w4.heap.size w4 w6 := hb5.trans (hb6.mono hb5.size)
  have hok6 : s.ok w6 w6.heap.size := by rw [hs]; exact Crv.mono (Crv.below HC4.out hb46 (Nat.le_refl _)) hb46.size
  have hchn := chn_two (cap := 2) hB6 hok6 (Array.getElem?_eq_some_iff.1 hB6).1 (Nat.le_refl _)
  have hsv : s.val = true := by rw [hs]; exact HVL.out
  have hchk : chkV 2 (fun _ => s) = 0 := chkV_is (by omega) (by omega) (fun _ _ => hsv)
  have kC := Lib.hid (Convert_any (c := F) (w := w6) (by omega) (Nat.le_refl _) hchn)
  rw [hchk] at kC
  obtain ⟨G, hG⟩ : ∃ G, cvtV 2 (fun _ => s) F = G := ⟨_, rfl⟩
  rw [hG] at kC
  have HG : Hid (∀ i, i < 3 → AtV (cvN (κ i)) (cvF (κ i)) (F i) - AtV (cvN (κ i)) (cvF (κ i)) (G i) ≤ 2048 ∧ -2048 ≤ AtV (cvN (κ i)) (cvF (κ i)) (F i) - AtV (cvN (κ i)) (cvF (κ i)) (G i)) := Lib.hid (fun i hi => by
    have e : G i = fromV (fun i => cvN (κ i)) (fun i => cvF (κ i)) (spF r) (toV (fun i => cvN (κ i)) (fun i => cvF (κ i)) (spT r) F) i := by
      rw [← hG]
      unfold cvtV
      rw [if_pos hchk, HT.out, HM.out, hs]
      rfl
    rw [e]
    exact round_near hr4 hκ4 HFG.out hi)
  unfold col at kC
  have HC6 : Hid (Crv w6 w6.heap.size v (fun i => cvN (κ i)) (fun i => cvF (κ i))) := Lib.hid (by rw [hs] at hok6; exact hok6)
  have TS6 := Lib.hid (TS5.out.on hb6)
  have T56 := Lib.hid (T5.out.on hb6)
  have T26 := Lib.hid (T2b.out.on hb46)
  have hq6 := hq4.trans (hb46.mono hq4.size)
  clear hG hchk hsv hchn hok6 hB6 hs hb6 hb46 hb5 h5 h6 g0 g1 g2 g06 g16 g26 d0 d1 d2 e0 e1 e2 HL5 TS5 T5 T2b TS4 HC4
  refine kC.out.mono ?_
  rintro e w7 ⟨rfl, hb7⟩
  obtain ⟨w8, h8⟩ : ∃ w8, w7.alloc (.cells #[.int .i64 (G 0), .int .i64 (G 1), .int .i64 (G 2)] 28) = w8 := ⟨_, rfl⟩
  have hb8 : Below w7.heap.size w7 w8 := by rw [← h8]; exact (Below.refl _ _).alloc (Nat.le_refl _) _
  have t8 : Tri 28 w8 w7.heap.size G := by rw [← h8]; exact Tri.new w7 G _
  have T8 := Lib.hid t8
  have hb68 : Below w6.heap.size w6 w8 := hb7.trans (hb8.mono hb7.size)
  have TS8 := Lib.hid (TS6.out.on hb68)
  have T58 := Lib.hid (T56.out.on hb68)
  have t2 := T26.out.on hb68
  have d0 := t2.c0
  have d1 := t2.c1
  have d2 := t2.c2
  have HC8 := Lib.hid (Crv.mono (Crv.below HC6.out hb68 (Nat.le_refl _)) hb68.size)
  have hq8 := hq6.trans (hb68.mono hq6.size)
  have HL8 : Hid ((loadVar 63 ⟨w2.heap.size, 0, none⟩).run Try.prog w8 = .ok (.agg #[v 0, v 1, v 2, .int .i64 (T 0), .int .i64 (T 1), .int .i64 (T 2), .int .i64 (T 3), .int .i64 (T 4), .int .i64 (T 5), .int .i64 (T 6), .int .i64 (T 7), .int .i64 (T 8), .int .i64 (M 0), .int .i64 (M 1), .int .i64 (M 2), .int .i64 (M 3), .int .i64 (M 4), .int .i64 (M 5), .int .i64 (M 6), .int .i64 (M 7), .int .i64 (M 8)]) w8) := Lib.hid (Sp.load0 (s := ⟨v, fun _ => 0, fun _ _ => 0, T, M⟩) TS8.out)
  have kF := Lib.hid (From_any (v := v) (t := T) (m := M) (c := o) (w := w8) (Nat.le_refl _) HC8.out)
  obtain ⟨X, hX⟩ : ∃ X, FromV (fun i => cvN (κ i)) (fun i => cvF (κ i)) T M o = X := ⟨_, rfl⟩
  have HX : Hid (InG X) := Lib.hid (by rw [← hX]; exact FromV_gam)
  rw [hX] at kF
  unfold spc spA col at kF
  clear t8 t2 hX TS6 T56 T26 hb68 hb7 hb8
  go_wp2_with (refine list_load rfl 63 (.tmp 8) (by rfl) (by rfl) HL8.out ?_)
  refine kF.out.mono ?_
  rintro e w9 ⟨rfl, hb9⟩
  obtain ⟨w10, h10⟩ : ∃ w10, w9.alloc (.cells #[.int .i64 (X 0), .int .i64 (X 1), .int .i64 (X 2)] 28) = w10 := ⟨_, rfl⟩
  have hb10 : Below w9.heap.size w9 w10 := by rw [← h10]; exact (Below.refl _ _).alloc (Nat.le_refl _) _
  have tx : Tri 28 w10 w9.heap.size X := by rw [← h10]; exact Tri.new w9 X _
  have TX := Lib.hid tx
  have hb810 : Below w8.heap.size w8 w10 := hb9.trans (hb10.mono hb9.size)
  have TSA := Lib.hid (TS8.out.on hb810)
  have TF := Lib.hid (T58.out.on hb810)
  have TG := Lib.hid (T8.out.on hb810)
  have HCA := Lib.hid (Crv.mono (Crv.below HC8.out hb810 (Nat.le_refl _)) hb810.size)
  have hqA := hq8.trans (hb810.mono hq8.size)
  clear tx d0 d1 d2 h8 HL8 kF kC HC8 T58 T8 TS8 hb9 hb10 hb810
  go_wp2
  clear h10
  go_loopw [13] (fun i wr => ∃ k : Nat, k ≤ 3 ∧ i = .int .i64 k ∧ Drawn w10 wr) (fun i _ => 3 - (intOf i).toNat)
  case atStart => exact ⟨0, by omega, rfl, .refl _⟩
  case round =>
    obtain ⟨k, hk, rfl, hd⟩ := hrel
    by_cases hlt : k < 3
    · have cv := (TSA.out.on (hd.below _)).curve k hlt
      have cF := (TF.out.on (hd.below _)).cell k hlt
      have cG := (TG.out.on (hd.below _)).cell k hlt
      have cX := (TX.out.on (hd.below _)).cell k hlt
      obtain ⟨n1, n2⟩ := Crv.below HCA.out (hd.below _) (Nat.le_refl _) k hlt
      obtain ⟨g1, g2⟩ := HG.out k hlt
      obtain ⟨x1, x2⟩ := HX.out k hlt
      have hAt : Hid (∀ (x : Int) (j : Nat), Calls Try.prog 35 #[v k, .int .i64 x] (wr.drewN j) fun e w' => e = .returned (.int .i64 (AtV (cvN (κ k)) (cvF (κ k)) x)) ∧ Drawn (wr.drewN j) w') := Lib.hid fun x j => At_any n1 (n2.drawnN j)
      obtain ⟨av, cpv, ev⟩ := n2.shape
      rw [ev] at hAt cv
      have r1 := AtV_range (n := cvN (κ k)) (f := cvF (κ k)) (F k)
      have r2 := AtV_range (n := cvN (κ k)) (f := cvF (κ k)) (G k)
      have i1 : 0 ≤ (k : Int) ∧ (k : Int) < 3 := by omega
      have HD := Lib.hid hd
      clear n1 n2 ev hd
      obtain ⟨A, hA⟩ : ∃ A, AtV (cvN (κ k)) (cvF (κ k)) = A := ⟨_, rfl⟩
      rw [hA] at hAt g1 g2 r1 r2
      clear hA
      have dd1 : decide (2048 < A (F k) - A (G k)) = false := decide_eq_false (by omega)
      have dd2 : decide (A (F k) - A (G k) < -2048) = false := decide_eq_false (by omega)
      have dd3 : decide (X k < 0) = false := decide_eq_false (by omega)
      have dd4 : decide (65535 < X k) = false := decide_eq_false (by omega)
      go_wp2
      go_quiet ((go_at_call 35; exact Calls.quiet_of (hAt.out _ _)))
      go_wp2
      exact ⟨⟨k + 1, by omega, by go_num, HD.out.on _⟩, by simp [intOf]; omega⟩
    · obtain rfl : k = 3 := by omega
      go_wp2
      go_ret
      exact ⟨rfl, hqA.trans ((hd.below _).mono hqA.size)⟩

end Go.Proofs.Ytmilljlkcbljpaa
