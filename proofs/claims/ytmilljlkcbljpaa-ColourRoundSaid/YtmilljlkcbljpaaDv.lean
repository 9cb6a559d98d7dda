/- Device. -/
import Derived.Test.YtmilljlkcbljpaaRw
import Derived.Test.YtmilljlkcbljpaaL
import Derived.Test.YtmilljlkcbljpaaQs
namespace Go.Proofs.Ytmilljlkcbljpaa
open Go.RowKit Go.Sort

/-- The straight line of two points. -/
def dvf (k : Nat) : Int := argV k 2
theorem dvf_vld : Vld 2 dvf := ⟨by omega, by omega, by decide, by decide, fun k hk => by obtain rfl : k = 0 := (by omega); decide⟩
theorem line2_any (w : World) : Calls Try.prog 77 #[.int .i64 2] w fun e w' => ∃ v, e = .returned v ∧ w'.ownsRow w.heap.size 3 1 v 2 (argVals 2) ∧ Below w.heap.size w w' := line_yes 2 w (by omega) (by omega)
theorem own_exc {w w' : World} {b base size n : Nat} {e : TypeId} {v : Value} {xs : List Value} (h : w.ownsRow base e size v n xs) (hx : Exc b w w') (hb : b < base) : w'.ownsRow base e size v n xs := by
  obtain ⟨h1, h2⟩ := h
  refine ⟨h1, ?_⟩
  rcases h2 with h2 | ⟨g, cap, cur, hv, hg, hh, r⟩
  · exact .inl h2
  · exact .inr ⟨g, cap, cur, hv, hg, (hx.2.2 g (Array.getElem?_eq_some_iff.1 hh).1 (by omega)).trans hh, r⟩
theorem sl_dvf {w : World} {base : Nat} {v : Value} (h : w.ownsRow base 3 1 v 2 (argVals 2)) : Sl w w.heap.size v 2 dvf := Sl.of_own h (fun k hk => by simp [argVals, hk, dvf]) (Nat.le_refl _)

/-- The matrix of one. -/
def idM (j : Nat) : Int := if j = 0 ∨ j = 4 ∨ j = 8 then 4096 else 0
theorem idM_ent : Ent idM := fun j _ => by unfold idM; split <;> omega
theorem idM_inv : Inv idM idM := fun i hi => by
  unfold nearV prdV
  obtain rfl | rfl | rfl | rfl | rfl | rfl | rfl | rfl | rfl : i = 0 ∨ i = 1 ∨ i = 2 ∨ i = 3 ∨ i = 4 ∨ i = 5 ∨ i = 6 ∨ i = 7 ∨ i = 8 := by omega
  all_goals decide
theorem device_val : SpV (fun _ => 2) (fun _ => dvf) idM idM := ⟨fun _ _ => dvf_vld, idM_ent, idM_ent, idM_inv⟩

/-- Some lines. -/
def Dvs (base : Nat) (w : World) (l : List Value) : Prop := ∀ v ∈ l, w.ownsRow base 3 1 v 2 (argVals 2)
theorem Dvs.nil (base : Nat) (w : World) : Dvs base w [] := fun _ h => by cases h
theorem Dvs.cons {base : Nat} {w w' : World} {l : List Value} {v : Value} (h : Dvs base w l) (hb : Below w.heap.size w w') (hv : w'.ownsRow w.heap.size 3 1 v 2 (argVals 2)) (hB : base ≤ w.heap.size) : Dvs base w' (v :: l) := fun u hu => by
  rcases List.mem_cons.1 hu with rfl | hu
  · exact own_le hv hB
  · exact own_below (h u hu) hb

theorem device_new (w : World) (t t' : TypeId) : ∃ w0, (w.alloc (.cells (spA (fun _ => .slice none 0 0) (fun _ => 0) (fun _ => 0)) t)).alloc (.cells #[.int .i64 (idM 0), .int .i64 (idM 1), .int .i64 (idM 2), .int .i64 (idM 3), .int .i64 (idM 4), .int .i64 (idM 5), .int .i64 (idM 6), .int .i64 (idM 7), .int .i64 (idM 8)] t') = w0 ∧
    Below w.heap.size w w0 ∧ w0.heap.size = w.heap.size + 2 ∧ Spb t w0 w.heap.size (fun _ => .slice none 0 0) (fun _ => 0) (fun _ => 0) ∧ Mat t' w0 (w.heap.size + 1) idM := by
  refine ⟨_, rfl, ((Below.refl _ w).alloc (Nat.le_refl _) _).alloc (by simp) _, by simp, (Spb.new w _ _ _ t).alloc _, ?_⟩
  have h := Mat.new (w.alloc (.cells (spA (fun _ => .slice none 0 0) (fun _ => 0) (fun _ => 0)) t)) idM t'
  rw [World.size_alloc] at h
  exact h

/-- Three values. -/
def v3 (x y z : Value) (i : Nat) : Value := if i = 0 then x else if i = 1 then y else z

set_option maxRecDepth 100000 in
set_option maxHeartbeats 4000000 in
theorem device_any (w : World) :
    Calls Try.prog 43 #[] w fun e w' => ∃ v : Nat → Value, e = .returned (spc v idM idM) ∧ Crv w' w'.heap.size v (fun _ => 2) (fun _ => dvf) ∧ Below w.heap.size w w' := by
  obtain ⟨w0, h0, hb0, hz, t1, t2⟩ := device_new w 63 61
  have T1 := Lib.hid t1
  have T2 := Lib.hid t2
  have Z := Lib.hid hz
  unfold spA idM at h0
  simp at h0
  clear t1 t2 hz
  go_enter Try.func43, Try.ntmps43
  go_wp2
  clear h0
  refine region_seq [4, 5] [0, 1, 2, 3, 6] 7 [] (by kernel_rfl) (by kernel_rfl) (by kernel_rfl) (by kernel_rfl) (by kernel_rfl) (by kernel_rfl) (fun _ _ d _ _ h => by cases d <;> exact h) ?_
  simp only [selL, List.filterMap_cons, List.filterMap_nil, List.getElem?_cons_zero, List.getElem?_cons_succ]
  refine pureW_step (.agg #[.int .i64 4096, .int .i64 0, .int .i64 0, .int .i64 0, .int .i64 4096, .int .i64 0, .int .i64 0, .int .i64 0, .int .i64 4096]) rfl (fun w' hw' => ?_) (fun K' hK' => ?_)
  · have hM := T2.out.on hw'
    have s0 := hM.cell 0 (by omega)
    have s1 := hM.cell 1 (by omega)
    have s2 := hM.cell 2 (by omega)
    have s3 := hM.cell 3 (by omega)
    have s4 := hM.cell 4 (by omega)
    have s5 := hM.cell 5 (by omega)
    have s6 := hM.cell 6 (by omega)
    have s7 := hM.cell 7 (by omega)
    have s8 := hM.cell 8 (by omega)
    simp [idM] at s0 s1 s2 s3 s4 s5 s6 s7 s8
    go_simp
  go_simp
  refine hK' _ ?_
  clear hK' K'
  refine pureW_step (.agg #[.int .i64 4096, .int .i64 0, .int .i64 0, .int .i64 0, .int .i64 4096, .int .i64 0, .int .i64 0, .int .i64 0, .int .i64 4096]) rfl (fun w' hw' => ?_) (fun K' hK' => ?_)
  · have hM := T2.out.on hw'
    have s0 := hM.cell 0 (by omega)
    have s1 := hM.cell 1 (by omega)
    have s2 := hM.cell 2 (by omega)
    have s3 := hM.cell 3 (by omega)
    have s4 := hM.cell 4 (by omega)
    have s5 := hM.cell 5 (by omega)
    have s6 := hM.cell 6 (by omega)
    have s7 := hM.cell 7 (by omega)
    have s8 := hM.cell 8 (by omega)
    simp [idM] at s0 s1 s2 s3 s4 s5 s6 s7 s8
    go_simp
  go_simp
  refine hK' _ ?_
  clear hK' K'
  refine pureW_nil ?_
  intro w1 hq
  have hA := Dvs.nil w0.heap.size w1
  refine actW_step rfl (fun K' hK' => ?_)
  go_simp
  refine (line2_any _).mono ?_
  rintro e W1 ⟨v1, rfl, hv, hb⟩
  obtain ⟨a1', cap1, rfl⟩ := own_pos hv (by omega)
  replace hA := hA.cons hb hv hq.size
  replace hq := hq.trans (hb.mono hq.size)
  refine hK' _ _ hq ?_
  clear hK' K' hb hv
  refine actW_step rfl (fun K' hK' => ?_)
  go_simp
  refine (line2_any _).mono ?_
  rintro e W2 ⟨v2, rfl, hv, hb⟩
  obtain ⟨a2', cap2, rfl⟩ := own_pos hv (by omega)
  replace hA := hA.cons hb hv hq.size
  replace hq := hq.trans (hb.mono hq.size)
  refine hK' _ _ hq ?_
  clear hK' K' hb hv
  refine actW_step rfl (fun K' hK' => ?_)
  go_simp
  refine (line2_any _).mono ?_
  rintro e W3 ⟨v3, rfl, hv, hb⟩
  obtain ⟨a3', cap3, rfl⟩ := own_pos hv (by omega)
  replace hA := hA.cons hb hv hq.size
  replace hq := hq.trans (hb.mono hq.size)
  refine hK' _ _ hq ?_
  clear hK' K' hb hv
  refine actW_step rfl (fun K' hK' => ?_)
  go_simp
  refine hK' _ _ hq ?_
  clear hK' K'
  refine actW_step rfl (fun K' hK' => ?_)
  go_simp
  refine hK' _ _ hq ?_
  clear hK' K'
  refine actW_nil ?_
  change wpList _ _ _ _ _ _
  have hS := T1.out.on hq
  obtain ⟨vs, hvs⟩ : ∃ vs, vs = v3 (.slice (some ⟨a1', 0, none⟩) 2 cap1) (.slice (some ⟨a2', 0, none⟩) 2 cap2) (.slice (some ⟨a3', 0, none⟩) 2 cap3) := ⟨_, rfl⟩
  have hO : ∀ i, i < 3 → W3.ownsRow w0.heap.size 3 1 (vs i) 2 (argVals 2) := fun i hi => by
    rw [hvs]
    obtain rfl | rfl | rfl : i = 0 ∨ i = 1 ∨ i = 2 := by omega
    · exact hA _ (.tail _ (.tail _ (.head _)))
    · exact hA _ (.tail _ (.head _))
    · exact hA _ (.head _)
  have hq' := hb0.trans (hq.mono hb0.size)
  have hsz := hS.lt
  have HS := Lib.hid hS
  have HO := Lib.hid hO
  have HV := Lib.hid hvs
  have hl0 := T1.out.lt
  clear hS hA hO hvs
  have H1 : Hid (Array.all (α := Value) #[.slice (some ⟨a1', 0, none⟩) 2 cap1, .slice (some ⟨a2', 0, none⟩) 2 cap2, .slice (some ⟨a3', 0, none⟩) 2 cap3, .int .i64 4096, .int .i64 0, .int .i64 0, .int .i64 0, .int .i64 4096, .int .i64 0, .int .i64 0, .int .i64 0, .int .i64 4096, .int .i64 4096, .int .i64 0, .int .i64 0, .int .i64 0, .int .i64 4096, .int .i64 0, .int .i64 0, .int .i64 0, .int .i64 4096] (·.oneCell') = true) := Lib.hid (by simp [Value.oneCell'])
  refine list_store (cs := #[.slice (some ⟨a1', 0, none⟩) 2 cap1, .slice (some ⟨a2', 0, none⟩) 2 cap2, .slice (some ⟨a3', 0, none⟩) 2 cap3, .int .i64 4096, .int .i64 0, .int .i64 0, .int .i64 0, .int .i64 4096, .int .i64 0, .int .i64 0, .int .i64 0, .int .i64 4096, .int .i64 4096, .int .i64 0, .int .i64 0, .int .i64 0, .int .i64 4096, .int .i64 0, .int .i64 0, .int .i64 0, .int .i64 4096]) rfl 63 (.tmp 0) (.tmp 9) (by rfl) (by rfl) (by rfl) HS.out info_space rfl H1.out ?_
  intro W4 h4 hx
  have h4' := Lib.hid h4
  clear h4
  go_wp2
  have hR : Hid (Spb 63 W4 w.heap.size vs idM idM) := Lib.hid (by rw [HV.out]; exact h4'.out)
  refine bodyPost_ret (v := spc vs idM idM) (results_cell_row rfl _ _ w.heap.size _ _ _ _ rfl hR.out Try.underlying63 rfl info_space) rfl ?_
  have hb4 := Exc.below hq' hx (Nat.le_refl _) hq'.size
  exact ⟨vs, rfl, fun i hi => ⟨show 2 ≤ 9223372036854775807 by omega, sl_dvf (own_exc (HO.out i hi) hx hl0)⟩, hb4⟩

end Go.Proofs.Ytmilljlkcbljpaa
