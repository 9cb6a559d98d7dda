/- Space of the reference. -/
import Derived.Test.YtmilljlkcbljpaaRt2
import Derived.Deep.MidRow
namespace Go.Proofs.Ytmilljlkcbljpaa
open Go.RowKit Go.Sort

/-- The number of a space. -/
def spQ (q : Int) : Nat := ((q.tmod 256 + 256) % 256).toNat
theorem spQ_lt (q : Int) : spQ q < 256 := by unfold spQ; omega

theorem Exc.set9 (w : World) (b off : Nat) (t : Nat → Int) : Exc b w (set9 w b off t) := (((((((((Exc.refl b w).set _).set _).set _).set _).set _).set _).set _).set _).set _

def mxL (t : Nat → Int) : List Value := [.int .i64 (t 0), .int .i64 (t 1), .int .i64 (t 2), .int .i64 (t 3), .int .i64 (t 4), .int .i64 (t 5), .int .i64 (t 6), .int .i64 (t 7), .int .i64 (t 8)]
def boxT : Array Value := #[.int .i64 4096, .int .i64 0, .int .i64 0, .int .i64 0, .int .i64 4096, .int .i64 0, .int .i64 0, .int .i64 0, .int .i64 4096, .int .i64 0, .int .i64 4096, .int .i64 0, .int .i64 0, .int .i64 0, .int .i64 4096, .int .i64 4096, .int .i64 0, .int .i64 0, .int .i64 2048, .int .i64 0, .int .i64 0, .int .i64 0, .int .i64 8192, .int .i64 0, .int .i64 0, .int .i64 0, .int .i64 4096, .int .i64 4096, .int .i64 2048, .int .i64 0, .int .i64 0, .int .i64 4096, .int .i64 0, .int .i64 0, .int .i64 1024, .int .i64 4096]
def boxF : Array Value := #[.int .i64 4096, .int .i64 0, .int .i64 0, .int .i64 0, .int .i64 4096, .int .i64 0, .int .i64 0, .int .i64 0, .int .i64 4096, .int .i64 0, .int .i64 0, .int .i64 4096, .int .i64 4096, .int .i64 0, .int .i64 0, .int .i64 0, .int .i64 4096, .int .i64 0, .int .i64 8192, .int .i64 0, .int .i64 0, .int .i64 0, .int .i64 2048, .int .i64 0, .int .i64 0, .int .i64 0, .int .i64 4096, .int .i64 4096, .int .i64 (-2048), .int .i64 0, .int .i64 0, .int .i64 4096, .int .i64 0, .int .i64 0, .int .i64 (-1024), .int .i64 4096]
theorem boxT_at {r : Nat} (hr : r < 4) (j : Nat) (v : Value) (h : (mxL (spT r))[j]? = some v) : boxT[9 * r + j]? = some v := by
  have hj : j < 9 := (List.getElem?_eq_some_iff.1 h).1
  rw [← h]
  obtain rfl | rfl | rfl | rfl : r = 0 ∨ r = 1 ∨ r = 2 ∨ r = 3 := by omega
  all_goals
    obtain rfl | rfl | rfl | rfl | rfl | rfl | rfl | rfl | rfl : j = 0 ∨ j = 1 ∨ j = 2 ∨ j = 3 ∨ j = 4 ∨ j = 5 ∨ j = 6 ∨ j = 7 ∨ j = 8 := by omega
    all_goals rfl
theorem boxF_at {r : Nat} (hr : r < 4) (j : Nat) (v : Value) (h : (mxL (spF r))[j]? = some v) : boxF[9 * r + j]? = some v := by
  have hj : j < 9 := (List.getElem?_eq_some_iff.1 h).1
  rw [← h]
  obtain rfl | rfl | rfl | rfl : r = 0 ∨ r = 1 ∨ r = 2 ∨ r = 3 := by omega
  all_goals
    obtain rfl | rfl | rfl | rfl | rfl | rfl | rfl | rfl | rfl : j = 0 ∨ j = 1 ∨ j = 2 ∨ j = 3 ∨ j = 4 ∨ j = 5 ∨ j = 6 ∨ j = 7 ∨ j = 8 := by omega
    all_goals rfl

/-- A load of a matrix out of a box of four. -/
theorem box_load {ops : Array Oper} {rest : List Oper} {o : Oper} {a : Act} {w : World} {Q : Exit → Act → World → Prop} (hgd : o.guard = none) (x : Operand) (ho : o.op = .load 61 x) {b off r : Nat} {cs : Array Value} {ty : TypeId} {t : Nat → Int}
    (hx : a.eval x = .pointer (some ⟨b, off, none⟩)) (hoff : off = 9 * r) (hw : w.heap[b]? = some (.cells cs ty (0, 0))) (ht : ∀ j v, (mxL t)[j]? = some v → cs[9 * r + j]? = some v)
    (h : wpList Try.prog ops Q rest (a.put o.dst (.agg (mxL t).toArray)) w) : wpList Try.prog ops Q (o :: rest) a w :=
  wpList_load_mid hgd 61 x ho b off hx (mxL t) _ (fun j v hv => by rw [cell_of_row w b (off + j) _ _ _ hw, hoff]; exact ht j v hv) Try.underlying61 rfl (by kernel_rfl) h
/-- A store of a matrix into a part of a space. -/
theorem part_store {ops : Array Oper} {rest : List Oper} {o : Oper} {a : Act} {w : World} {Q : Exit → Act → World → Prop} (hgd : o.guard = none) (x y : Operand) (ho : o.op = .store 61 x y) {b off : Nat} {v : Nat → Value} {t m t' : Nat → Int} {ty : TypeId}
    (hx : a.eval x = .pointer (some ⟨b, off, none⟩)) (hy : a.eval y = .agg (mxL t').toArray) (hs : Spb ty w b v t m) (hoff : off + 9 ≤ 21)
    (h : ∀ w', w' = set9 w b off t' → Exc b w w' → wpList Try.prog ops Q rest (a.put o.dst undef) w') : wpList Try.prog ops Q (o :: rest) a w :=
  wpList_store_mid hgd 61 x y ho b off _ hx hy (fun j hj => ⟨by rw [cell_of_row w b (off + j) _ _ _ hs]; have : off + j < (spA v t m).size := (by have : j < 9 := hj; show off + j < 21; omega); simp [this], hs.free _⟩) (by kernel_rfl) (by simp [mxL, Value.oneCell'])
    (h _ rfl (Exc.set9 w b off t'))

set_option maxRecDepth 100000 in
set_option maxHeartbeats 8000000 in
theorem refSpace_any {q : Int} {w : World} :
    Calls Try.prog 27 #[.int .i64 q] w fun e w' => ∃ v : Nat → Value, e = .returned (spc v (spT (spQ q % 4)) (spF (spQ q % 4))) ∧ Crv w' w'.heap.size v (fun i => cvN (spQ q / 4 / 4 ^ i % 4)) (fun i => cvF (spQ q / 4 / 4 ^ i % 4)) ∧ Below w.heap.size w w' := by
  have h1 := Int.tmod_lt_of_pos q (b := 256) (by omega)
  have h2 := Int.tmod_lt_of_pos (-q) (b := 256) (by omega)
  rw [Int.neg_tmod] at h2
  obtain ⟨Q, hQ⟩ : ∃ Q, spQ q = Q := ⟨_, rfl⟩
  have hQ256 : Q < 256 := by rw [← hQ]; exact spQ_lt q
  have eQ : (q.tmod 256 + 256) % 256 = (Q : Int) := by rw [← hQ]; unfold spQ; omega
  rw [hQ]
  have p1 : 0 ≤ q.tmod 256 + 256 ∧ q.tmod 256 + 256 ≤ 512 := by omega
  clear hQ
  obtain ⟨r, hr⟩ : ∃ r, Q % 4 = r := ⟨_, rfl⟩
  have hr4 : r < 4 := by omega
  have er : (Q : Int) % 4 = (r : Int) := by omega
  rw [hr]
  obtain ⟨p, hp⟩ : ∃ p, Q / 4 = p := ⟨_, rfl⟩
  have hp64 : p < 64 := by omega
  have ep : (Q : Int) / 4 = (p : Int) := by omega
  rw [hp]
  clear hr hp
  obtain ⟨w0, h0⟩ : ∃ w0, w.alloc (.cells #[.slice none 0 0, .slice none 0 0, .slice none 0 0, .int .i64 0, .int .i64 0, .int .i64 0, .int .i64 0, .int .i64 0, .int .i64 0, .int .i64 0, .int .i64 0, .int .i64 0, .int .i64 0, .int .i64 0, .int .i64 0, .int .i64 0, .int .i64 0, .int .i64 0, .int .i64 0, .int .i64 0, .int .i64 0] 63) = w0 := ⟨_, rfl⟩
  have t0 : Spb 63 w0 w.heap.size (fun _ => .slice none 0 0) (fun _ => 0) (fun _ => 0) := by rw [← h0]; exact Spb.new w (fun _ => .slice none 0 0) (fun _ => 0) (fun _ => 0) _
  have hb0 : Below w.heap.size w w0 := by rw [← h0]; exact (Below.refl _ _).alloc (Nat.le_refl _) _
  have T0 := Lib.hid t0
  clear t0
  go_enter Try.func27, Try.ntmps27
  go_wp2_with fail
  clear h0
  refine (refDevice_any w0).mono ?_
  rintro e w1 ⟨vd, rfl, hcd, hb1⟩
  obtain ⟨w2, h2⟩ : ∃ w2, w1.alloc (.cells #[.slice none 0 0, .slice none 0 0, .slice none 0 0, .int .i64 0, .int .i64 0, .int .i64 0, .int .i64 0, .int .i64 0, .int .i64 0, .int .i64 0, .int .i64 0, .int .i64 0, .int .i64 0, .int .i64 0, .int .i64 0, .int .i64 0, .int .i64 0, .int .i64 0, .int .i64 0, .int .i64 0, .int .i64 0] 63) = w2 := ⟨_, rfl⟩
  have TS : Hid (Spb 63 w2 w1.heap.size (fun _ => .slice none 0 0) (fun _ => 0) (fun _ => 0)) := Lib.hid (by rw [← h2]; exact Spb.new w1 (fun _ => .slice none 0 0) (fun _ => 0) (fun _ => 0) _)
  have hb2 : Below w1.heap.size w1 w2 := by rw [← h2]; exact (Below.refl _ _).alloc (Nat.le_refl _) _
  have hone := Lib.hid (sp_one hcd idM idM)
  have l1 : w1.heap.size < w2.heap.size := by rw [← h2]; simp
  have hz36 : Hid ((boxT).all (·.oneCell') = true) := Lib.hid (by simp [boxT, Value.oneCell'])
  have hy36 : Hid ((boxF).all (·.oneCell') = true) := Lib.hid (by simp [boxF, Value.oneCell'])
  go_wp2_with (first
    | (refine list_store (cs := spA vd idM idM) rfl 63 (.tmp 3) (.tmp 11) (by rfl) (by rfl) (by rfl) TS.out info_space rfl hone.out ?_
       intro w3 h3 hx3
       have TS3 : Hid (Spb 63 w3 w1.heap.size vd idM idM) := Lib.hid h3
       have s0 := TS3.out.to 0 (by omega)
       have s1 := TS3.out.to 1 (by omega)
       have s2 := TS3.out.to 2 (by omega)
       have s3 := TS3.out.to 3 (by omega)
       have s4 := TS3.out.to 4 (by omega)
       have s5 := TS3.out.to 5 (by omega)
       have s6 := TS3.out.to 6 (by omega)
       have s7 := TS3.out.to 7 (by omega)
       have s8 := TS3.out.to 8 (by omega)
       simp [idM] at s0 s1 s2 s3 s4 s5 s6 s7 s8
       obtain ⟨wA, hA⟩ : ∃ wA, w3.alloc (.cells #[.int .i64 0, .int .i64 0, .int .i64 0, .int .i64 0, .int .i64 0, .int .i64 0, .int .i64 0, .int .i64 0, .int .i64 0, .int .i64 0, .int .i64 0, .int .i64 0, .int .i64 0, .int .i64 0, .int .i64 0, .int .i64 0, .int .i64 0, .int .i64 0, .int .i64 0, .int .i64 0, .int .i64 0, .int .i64 0, .int .i64 0, .int .i64 0, .int .i64 0, .int .i64 0, .int .i64 0, .int .i64 0, .int .i64 0, .int .i64 0, .int .i64 0, .int .i64 0, .int .i64 0, .int .i64 0, .int .i64 0, .int .i64 0] 90) = wA := ⟨_, rfl⟩
       have BA : Hid (wA.heap[w3.heap.size]? = some (.cells #[.int .i64 0, .int .i64 0, .int .i64 0, .int .i64 0, .int .i64 0, .int .i64 0, .int .i64 0, .int .i64 0, .int .i64 0, .int .i64 0, .int .i64 0, .int .i64 0, .int .i64 0, .int .i64 0, .int .i64 0, .int .i64 0, .int .i64 0, .int .i64 0, .int .i64 0, .int .i64 0, .int .i64 0, .int .i64 0, .int .i64 0, .int .i64 0, .int .i64 0, .int .i64 0, .int .i64 0, .int .i64 0, .int .i64 0, .int .i64 0, .int .i64 0, .int .i64 0, .int .i64 0, .int .i64 0, .int .i64 0, .int .i64 0] 90 (0, 0))) := Lib.hid (by rw [← hA]; exact heap_alloc_new w3 _)
       have TSA : Hid (Spb 63 wA w1.heap.size vd idM idM) := Lib.hid (by rw [← hA]; exact TS3.out.alloc _)
       have XA : Exc w1.heap.size w2 wA := hx3.trans (by rw [← hA]; exact Exc.of_below ((Below.refl _ _).alloc (Nat.le_refl _) _))
       clear h3 h2)
    | (refine list_store (cs := boxT) rfl 90 (.tmp 4) (.tmp 17) (by rfl) (by rfl) (by rfl) BA.out (by kernel_rfl) rfl hz36.out ?_
       intro w4 h4 hx4
       have B1 : Hid (w4.heap[w3.heap.size]? = some (.cells boxT 90 (0, 0))) := Lib.hid h4
       have l3 : w1.heap.size < w3.heap.size := TS3.out.lt
       have TS4 : Hid (Spb 63 w4 w1.heap.size vd idM idM) := Lib.hid ((hx4.2.2 _ TSA.out.lt (by omega)).trans TSA.out)
       clear s0 s1 s2 s3 s4 s5 s6 s7 s8
       have s0 := TS4.out.to 0 (by omega)
       have s1 := TS4.out.to 1 (by omega)
       have s2 := TS4.out.to 2 (by omega)
       have s3 := TS4.out.to 3 (by omega)
       have s4 := TS4.out.to 4 (by omega)
       have s5 := TS4.out.to 5 (by omega)
       have s6 := TS4.out.to 6 (by omega)
       have s7 := TS4.out.to 7 (by omega)
       have s8 := TS4.out.to 8 (by omega)
       simp [idM] at s0 s1 s2 s3 s4 s5 s6 s7 s8
       obtain ⟨wB, hB⟩ : ∃ wB, w4.alloc (.cells #[.int .i64 0, .int .i64 0, .int .i64 0, .int .i64 0, .int .i64 0, .int .i64 0, .int .i64 0, .int .i64 0, .int .i64 0, .int .i64 0, .int .i64 0, .int .i64 0, .int .i64 0, .int .i64 0, .int .i64 0, .int .i64 0, .int .i64 0, .int .i64 0, .int .i64 0, .int .i64 0, .int .i64 0, .int .i64 0, .int .i64 0, .int .i64 0, .int .i64 0, .int .i64 0, .int .i64 0, .int .i64 0, .int .i64 0, .int .i64 0, .int .i64 0, .int .i64 0, .int .i64 0, .int .i64 0, .int .i64 0, .int .i64 0] 90) = wB := ⟨_, rfl⟩
       have BB : Hid (wB.heap[w4.heap.size]? = some (.cells #[.int .i64 0, .int .i64 0, .int .i64 0, .int .i64 0, .int .i64 0, .int .i64 0, .int .i64 0, .int .i64 0, .int .i64 0, .int .i64 0, .int .i64 0, .int .i64 0, .int .i64 0, .int .i64 0, .int .i64 0, .int .i64 0, .int .i64 0, .int .i64 0, .int .i64 0, .int .i64 0, .int .i64 0, .int .i64 0, .int .i64 0, .int .i64 0, .int .i64 0, .int .i64 0, .int .i64 0, .int .i64 0, .int .i64 0, .int .i64 0, .int .i64 0, .int .i64 0, .int .i64 0, .int .i64 0, .int .i64 0, .int .i64 0] 90 (0, 0))) := Lib.hid (by rw [← hB]; exact heap_alloc_new w4 _)
       have l4 : w3.heap.size < w4.heap.size := (Array.getElem?_eq_some_iff.1 h4).1
       have TSB : Hid (Spb 63 wB w1.heap.size vd idM idM) := Lib.hid (by rw [← hB]; exact TS4.out.alloc _)
       have B1B : Hid (wB.heap[w3.heap.size]? = some (.cells boxT 90 (0, 0))) := Lib.hid (by rw [← hB, (((Below.refl w4.heap.size w4).alloc (Nat.le_refl _) _).block _ l4)]; exact h4)
       have XB0 : Below w2.heap.size wA w4 := Exc.below (Below.refl _ _) hx4 hx3.2.1 (by have := XA.2.1; omega)
       have XB : Below w2.heap.size wA wB := XB0.trans (by rw [← hB]; exact (Below.refl _ _).alloc (by have := hx3.2.1; omega) _)
       clear h4 hA hx4 XB0 B1 BA TS4 TSA TS3)
    | (refine list_store (cs := boxF) rfl 90 (.tmp 5) (.tmp 23) (by rfl) (by rfl) (by rfl) BB.out (by kernel_rfl) rfl hy36.out ?_
       intro w5 h5 hx5
       have hx5' : Hid (Exc w4.heap.size wB w5) := Lib.hid hx5
       have B2 : Hid (w5.heap[w4.heap.size]? = some (.cells boxF 90 (0, 0))) := Lib.hid h5
       have TS5 : Hid (Spb 63 w5 w1.heap.size vd idM idM) := Lib.hid ((hx5.2.2 _ TSB.out.lt (by omega)).trans TSB.out)
       have B15 : Hid (w5.heap[w3.heap.size]? = some (.cells boxT 90 (0, 0))) := Lib.hid ((hx5.2.2 _ (Array.getElem?_eq_some_iff.1 B1B.out).1 (by omega)).trans B1B.out)
       clear s0 s1 s2 s3 s4 s5 s6 s7 s8 h5 hB hx5 BB B1B TSB)
    | (refine box_load (t := spT r) (r := r) rfl (.tmp 26) (by rfl) (by rfl) (by omega) B15.out (boxT_at hr4) ?_)
    | (refine part_store (off := 3) (t' := spT r) rfl (.tmp 28) (.tmp 27) (by rfl) (by rfl) (by rfl) TS5.out (by omega) ?_
       intro w6 e6 hx6
       have hx6' : Hid (Exc w1.heap.size w5 w6) := Lib.hid hx6
       have TS6 : Hid (Spb 63 w6 w1.heap.size vd (spT r) idM) := Lib.hid (by rw [e6]; exact TS5.out.setTo (spT r))
       have B26 : Hid (w6.heap[w4.heap.size]? = some (.cells boxF 90 (0, 0))) := Lib.hid ((hx6.2.2 _ (Array.getElem?_eq_some_iff.1 B2.out).1 (by omega)).trans B2.out)
       clear e6 hx6)
    | (refine box_load (t := spF r) (r := r) rfl (.tmp 31) (by rfl) (by rfl) (by omega) B26.out (boxF_at hr4) ?_)
    | (refine part_store (off := 12) (t' := spF r) rfl (.tmp 33) (.tmp 32) (by rfl) (by rfl) (by rfl) TS6.out (by omega) ?_
       intro w7 e7 hx7
       have hx7' : Hid (Exc w1.heap.size w6 w7) := Lib.hid hx7
       have TS7 : Hid (Spb 63 w7 w1.heap.size vd (spT r) (spF r)) := Lib.hid (by rw [e7]; exact TS6.out.setFr (spF r))
       clear e7 hx7))
  have hq17 : Below w1.heap.size w1 w7 := by
    have a1 : Below w1.heap.size w1 wA := Exc.below hb2 XA (Nat.le_refl _) hb2.size
    have a2 : Below w1.heap.size w1 wB := a1.trans (XB.mono (Nat.le_of_lt l1))
    have a3 : Below w1.heap.size w1 w5 := Exc.below a2 hx5'.out (by omega) a2.size
    have a4 : Below w1.heap.size w1 w6 := Exc.below a3 hx6'.out (Nat.le_refl _) a3.size
    exact Exc.below a4 hx7'.out (Nat.le_refl _) a4.size
  have HQ := Lib.hid hq17
  have e4 : ∀ k : Nat, k < 3 → ((((p : Int) / 2 ^ (2 * k)) % 4).toNat = p / 4 ^ k % 4) := fun k hk => by
    obtain rfl | rfl | rfl : k = 0 ∨ k = 1 ∨ k = 2 := by omega
    all_goals simp <;> omega
  have E4 := Lib.hid e4
  have l7 := TS7.out.lt
  have H01 := Lib.hid hb1
  have HB := Lib.hid (hb0.trans (hb1.mono hb0.size))
  have hz1 := hb1.size
  clear hq17 e4 hcd hb1 hb2 hone hz36 hy36 hx3 XA XB hx5' hx6' hx7' B2 TS5 B15 TS6 B26 TS hb0
  go_loopw [6] (fun i wr => ∃ (k : Nat) (vs : Nat → Value), k ≤ 3 ∧ i = .int .i64 k ∧ Spb 63 wr w1.heap.size vs (spT r) (spF r) ∧ (∀ j, j < k → SlA w1.heap.size wr (vs j) (cvN (p / 4 ^ j % 4)) (cvF (p / 4 ^ j % 4))) ∧ Below w1.heap.size w1 wr) (fun i _ => 3 - (intOf i).toNat)
  case atStart => exact ⟨0, vd, by omega, rfl, TS7.out, fun j hj => by omega, HQ.out⟩
  case round =>
    obtain ⟨k, vs, hk, rfl, ts, hsl, hb⟩ := hrel
    have TSr := Lib.hid ts
    have HSL := Lib.hid hsl
    have HBr := Lib.hid hb
    clear ts hsl hb
    by_cases hlt : k < 3
    · have ek := E4.out k hlt
      have hpp : (0 : Int) ≤ (p : Int) := by omega
      go_wp2_with fail
      refine (refCurve_any (q := ((p : Int) / 2 ^ (2 * k)))).mono ?_
      rintro e w'' ⟨v, rfl, hv, hbv⟩
      rw [ek] at hv
      have hlw : w1.heap.size < wr.heap.size := TSr.out.lt
      obtain ⟨av, cv, ev⟩ := (hv 0 (by omega)).sl.shape
      have TSv : Hid (Spb 63 w'' w1.heap.size vs (spT r) (spF r)) := Lib.hid (TSr.out.on hbv)
      have HV : Hid (SlA w1.heap.size w'' v (cvN (p / 4 ^ k % 4)) (cvF (p / 4 ^ k % 4))) := Lib.hid (hv _ hlw)
      have HSL' : Hid (∀ j, j < k → SlA w1.heap.size w'' (vs j) (cvN (p / 4 ^ j % 4)) (cvF (p / 4 ^ j % 4))) := Lib.hid fun j hj => (HSL.out j hj).on hbv
      have HBv : Hid (Below w1.heap.size w1 w'') := Lib.hid (HBr.out.trans (hbv.mono HBr.out.size))
      have ck := TSv.out.curve k hlt
      have fk := TSv.out.free k
      have i1 : 0 ≤ (k : Int) ∧ (k : Int) < 3 := by omega
      have EV := Lib.hid ev
      clear ek HSL hv hbv
      subst ev
      go_wp2
      refine ⟨⟨k + 1, fun j => if j = k then _ else vs j, by omega, rfl, TSv.out.setCv hlt _, fun j hj => ?_, HBv.out.setCell (Nat.le_refl _) _⟩, by simp [intOf]; omega⟩
      by_cases e : j = k
      · subst e
        simp only [if_true]
        exact HV.out.exc ((Exc.refl _ _).set _) (Nat.le_refl _)
      · simp only [e, if_false]
        exact (HSL'.out j (by omega)).exc ((Exc.refl _ _).set _) (Nat.le_refl _)
    · have ek : k = 3 := by omega
      subst ek
      have HL : Hid ((loadVar 63 ⟨w1.heap.size, 0, none⟩).run Try.prog wr = .ok (.agg (spA vs (spT r) (spF r))) wr) := Lib.hid (Sp.load0 (s := ⟨vs, fun _ => 0, fun _ _ => 0, spT r, spF r⟩) TSr.out)
      have TR : Hid (Spb 63 wr w.heap.size (fun _ => .slice none 0 0) (fun _ => 0) (fun _ => 0)) := Lib.hid (T0.out.below (H01.out.trans (HBr.out.mono hz1)) T0.out.lt)
      have hone := Lib.hid (sp_one (n := fun i => cvN (p / 4 ^ i % 4)) (f := fun i => cvF (p / 4 ^ i % 4)) (fun i hi => ⟨cvN_le _, (HSL.out i hi).sl⟩) (spT r) (spF r))
      go_wp2_with (first
        | (refine list_load rfl 63 (.tmp 3) (by rfl) (by rfl) HL.out ?_)
        | (refine list_store (cs := spA vs (spT r) (spF r)) rfl 63 (.tmp 2) (.tmp 47) (by rfl) (by rfl) (by rfl) TR.out info_space rfl hone.out ?_
           intro wf hf hxf
           have hf' := Lib.hid hf
           clear hf))
      refine bodyPost_ret (v := spc vs (spT r) (spF r)) (results_cell_row rfl _ _ w.heap.size _ _ _ _ rfl hf'.out Try.underlying63 rfl info_space) rfl ?_
      have hq := HB.out.trans (HBr.out.mono HB.out.size)
      have hbs : Below w.heap.size w wf := Exc.below hq hxf (Nat.le_refl _) hq.size
      refine ⟨vs, rfl, fun i hi => ⟨cvN_le _, ((HSL.out i hi).exc hxf HB.out.size).sl⟩, hbs⟩

end Go.Proofs.Ytmilljlkcbljpaa
