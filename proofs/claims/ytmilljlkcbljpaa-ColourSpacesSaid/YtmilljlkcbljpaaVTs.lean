/- Texts of this proof, one behind another: Ra Sx Au Ts. -/
import Derived.Test.YtmilljlkcbljpaaV9
import Derived.Laws.IdiomArrays
/- raw: a space whose curves are cut. -/
namespace Go.Proofs.Ytmilljlkcbljpaa
open Go.RowKit Go.Sort

theorem Sl.cut {w : World} {B n m cap : Nat} {a : Option Addr} {f : Nat → Int} (h : Sl w B (.slice a n cap) n f) (hm : m ≤ n) : Sl w B (.slice a m cap) m f := by
  rcases h with ⟨rfl, a', cap', h, h'⟩ | ⟨b, off, cap', h1, h2, h3⟩
  · cases h
    obtain rfl : m = 0 := by omega
    exact .inl ⟨rfl, _, _, rfl, h'⟩
  · cases h1
    by_cases e : m = 0
    · subst e
      exact .inl ⟨rfl, _, _, rfl, fun h => by cases h⟩
    · exact .inr ⟨b, off, cap, rfl, ⟨h2.1, by omega⟩, fun k hk => h3 k (by omega)⟩
theorem Sl.cap {w : World} {B n cap : Nat} {a : Option Addr} {f : Nat → Int} (h : Sl w B (.slice a n cap) n f) : n ≤ cap := by
  rcases h with ⟨rfl, a', cap', h, h'⟩ | ⟨b, off, cap', h1, h2, h3⟩
  · omega
  · cases h1; exact h2.2
theorem min_nat (n k : Nat) (ts : Array TypeId) (t : TypeId) (w : World) : (Builtin.min_ ts t #[.int .i64 (n : Int), .int .i64 (k : Int)]).run Try.prog w = .ok (.int .i64 ((min n k : Nat) : Int)) w := by
  rw [run_min_int2]; congr 2; split <;> omega

theorem raw_new (s : Sp) (w : World) : ∃ w0, (w.alloc (.cells s.cells 63)).alloc (.cells #[.slice none 0 0, .slice none 0 0, .slice none 0 0, .int .i64 0, .int .i64 0, .int .i64 0, .int .i64 0, .int .i64 0, .int .i64 0, .int .i64 0, .int .i64 0, .int .i64 0, .int .i64 0, .int .i64 0, .int .i64 0, .int .i64 0, .int .i64 0, .int .i64 0, .int .i64 0, .int .i64 0, .int .i64 0] 63) = w0 ∧
    Below w.heap.size w w0 ∧ Spb 63 w0 w.heap.size s.v s.t s.m ∧ Spb 63 w0 (w.heap.size + 1) (fun _ => .slice none 0 0) (fun _ => 0) (fun _ => 0) := by
  refine ⟨_, rfl, ((Below.refl _ w).alloc (Nat.le_refl _) _).alloc (by simp) _, (Spb.new w s.v s.t s.m _).alloc _, ?_⟩
  have h := Spb.new (w.alloc (.cells s.cells 63)) (fun _ => .slice none 0 0) (fun _ => 0) (fun _ => 0) 63
  rw [World.size_alloc] at h
  exact h
theorem Spb.keep {ty : TypeId} {w : World} {b b' j : Nat} {v : Nat → Value} {t m : Nat → Int} {x : Value} (h : Spb ty w b v t m) (hb : b ≠ b') : Spb ty (w.setCell ⟨b', j, none⟩ x) b v t m := (Below.heap_setCell w ⟨b', j, none⟩ x b hb).trans h

set_option maxRecDepth 100000 in
set_option maxHeartbeats 4000000 in
theorem raw_any {s : Sp} {w : World} (hs : s.ok w w.heap.size) :
    Calls Try.prog 26 #[.agg s.cells] w fun e w' => ∃ s' : Sp, e = .returned (.agg s'.cells) ∧ s'.ok w' w.heap.size ∧ Below w.heap.size w w' := by
  obtain ⟨w0, h0, hb0, t1, t2⟩ := raw_new s w
  have T1 := Lib.hid t1
  have T2 := Lib.hid t2
  have HC0 : Hid (Crv w0 w.heap.size s.v s.n s.f) := Lib.hid (Crv.below hs hb0 (Nat.le_refl _))
  clear t1 t2 hs
  go_enter Try.func26, Try.ntmps26
  go_wp2
  clear h0
  go_loopw [3] (fun i wr => ∃ (k : Nat) (v : Nat → Value) (n : Nat → Nat) (f : Nat → Nat → Int), k ≤ 3 ∧ i = .int .i64 k ∧ Spb 63 wr w.heap.size v s.t s.m ∧ Crv wr w.heap.size v n f ∧ Spb 63 wr (w.heap.size + 1) (fun _ => .slice none 0 0) (fun _ => 0) (fun _ => 0) ∧ Below w.heap.size w wr) (fun i _ => 3 - (intOf i).toNat)
  case atStart => exact ⟨0, s.v, s.n, s.f, by omega, rfl, T1.out, HC0.out, T2.out, hb0⟩
  case round =>
    obtain ⟨k, v, n, f, hk, rfl, t1, hc, t2, hq⟩ := hrel
    by_cases hlt : k < 3
    · obtain ⟨a, cap, hv⟩ := (hc k hlt).2.shape
      have hsl := (hc k hlt).2
      have hn := (hc k hlt).1
      have c1 := cell_regrown (t1.curve k hlt)
      rw [hv] at hsl c1
      obtain ⟨N, hN⟩ : ∃ N, n k = N := ⟨_, rfl⟩
      rw [hN] at hsl hn c1
      obtain ⟨M, hM⟩ : ∃ M, min N 6 = M := ⟨_, rfl⟩
      have q0 : ∀ (ts : Array TypeId) (t : TypeId) (w : World), (Builtin.min_ ts t #[.int .i64 (N : Int), .int .i64 6]).run Try.prog w = .ok (.int .i64 ((min N 6 : Nat) : Int)) w := fun ts t w => min_nat N 6 ts t w
      rw [hM] at q0
      have hcap := hsl.cap
      have hM1 : M ≤ N ∧ M ≤ 6 := by omega
      have i0 : (M : Int) ≤ cap := by omega
      have i1 : 0 ≤ (k : Int) ∧ (k : Int) < 3 := by omega
      have P1 := Lib.hid t1
      have P2 := Lib.hid t2
      have HC := Lib.hid hc
      have HSL := Lib.hid (hsl.cut (m := M) hM1.1)
      clear hsl hc t1 t2 hv hN hM
      go_wp2
      refine region_below_tail 14 (by kernel_rfl) (by kernel_rfl) ?_
      simp only [List.take_succ_cons, List.take_zero, List.drop_succ_cons, List.drop_zero]
      repeat (go_big_quiet_step (fail))
      refine wpQuiet_nil ?_
      intro w2 hw2
      replace hw2 := below_of_regrown hw2
      have u1 := P1.out.on hw2
      have y0 := u1.free k
      have cv' := u1.curve k hlt
      have U1 := Lib.hid (u1.setCv hlt (.slice a M cap))
      have U2 := Lib.hid ((P2.out.on hw2).keep (b' := w.heap.size) (j := k) (x := .slice a M cap) (by omega))
      have hq2 := hq.trans (hw2.mono hq.size)
      have hq3 := hq2.setCell (p := ⟨w.heap.size, k, none⟩) (Nat.le_refl _) (.slice a M cap)
      have hr3 := Lib.hid ((hw2.mono hq.size).setCell (p := ⟨w.heap.size, k, none⟩) (Nat.le_refl _) (.slice a M cap))
      have HN : Hid (Crv (w2.setCell ⟨w.heap.size, k, none⟩ (.slice a M cap)) w.heap.size (fun i => if i = k then .slice a M cap else v i) (fun i => if i = k then M else n i) f) := Lib.hid (fun i hi => by
        by_cases e : i = k
        · subst e
          simp only [if_true]
          exact ⟨by omega, HSL.out.below hr3.out (Nat.le_refl _)⟩
        · simp only [if_neg e]
          exact Crv.below HC.out hr3.out (Nat.le_refl _) i hi)
      clear u1 hw2 c1 q0
      go_wp2
      go_roundw
      case rel => exact ⟨k + 1, _, _, f, by omega, by go_num, U1.out, HN.out, U2.out, hq3⟩
      case measure => simp [intOf]; omega
    · obtain rfl : k = 3 := by omega
      have P1 := Lib.hid t1
      have P2 := Lib.hid t2
      have HC := Lib.hid hc
      obtain ⟨s', hs'⟩ : ∃ s' : Sp, s' = ⟨v, n, f, s.t, s.m⟩ := ⟨_, rfl⟩
      have hl : (loadVar 63 ⟨w.heap.size, 0, none⟩).run Try.prog wr = .ok (.agg s'.cells) wr := by rw [hs']; exact Sp.load0 t1
      have HL := Lib.hid hl
      have HS' := Lib.hid hs'
      have hone : Hid (s'.cells.all (·.oneCell') = true) := Lib.hid (by rw [hs']; exact sp_one hc s.t s.m)
      clear t1 t2 hc hl hs'
      go_wp2_with (first
        | (refine list_load rfl 63 (.tmp 1) (by rfl) (by rfl) HL.out ?_)
        | (refine list_store (cs := s'.cells) rfl 63 (.tmp 2) (.tmp 22) (by rfl) (by rfl) (by rfl) P2.out info_space rfl hone.out ?_; intro W4 h4 hx; have h4' := Lib.hid h4; clear h4))
      refine bodyPost_ret (v := .agg s'.cells) (results_cell_row rfl _ _ (w.heap.size + 1) _ _ _ _ rfl h4'.out Try.underlying63 rfl info_space) rfl ?_
      have hb4 := Exc.below hq hx (by omega) hq.size
      exact ⟨s', rfl, by rw [HS'.out]; exact Crv.below HC.out (Exc.below (Below.refl w.heap.size wr) hx (by omega) hq.size) (Nat.le_refl _), hb4⟩

end Go.Proofs.Ytmilljlkcbljpaa

/- Spaces as values: the contracts of Valid, To, From; arrays of three spaces. -/
namespace Go.Proofs.Ytmilljlkcbljpaa
open Go.RowKit Go.Sort

theorem Sp.valid_any {s : Sp} {w : World} (hs : s.ok w w.heap.size) :
    Calls Try.prog 28 #[.agg s.cells] w fun e w' => e = .returned (.bool s.val) ∧ Below w.heap.size w w' :=
  space_any (v := s.v) (t := s.t) (m := s.m) (Nat.le_refl _) hs
noncomputable def Sp.ToV (s : Sp) (c : Nat → Int) : Nat → Int := Go.Proofs.Ytmilljlkcbljpaa.ToV s.n s.f s.t s.m c
noncomputable def Sp.FromV (s : Sp) (c : Nat → Int) : Nat → Int := Go.Proofs.Ytmilljlkcbljpaa.FromV s.n s.f s.t s.m c
theorem Sp.To_any {s : Sp} {c : Nat → Int} {w : World} (hs : s.ok w w.heap.size) :
    Calls Try.prog 30 #[.agg s.cells, col c] w fun e w' => e = .returned (col (s.ToV c)) ∧ Below w.heap.size w w' :=
  Go.Proofs.Ytmilljlkcbljpaa.To_any (v := s.v) (t := s.t) (m := s.m) (Nat.le_refl _) hs
theorem Sp.From_any {s : Sp} {c : Nat → Int} {w : World} (hs : s.ok w w.heap.size) :
    Calls Try.prog 32 #[.agg s.cells, col c] w fun e w' => e = .returned (col (s.FromV c)) ∧ Below w.heap.size w w' :=
  Go.Proofs.Ytmilljlkcbljpaa.From_any (v := s.v) (t := s.t) (m := s.m) (Nat.le_refl _) hs
theorem Sp.RefTo_any {s : Sp} {c : Nat → Int} {w : World} (hs : s.ok w w.heap.size) :
    Calls Try.prog 31 #[.agg s.cells, col c] w fun e w' => e = .returned (col (s.ToV c)) ∧ Below w.heap.size w w' :=
  refTo6_any (v := s.v) (t := s.t) (m := s.m) (Nat.le_refl _) hs
theorem Sp.RefFrom_any {s : Sp} {c : Nat → Int} {w : World} (hs : s.ok w w.heap.size) :
    Calls Try.prog 33 #[.agg s.cells, col c] w fun e w' => e = .returned (col (s.FromV c)) ∧ Below w.heap.size w w' :=
  refFrom6_any (v := s.v) (t := s.t) (m := s.m) (Nat.le_refl _) hs
theorem Sp.RefValid_any {s : Sp} {w : World} (hs : s.ok w w.heap.size) :
    Calls Try.prog 29 #[.agg s.cells] w fun e w' => e = .returned (.bool s.val) ∧ Below w.heap.size w w' :=
  Sp.refValid (Nat.le_refl _) hs
theorem Sp.ok.on {s : Sp} {w w' : World} (h : s.ok w w.heap.size) (hb : Below w.heap.size w w') : s.ok w' w'.heap.size := Crv.mono (Crv.below h hb (Nat.le_refl _)) hb.size
theorem Sp.ok.one {s : Sp} {w : World} {B : Nat} (h : s.ok w B) : s.cells.all (·.oneCell') = true := sp_one h s.t s.m

/-- A space of the reference. -/
theorem refSpace_sp {q : Int} {w : World} :
    Calls Try.prog 27 #[.int .i64 q] w fun e w' => ∃ s : Sp, e = .returned (.agg s.cells) ∧ s.ok w' w'.heap.size ∧ s.val = true ∧ Below w.heap.size w w' :=
  (refSpace_any (q := q) (w := w)).mono fun e w' ⟨v, he, hc, hb, _⟩ => ⟨⟨v, fun i => cvN (spQ q / 4 / 4 ^ i % 4), fun i => cvF (spQ q / 4 / 4 ^ i % 4), spT (spQ q % 4), spF (spQ q % 4)⟩, he, hc, spB_t (sp_val (by omega) (fun i => by omega)), hb⟩

/-- A box of a space. -/
def Sbx (w : World) (b : Nat) (s : Sp) : Prop := w.heap[b]? = some (.cells s.cells 63 (0, 0))
theorem Sbx.on {w w' : World} {b : Nat} {s : Sp} (h : Sbx w b s) (hb : Below w.heap.size w w') : Sbx w' b s := (hb.block b (Array.getElem?_eq_some_iff.1 h).1).trans h
theorem Sbx.lt {w : World} {b : Nat} {s : Sp} (h : Sbx w b s) : b < w.heap.size := (Array.getElem?_eq_some_iff.1 h).1
theorem Sbx.load {w : World} {b : Nat} {s : Sp} (h : Sbx w b s) : (loadVar 63 ⟨b, 0, none⟩).run Try.prog w = .ok (.agg s.cells) w := Sp.load0 (s := s) h
theorem Sbx.new (s : Sp) (w : World) : Sbx (w.alloc (.cells s.cells 63)) w.heap.size s := heap_alloc_new w _
/-- An empty box of a space. -/
def Sbz (w : World) (b : Nat) : Prop := w.heap[b]? = some (.cells (spA (fun _ => .slice none 0 0) (fun _ => 0) (fun _ => 0)) 63 (0, 0))
theorem sbz_new (w : World) : ∃ w0, w.alloc (.cells #[.slice none 0 0, .slice none 0 0, .slice none 0 0, .int .i64 0, .int .i64 0, .int .i64 0, .int .i64 0, .int .i64 0, .int .i64 0, .int .i64 0, .int .i64 0, .int .i64 0, .int .i64 0, .int .i64 0, .int .i64 0, .int .i64 0, .int .i64 0, .int .i64 0, .int .i64 0, .int .i64 0, .int .i64 0] 63) = w0 ∧ Below w.heap.size w w0 ∧ Sbz w0 w.heap.size :=
  ⟨_, rfl, (Below.refl _ _).alloc (Nat.le_refl _) _, heap_alloc_new w _⟩

/-- One entry of the second matrix, changed. -/
def Sp.setM (s : Sp) (k : Nat) (x : Int) : Sp := { s with m := fun i => if i = k then x else s.m i }
theorem Sbx.setM {w : World} {b k : Nat} {s : Sp} (h : Sbx w b s) (hk : k < 9) (x : Int) : Sbx (w.setCell ⟨b, 12 + k, none⟩ (.int .i64 x)) b (s.setM k x) := by
  unfold Sbx
  rw [heap_setCell_same w b _ _ _ _ h]
  obtain rfl | rfl | rfl | rfl | rfl | rfl | rfl | rfl | rfl : k = 0 ∨ k = 1 ∨ k = 2 ∨ k = 3 ∨ k = 4 ∨ k = 5 ∨ k = 6 ∨ k = 7 ∨ k = 8 := by omega
  all_goals rfl
theorem Sbx.m {w : World} {b : Nat} {s : Sp} (h : Sbx w b s) (k : Nat) (hk : k < 9) : w.cell? ⟨b, 12 + k, none⟩ = some (.int .i64 (s.m k)) := Spb.fr (v := s.v) (t := s.t) (m := s.m) h k hk
theorem Sbx.free {w : World} {b : Nat} {s : Sp} (h : Sbx w b s) (j : Nat) : w.frozen? ⟨b, j, none⟩ = false := frozen_of_row w b j _ _ h
theorem Sp.ent {s : Sp} (h : s.val = true) (k : Nat) (hk : k < 9) : -65536 ≤ s.m k ∧ s.m k ≤ 65536 := (Sp.spv h).2.2.1 k hk

set_option maxRecDepth 100000 in
theorem build_spaces (A B C : Sp) (w : World) : (Instr.build 66 #[(0, .agg A.cells), (1, .agg B.cells), (2, .agg C.cells)]).run Try.prog w = .ok (.agg (A.cells ++ B.cells ++ C.cells)) w := by kernel_rfl
theorem list_build {ops : Array Oper} {rest : List Oper} {o : Oper} {a : Act} {w : World} {Q : Exit → Act → World → Prop} {A B C : Sp} {D : Array Value} (hD : A.cells ++ B.cells ++ C.cells = D) (hgd : o.guard = none) (x y z : Operand) (ho : o.op = .build 66 #[(0, x), (1, y), (2, z)])
    (hx : a.eval x = .agg A.cells) (hy : a.eval y = .agg B.cells) (hz : a.eval z = .agg C.cells) (h : wpList Try.prog ops Q rest (a.put o.dst (.agg D)) w) : wpList Try.prog ops Q (o :: rest) a w :=
  wpList_plain hgd fun _ hK => by
    unfold Oper.wp execOp
    have h1 := build_spaces A B C w
    rw [hD] at h1
    simp [ho, hx, hy, hz, h1, Result.andThen]
    exact hK _ _ h

/-- A box of three spaces. -/
def spcs (S : Nat → Sp) : Array Value := (S 0).cells ++ (S 1).cells ++ (S 2).cells
theorem spcs_one {S : Nat → Sp} {w : World} {B : Nat} (h : ∀ k, k < 3 → (S k).ok w B) : (spcs S).all (·.oneCell') = true := by
  unfold spcs
  rw [Array.all_append, Array.all_append, (h 0 (by omega)).one, (h 1 (by omega)).one, (h 2 (by omega)).one]
  rfl
theorem spcs_at {S : Nat → Sp} {k : Nat} (hk : k < 3) (j : Nat) (x : Value) (h : (S k).cells[j]? = some x) : (spcs S)[k * 21 + j]? = some x := by
  have hj : j < 21 := (Array.getElem?_eq_some_iff.1 h).1
  have s0 : (S 0).cells.size = 21 := rfl
  have s1 : (S 1).cells.size = 21 := rfl
  unfold spcs
  obtain rfl | rfl | rfl : k = 0 ∨ k = 1 ∨ k = 2 := by omega
  · rw [Array.getElem?_append_left (by simp [s0, s1] <;> omega), Array.getElem?_append_left (by omega), show 0 * 21 + j = j by omega]; exact h
  · rw [Array.getElem?_append_left (by simp [s0, s1] <;> omega), Array.getElem?_append_right (by omega), s0, show 1 * 21 + j - 21 = j by omega]; exact h
  · rw [Array.getElem?_append_right (by simp [s0, s1] <;> omega)]
    have : 2 * 21 + j - ((S 0).cells ++ (S 1).cells).size = j := by simp [s0, s1] <;> omega
    rw [this]; exact h
def Sbs (w : World) (b : Nat) (S : Nat → Sp) : Prop := w.heap[b]? = some (.cells (spcs S) 66 (0, 0))
theorem Sbs.on {w w' : World} {b : Nat} {S : Nat → Sp} (h : Sbs w b S) (hb : Below w.heap.size w w') : Sbs w' b S := (hb.block b (Array.getElem?_eq_some_iff.1 h).1).trans h
theorem Sbs.load {w : World} {b : Nat} {S : Nat → Sp} (h : Sbs w b S) {k : Nat} (hk : k < 3) : (loadVar 63 ⟨b, k * 21, none⟩).run Try.prog w = .ok (.agg (S k).cells) w :=
  Sp.load (s := S k) fun j x hx => by rw [cell_of_row w b _ _ _ _ h]; exact spcs_at hk j x hx

theorem three_sp (A B C : Sp) : ∃ S : Nat → Sp, S 0 = A ∧ S 1 = B ∧ S 2 = C := ⟨fun k => if k = 0 then A else if k = 1 then B else C, rfl, rfl, rfl⟩
theorem spcs_size (S : Nat → Sp) : (spcs S).size = 63 := by
  have s0 : (S 0).cells.size = 21 := rfl
  have s1 : (S 1).cells.size = 21 := rfl
  have s2 : (S 2).cells.size = 21 := rfl
  simp [spcs, s0, s1, s2]
theorem info_spaces : (Try.prog.info? 66).map (·.size) = some 63 := by kernel_rfl

end Go.Proofs.Ytmilljlkcbljpaa

/- Arguments that came in: a space. -/
namespace Go.Proofs.Ytmilljlkcbljpaa
open Go.ChangeShapes Go.WideShapes Go.ChangeAt Go.RowKit

theorem list9 {α : Type} (l : List α) (h : l.length = 9) : ∃ a b c d e f g i j, l = [a, b, c, d, e, f, g, i, j] := by
  match l, h with
  | [a, b, c, d, e, f, g, i, j], _ => exact ⟨a, b, c, d, e, f, g, i, j, rfl⟩
theorem list21 {α : Type} (l : List α) (h : (⟨l⟩ : Array α).size = 21) : ∃ x0 x1 x2 t m, l = x0 :: x1 :: x2 :: (t ++ m) ∧ t.length = 9 ∧ m.length = 9 := by
  match l, h with
  | [a, b, c, d, e, f, g, i, j, k, l, m, n, o, p, q, r, s, t, u, v], _ => exact ⟨a, b, c, [d, e, f, g, i, j, k, l, m], [n, o, p, q, r, s, t, u, v], rfl, rfl, rfl⟩

set_option maxRecDepth 100000 in
theorem mat_of_trod {H : Type} {enc : TypeId × Value → H} {W : World} {fuel : Nat} {l : List Value} {x : DataW H × List MemPlace} (h9 : l.length = 9) (hf : DataW.trod enc Try.prog W 0 (fun _ => true) true fuel 61 l = some x) :
    ∃ t : Nat → Int, l = [.int .i64 (t 0), .int .i64 (t 1), .int .i64 (t 2), .int .i64 (t 3), .int .i64 (t 4), .int .i64 (t 5), .int .i64 (t 6), .int .i64 (t 7), .int .i64 (t 8)] := by
  have hce : Try.prog.cellsOf 3 = 1 := by kernel_rfl
  obtain ⟨xs, m, rfl, _, _, hxs, hel⟩ := DataW.trod_array Try.underlying61 hf
  rw [hce] at hel
  have key : ∀ j, j < 9 → ∃ a : Int, l[j]? = some (.int .i64 a) := fun j hj => by
    have h0 := hel j hj
    obtain ⟨y, hy⟩ : ∃ y, xs[j]? = some y := ⟨_, List.getElem?_eq_getElem (by omega)⟩
    rw [hy] at h0
    obtain ⟨u, hu⟩ : ∃ u, l[j]? = some u := ⟨_, List.getElem?_eq_getElem (by omega)⟩
    have e : (l.drop (j * 1)).take 1 = [u] := by
      rw [Nat.mul_one, List.take_one, List.head?_drop, hu]; rfl
    rw [e] at h0
    obtain ⟨a, h1, _⟩ := int_of_trod h0
    exact ⟨a, by rw [hu, h1]⟩
  obtain ⟨a, b, c, d, e, f, g, i, j, rfl⟩ := list9 l h9
  obtain ⟨a0, h0⟩ := key 0 (by omega)
  obtain ⟨a1, h1⟩ := key 1 (by omega)
  obtain ⟨a2, h2⟩ := key 2 (by omega)
  obtain ⟨a3, h3⟩ := key 3 (by omega)
  obtain ⟨a4, h4⟩ := key 4 (by omega)
  obtain ⟨a5, h5⟩ := key 5 (by omega)
  obtain ⟨a6, h6⟩ := key 6 (by omega)
  obtain ⟨a7, h7⟩ := key 7 (by omega)
  obtain ⟨a8, h8⟩ := key 8 (by omega)
  simp at h0 h1 h2 h3 h4 h5 h6 h7 h8
  subst h0 h1 h2 h3 h4 h5 h6 h7 h8
  exact ⟨fun k => if k = 0 then a0 else if k = 1 then a1 else if k = 2 then a2 else if k = 3 then a3 else if k = 4 then a4 else if k = 5 then a5 else if k = 6 then a6 else if k = 7 then a7 else a8, rfl⟩

set_option maxRecDepth 100000 in
theorem open_space {H : Type} {enc : TypeId × Value → H} {W : World} {r : Reach} {base : Nat} {v : Value} {d : DataW H} {p : List MemPlace}
    (hv : Value.okWide Try.prog W r base 63 v) (h : DataW.Trod enc Try.prog W 0 (fun _ => true) true 63 v d p) : ∃ s : Sp, v = .agg s.cells ∧ s.ok W W.heap.size := by
  have c63 : Try.prog.cellsOf 63 = 21 := by kernel_rfl
  have c60 : Try.prog.cellsOf 60 = 3 := by kernel_rfl
  have c61 : Try.prog.cellsOf 61 = 9 := by kernel_rfl
  have c59 : Try.prog.cellsOf 59 = 1 := by kernel_rfl
  obtain ⟨cs, rfl, hsz, _⟩ : ∃ cs, v = .agg cs ∧ cs.size = Try.prog.cellsOf 63 ∧ Row.okWide Try.prog W r base 63 cs := by
    simpa [Value.okWide, Try.underlying63] using hv
  rw [c63] at hsz
  obtain ⟨l⟩ := cs
  obtain ⟨x0, x1, x2, tl, ml, rfl, ht, hm⟩ := list21 l hsz
  obtain ⟨fuel, hf⟩ := h
  obtain ⟨xs, n, _, _, hl, hlen, hfl⟩ := DataW.trod_struct Try.underlying63 hf
  have hlen3 : xs.length = 3 := hlen
  have hc := hfl 0 _ rfl
  have hd := hfl 1 _ rfl
  have he := hfl 2 _ rfl
  obtain ⟨y0, hy0⟩ : ∃ y, xs[0]? = some y := ⟨_, List.getElem?_eq_getElem (by omega)⟩
  obtain ⟨y1, hy1⟩ : ∃ y, xs[1]? = some y := ⟨_, List.getElem?_eq_getElem (by omega)⟩
  obtain ⟨y2, hy2⟩ : ∃ y, xs[2]? = some y := ⟨_, List.getElem?_eq_getElem (by omega)⟩
  rw [hy0] at hc
  rw [hy1] at hd
  rw [hy2] at he
  have hc' : DataW.trod enc Try.prog W 0 (fun _ => true) true n 60 [x0, x1, x2] = some y0 := by
    have h0 : DataW.trod enc Try.prog W 0 (fun _ => true) true n 60 (List.take (Try.prog.cellsOf 60) (List.drop 0 (x0 :: x1 :: x2 :: (tl ++ ml)))) = some y0 := hc
    rw [c60] at h0
    exact h0
  have hd' : DataW.trod enc Try.prog W 0 (fun _ => true) true n 61 tl = some y1 := by
    have e : List.take 9 (List.drop 3 (x0 :: x1 :: x2 :: (tl ++ ml))) = tl := by
      show List.take 9 (tl ++ ml) = tl
      rw [List.take_append_of_le_length (by omega), List.take_of_length_le (by omega)]
    have h0 : DataW.trod enc Try.prog W 0 (fun _ => true) true n 61 (List.take (Try.prog.cellsOf 61) (List.drop 3 (x0 :: x1 :: x2 :: (tl ++ ml)))) = some y1 := hd
    rw [c61] at h0
    rw [← e]
    exact h0
  have he' : DataW.trod enc Try.prog W 0 (fun _ => true) true n 61 ml = some y2 := by
    have e : List.take 9 (List.drop 12 (x0 :: x1 :: x2 :: (tl ++ ml))) = ml := by
      show List.take 9 (List.drop 9 (tl ++ ml)) = ml
      rw [List.drop_append_of_le_length (by omega), List.drop_of_length_le (by omega), List.nil_append, List.take_of_length_le (by omega)]
    have h0 : DataW.trod enc Try.prog W 0 (fun _ => true) true n 61 (List.take (Try.prog.cellsOf 61) (List.drop 12 (x0 :: x1 :: x2 :: (tl ++ ml)))) = some y2 := he
    rw [c61] at h0
    rw [← e]
    exact h0
  obtain ⟨t, rfl⟩ := mat_of_trod ht hd'
  obtain ⟨m, rfl⟩ := mat_of_trod hm he'
  obtain ⟨z0, z1, z2, n', _, g0, g1, g2⟩ := trod_array3 Try.underlying60 c59 hc'
  obtain ⟨n0, f0, hn0, hs0⟩ := sl_of_trod Try.underlying59 g0
  obtain ⟨n1, f1, hn1, hs1⟩ := sl_of_trod Try.underlying59 g1
  obtain ⟨n2, f2, hn2, hs2⟩ := sl_of_trod Try.underlying59 g2
  refine ⟨⟨fun i => if i = 0 then x0 else if i = 1 then x1 else x2, fun i => if i = 0 then n0 else if i = 1 then n1 else n2, fun i => if i = 0 then f0 else if i = 1 then f1 else f2, t, m⟩, rfl, fun i hi => ?_⟩
  obtain rfl | rfl | rfl : i = 0 ∨ i = 1 ∨ i = 2 := by omega
  · exact ⟨hn0, hs0⟩
  · exact ⟨hn1, hs1⟩
  · exact ⟨hn2, hs2⟩

end Go.Proofs.Ytmilljlkcbljpaa

/- The statement ColourSpaces, walked. -/
namespace Go.Proofs.Ytmilljlkcbljpaa
open Go.RowKit Go.Sort

theorem spacesB_new (s : Sp) (q c : Nat → Int) (w : World) : ∃ w0, ((w.alloc (.cells s.cells 63)).alloc (.cells #[.int .i64 (q 0), .int .i64 (q 1), .int .i64 (q 2)] 27)).alloc (.cells #[.int .i64 (c 0), .int .i64 (c 1), .int .i64 (c 2)] 28) = w0 ∧
    Below w.heap.size w w0 ∧ Sbx w0 w.heap.size s ∧ Tri 27 w0 (w.heap.size + 1) q ∧ Tri 28 w0 (w.heap.size + 1 + 1) c := by
  refine ⟨_, rfl, (((Below.refl _ w).alloc (Nat.le_refl _) _).alloc (by simp) _).alloc (by simp <;> omega) _, ?_, ?_, ?_⟩
  · exact ((Sbx.new s w).on ((Below.refl _ _).alloc (Nat.le_refl _) _)).on ((Below.refl _ _).alloc (Nat.le_refl _) _)
  · have h := Tri.new (w.alloc (.cells s.cells 63)) q 27
    simp only [World.size_alloc] at h
    exact h.alloc _
  · have h := Tri.new ((w.alloc (.cells s.cells 63)).alloc (.cells #[.int .i64 (q 0), .int .i64 (q 1), .int .i64 (q 2)] 27)) c 28
    simp only [World.size_alloc] at h
    exact h

/-- rest, at one argument: one number. -/
theorem rest_at (x : Int) (n : Nat) (hn : 1 ≤ n) (hn' : n ≤ 1000) : ∃ k : Nat, k < n ∧ ∀ w, Calls Try.prog 15 #[.int .i64 x, .int .i64 n] w fun e w' => e = .returned (.int .i64 k) ∧ Below w.heap.size w w' := by
  have h1 := Int.emod_nonneg (x.tmod n + n) (b := (n : Int)) (by omega)
  have h2 := Int.emod_lt_of_pos (x.tmod n + n) (b := (n : Int)) (by omega)
  obtain ⟨k, hk⟩ := Int.eq_ofNat_of_zero_le h1
  refine ⟨k, by omega, fun w => (rest_any (x := x) (w := w) hn hn').mono ?_⟩
  rintro e w' ⟨⟨j, _, hj, rfl⟩, rfl⟩
  obtain rfl : j = k := by omega
  exact ⟨rfl, Below.refl _ _⟩

theorem sbsz_new (w : World) : ∃ w0, w.alloc (.cells #[.slice none 0 0, .slice none 0 0, .slice none 0 0, .int .i64 0, .int .i64 0, .int .i64 0, .int .i64 0, .int .i64 0, .int .i64 0, .int .i64 0, .int .i64 0, .int .i64 0, .int .i64 0, .int .i64 0, .int .i64 0, .int .i64 0, .int .i64 0, .int .i64 0, .int .i64 0, .int .i64 0, .int .i64 0, .slice none 0 0, .slice none 0 0, .slice none 0 0, .int .i64 0, .int .i64 0, .int .i64 0, .int .i64 0, .int .i64 0, .int .i64 0, .int .i64 0, .int .i64 0, .int .i64 0, .int .i64 0, .int .i64 0, .int .i64 0, .int .i64 0, .int .i64 0, .int .i64 0, .int .i64 0, .int .i64 0, .int .i64 0, .slice none 0 0, .slice none 0 0, .slice none 0 0, .int .i64 0, .int .i64 0, .int .i64 0, .int .i64 0, .int .i64 0, .int .i64 0, .int .i64 0, .int .i64 0, .int .i64 0, .int .i64 0, .int .i64 0, .int .i64 0, .int .i64 0, .int .i64 0, .int .i64 0, .int .i64 0, .int .i64 0, .int .i64 0] 66) = w0 ∧ Below w.heap.size w w0 ∧
    w0.heap[w.heap.size]? = some (.cells #[.slice none 0 0, .slice none 0 0, .slice none 0 0, .int .i64 0, .int .i64 0, .int .i64 0, .int .i64 0, .int .i64 0, .int .i64 0, .int .i64 0, .int .i64 0, .int .i64 0, .int .i64 0, .int .i64 0, .int .i64 0, .int .i64 0, .int .i64 0, .int .i64 0, .int .i64 0, .int .i64 0, .int .i64 0, .slice none 0 0, .slice none 0 0, .slice none 0 0, .int .i64 0, .int .i64 0, .int .i64 0, .int .i64 0, .int .i64 0, .int .i64 0, .int .i64 0, .int .i64 0, .int .i64 0, .int .i64 0, .int .i64 0, .int .i64 0, .int .i64 0, .int .i64 0, .int .i64 0, .int .i64 0, .int .i64 0, .int .i64 0, .slice none 0 0, .slice none 0 0, .slice none 0 0, .int .i64 0, .int .i64 0, .int .i64 0, .int .i64 0, .int .i64 0, .int .i64 0, .int .i64 0, .int .i64 0, .int .i64 0, .int .i64 0, .int .i64 0, .int .i64 0, .int .i64 0, .int .i64 0, .int .i64 0, .int .i64 0, .int .i64 0, .int .i64 0] 66 (0, 0)) :=
  ⟨_, rfl, (Below.refl _ _).alloc (Nat.le_refl _) _, heap_alloc_new w _⟩

set_option maxRecDepth 100000 in
set_option maxHeartbeats 8000000 in
theorem colourSpaces_walk {s : Sp} {q c : Nat → Int} {w : World} (hs : s.ok w w.heap.size) :
    Calls Try.prog 9 #[.agg s.cells, col q, col c] w fun e w' => e = .returned (.bool true) ∧ Below w.heap.size w w' := by
  obtain ⟨w0, h0, hq0, t0, t1, t2⟩ := spacesB_new s q c w
  have HS0 : Hid (s.ok w0 w.heap.size) := Lib.hid (Crv.below hs hq0 (Nat.le_refl _))
  have A0 := Lib.hid t0
  have B0 := Lib.hid t1
  have C0 := Lib.hid t2
  clear t0 t1 t2 hs
  unfold col
  go_enter Try.func9, Try.ntmps9
  go_wp2_with fail
  refine (sanity_any w0).mono ?_
  rintro e w1 ⟨rfl, hb1⟩
  have hq1 := hq0.trans (hb1.mono hq0.size)
  have HL1 := Lib.hid (A0.out.on hb1).load
  have B1 := Lib.hid (B0.out.on hb1)
  have C1 := Lib.hid (C0.out.on hb1)
  have HS1 : Hid (s.ok w1 w1.heap.size) := Lib.hid (Crv.mono (Crv.below HS0.out (hb1.mono hq0.size) (Nat.le_refl _)) hq1.size)
  clear h0 A0 B0 C0 HS0
  go_wp2_with (refine list_load rfl 63 (.tmp 3) (by rfl) (by rfl) HL1.out ?_)
  refine (raw_any HS1.out).mono ?_
  rintro e w2 ⟨s', rfl, hok', hb2⟩
  obtain ⟨w3, h3, hb3, z3⟩ := sbz_new w2
  have Z3 := Lib.hid z3
  have hb13 := hb2.trans (hb3.mono hb2.size)
  have hone := Lib.hid hok'.one
  have HOK2 : Hid (s'.ok w2 w2.heap.size) := Lib.hid (Crv.mono hok' hb2.size)
  have HB3 := Lib.hid hb3
  clear z3 hok' hb3 HL1 HS1
  go_wp2_with (refine list_store (cs := s'.cells) rfl 63 (.tmp 8) (.tmp 16) (by rfl) (by rfl) (by rfl) Z3.out info_space rfl hone.out ?_; intro w4 h4 hx; have R4 : Hid (Sbx w4 w2.heap.size s') := Lib.hid h4; have hb4 := Exc.below hb13 hx hb2.size hb13.size; have hb24 := Exc.below HB3.out hx (Nat.le_refl _) HB3.out.size; have HOK4 := Lib.hid (HOK2.out.on hb24); have B4 := Lib.hid (B1.out.on hb4); have C4 := Lib.hid (C1.out.on hb4); have hq4 := hq1.trans (hb4.mono hq1.size); have b0 := B4.out.c0; clear h4 h3 hx hb4 hb24)
  refine refSpace_sp.mono ?_
  rintro e w5 ⟨S, rfl, hok, hval, hb5⟩
  obtain ⟨w6, h6, hb6, z6⟩ := sbz_new w5
  have Z6 := Lib.hid z6
  have hb46 := hb5.trans (hb6.mono hb5.size)
  have hone := Lib.hid hok.one
  have HOK5 := Lib.hid hok
  have HVAL := Lib.hid hval
  have HB6 := Lib.hid hb6
  clear z6 hok hval hb6 b0
  go_wp2_with (first
    | (refine list_store (cs := S.cells) rfl 63 (.tmp 9) (.tmp 19) (by rfl) (by rfl) (by rfl) Z6.out info_space rfl hone.out ?_
       intro w7 h7 hx
       have R7 : Hid (Sbx w7 w5.heap.size S) := Lib.hid h7
       have hb7 := Exc.below hb46 hx hb5.size hb46.size
       have hb57 := Exc.below HB6.out hx (Nat.le_refl _) HB6.out.size
       have HOK7 := Lib.hid (HOK5.out.on hb57)
       have HRK7 := Lib.hid (HOK4.out.on hb7)
       have RR7 := Lib.hid (R4.out.on hb7)
       have B7 := Lib.hid (B4.out.on hb7)
       have C7 := Lib.hid (C4.out.on hb7)
       have hq7 := hq4.trans (hb7.mono hq4.size)
       have HL7 := Lib.hid R7.out.load
       obtain ⟨w8, h8, hb8, z8⟩ := sbz_new w7
       have Z8 := Lib.hid z8
       have HB8 := Lib.hid hb8
       clear h7 h6 hx hb7 hb57 hb8 z8)
    | (refine list_load rfl 63 (.tmp 9) (by rfl) (by rfl) HL7.out ?_)
    | (refine list_store (cs := S.cells) rfl 63 (.tmp 10) (.tmp 20) (by rfl) (by rfl) (by rfl) Z8.out info_space rfl hone.out ?_
       intro w9 h9 hx
       have D9 : Hid (Sbx w9 w7.heap.size S) := Lib.hid h9
       have hb9 := Exc.below HB8.out hx (Nat.le_refl _) HB8.out.size
       clear h9 h8 hx
       simp only [Act.put]))
  have HSK9 := Lib.hid (HOK7.out.on hb9)
  have HRK9 := Lib.hid (HRK7.out.on hb9)
  have R9 := Lib.hid (RR7.out.on hb9)
  have S9 := Lib.hid (R7.out.on hb9)
  have B9 := Lib.hid (B7.out.on hb9)
  have C9 := Lib.hid (C7.out.on hb9)
  have hq9 := hq7.trans (hb9.mono hq7.size)
  have HB9 := Lib.hid hb9
  clear HL7 Z8 HB8 hb9
  obtain ⟨k, hk, hkr⟩ := rest_at (q 1) 9 (by omega) (by omega)
  have kr := Lib.hid (Calls.grown_of (w := w9) fun W _ => hkr W)
  have b1 := cell_regrown B9.out.c1
  have b2 := cell_regrown B9.out.c2
  have dm := cell_regrown (D9.out.m k hk)
  have df := D9.out.free (12 + k)
  obtain ⟨m1, m2⟩ := Sp.ent HVAL.out k hk
  have r1 := Int.tmod_lt_of_pos (q 2) (b := 200) (by omega)
  have r2 := Int.tmod_lt_of_pos (-(q 2)) (b := 200) (by omega)
  rw [Int.neg_tmod] at r2
  obtain ⟨R, hR⟩ : ∃ R, (q 2).tmod 200 = R := ⟨_, rfl⟩
  rw [hR] at r1 r2
  obtain ⟨X, hX⟩ : ∃ X, S.m k = X := ⟨_, rfl⟩
  rw [hX] at m1 m2 dm
  have i1 : 0 ≤ (k : Int) ∧ (k : Int) < 9 := by omega
  have i2 : -65736 ≤ X + R ∧ X + R ≤ 65736 := by omega
  clear hkr hX
  refine region_below_tail 15 (by kernel_rfl) (by kernel_rfl) ?_
  simp only [List.take_succ_cons, List.take_zero, List.drop_succ_cons, List.drop_zero]
  repeat (go_big_quiet_step (exact kr.out _ _))
  refine wpQuiet_nil ?_
  intro w10 hw10
  replace hw10 := below_of_regrown hw10
  have u := D9.out.on hw10
  have x0 := u.m k hk
  have y0 := u.free (12 + k)
  have hl9 := D9.out.lt
  obtain ⟨w11, h11⟩ : ∃ w11, w10.setCell ⟨w7.heap.size, 12 + k, none⟩ (.int .i64 (X + R)) = w11 := ⟨_, rfl⟩
  obtain ⟨S2, hS2⟩ : ∃ S2, S.setM k (X + R) = S2 := ⟨_, rfl⟩
  have D11 : Hid (Sbx w11 w7.heap.size S2) := Lib.hid (by rw [← h11, ← hS2]; exact u.setM hk _)
  have hb711 : Below w7.heap.size w7 w11 := by rw [← h11]; exact (HB9.out.trans (hw10.mono (Nat.le_of_lt hl9))).setCell (p := ⟨w7.heap.size, 12 + k, none⟩) (Nat.le_refl _) _
  have hq11 := hq7.trans (hb711.mono hq7.size)
  have R11 := Lib.hid (R7.out.on hb711)
  have RR11 := Lib.hid (RR7.out.on hb711)
  have C11 := Lib.hid (C7.out.on hb711)
  have K0 : Hid (s'.ok w11 w11.heap.size) := Lib.hid (HRK7.out.on hb711)
  have K1 : Hid (S.ok w11 w11.heap.size) := Lib.hid (HOK7.out.on hb711)
  have K2 : Hid (S2.ok w11 w11.heap.size) := Lib.hid (by rw [← hS2]; exact K1.out)
  have HLa := Lib.hid RR11.out.load
  have HLb := Lib.hid R11.out.load
  have HLc := Lib.hid D11.out.load
  obtain ⟨A, hA0, hA1, hA2⟩ := three_sp s' S S2
  have hAk : Hid (∀ k, k < 3 → (A k).ok w11 w11.heap.size) := Lib.hid (fun k hk => by
    obtain rfl | rfl | rfl : k = 0 ∨ k = 1 ∨ k = 2 := by omega
    · rw [hA0]; exact K0.out
    · rw [hA1]; exact K1.out
    · rw [hA2]; exact K2.out)
  obtain ⟨D, hD⟩ : ∃ D, spcs A = D := ⟨_, rfl⟩
  have hDsz : Hid (D.size = 63) := Lib.hid (by rw [← hD]; exact spcs_size A)
  have hDone : Hid (D.all (·.oneCell') = true) := Lib.hid (by rw [← hD]; exact spcs_one hAk.out)
  have hDD : Hid (s'.cells ++ S.cells ++ S2.cells = D) := Lib.hid (by rw [← hD, ← hA0, ← hA1, ← hA2]; rfl)
  have HD := Lib.hid hD
  obtain ⟨w12, h12, hb12, z12⟩ := sbsz_new w11
  have Z12 := Lib.hid z12
  have HB12 := Lib.hid hb12
  have hinfo : Hid ((Try.prog.info? 66).map (·.size) = some D.size) := Lib.hid (by rw [hDsz.out]; exact info_spaces)
  have HR := Lib.hid hR
  clear u b1 b2 dm df hD hA0 hA1 hA2 hS2 z12 hb12 kr hR hw10
  go_wp2_with (first
    | (refine list_load rfl 63 (.tmp 8) (by rfl) (by rfl) HLa.out ?_)
    | (refine list_load rfl 63 (.tmp 9) (by rfl) (by rfl) HLb.out ?_)
    | (refine list_load rfl 63 (.tmp 10) (by rfl) (by rfl) HLc.out ?_)
    | (refine list_build hDD.out rfl (.tmp 36) (.tmp 37) (.tmp 38) (by rfl) (by rfl) (by rfl) (by rfl) ?_)
    | (refine list_store (cs := D) rfl 66 (.tmp 11) (.tmp 39) (by rfl) (by rfl) (by rfl) Z12.out hinfo.out (by rw [hDsz.out]; rfl) hDone.out ?_
       intro w13 h13 hx
       have E13 : Hid (Sbs w13 w11.heap.size A) := Lib.hid (by unfold Sbs; rw [HD.out]; exact h13)
       have hb13' := Exc.below HB12.out hx (Nat.le_refl _) HB12.out.size
       clear h13 h12 h11 hx x0 y0
       simp only [Act.put]))
  have C13 := Lib.hid (C11.out.on hb13')
  have R13 := Lib.hid (R11.out.on hb13')
  have K13 : Hid (∀ k, k < 3 → (A k).ok w13 w13.heap.size) := Lib.hid (fun k hk => (hAk.out k hk).on hb13')
  have KS13 : Hid (S.ok w13 w13.heap.size) := Lib.hid (K1.out.on hb13')
  have hq13 := hq11.trans (hb13'.mono hq11.size)
  clear hb13' C11 R11 hAk K0 K1 K2 HLa HLb HLc D11 RR11 hDD hDone hDsz hinfo Z12 HB12 hb711 hl9 m1 m2 r1 r2 i1 i2
  go_loopw [12] (fun i wr => ∃ k : Nat, k ≤ 3 ∧ i = .int .i64 k ∧ Below w13.heap.size w13 wr) (fun i _ => 3 - (intOf i).toNat)
  case atStart => exact ⟨0, by omega, rfl, Below.refl _ _⟩
  case round =>
    obtain ⟨k, hk, rfl, hbr⟩ := hrel
    have hqr := hq13.trans (hbr.mono hq13.size)
    have tc := C13.out.on hbr
    by_cases hlt : k < 3
    · obtain ⟨T, hT⟩ : ∃ T, A k = T := ⟨_, rfl⟩
      have hok : T.ok wr wr.heap.size := by rw [← hT]; exact (K13.out k hlt).on hbr
      have hl1 : ∀ w', (∃ p : Regrown, w' = grow (redrawn wr p.d) p.os) → (loadVar 63 ⟨w11.heap.size, k * 21, none⟩).run Try.prog w' = .ok (.agg T.cells) w' := fun w' hw' => by
        rw [← hT]
        exact ((E13.out.on hbr).on (below_of_regrown hw')).load hlt
      have L1 := Lib.hid hl1
      have d0 := cell_regrown tc.c0
      have d1 := cell_regrown tc.c1
      have d2 := cell_regrown tc.c2
      have i1 : 0 ≤ (k : Int) ∧ (k : Int) < 3 := by omega
      have w1' : IntKind.i64.wrap (k : Int) = k := IntWalk.i64_in _ (by omega)
      have kv := Lib.hid (Calls.grown_of (w := wr) (f := 28) fun W hW => Sp.valid_any (s := T) (w := W) (hok.on hW))
      have rv := Lib.hid (Calls.grown_of (w := wr) (f := 29) fun W hW => Sp.RefValid_any (s := T) (w := W) (hok.on hW))
      have kt := Lib.hid (Calls.grown_of (w := wr) (f := 30) fun W hW => Sp.To_any (s := T) (c := c) (w := W) (hok.on hW))
      have rt := Lib.hid (Calls.grown_of (w := wr) (f := 31) fun W hW => Sp.RefTo_any (s := T) (c := c) (w := W) (hok.on hW))
      have kf := Lib.hid (Calls.grown_of (w := wr) (f := 32) fun W hW => Sp.From_any (s := T) (c := c) (w := W) (hok.on hW))
      have rf := Lib.hid (Calls.grown_of (w := wr) (f := 33) fun W hW => Sp.RefFrom_any (s := T) (c := c) (w := W) (hok.on hW))
      obtain ⟨V, hV⟩ : ∃ V, T.val = V := ⟨_, rfl⟩
      obtain ⟨Y, hY⟩ : ∃ Y, T.ToV c = Y := ⟨_, rfl⟩
      obtain ⟨Z, hZ⟩ : ∃ Z, T.FromV c = Z := ⟨_, rfl⟩
      rw [hV] at kv rv
      rw [hY] at kt rt
      rw [hZ] at kf rf
      have qv : (V != V) = false := by simp
      have qy := neq_self Y
      have qz := neq_self Z
      unfold col at kt rt kf rf
      clear hl1 hT hok tc hV hY hZ
      go_wp2
      refine wp_region_quiet_below (by kernel_rfl) (by kernel_rfl) ?_
      repeat (first | (go_big_quiet_want; refine quiet_load _ rfl rfl L1.out ?_; go_simp; go_big_quiet_on) | go_big_quiet_step ((first | with_reducible exact kv.out _ _ | with_reducible exact rv.out _ _ | with_reducible exact kt.out _ _ | with_reducible exact rt.out _ _ | with_reducible exact kf.out _ _ | with_reducible exact rf.out _ _)))
      refine wpQuiet_nil ?_
      intro w14 hw14
      replace hw14 := below_of_regrown hw14
      have hb14 := hbr.trans (hw14.mono hbr.size)
      clear d0 d1 d2 qv qy qz w1'
      go_wp2
      go_roundw
      case rel => exact ⟨k + 1, by omega, by go_num, hb14⟩
      case measure => simp [intOf]; omega
    · obtain rfl : k = 3 := by omega
      obtain ⟨F, hF⟩ : ∃ F : Nat → Int, F = fun i => (c i).tmod 200000 := ⟨_, rfl⟩
      have e0 : (c 0).tmod 200000 = F 0 := by rw [hF]
      have e1 : (c 1).tmod 200000 = F 1 := by rw [hF]
      have e2 : (c 2).tmod 200000 = F 2 := by rw [hF]
      obtain ⟨w15, h15⟩ : ∃ w15, wr.alloc (.cells #[.int .i64 (F 0), .int .i64 (F 1), .int .i64 (F 2)] 28) = w15 := ⟨_, rfl⟩
      have tf : Tri 28 w15 wr.heap.size F := by rw [← h15]; exact Tri.new wr F _
      have hb15 : Below wr.heap.size wr w15 := by rw [← h15]; exact (Below.refl _ _).alloc (Nat.le_refl _) _
      have c0 := tc.c0
      have c1 := tc.c1
      have c2 := tc.c2
      have tc15 := tc.on hb15
      have d0 := cell_regrown tc15.c0
      have d1 := cell_regrown tc15.c1
      have d2 := cell_regrown tc15.c2
      have f0 := cell_regrown tf.c0
      have f1 := cell_regrown tf.c1
      have f2 := cell_regrown tf.c2
      have hb1315 := hbr.trans (hb15.mono hbr.size)
      have hq15 := hqr.trans (hb15.mono hqr.size)
      have hok : S.ok w15 w15.heap.size := KS13.out.on hb1315
      have hl1 : ∀ w', (∃ p : Regrown, w' = grow (redrawn w15 p.d) p.os) → (loadVar 63 ⟨w5.heap.size, 0, none⟩).run Try.prog w' = .ok (.agg S.cells) w' := fun w' hw' =>
        ((R13.out.on hb1315).on (below_of_regrown hw')).load
      have L1 := Lib.hid hl1
      have kv := Lib.hid (Calls.grown_of (w := w15) (f := 28) fun W hW => Sp.valid_any (s := S) (w := W) (hok.on hW))
      rw [HVAL.out] at kv
      have kt := Lib.hid (Calls.grown_of (w := w15) (f := 30) fun W hW => Sp.To_any (s := S) (c := F) (w := W) (hok.on hW))
      have rt := Lib.hid (Calls.grown_of (w := w15) (f := 31) fun W hW => Sp.RefTo_any (s := S) (c := F) (w := W) (hok.on hW))
      have kf := Lib.hid (Calls.grown_of (w := w15) (f := 32) fun W hW => Sp.From_any (s := S) (c := F) (w := W) (hok.on hW))
      have rf := Lib.hid (Calls.grown_of (w := w15) (f := 33) fun W hW => Sp.RefFrom_any (s := S) (c := F) (w := W) (hok.on hW))
      have k1 := Lib.hid (Calls.grown_of (w := w15) (f := 25) fun W hW => clip_any (c := c) (w := W))
      have k2 := Lib.hid (Calls.grown_of (w := w15) (f := 25) fun W hW => clip_any (c := F) (w := W))
      have k3 := Lib.hid (Calls.grown_of (w := w15) (f := 34) fun W hW => refClip_any (c := c) (w := W))
      have k4 := Lib.hid (Calls.grown_of (w := w15) (f := 34) fun W hW => refClip_any (c := F) (w := W))
      obtain ⟨P1, hP1⟩ : ∃ P, clpV c = P := ⟨_, rfl⟩
      obtain ⟨P2, hP2⟩ : ∃ P, clpV F = P := ⟨_, rfl⟩
      obtain ⟨Y, hY⟩ : ∃ Y, S.ToV F = Y := ⟨_, rfl⟩
      obtain ⟨Z, hZ⟩ : ∃ Z, S.FromV F = Z := ⟨_, rfl⟩
      rw [hP1] at k1 k3
      rw [hP2] at k2 k4
      rw [hY] at kt rt
      rw [hZ] at kf rf
      have q1 := eql_self P1
      have q2 := eql_self P2
      have qy := eql_self Y
      have qz := eql_self Z
      unfold col at kt rt kf rf k1 k2 k3 k4
      clear hl1 hok tc tc15 tf hY hZ hP1 hP2 hF hb1315 hb15
      go_wp2
      clear h15 e0 e1 e2 c0 c1 c2
      refine wp_region_quiet_below (by kernel_rfl) (by kernel_rfl) ?_
      repeat (first | (go_big_quiet_want; refine quiet_load _ rfl rfl L1.out ?_; go_simp; go_big_quiet_on) | go_big_quiet_step ((first | with_reducible exact kv.out _ _ | with_reducible exact k1.out _ _ | with_reducible exact k2.out _ _ | with_reducible exact k3.out _ _ | with_reducible exact k4.out _ _ | with_reducible exact kt.out _ _ | with_reducible exact rt.out _ _ | with_reducible exact kf.out _ _ | with_reducible exact rf.out _ _)))
      refine wpQuiet_nil ?_
      intro w16 hw16
      replace hw16 := below_of_regrown hw16
      have hq16 := hq15.trans (hw16.mono hq15.size)
      clear d0 d1 d2 f0 f1 f2 q1 q2 qy qz
      go_wp2
      go_ret
      exact ⟨rfl, hq16⟩

end Go.Proofs.Ytmilljlkcbljpaa
