/- Chains. -/
import Derived.Test.YtmilljlkcbljpaaVc
namespace Go.Proofs.Ytmilljlkcbljpaa
open Go.RowKit Go.Sort

/-- A space: the curves as values, their points, the matrices. -/
structure Sp where
  v : Nat → Value
  n : Nat → Nat
  f : Nat → Nat → Int
  t : Nat → Int
  m : Nat → Int
def Sp.ok (s : Sp) (w : World) (B : Nat) : Prop := Crv w B s.v s.n s.f
def Sp.cells (s : Sp) : Array Value := spA s.v s.t s.m
noncomputable def Sp.val (s : Sp) : Bool := spB s.n s.f s.t s.m

/-- The cells of a row of spaces. -/
def SpCells (w : World) (b off n : Nat) (S : Nat → Sp) : Prop := ∀ k, k < n → ∀ j x, (S k).cells[j]? = some x → w.cell? ⟨b, off + k * 21 + j, none⟩ = some x
/-- A slice of n spaces. -/
def Chn (w : World) (B : Nat) (v : Value) (n : Nat) (S : Nat → Sp) : Prop :=
  (∀ k, k < n → (S k).ok w B) ∧ ((n = 0 ∧ ∃ a cap, v = .slice a 0 cap ∧ (a = none → cap = 0)) ∨ ∃ b off cap, v = .slice (some ⟨b, off, none⟩) n cap ∧ (b < B ∧ n ≤ cap) ∧ SpCells w b off n S)
theorem Sp.ok.below {s : Sp} {w w' : World} {B B' : Nat} (h : s.ok w B) (hb : Below B' w w') (hB : B ≤ B') : s.ok w' B := Crv.below h hb hB
theorem SpCells.below {w w' : World} {b off n B : Nat} {S : Nat → Sp} (h : SpCells w b off n S) (hb : Below B w w') (hB : b < B) : SpCells w' b off n S := fun k hk j x hx => (hb.cell (p := ⟨b, off + k * 21 + j, none⟩) hB).trans (h k hk j x hx)
theorem Chn.below {w w' : World} {B B' n : Nat} {v : Value} {S : Nat → Sp} (h : Chn w B v n S) (hb : Below B' w w') (hB : B ≤ B') : Chn w' B v n S := by
  refine ⟨fun k hk => (h.1 k hk).below hb hB, ?_⟩
  rcases h.2 with h | ⟨b, off, cap, h1, h2, h3⟩
  · exact .inl h
  · exact .inr ⟨b, off, cap, h1, h2, h3.below hb (by omega)⟩
theorem Chn.at {w : World} {B n : Nat} {v : Value} {S : Nat → Sp} (h : Chn w B v n S) (hn : 1 ≤ n) : ∃ b off cap, v = .slice (some ⟨b, off, none⟩) n cap ∧ b < B ∧ SpCells w b off n S := by
  rcases h.2 with ⟨rfl, _⟩ | ⟨b, off, cap, h1, h2, h3⟩
  · omega
  · exact ⟨b, off, cap, h1, h2.1, h3⟩
theorem Chn.shape {w : World} {B n : Nat} {v : Value} {S : Nat → Sp} (h : Chn w B v n S) : ∃ a cap, v = .slice a n cap := by
  rcases h.2 with ⟨rfl, a, cap, h, _⟩ | ⟨b, off, cap, h, _⟩
  · exact ⟨a, cap, h⟩
  · exact ⟨_, cap, h⟩

set_option maxRecDepth 100000 in
/-- A load of a whole array or struct. -/
theorem load_cells {w : World} {b off : Nat} {ty : TypeId} {cs : Array Value} {d : TypeDesc} (hu : Try.prog.underlying ty = some d) (hd : (match d with | .struct _ | .array _ _ => true | _ => false) = true) (hi : (Try.prog.info? ty).map (·.size) = some cs.size)
    (h : ∀ (j : Nat) (x : Value), cs[j]? = some x → w.cell? ⟨b, off + j, none⟩ = some x) : (loadVar ty ⟨b, off, none⟩).run Try.prog w = .ok (.agg cs) w := by
  have hl : (loadCells ⟨b, off, none⟩ cs.toList.length).run Try.prog w = .ok cs.toList.toArray w :=
    run_loadCells_list (P := Try.prog) w ⟨b, off, none⟩ cs.toList (fun j x hx => by
      have hadd : (⟨b, off, none⟩ : Addr).add j = ⟨b, off + j, none⟩ := by unfold Addr.add; split <;> simp_all
      rw [hadd]
      exact h j x (by simpa using hx))
  cases hq : Try.prog.info? ty with
  | none => simp [hq] at hi
  | some i =>
    have hs : i.size = cs.size := by simpa [hq] using hi
    have hagg : (isAgg ty).run Try.prog w = .ok true w := by
      unfold isAgg
      rw [Sem.run_bind, run_underlying hu w]
      cases d <;> simp_all
    simp only [Array.length_toList, Array.toArray_toList] at hl
    simp [loadVar, Sem.run_bind, hagg, sizeOf, typeInfo, hq, hs, hl]
/-- .. as an operation of a walk. -/
theorem list_load {ops : Array Oper} {rest : List Oper} {o : Oper} {a : Act} {w : World} {Q : Exit → Act → World → Prop} (hgd : o.guard = none) (ty : TypeId) (x : Operand) (ho : o.op = .load ty x) {b off : Nat} {cs : Array Value}
    (hx : a.eval x = .pointer (some ⟨b, off, none⟩)) (hl : (loadVar ty ⟨b, off, none⟩).run Try.prog w = .ok (.agg cs) w) (h : wpList Try.prog ops Q rest (a.put o.dst (.agg cs)) w) : wpList Try.prog ops Q (o :: rest) a w :=
  wpList_plain hgd fun _ hK => by
    unfold Oper.wp execOp
    simp only [ho, hx, Instr.loadAt, Instr.sureAddr, Sem.run_bind, Sem.run_pure, Result.andThen_ok, hl]
    exact hK _ _ h
theorem info_space : (Try.prog.info? 63).map (·.size) = some 21 := by kernel_rfl
theorem Sp.load {s : Sp} {w : World} {b off : Nat} (h : ∀ j x, s.cells[j]? = some x → w.cell? ⟨b, off + j, none⟩ = some x) : (loadVar 63 ⟨b, off, none⟩).run Try.prog w = .ok (.agg s.cells) w :=
  load_cells Try.underlying63 rfl info_space h
theorem Sp.load0 {s : Sp} {w : World} {b : Nat} {ty : TypeId} (h : Spb ty w b s.v s.t s.m) : (loadVar 63 ⟨b, 0, none⟩).run Try.prog w = .ok (.agg s.cells) w :=
  Sp.load fun j x hx => by rw [Nat.zero_add, cell_of_row w b j _ _ _ h]; exact hx

set_option maxRecDepth 100000 in
set_option maxHeartbeats 400000 in
theorem check1_any {s : Sp} {B : Nat} {w : World} (hB : B ≤ w.heap.size) (hs : s.ok w B) :
    Calls Try.prog 80 #[.agg s.cells] w fun e w' => e = .returned (.bool (!s.val)) ∧ Below w.heap.size w w' := by
  have t1 := Spb.new w s.v s.t s.m 63
  have hb := (Below.refl w.heap.size w).alloc (Nat.le_refl _) (.cells s.cells 63)
  obtain ⟨w0, h0⟩ : ∃ w0, w.alloc (.cells s.cells 63) = w0 := ⟨_, rfl⟩
  rw [show w.alloc (.cells (spA s.v s.t s.m) 63) = w0 from h0] at t1
  rw [h0] at hb
  have kv := Lib.hid (space_any (v := s.v) (n := s.n) (f := s.f) (t := s.t) (m := s.m) (w := w0) (B := B) (Nat.le_trans hB hb.size) (Crv.below hs hb hB))
  have hl := Sp.load0 (s := s) t1
  clear t1
  go_enter Try.func80, Try.ntmps80
  go_wp2_with (refine list_load rfl _ _ rfl rfl hl ?_)
  refine kv.out.mono ?_
  rintro e w1 ⟨rfl, hb1⟩
  have hq := hb.trans (hb1.mono hb.size)
  clear h0 hb1 hl
  cases hV : spB s.n s.f s.t s.m with
  | true =>
    have E := Lib.hid (show s.val = true from hV)
    clear hV
    go_wp2
    go_ret
    exact ⟨ret_bool (by rw [E.out]; rfl), hq⟩
  | false =>
    have E := Lib.hid (show s.val = false from hV)
    clear hV
    go_wp2
    go_ret
    exact ⟨ret_bool (by rw [E.out]; rfl), hq⟩

set_option maxRecDepth 100000 in
set_option maxHeartbeats 1000000 in
theorem index_check {n b off cap B : Nat} {S : Nat → Sp} {w : World} (hn : n ≤ 4096) (hB : B ≤ w.heap.size) (hb : b < B) (hc : SpCells w b off n S) (hok : ∀ k, k < n → (S k).ok w B) :
    Calls Try.prog 104 #[.slice (some ⟨b, off, none⟩) n cap, .func (.func 80) #[] #[]] w (Idx (anyB n fun i => !(S i).val) w) := by
  have HOK := Lib.hid hok
  clear hok
  go_enter Try.func104, Try.ntmps104
  go_wp2
  go_loopw [8] (fun i wr => ∃ k : Nat, k ≤ n ∧ i = .int .i64 k ∧ Hid (∀ j, j < k → (!(S j).val) = false) ∧ Below w.heap.size w wr) (fun i _ => n - (intOf i).toNat)
  case atStart => exact ⟨0, by omega, rfl, Lib.hid (fun j hj => by omega), Below.refl _ _⟩
  case round =>
    obtain ⟨k, hk, rfl, hs, hq⟩ := hrel
    by_cases hlt : k < n
    · have hck := hc.below hq (by omega) k hlt
      have i1 : 0 ≤ (k : Int) ∧ (k : Int) < n := by omega
      have kc := Lib.hid (check1_any (s := S k) (w := wr) (Nat.le_trans hB hq.size) ((HOK.out k hlt).below hq hB))
      have hl := Sp.load (s := S k) (w := wr) (b := b) (off := off + k * 21) hck
      clear hck
      go_wp2_with (refine list_load rfl _ _ rfl rfl hl ?_)
      refine kc.out.mono ?_
      rintro e w' ⟨rfl, hd⟩
      have hq' := hq.trans (hd.mono hq.size)
      clear hd hl
      cases hV : (S k).val with
      | false =>
        have E := Lib.hid (anyB_t (p := fun i => !(S i).val) hlt (by simp [hV]))
        clear hV
        go_wp2
        go_ret
        exact ⟨k, rfl, by rw [E.out]; exact decide_eq_true (by omega), hq'⟩
      | true =>
        have E := Lib.hid (show (!(S k).val) = false by rw [hV]; rfl)
        clear hV
        go_wp2
        go_roundw
        case rel => exact ⟨k + 1, by omega, by go_num, Lib.hid (fun j hj => by
          by_cases e : j = k
          · subst e; exact E.out
          · exact hs.out j (by omega)), hq'⟩
        case measure => simp [intOf]; omega
    · obtain rfl : k = n := by omega
      have E := Lib.hid (anyB_f (p := fun i => !(S i).val) hs.out)
      go_wp2
      go_ret
      exact ⟨-1, rfl, by rw [E.out]; rfl, hq⟩

set_option maxHeartbeats 400000 in
theorem contains_check {n b off cap B : Nat} {S : Nat → Sp} {w : World} (hn : n ≤ 4096) (hB : B ≤ w.heap.size) (hb : b < B) (hc : SpCells w b off n S) (hok : ∀ k, k < n → (S k).ok w B) :
    Calls Try.prog 79 #[.slice (some ⟨b, off, none⟩) n cap, .func (.func 80) #[] #[]] w fun e w' => e = .returned (.bool (anyB n fun i => !(S i).val)) ∧ Below w.heap.size w w' := by
  have HI := Lib.hid (index_check (cap := cap) hn hB hb hc hok)
  clear hc hok
  go_enter Try.func79, Try.ntmps79
  go_wp2_with fail
  refine HI.out.mono ?_
  rintro e w' ⟨k, rfl, hk, hq⟩
  have E := Lib.hid hk
  clear hk
  go_wp2
  go_ret
  exact ⟨ret_bool E.out, hq⟩

/-- The error of a chain. -/
noncomputable def chkV (n : Nat) (S : Nat → Sp) : Int := if n = 0 then 1 else if 8 < n then 2 else bif anyB n fun i => !(S i).val then 23 else 0
theorem chkV_0 {n : Nat} {S : Nat → Sp} (h : n = 0) : chkV n S = 1 := if_pos h
theorem chkV_8 {n : Nat} {S : Nat → Sp} (h : 8 < n) : chkV n S = 2 := by unfold chkV; rw [if_neg (by omega), if_pos h]
theorem chkV_t {n : Nat} {S : Nat → Sp} (h : n ≠ 0) (h' : n ≤ 8) (ha : anyB n (fun i => !(S i).val) = true) : chkV n S = 23 := by unfold chkV; rw [if_neg h, if_neg (by omega), ha]; rfl
theorem chkV_f {n : Nat} {S : Nat → Sp} (h : n ≠ 0) (h' : n ≤ 8) (ha : anyB n (fun i => !(S i).val) = false) : chkV n S = 0 := by unfold chkV; rw [if_neg h, if_neg (by omega), ha]; rfl
theorem chkV_ok {n : Nat} {S : Nat → Sp} (h : chkV n S = 0) : n ≠ 0 ∧ n ≤ 8 ∧ ∀ k, k < n → (S k).val = true := by
  by_cases h0 : n = 0
  · rw [chkV_0 h0] at h; cases h
  · by_cases h8 : 8 < n
    · rw [chkV_8 h8] at h; cases h
    · cases e : anyB n (fun i => !(S i).val) with
      | true => rw [chkV_t h0 (by omega) e] at h; cases h
      | false => exact ⟨h0, by omega, fun k hk => by have := of_anyB_f e k hk; simpa using this⟩
theorem chkV_is {n : Nat} {S : Nat → Sp} (h0 : n ≠ 0) (h8 : n ≤ 8) (h : ∀ k, k < n → (S k).val = true) : chkV n S = 0 :=
  chkV_f h0 h8 (anyB_f fun k hk => by rw [h k hk]; rfl)

set_option maxHeartbeats 1000000 in
theorem check_any {n B : Nat} {v : Value} {S : Nat → Sp} {w : World} (hn : n ≤ 9223372036854775807) (hB : B ≤ w.heap.size) (hc : Chn w B v n S) :
    Calls Try.prog 46 #[v] w fun e w' => e = .returned (.int .i64 (chkV n S)) ∧ Below w.heap.size w w' := by
  by_cases h0 : n = 0
  · obtain ⟨a, cap, rfl⟩ := hc.shape
    have E := Lib.hid (chkV_0 (S := S) h0)
    have d0 : ((n : Int) == 0) = true := by simp [h0]
    clear hc h0
    go_enter Try.func46, Try.ntmps46
    go_wp2
    go_ret
    exact ⟨ret_int E.out.symm, Below.refl _ _⟩
  · have d0 : ((n : Int) == 0) = false := by simp; omega
    by_cases h8 : 8 < n
    · obtain ⟨a, cap, rfl⟩ := hc.shape
      have E := Lib.hid (chkV_8 (S := S) h8)
      have d1 : decide ((8 : Int) < (n : Int)) = true := decide_eq_true (by omega)
      clear hc
      go_enter Try.func46, Try.ntmps46
      go_wp2
      go_ret
      exact ⟨ret_int E.out.symm, Below.refl _ _⟩
    · obtain ⟨b, off, cap, rfl, hb, hcs⟩ := hc.at (by omega)
      have d1 : decide ((8 : Int) < (n : Int)) = false := decide_eq_false (by omega)
      have HI := Lib.hid (contains_check (cap := cap) (by omega) hB hb hcs hc.1)
      clear hcs hc
      go_enter Try.func46, Try.ntmps46
      go_wp2_with fail
      refine HI.out.mono ?_
      rintro e w' ⟨rfl, hq⟩
      cases ha : anyB n (fun i => !(S i).val) with
      | true =>
        have E := Lib.hid (chkV_t h0 (by omega) ha)
        clear ha
        go_wp2
        go_ret
        exact ⟨ret_int E.out.symm, hq⟩
      | false =>
        have E := Lib.hid (chkV_f h0 (by omega) ha)
        clear ha
        go_wp2
        go_ret
        exact ⟨ret_int E.out.symm, hq⟩

end Go.Proofs.Ytmilljlkcbljpaa
