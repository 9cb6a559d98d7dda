/- Texts of this proof, one behind another: Qa We Wo Gq Bt. -/
import Derived.Test.YtmilljlkcbljpaaZ6
/- A region that draws its order over calls and one new block that waits for nothing. -/
namespace Go.Proofs.Ytmilljlkcbljpaa
open Go.RowKit Go.Sort
variable {P : Program} {ops : Array Oper} {md : Region.Mode} {C : World → Prop} {Q : Exit → Act → World → Prop}

/-- One operation, then K. -/
def nrm (Q : Exit → Act → World → Prop) (K : Act → World → Prop) : Exit → Act → World → Prop
  | .normal => K
  | e => Q e
theorem upon_nrm {o : Oper} {a : Act} {K : Act → World → Prop} {r : Result Next} (h : o.upon P a (wpList P ops (nrm Q K) []) (nrm Q K) r) : o.upon P a K Q r := by
  cases r with
  | ok n w' =>
    cases n <;> simp only [Oper.upon] at h ⊢
    case value u => exact h
    case skip => exact h
    case defer d => exact h
    case enter f args =>
      refine Calls.mono h fun e w'' he => ?_
      cases e <;> exact he
    case row row args => exact Rows.mono h fun u w'' he => he
  | halt x w' => cases x <;> simp only [Oper.upon] at h ⊢ <;> exact h
theorem op_of_list {i : Nat} {o : Oper} (hi : ops[i]? = some o) (hg : o.guard = none) {K : Act → World → Prop} {a : Act} {w : World} (h : wpList P ops (nrm Q K) [o] a w) : wpOp P ops Q i K a w := by
  unfold wpOp
  unfold wpList at h
  simp only [hi, Region.wanted, hg, if_true] at h ⊢
  rcases h with h | h
  · exact .inl (upon_nrm h)
  · exact .inr h

/-- The worlds that hold what w0 held. -/
def Cw (w0 : World) : World → Prop := fun w' => ∃ p : Regrown, w' = grow (redrawn w0 p.d) p.os
theorem Cw.below {w0 w' : World} (h : Cw w0 w') : Below w0.heap.size w0 w' := below_of_regrown h
theorem Cw.of {w0 w' : World} (h : Below w0.heap.size w0 w') : Cw w0 w' := regrown_of_below h
theorem Cw.trans {w0 w1 w2 : World} (h : Cw w0 w1) (k : Cw w1 w2) : Cw w0 w2 := .of (h.below.trans ⟨k.below.os, k.below.tape, k.below.output, k.below.size, fun j hj => k.below.block j (Nat.lt_of_lt_of_le hj h.below.size)⟩)

theorem headW_cls {C' : World → Prop} {tl : List Nat} {L : Array Bool → Act → World → Prop} (hC : ∀ w, C w → C' w) : ∀ (f : Nat) (listed : Array Bool) (a : Act) (w : World), headW P md ops C Q tl L f listed a w → headW P md ops C' Q tl L f listed a w
  | 0, _, _, _, h => h
  | f + 1, _, _, _, h => ⟨h.1, fun i hi => ⟨(h.2 i hi).1, wpOp_mono (fun a' w' h' => ⟨hC _ h'.1, headW_cls hC f _ a' w' h'.2⟩) (h.2 i hi).2⟩⟩

theorem headO_order {a : Act} {listed : Array Bool} (hd : List Nat) (t : Nat) (tl : List Nat) (hdo : List Oper) {K : Act → Prop} (hh : hd.map (fun i => ops[i]?) = hdo.map some)
    (hB : orderB md ops listed hd t tl = true) (h : wpQuiet P ops C K hdo a) : headO P md ops C (t :: tl) (fun listed' a' => seqL md ops (t :: tl) listed' = true ∧ K a') hd.length listed a := by
  simp only [orderB, Bool.and_eq_true, decide_eq_true_eq] at hB
  obtain ⟨⟨⟨⟨⟨⟨⟨⟨hsel, hs⟩, hc⟩, hcl⟩, hsz⟩, hall⟩, htl⟩, hx⟩, hlex⟩ := hB
  have inv0 : OrdInv md ops hd (t :: tl) listed := by
    refine ⟨hsz, fun j oj hj hl e he hb => ?_, fun u hu => ?_, fun j hj hun => ?_⟩
    · have h1 := List.all_eq_true.1 hcl j (List.mem_range.2 (Array.getElem?_eq_some_iff.1 hj).1)
      simp only [hl, Bool.not_true, Bool.false_or, hj] at h1
      have h2 := Array.all_eq_true_iff_forall_mem.1 h1 e he
      simpa [hb] using h2
    · have h1 := List.all_eq_true.1 htl u hu
      simpa using h1
    · have h1 := List.all_eq_true.1 hall j (List.mem_range.2 hj)
      simp only [hun, Bool.false_or, Bool.or_eq_true, List.contains_iff_mem] at h1
      exact h1
  exact headO_lex (C := C) (P := P) hsel hs hc (fun i hi hi' => by
    have h1 := List.all_eq_true.1 hx i hi'
    simp only [Bool.not_eq_true', List.contains_eq_mem, decide_eq_false_iff_not] at h1
    exact h1 hi) hd hdo listed a hh (fun _ h => h) inv0 hlex h

/-- What is to be shown: the block made ahead of a call, or behind all of them. -/
def frW (P : Program) (ops : Array Oper) (Q : Exit → Act → World → Prop) (w0 : World) (mo : Oper) (tlo : List Oper) : List Oper → List Oper → Act → World → Prop
  | [], p2, a, _ => pureW P ops (Cw w0) (fun a' => ∀ w', Cw w0 w' → wpList P ops (nrm Q fun a'' w'' => Cw w0 w'' ∧ wpList P ops Q tlo a'' w'') [mo] a' w') p2 a
  | c :: cs, p2, a, w => wpList P ops (nrm Q fun a' w' => Cw w0 w' ∧ wpQuiet P ops (Cw w') (fun a'' => ∀ w'', Cw w' w'' → wpList P ops Q tlo a'' w'') (c :: cs ++ p2) a') [mo] a w ∧
      wpList P ops (nrm Q fun a' w' => Cw w0 w' ∧ frW P ops Q w0 mo tlo cs p2 a' w') [c] a w

def frB (md : Region.Mode) (ops : Array Oper) (m t : Nat) (tl p2 : List Nat) : List Nat → Array Bool → Bool
  | [], listed => freeL md ops p2 listed && decide (Region.ready md ops (setL p2 listed) = [m]) && seqL md ops (t :: tl) ((setL p2 listed).setIfInBounds m true)
  | c :: cs, listed => decide (Region.ready md ops listed = [c, m]) && orderB md ops (listed.setIfInBounds m true) (c :: cs ++ p2) t tl && frB md ops m t tl p2 cs (listed.setIfInBounds c true)

theorem headW_free {w0 : World} {hd0 : List Nat} {m t : Nat} {tl p2 : List Nat} {mo : Oper} {p2o tlo : List Oper} (hsel : Region.noSelect ops = true) (hQ : ∀ c a d v w, Q (.panic c) (a.put d v) w → Q (.panic c) a w)
    (hs : sinkL md ops t hd0 = true) (hc : chainL md ops t tl = true) (hx : ∀ i ∈ hd0, i ∉ t :: tl) (hmo : ops[m]? = some mo) (hmg : mo.guard = none) (hm0 : m ∈ hd0) (hp2 : p2.map (fun i => ops[i]?) = p2o.map some) (hp20 : ∀ i ∈ p2, i ∈ hd0) :
    ∀ (cs : List Nat) (cso : List Oper) (listed : Array Bool) (a : Act) (w : World), Cw w0 w → cs.map (fun i => ops[i]?) = cso.map some → (∀ i ∈ cs, i ∈ hd0) → (∀ o ∈ cso, o.guard = none) → OrdInv md ops hd0 (t :: tl) listed → frB md ops m t tl p2 cs listed = true →
      frW P ops Q w0 mo tlo cso p2o a w → headW P md ops (Cw w0) Q (t :: tl) (fun listed' a' w' => seqL md ops (t :: tl) listed' = true ∧ wpList P ops Q tlo a' w') (cs.length + p2.length + 1) listed a w
  | [], [], listed, a, w, hw, _, _, _, inv, hB, h => by
    simp only [frB, Bool.and_eq_true, decide_eq_true_eq] at hB
    obtain ⟨⟨hf, hr⟩, hq⟩ := hB
    rw [List.length_nil, Nat.zero_add]
    refine headW_pure (hd := hd0) hsel hQ hs hc hx (fun listed' a' w' hL => seqL_ready hL.1) 1 (listed' := setL p2 listed) (fun a1 w1 hC1 hK1 inv1 => ?_) p2 p2o listed a w hw hp2 hp20 inv hf rfl h
    refine ⟨(fun h0 => by rw [hr] at h0; cases h0), fun i hi => ?_⟩
    rw [hr] at hi
    have him : i = m := by simpa using hi
    subst him
    exact ⟨hx _ hm0, wpOp_mono (fun a' w' h' => ⟨h'.1, hq, h'.2⟩) (op_of_list hmo hmg (hK1 w1 hC1))⟩
  | [], _ :: _, _, _, _, _, hm, _, _, _, _, _ => by simp at hm
  | _ :: _, [], _, _, _, _, hm, _, _, _, _, _ => by simp at hm
  | c :: cs, co :: cso, listed, a, w, hw, hmm, hsub, hgd, inv, hB, h => by
    have hmm' := hmm
    simp only [List.map_cons, List.cons.injEq] at hmm
    obtain ⟨h0, hm2⟩ := hmm
    simp only [frB, Bool.and_eq_true, decide_eq_true_eq] at hB
    obtain ⟨⟨hr, hB1⟩, hB2⟩ := hB
    obtain ⟨h1, h2⟩ := h
    rw [show (c :: cs).length + p2.length + 1 = (cs.length + p2.length + 1) + 1 by simp only [List.length_cons]; omega]
    refine ⟨(fun h0 => by rw [hr] at h0; cases h0), fun i hi => ?_⟩
    have hi' := hi
    rw [hr] at hi'
    have him : i = c ∨ i = m := by simpa using hi'
    rcases him with rfl | rfl
    · have hin := hx i (hsub i List.mem_cons_self)
      refine ⟨hin, wpOp_mono (fun a' w' h' => ⟨h'.1, ?_⟩) (op_of_list h0 (hgd co List.mem_cons_self) h2)⟩
      exact headW_free hsel hQ hs hc hx hmo hmg hm0 hp2 hp20 cs cso _ a' w' h'.1 hm2 (fun j hj => hsub j (List.mem_cons_of_mem _ hj)) (fun o ho => hgd o (List.mem_cons_of_mem _ ho)) (inv.set hi hin) hB2 h'.2
    · have hin := hx i hm0
      refine ⟨hin, wpOp_mono (fun a' w' h' => ⟨h'.1, ?_⟩) (op_of_list hmo hmg h1)⟩
      have H := headO_order (C := Cw w') (P := P) (c :: cs ++ p2) t tl (co :: cso ++ p2o) (by rw [List.map_append, List.map_append, hmm', hp2]) hB1 h'.2
      have H2 := headW_of_headO (C := Cw w') (Q := Q) (L' := fun listed' a' w' => seqL md ops (t :: tl) listed' = true ∧ wpList P ops Q tlo a' w') (g := 0) (fun listed2 a2 w2 hw2 hL => ⟨hL.1, hL.2 w2 hw2⟩) _ (t :: tl) (fun i hi => hi) _ _ w' (.of (Below.refl _ _)) H
      rw [Nat.add_zero] at H2
      have e : (c :: cs ++ p2).length = cs.length + p2.length + 1 := by simp only [List.length_append, List.length_cons]; omega
      rw [e] at H2
      exact headW_cls (fun w2 h2 => h'.1.trans h2) _ _ _ _ H2

def freeB (md : Region.Mode) (ops : Array Oper) (ps cs p2 : List Nat) (m t : Nat) (tl : List Nat) : Bool :=
  Region.noSelect ops && sinkL md ops t (ps ++ (cs ++ (p2 ++ [m]))) && chainL md ops t tl &&
  ((List.range ops.size).all fun j => (Array.replicate ops.size false).getD j true || (ps ++ (cs ++ (p2 ++ [m]))).contains j || (t :: tl).contains j) && ((t :: tl).all fun j => !(Array.replicate ops.size false).getD j true) && ((t :: tl).all fun j => !(ps ++ (cs ++ (p2 ++ [m]))).contains j) &&
  freeL md ops ps (Array.replicate ops.size false) && frB md ops m t tl p2 cs (setL ps (Array.replicate ops.size false)) && decide (ps.length + (cs.length + p2.length + 1) + (t :: tl).length = ops.size)

/-- The theorem: ps pure operations, cs calls (one after another), p2 pure ones behind them, m the one that makes a block, t :: tl the rest. -/
theorem region_free {id : Nat} {a : Act} {w : World} {l : List Oper} (ps cs p2 : List Nat) (m t : Nat) (tl : List Nat) {mo : Oper} (hm : P.follows .mixedOrders = true) (hmo : l.toArray[m]? = some mo) (hmg : mo.guard = none) (hp : ps.map (fun i => l.toArray[i]?) = (selL l ps).map some)
    (hcs : cs.map (fun i => l.toArray[i]?) = (selL l cs).map some) (hp2 : p2.map (fun i => l.toArray[i]?) = (selL l p2).map some) (ht : (t :: tl).map (fun i => l.toArray[i]?) = (selL l (t :: tl)).map some) (hgd : ((selL l cs).all fun o => o.guard.isNone) = true)
    (hB : freeB .any l.toArray ps cs p2 m t tl = true) (hQ : ∀ c a d v w, Q (.panic c) (a.put d v) w → Q (.panic c) a w)
    (h : pureW P l.toArray (Cw w) (fun a1 => ∀ ws, Cw w ws → frW P l.toArray Q w mo (selL l (t :: tl)) (selL l cs) (selL l p2) a1 ws) (selL l ps) a) : (Code.region id l.toArray true).wp P Q a w := by
  refine wp_region_any hm ?_
  simp only [freeB, Bool.and_eq_true, decide_eq_true_eq] at hB
  obtain ⟨⟨⟨⟨⟨⟨⟨⟨hsel, hs⟩, hc⟩, hall⟩, htl⟩, hx⟩, hf⟩, hfr⟩, hsz⟩ := hB
  have inv0 : OrdInv .any l.toArray (ps ++ (cs ++ (p2 ++ [m]))) (t :: tl) (Array.replicate l.toArray.size false) := ord_of (fun j oj hj hl e he hb => by
    rw [Array.getD_eq_getD_getElem?, Array.getElem?_replicate] at hl
    split at hl <;> cases hl) (by simp) hall htl
  have hxx : ∀ i ∈ ps ++ (cs ++ (p2 ++ [m])), i ∉ t :: tl := fun i hi hi' => by
    have h1 := List.all_eq_true.1 hx i hi'
    simp only [Bool.not_eq_true', List.contains_eq_mem, decide_eq_false_iff_not] at h1
    exact h1 hi
  have hC0 : Cw w { w with drawn := w.drawn + 1 } := ⟨⟨w.drawn + 1, #[]⟩, by rw [grow_empty]; rfl⟩
  have := any_of_headW (P := P) (ops := l.toArray) (md := .any) (Q := Q) (C := Cw w) (tl := t :: tl) (g := (t :: tl).length) (L := fun listed' a' w' => seqL .any l.toArray (t :: tl) listed' = true ∧ wpList P l.toArray Q (selL l (t :: tl)) a' w') (fun listed' a' w' hL => any_of_seqL (t :: tl) _ listed' a' w' ht hL.1 hL.2) (ps.length + (cs.length + p2.length + 1)) _ _ _ (headW_pure (hd := ps ++ (cs ++ (p2 ++ [m]))) hsel hQ hs hc hxx (fun listed' a' w' hL => seqL_ready hL.1) _ (listed' := setL ps (Array.replicate l.toArray.size false)) (fun a1 w1 hC1 hK1 inv1 =>
      headW_free hsel hQ hs hc hxx hmo hmg (by simp) hp2 (fun i hi => by simp [hi]) cs _ _ a1 w1 hC1 hcs (fun i hi => by simp [hi]) (fun o ho => by have := List.all_eq_true.1 hgd o ho; simpa using this) inv1 hfr (hK1 w1 hC1)) ps (selL l ps) _ a { w with drawn := w.drawn + 1 } hC0 hp (fun i hi => by simp [hi]) inv0 hf rfl h)
  rwa [hsz] at this

end Go.Proofs.Ytmilljlkcbljpaa

/- worst. -/
namespace Go.Proofs.Ytmilljlkcbljpaa
open Go.RowKit Go.Sort

/-- The greatest of three. -/
def mx3 (x y z : Int) : Int := if z > (if y > x then y else x) then z else (if y > x then y else x)
theorem mx3_is (x y z : Int) : x ≤ mx3 x y z ∧ y ≤ mx3 x y z ∧ z ≤ mx3 x y z ∧ (mx3 x y z = x ∨ mx3 x y z = y ∨ mx3 x y z = z) := by
  unfold mx3; split <;> split <;> omega
theorem run_mx3 (ts : Array TypeId) (t : TypeId) (x y z : Int) (w : World) : (Builtin.max_ ts t #[.int .i64 x, .int .i64 y, .int .i64 z]).run Try.prog w = .ok (.int .i64 (mx3 x y z)) w := run_max_int3 w ts t .i64 .i64 .i64 x y z

/-- The error over the first k channels. -/
def wc (a b : Nat → Int) (n : Int) : Nat → Int
  | 0 => n
  | k + 1 => mx3 (wc a b n k) (a k - b k) (b k - a k)
theorem wc_bd {a b : Nat → Int} {n : Int} (ha : InG a) (hb : InG b) (h0 : 0 ≤ n) (h1 : n ≤ 65535) : ∀ k, k ≤ 3 → 0 ≤ wc a b n k ∧ wc a b n k ≤ 65535
  | 0, _ => ⟨h0, h1⟩
  | k + 1, hk => by
    have ih := wc_bd ha hb h0 h1 k (by omega)
    have a1 := ha k (by omega)
    have b1 := hb k (by omega)
    have := mx3_is (wc a b n k) (a k - b k) (b k - a k)
    show 0 ≤ mx3 _ _ _ ∧ mx3 _ _ _ ≤ 65535
    omega
theorem wc_le {a b : Nat → Int} {n : Int} : ∀ k, n ≤ wc a b n k
  | 0 => Int.le_refl _
  | k + 1 => Int.le_trans (wc_le k) (mx3_is (wc a b n k) (a k - b k) (b k - a k)).1
theorem wc_ge {a b : Nat → Int} {n : Int} : ∀ k i, i < k → a i - b i ≤ wc a b n k ∧ b i - a i ≤ wc a b n k
  | 0, i, h => by omega
  | k + 1, i, h => by
    have := mx3_is (wc a b n k) (a k - b k) (b k - a k)
    show a i - b i ≤ mx3 _ _ _ ∧ b i - a i ≤ mx3 _ _ _
    by_cases e : i = k
    · subst e; omega
    · have := wc_ge (a := a) (b := b) (n := n) k i (by omega); omega
/-- The error over the first k colours. -/
def wsV (A B : Nat → Nat → Int) : Nat → Int
  | 0 => 0
  | k + 1 => wc (A k) (B k) (wsV A B k) 3
theorem wsV_bd {A B : Nat → Nat → Int} {n : Nat} (hA : ∀ k, k < n → InG (A k)) (hB : ∀ k, k < n → InG (B k)) : ∀ k, k ≤ n → 0 ≤ wsV A B k ∧ wsV A B k ≤ 65535
  | 0, _ => by show (0 : Int) ≤ 0 ∧ (0 : Int) ≤ 65535; omega
  | k + 1, hk => wc_bd (hA k (by omega)) (hB k (by omega)) (wsV_bd hA hB k (by omega)).1 (wsV_bd hA hB k (by omega)).2 3 (Nat.le_refl _)
theorem wsV_ge {A B : Nat → Nat → Int} : ∀ n k i, k < n → i < 3 → A k i - B k i ≤ wsV A B n ∧ B k i - A k i ≤ wsV A B n
  | 0, k, i, h, _ => by omega
  | n + 1, k, i, h, hi => by
    show A k i - B k i ≤ wc (A n) (B n) (wsV A B n) 3 ∧ B k i - A k i ≤ wc (A n) (B n) (wsV A B n) 3
    by_cases e : k = n
    · subst e; exact wc_ge 3 i hi
    · have := wsV_ge (A := A) (B := B) n k i (by omega) hi
      have h2 := wc_le (a := A n) (b := B n) (n := wsV A B n) 3
      omega

theorem lkV_gam {N n : Nat} {g : Nat → Nat → Int} (hG : GrV N n g) (c : Nat → Int) : InG (lkV N g c) := fun i hi => by
  have := lkS_bd hG c hi
  unfold lkV
  omega

/-- The two answers at colour k. -/
noncomputable def wA (S : Nat → Sp) (n : Nat) (L : Nat → Nat → Int) (k : Nat) : Nat → Int := gam (cnv S (L k) (n - 1))
def wB (N : Nat) (g L : Nat → Nat → Int) (k : Nat) : Nat → Int := lkV N g (L k)
/-- The greatest error of a grid. -/
noncomputable def wstV (S : Nat → Sp) (n N : Nat) (g L : Nat → Nat → Int) (l : Nat) : Int := wsV (wA S n L) (wB N g L) l

set_option maxRecDepth 100000 in
set_option maxHeartbeats 4000000 in
theorem worst_any {n N l m B : Nat} {v vg vl : Value} {S : Nat → Sp} {g L : Nat → Nat → Int} {w : World} (hn1 : 1 ≤ n) (hn : n ≤ 4096) (hl : l ≤ 1000000) (hB : B ≤ w.heap.size) (hc : Chn w B v n S) (hv : ∀ k, k < n → (S k).val = true)
    (hG : GrV N m g) (hg : Cls w B vg m g) (hL : Cls w B vl l L) :
    Calls Try.prog 48 #[v, .agg #[.int .i64 N, vg], vl] w fun e w' => e = .returned (.int .i64 (wstV S n N g L l)) ∧ Below w.heap.size w w' := by
  obtain ⟨w0, h0⟩ : ∃ w0, w.alloc (.cells #[.int .i64 N, vg] 31) = w0 := ⟨_, rfl⟩
  have t1 : Two 31 w0 w.heap.size (.int .i64 N) vg := by rw [← h0]; exact Two.new w _ _ _
  have hb0 : Below w.heap.size w w0 := by rw [← h0]; exact (Below.refl _ _).alloc (Nat.le_refl _) _
  have T1 := Lib.hid t1
  have HC := Lib.hid hc
  have HV := Lib.hid hv
  have HG := Lib.hid hG
  have HGC := Lib.hid hg
  have HL := Lib.hid hL
  have HA : Hid (∀ k, k < l → InG (wA S n L k)) := Lib.hid (fun k _ => InG.of _)
  have HB : Hid (∀ k, k < l → InG (wB N g L k)) := Lib.hid (fun k _ => lkV_gam hG _)
  have hsh := hL.shape
  have hgs := hg.shape
  obtain ⟨al, cl, rfl⟩ := hsh
  obtain ⟨ag, cg, rfl⟩ := hgs
  clear t1 hc hv hG hg hL
  go_enter Try.func48, Try.ntmps48
  go_wp2
  clear h0
  go_loopw [7, 15] (fun e i wr => ∃ k : Nat, k ≤ l ∧ i = .int .i64 k ∧ e = .int .i64 (wsV (wA S n L) (wB N g L) k) ∧ Below w.heap.size w wr ∧ Two 31 wr w.heap.size (.int .i64 N) (.slice ag m cg)) (fun _ i _ => l - (intOf i).toNat)
  case atStart => exact ⟨0, by omega, rfl, rfl, hb0, T1.out⟩
  case round =>
    obtain ⟨k, hk, rfl, rfl, hq, t1⟩ := hrel
    by_cases hlt : k < l
    · have hLr := HL.out.below hq hB
      obtain ⟨lb, lo, lc, e1, e2, e3⟩ := hLr.at (by omega)
      cases e1
      have c0 := e3 k hlt 0 (by omega)
      have c1 := e3 k hlt 1 (by omega)
      have c2 := e3 k hlt 2 (by omega)
      rw [Nat.add_zero] at c0
      have g0 := t1.c0
      have g1 := t1.c1
      have hqs := hq.size
      have i1 : 0 ≤ (k : Int) ∧ (k : Int) < l := by omega
      obtain ⟨w1, h1⟩ : ∃ w1, wr.alloc (.cells #[.int .i64 (L k 0), .int .i64 (L k 1), .int .i64 (L k 2)] 28) = w1 := ⟨_, rfl⟩
      have x1 : Tri 28 w1 wr.heap.size (L k) := by rw [← h1]; exact Tri.new wr (L k) _
      have hb1 : Below wr.heap.size wr w1 := by rw [← h1]; exact (Below.refl _ _).alloc (Nat.le_refl _) _
      have hq1 := hq.trans (hb1.mono hq.size)
      have kl := Lib.hid (look_any (c := L k) (w := w1) HG.out (Nat.le_trans hB hq1.size) (HGC.out.below hq1 hB))
      unfold col at kl
      have y0 := x1.c0
      have y1 := x1.c1
      have y2 := x1.c2
      have q0 : w1.cell? ⟨w.heap.size, 0, none⟩ = some (.int .i64 N) := (t1.on hb1).c0
      have q1 : w1.cell? ⟨w.heap.size, 1, none⟩ = some (.slice ag m cg) := (t1.on hb1).c1
      have X1 := Lib.hid x1
      have U1 := Lib.hid (t1.on hb1)
      clear x1 t1 hLr e3
      go_wp2_with fail
      refine kl.out.mono ?_
      rintro e w2 ⟨rfl, hb2⟩
      have eB : lkV N g (L k) = wB N g L k := rfl
      rw [eB]
      clear eB
      have eA := Lib.hid (show gam (cnv S (L k) (n - 1)) = wA S n L k from rfl)
      obtain ⟨b, hbv⟩ : ∃ b, wB N g L k = b := ⟨_, rfl⟩
      obtain ⟨a, hav⟩ : ∃ a, wA S n L k = a := ⟨_, rfl⟩
      have hGa : InG a := by rw [← hav]; exact HA.out k hlt
      have hGb : InG b := by rw [← hbv]; exact HB.out k hlt
      have hE : wsV (wA S n L) (wB N g L) (k + 1) = wc a b (wsV (wA S n L) (wB N g L) k) 3 := by show wc _ _ _ 3 = _; rw [hav, hbv]
      obtain ⟨E0, hE0⟩ : ∃ E0, wsV (wA S n L) (wB N g L) k = E0 := ⟨_, rfl⟩
      have hE01 : 0 ≤ E0 ∧ E0 ≤ 65535 := by rw [← hE0]; exact wsV_bd HA.out HB.out k hk
      rw [hav] at eA
      rw [hE0] at hE ⊢
      rw [hbv]
      have HE := Lib.hid hE
      have HGA := Lib.hid hGa
      have HGB := Lib.hid hGb
      obtain ⟨w3, h3⟩ : ∃ w3, w2.alloc (.cells #[.int .i64 (b 0), .int .i64 (b 1), .int .i64 (b 2)] 28) = w3 := ⟨_, rfl⟩
      have hb3 : Below w2.heap.size w2 w3 := by rw [← h3]; exact (Below.refl _ _).alloc (Nat.le_refl _) _
      have tb : Tri 28 w3 w2.heap.size b := by rw [← h3]; exact Tri.new w2 b _
      have hb13 : Below w1.heap.size w1 w3 := hb2.trans (hb3.mono hb2.size)
      have hq3 := hq1.trans (hb13.mono hq1.size)
      have X3 := X1.out.on hb13
      have U3 := Lib.hid (U1.out.on hb13)
      have kc := Lib.hid (convert_any (c := L k) (w := w3) hn1 hn (Nat.le_trans hB hq3.size) (HC.out.below hq3 hB) HV.out)
      unfold col at kc
      clear y0 y1 y2 q0 q1 c0 c1 c2 g0 g1 h1 hE hGa hGb hav hbv hE0
      have y0 := X3.c0
      have y1 := X3.c1
      have y2 := X3.c2
      have TB := Lib.hid tb
      clear X3 tb hb2 hb3 hb13
      go_wp2_with fail
      refine kc.out.mono ?_
      rintro e w4 ⟨rfl, hb4⟩
      have TB4 := Lib.hid (TB.out.on hb4)
      have U4 := Lib.hid (U3.out.on hb4)
      have hq4 := hq3.trans (hb4.mono hq3.size)
      have kg := Lib.hid (gamut_any (c := cnv S (L k) (n - 1)) (w := w4))
      rw [eA.out] at kg
      unfold col at kg
      clear y0 y1 y2 h3 hb4
      go_wp2_with fail
      refine kg.out.mono ?_
      rintro e w5 ⟨rfl, hb5⟩
      have TB5 := Lib.hid (TB4.out.on hb5)
      have U5 := Lib.hid (U4.out.on hb5)
      have hq5 := hq4.trans (hb5.mono hq4.size)
      clear hb5
      go_wp2
      go_loopw [7, 26] (fun e i wr => ∃ j : Nat, j ≤ 3 ∧ i = .int .i64 j ∧ e = .int .i64 (wc a b E0 j) ∧ Drawn w5 wr) (fun _ i _ => 3 - (intOf i).toNat)
      case atStart => exact ⟨0, by omega, rfl, rfl, .refl _⟩
      case round =>
        obtain ⟨j, hj, rfl, rfl, hd⟩ := hrel
        by_cases hjl : j < 3
        · have hix := index_col a j hjl
          have cb := (TB5.out.on (hd.below _)).cell j hjl
          have a1 := HGA.out j hjl
          have b1 := HGB.out j hjl
          have e1 := wc_bd HGA.out HGB.out hE01.1 hE01.2 j hj
          have HS := Lib.hid (show wc a b E0 (j + 1) = mx3 (wc a b E0 j) (a j - b j) (b j - a j) from rfl)
          have hmx := fun (ts : Array TypeId) (t : TypeId) (w : World) => run_mx3 ts t (wc a b E0 j) (a j - b j) (b j - a j) w
          generalize mx3 (wc a b E0 j) (a j - b j) (b j - a j) = M at *
          generalize wc a b E0 j = Ej at *
          generalize a j = aj at *
          generalize b j = bj at *
          have i2 : 0 ≤ (j : Int) ∧ (j : Int) < 3 := by omega
          have HD := Lib.hid hd
          clear hd
          go_wp2
          go_quiet (fail)
          go_wp2
          go_roundw
          case rel => exact ⟨j + 1, by omega, by go_num, by rw [HS.out], HD.out.on _⟩
          case measure => simp [intOf]; omega
        · obtain rfl : j = 3 := by omega
          have U6 := Lib.hid (U5.out.on (hd.below _))
          have hq6 := Lib.hid (hq5.trans ((hd.below _).mono hq5.size))
          clear hd
          go_wp2
          go_roundw
          case rel => exact ⟨k + 1, by omega, by go_num, by rw [HE.out], hq6.out, U6.out⟩
          case measure => simp [intOf]; omega
    · obtain rfl : k = l := by omega
      clear t1
      go_wp2
      go_ret
      exact ⟨rfl, hq⟩

end Go.Proofs.Ytmilljlkcbljpaa

/- Worst. -/
namespace Go.Proofs.Ytmilljlkcbljpaa
open Go.RowKit Go.Sort

set_option maxRecDepth 100000 in
set_option maxHeartbeats 2000000 in
theorem Worst_chk {n N l m B : Nat} {v vg vl : Value} {S : Nat → Sp} {g L : Nat → Nat → Int} {w : World} (hn : n ≤ 9223372036854775807) (hB : B ≤ w.heap.size) (hc : Chn w B v n S) (he : chkV n S ≠ 0) (hg : Cls w B vg m g) (hL : Cls w B vl l L) :
    Calls Try.prog 17 #[v, .agg #[.int .i64 N, vg], vl] w fun e w' => e = .returned (.tuple #[.int .i64 0, .int .i64 (chkV n S)]) ∧ Below w.heap.size w w' := by
  obtain ⟨w0, h0⟩ : ∃ w0, w.alloc (.cells #[.int .i64 N, vg] 31) = w0 := ⟨_, rfl⟩
  have hb0 : Below w.heap.size w w0 := by rw [← h0]; exact (Below.refl _ _).alloc (Nat.le_refl _) _
  have kc := Lib.hid (check_any (w := w0) hn (Nat.le_trans hB hb0.size) (hc.below hb0 hB))
  obtain ⟨al, cl, rfl⟩ := hL.shape
  obtain ⟨ag, cg, rfl⟩ := hg.shape
  obtain ⟨E, hE⟩ : ∃ E, chkV n S = E := ⟨_, rfl⟩
  rw [hE] at kc he ⊢
  have e0 : (E != 0) = true := by simpa using he
  clear hc hg hL he hE
  go_enter Try.func17, Try.ntmps17
  go_wp2_with fail
  refine kc.out.mono ?_
  rintro e w1 ⟨rfl, hb1⟩
  have hq := hb0.trans (hb1.mono hb0.size)
  clear h0
  go_wp2
  refine bodyPost_ret (v := .tuple #[.int .i64 0, .int .i64 E]) (by simp [results, Try.results17, go_sem]) rfl ?_
  exact ⟨rfl, hq⟩

set_option maxRecDepth 100000 in
set_option maxHeartbeats 2000000 in
theorem Worst_no {n N l m B : Nat} {v vg vl : Value} {S : Nat → Sp} {g L : Nat → Nat → Int} {w : World} (hn : n ≤ 9223372036854775807) (hN : N ≤ 1000000) (hB : B ≤ w.heap.size) (hc : Chn w B v n S) (he : chkV n S = 0) (hG : ¬ GrV N m g) (hg : Cls w B vg m g) (hL : Cls w B vl l L) :
    Calls Try.prog 17 #[v, .agg #[.int .i64 N, vg], vl] w fun e w' => e = .returned (.tuple #[.int .i64 0, .int .i64 1]) ∧ Below w.heap.size w w' := by
  obtain ⟨w0, h0⟩ : ∃ w0, w.alloc (.cells #[.int .i64 N, vg] 31) = w0 := ⟨_, rfl⟩
  have t1 : Two 31 w0 w.heap.size (.int .i64 N) vg := by rw [← h0]; exact Two.new w _ _ _
  have hb0 : Below w.heap.size w w0 := by rw [← h0]; exact (Below.refl _ _).alloc (Nat.le_refl _) _
  have kc := Lib.hid (check_any (w := w0) hn (Nat.le_trans hB hb0.size) (hc.below hb0 hB))
  have HG := Lib.hid hg
  obtain ⟨al, cl, rfl⟩ := hL.shape
  obtain ⟨ag, cg, rfl⟩ := hg.shape
  have T1 := Lib.hid t1
  rw [he] at kc
  clear hc hg hL he t1
  go_enter Try.func17, Try.ntmps17
  go_wp2_with fail
  refine kc.out.mono ?_
  rintro e w1 ⟨rfl, hb1⟩
  have hq := hb0.trans (hb1.mono hb0.size)
  have t1 := T1.out.on hb1
  have g0 := t1.c0
  have g1 := t1.c1
  have kv := Lib.hid (grid_any (N := N) (w := w1) hN (Nat.le_trans hB hq.size) (HG.out.below hq hB))
  rw [grB_f hG] at kv
  clear h0 t1 hG
  go_wp2_with fail
  refine kv.out.mono ?_
  rintro e w2 ⟨rfl, hb2⟩
  have hq2 := hq.trans (hb2.mono hq.size)
  clear g0 g1
  go_wp2
  refine bodyPost_ret (v := .tuple #[.int .i64 0, .int .i64 1]) (by simp [results, Try.results17, go_sem]) rfl ?_
  exact ⟨rfl, hq2⟩

set_option maxRecDepth 100000 in
set_option maxHeartbeats 2000000 in
theorem Worst_many {n N l m B : Nat} {v vg vl : Value} {S : Nat → Sp} {g L : Nat → Nat → Int} {w : World} (hn : n ≤ 9223372036854775807) (hl : 4096 < l) (hl' : l ≤ 1000000) (hB : B ≤ w.heap.size) (hc : Chn w B v n S) (he : chkV n S = 0) (hG : GrV N m g) (hg : Cls w B vg m g) (hL : Cls w B vl l L) :
    Calls Try.prog 17 #[v, .agg #[.int .i64 N, vg], vl] w fun e w' => e = .returned (.tuple #[.int .i64 0, .int .i64 2]) ∧ Below w.heap.size w w' := by
  obtain ⟨w0, h0⟩ : ∃ w0, w.alloc (.cells #[.int .i64 N, vg] 31) = w0 := ⟨_, rfl⟩
  have t1 : Two 31 w0 w.heap.size (.int .i64 N) vg := by rw [← h0]; exact Two.new w _ _ _
  have hb0 : Below w.heap.size w w0 := by rw [← h0]; exact (Below.refl _ _).alloc (Nat.le_refl _) _
  have kc := Lib.hid (check_any (w := w0) hn (Nat.le_trans hB hb0.size) (hc.below hb0 hB))
  have HG := Lib.hid hg
  obtain ⟨al, cl, rfl⟩ := hL.shape
  obtain ⟨ag, cg, rfl⟩ := hg.shape
  have T1 := Lib.hid t1
  rw [he] at kc
  clear hc hg hL he t1
  go_enter Try.func17, Try.ntmps17
  go_wp2_with fail
  refine kc.out.mono ?_
  rintro e w1 ⟨rfl, hb1⟩
  have hq := hb0.trans (hb1.mono hb0.size)
  have t1 := T1.out.on hb1
  have g0 := t1.c0
  have g1 := t1.c1
  have kv := Lib.hid (grid_any (N := N) (w := w1) (by have := hG.2.1; omega) (Nat.le_trans hB hq.size) (HG.out.below hq hB))
  rw [grB_t hG] at kv
  have dl : decide (4096 < (l : Int)) = true := decide_eq_true (by omega)
  clear h0 t1 hG
  go_wp2_with fail
  refine kv.out.mono ?_
  rintro e w2 ⟨rfl, hb2⟩
  have hq2 := hq.trans (hb2.mono hq.size)
  clear g0 g1
  go_wp2
  refine bodyPost_ret (v := .tuple #[.int .i64 0, .int .i64 2]) (by simp [results, Try.results17, go_sem]) rfl ?_
  exact ⟨rfl, hq2⟩

set_option maxRecDepth 100000 in
set_option maxHeartbeats 2000000 in
theorem Worst_yes {n N l m B : Nat} {v vg vl : Value} {S : Nat → Sp} {g L : Nat → Nat → Int} {w : World} (hn : n ≤ 9223372036854775807) (hl : l ≤ 4096) (hB : B ≤ w.heap.size) (hc : Chn w B v n S) (he : chkV n S = 0) (hG : GrV N m g) (hg : Cls w B vg m g) (hL : Cls w B vl l L) :
    Calls Try.prog 17 #[v, .agg #[.int .i64 N, vg], vl] w fun e w' => e = .returned (.tuple #[.int .i64 (wstV S n N g L l), .int .i64 0]) ∧ Below w.heap.size w w' := by
  obtain ⟨w0, h0⟩ : ∃ w0, w.alloc (.cells #[.int .i64 N, vg] 31) = w0 := ⟨_, rfl⟩
  have t1 : Two 31 w0 w.heap.size (.int .i64 N) vg := by rw [← h0]; exact Two.new w _ _ _
  have hb0 : Below w.heap.size w w0 := by rw [← h0]; exact (Below.refl _ _).alloc (Nat.le_refl _) _
  have kc := Lib.hid (check_any (w := w0) hn (Nat.le_trans hB hb0.size) (hc.below hb0 hB))
  have HG := Lib.hid hg
  have HC := Lib.hid hc
  have HL := Lib.hid hL
  have HGV := Lib.hid hG
  obtain ⟨k1, k2, k3⟩ := chkV_ok he
  have HK := Lib.hid k3
  obtain ⟨al, cl, rfl⟩ := hL.shape
  obtain ⟨ag, cg, rfl⟩ := hg.shape
  have T1 := Lib.hid t1
  rw [he] at kc
  clear hc hg hL he t1 k3
  go_enter Try.func17, Try.ntmps17
  go_wp2_with fail
  refine kc.out.mono ?_
  rintro e w1 ⟨rfl, hb1⟩
  have hq := hb0.trans (hb1.mono hb0.size)
  have t1 := T1.out.on hb1
  have T2 := Lib.hid t1
  have g0 := t1.c0
  have g1 := t1.c1
  have kv := Lib.hid (grid_any (N := N) (w := w1) (by have := hG.2.1; omega) (Nat.le_trans hB hq.size) (HG.out.below hq hB))
  rw [grB_t hG] at kv
  have dl : decide (4096 < (l : Int)) = false := decide_eq_false (by omega)
  clear h0 t1 hG
  go_wp2_with fail
  refine kv.out.mono ?_
  rintro e w2 ⟨rfl, hb2⟩
  have hq2 := hq.trans (hb2.mono hq.size)
  have t2 := T2.out.on hb2
  clear g0 g1
  have g0 := t2.c0
  have g1 := t2.c1
  have kw := Lib.hid (worst_any (w := w2) (by omega) (by omega) (by omega) (Nat.le_trans hB hq2.size) (HC.out.below hq2 hB) HK.out HGV.out (HG.out.below hq2 hB) (HL.out.below hq2 hB))
  clear t2
  go_wp2_with fail
  refine kw.out.mono ?_
  rintro e w3 ⟨rfl, hb3⟩
  have hq3 := hq2.trans (hb3.mono hq2.size)
  clear g0 g1
  go_wp2
  refine bodyPost_ret (v := .tuple #[.int .i64 (wstV S n N g L l), .int .i64 0]) (by simp [results, Try.results17, go_sem]) rfl ?_
  exact ⟨rfl, hq3⟩

end Go.Proofs.Ytmilljlkcbljpaa

/- The reference: Grid, look, Look. -/
namespace Go.Proofs.Ytmilljlkcbljpaa
open Go.RowKit Go.Sort

set_option maxRecDepth 100000 in
set_option maxHeartbeats 2000000 in
theorem refGrid_any {N n B : Nat} {v : Value} {g : Nat → Nat → Int} {w : World} (hN : N ≤ 1000000) (hB : B ≤ w.heap.size) (hv : Cls w B v n g) :
    Calls Try.prog 49 #[.agg #[.int .i64 N, v]] w fun e w' => e = .returned (.bool (grB N n g)) ∧ Below w.heap.size w w' := by
  obtain ⟨a, cap, rfl⟩ := hv.shape
  have hb := (Below.refl w.heap.size w).alloc (Nat.le_refl _) (.cells #[.int .i64 (N : Int), .slice a n cap] 31)
  have t1 := Two.new w (.int .i64 (N : Int)) (.slice a n cap) 31
  obtain ⟨w0, h0⟩ : ∃ w0, w.alloc (.cells #[.int .i64 (N : Int), .slice a n cap] 31) = w0 := ⟨_, rfl⟩
  rw [h0] at hb t1
  have T1 := Lib.hid t1
  have c0 := t1.c0
  have c1 := t1.c1
  clear t1
  by_cases h1 : N < 2
  · have d1 : decide ((N : Int) < 2) = true := decide_eq_true (by omega)
    have E := Lib.hid (grB_f (n := n) (g := g) fun h : GrV N n g => by have := h.1; omega)
    clear hv
    go_enter Try.func49, Try.ntmps49
    go_wp2
    go_ret
    exact ⟨ret_bool E.out.symm, hb⟩
  · have d1 : decide ((N : Int) < 2) = false := decide_eq_false (by omega)
    by_cases h2 : 17 < N
    · have d2 : decide (17 < (N : Int)) = true := decide_eq_true (by omega)
      have E := Lib.hid (grB_f (n := n) (g := g) fun h : GrV N n g => by have := h.2.1; omega)
      clear hv
      go_enter Try.func49, Try.ntmps49
      go_wp2
      go_ret
      exact ⟨ret_bool E.out.symm, hb⟩
    · have d2 : decide (17 < (N : Int)) = false := decide_eq_false (by omega)
      obtain ⟨q1, q2, q3, q4⟩ := cube_bd (m := N) (by omega) (by omega)
      obtain ⟨M, hM⟩ : ∃ M, M = N * N * N := ⟨_, rfl⟩
      have n1 : (N : Int) * (N : Int) * (N : Int) = (M : Int) := by rw [hM]; simp
      have n2 : 4 ≤ (N : Int) * (N : Int) ∧ (N : Int) * (N : Int) ≤ 289 := by
        have : (N : Int) * (N : Int) = ((N * N : Nat) : Int) := by simp
        omega
      rw [← hM] at q1 q2
      by_cases h3 : n = M
      · have d3 : ((n : Int) != (M : Int)) = false := by simp [h3]
        obtain ⟨b, off, cap', hs, hbB, hcs⟩ := hv.at (by omega)
        cases hs
        have E := Lib.hid (fun h : ∀ k, k < n → InG (g k) => grB_t (N := N) (n := n) (g := g) ⟨by omega, by omega, by rw [h3, hM], h⟩)
        have E' := Lib.hid (fun (h : ¬ ∀ k, k < n → InG (g k)) => grB_f (N := N) (n := n) (g := g) fun hG => h hG.2.2.2)
        have HC := Lib.hid (hcs.below hb (by omega))
        have hb0 : b < w0.heap.size := by have := hb.size; omega
        have hn' : n ≤ 4913 := by omega
        clear hv hcs hM h3
        go_enter Try.func49, Try.ntmps49
        go_wp2
        clear h0 c0 c1
        go_loopw [3] (fun i wr => ∃ k : Nat, k ≤ n ∧ i = .int .i64 k ∧ Hid (∀ j, j < k → InG (g j)) ∧ Below w0.heap.size w0 wr) (fun i _ => n - (intOf i).toNat)
        case atStart => exact ⟨0, by omega, rfl, Lib.hid (fun j hj => by omega), Below.refl _ _⟩
        case round =>
          obtain ⟨k, hk, rfl, hg, hq⟩ := hrel
          have t1 := T1.out.on hq
          by_cases hlt : k < n
          · have hck := HC.out.below hq hb0 k hlt
            have s0 : wr.cell? ⟨b, off + k * 3, none⟩ = some (.int .i64 (g k 0)) := hck 0 (by omega)
            have s1 := hck 1 (by omega)
            have s2 := hck 2 (by omega)
            have i1 : 0 ≤ (k : Int) ∧ (k : Int) < n := by omega
            have c1 := t1.c1
            have a0 := cell_regrown s0
            have a1 := cell_regrown s1
            have a2 := cell_regrown s2
            have a3 := cell_regrown t1.c1
            have kg := Lib.hid (Calls.grown_of (w := wr) (f := 71) fun W hW => refGamut_any (c := g k) (w := W))
            have heq := neq_col (g k) (gam (g k))
            cases hV : eqB (g k) (gam (g k)) with
            | true =>
              rw [hV] at heq
              have hg' : Hid (∀ j, j < k + 1 → InG (g j)) := Lib.hid (fun j hj => by
                by_cases e : j = k
                · subst e; exact of_eq_gam hV
                · exact hg.out j (by omega))
              unfold col at kg heq
              clear hV t1 s0 s1 s2 hck hg
              go_wp2
              refine wp_region_quiet_below (by kernel_rfl) (by kernel_rfl) ?_
              repeat (go_big_quiet_step (exact kg.out _ _))
              refine wpQuiet_nil ?_
              intro w1 hw1
              replace hw1 := below_of_regrown hw1
              clear a0 a1 a2 a3 c1
              go_wp2
              go_roundw
              case rel => exact ⟨k + 1, by omega, by go_num, hg', hq.trans (hw1.mono hq.size)⟩
              case measure => simp [intOf]; omega
            | false =>
              rw [hV] at heq
              have E2 := E'.out fun h => by rw [eq_gam_t (h k hlt)] at hV; cases hV
              have E3 := Lib.hid E2
              unfold col at kg heq
              clear hV t1 s0 s1 s2 hck hg E2
              go_wp2
              refine wp_region_quiet_below (by kernel_rfl) (by kernel_rfl) ?_
              repeat (go_big_quiet_step (exact kg.out _ _))
              refine wpQuiet_nil ?_
              intro w1 hw1
              replace hw1 := below_of_regrown hw1
              clear a0 a1 a2 a3 c1
              go_wp2
              go_ret
              exact ⟨ret_bool E3.out.symm, hb.trans ((hq.trans (hw1.mono hq.size)).mono hb.size)⟩
          · obtain rfl : k = n := by omega
            have c1 := t1.c1
            have E2 := Lib.hid (E.out hg.out)
            clear t1 hg
            go_wp2
            go_ret
            exact ⟨ret_bool E2.out.symm, hb.trans (hq.mono hb.size)⟩
      · have d3 : ((n : Int) != (M : Int)) = true := by simp; omega
        have E := Lib.hid (grB_f (n := n) (g := g) fun h : GrV N n g => h3 (by rw [h.2.2.1, hM]))
        clear hv hM h3
        go_enter Try.func49, Try.ntmps49
        go_wp2
        go_ret
        exact ⟨ret_bool E.out.symm, hb⟩


/-- One step of the bubble sort, and its steps. -/
def bst (o : Nat → Int) (p : Nat → Nat) (k : Nat) : Nat → Nat := if o (p k) < o (p (k + 1)) then swp p (k + 1) else p
def bub (o : Nat → Int) : Nat → (Nat → Nat)
  | 0 => fun k => k
  | n + 1 => bst o (bub o n) (n % 2)
theorem bst_t {o : Nat → Int} {p : Nat → Nat} {k : Nat} (h : o (p k) < o (p (k + 1))) : bst o p k = swp p (k + 1) := if_pos h
theorem bst_f {o : Nat → Int} {p : Nat → Nat} {k : Nat} (h : ¬ o (p k) < o (p (k + 1))) : bst o p k = p := if_neg h
theorem bub_ok (o : Nat → Int) : ∀ n, AxOk (bub o n)
  | 0 => fun _ h => h
  | n + 1 => by
    show AxOk (bst o (bub o n) (n % 2))
    by_cases h : o (bub o n (n % 2)) < o (bub o n (n % 2 + 1))
    · rw [bst_t h]; exact (bub_ok o n).swp (by omega)
    · rw [bst_f h]; exact bub_ok o n
theorem bub_axo (o : Nat → Int) : bub o 3 = axo o := by
  have e3 : bub o 3 = bst o (bst o (bub o 1) 1) 0 := rfl
  have ea : axo o = sft o (bub o 1) 2 := rfl
  have e1 : bub o 1 = bst o (fun k => k) 0 := rfl
  by_cases h : o (bub o 1 1) < o (bub o 1 2)
  · rw [e3, ea, bst_t h, sft_t h]; rfl
  · rw [e3, ea, bst_f h, sft_f h, bst_f]
    rw [e1]
    by_cases h1 : o 0 < o 1
    · rw [bst_t (p := fun k => k) (k := 0) h1]
      show ¬ o (swp (fun k => k) 1 0) < o (swp (fun k => k) 1 1)
      simp [swp]; omega
    · rw [bst_f (p := fun k => k) (k := 0) h1]; exact h1


theorem Tri.swap' {t : TypeId} {w : World} {b : Nat} {y : Nat → Nat} (h : Tri t w b (axs y)) {j : Nat} (hj : j + 1 < 3) :
    Tri t ((w.setCell ⟨b, j, none⟩ (.int .i64 (y (j + 1) : Nat))).setCell ⟨b, j + 1, none⟩ (.int .i64 (y j : Nat))) b (axs (swp y (j + 1))) := by
  have h1 := h.set (j := j) (d := fun k => if k = j then (y (j + 1) : Nat) else axs y k) (v := (y (j + 1) : Nat)) (by omega) (by simp) (fun i hi => by simp [hi])
  exact h1.set (j := j + 1) (d := axs (swp y (j + 1))) (v := (y j : Nat)) (by omega) (by simp [axs, swp]) (fun i hi => by
    by_cases e : i = j
    · subst e; simp [axs, swp]
    · simp [axs, swp, e, hi])

/-- The sum of the reference after k rounds. -/
def sx (N : Nat) (g : Nat → Nat → Int) (c : Nat → Int) (k i : Nat) : Int := if k = 4 then lkS N g c i else smV N (lkA N c) (lkO N c) g k i
def mixf (f h : Nat → Int) (q i : Nat) : Int := if i < q then h i else f i
theorem mixf_step {t : TypeId} {w : World} {b q : Nat} {f h : Nat → Int} {v : Int} (T : Tri t w b (mixf f h q)) (hq : q < 3) (hv : h q = v) : Tri t (w.setCell ⟨b, q, none⟩ (.int .i64 v)) b (mixf f h (q + 1)) :=
  T.set hq (by unfold mixf; rw [if_pos (by omega), hv]) (fun i hi => by unfold mixf; by_cases e : i < q <;> simp [e] <;> omega)

set_option maxRecDepth 100000 in
set_option maxHeartbeats 8000000 in
theorem refLook1_any {N n B : Nat} {v : Value} {g : Nat → Nat → Int} {c : Nat → Int} {w : World} (hG : GrV N n g) (hB : B ≤ w.heap.size) (hv : Cls w B v n g) :
    Calls Try.prog 54 #[.agg #[.int .i64 N, v], col c] w fun e w' => e = .returned (col (lkV N g c)) ∧ Below w.heap.size w w' := by
  have hn8 : 8 ≤ n := by rw [hG.2.2.1]; exact (cube_bd hG.1 hG.2.1).1
  have hn49 : n ≤ 4913 := by rw [hG.2.2.1]; exact (cube_bd hG.1 hG.2.1).2.1
  obtain ⟨gb, go, cap, rfl, hgb, hcc⟩ := hv.at (by omega)
  have HC := Lib.hid hcc
  have hgw : gb < w.heap.size := by omega
  obtain ⟨w0, h0, hb0, hz, t1, t2, t3⟩ := lookB_new w N (.slice (some ⟨gb, go, none⟩) n cap) c 31 28
  have T1 := Lib.hid t1
  have T2 := Lib.hid t2
  have T3 := Lib.hid t3
  have Z := Lib.hid hz
  have HG := Lib.hid hG
  have hN := hG.1
  have hN' := hG.2.1
  have d0 := t2.c0
  have d1 := t2.c1
  have d2 := t2.c2
  clear t1 t2 t3 hz hG hv hcc hgb
  unfold col
  go_enter Try.func54, Try.ntmps54
  go_wp2_with fail
  refine (refGamut_any (c := c)).mono ?_
  unfold col
  rintro e w1 ⟨rfl, hb1⟩
  have hq := hb0.trans (hb1.mono hb0.size)
  have hz1 : w.heap.size + 3 ≤ w1.heap.size := by have := hb1.size; have := Z.out; omega
  have t1 := T1.out.on hb1
  have t2 := T2.out.on hb1
  have t3 := T3.out.on hb1
  have x0 := t2.c0
  have x1 := t2.c1
  have x2 := t2.c2
  have y0 := t2.free 0
  have y1 := t2.free 1
  have y2 := t2.free 2
  obtain ⟨w2, h2⟩ : ∃ w2, ((w1.setCell ⟨w.heap.size + 1, 0, none⟩ (.int .i64 (gam c 0))).setCell ⟨w.heap.size + 1, 1, none⟩ (.int .i64 (gam c 1))).setCell ⟨w.heap.size + 1, 2, none⟩ (.int .i64 (gam c 2)) = w2 := ⟨_, rfl⟩
  have hz2 : w2.heap.size = w1.heap.size := by rw [← h2]; simp
  have U1 : Two 31 w2 w.heap.size (.int .i64 N) (.slice (some ⟨gb, go, none⟩) n cap) := by rw [← h2]; exact ((t1.keep (by omega)).keep (by omega)).keep (by omega)
  have U2 : Tri 28 w2 (w.heap.size + 1) (gam c) := by rw [← h2]; exact t2.set3 (gam c)
  have U3 : Tri 28 w2 (w.heap.size + 1 + 1) (fun _ => 0) := by rw [← h2]; exact ((t3.keep (by omega)).keep (by omega)).keep (by omega)
  have hq2 : Below w.heap.size w w2 := by rw [← h2]; exact set3_below hq (by omega) _ _ _
  obtain ⟨w3, h3⟩ : ∃ w3, w2.alloc (.cells #[.int .i64 0, .int .i64 0, .int .i64 0] 27) = w3 := ⟨_, rfl⟩
  have t4 : Tri 27 w3 w1.heap.size (fun _ => 0) := by rw [← h3, ← hz2]; exact Tri.new w2 (fun _ => 0) _
  have hb3 : Below w2.heap.size w2 w3 := by rw [← h3]; exact (Below.refl _ _).alloc (Nat.le_refl _) _
  obtain ⟨w4, h4⟩ : ∃ w4, w3.alloc (.cells #[.int .i64 0, .int .i64 0, .int .i64 0] 27) = w4 := ⟨_, rfl⟩
  have t5 : Tri 27 w4 w3.heap.size (fun _ => 0) := by rw [← h4]; exact Tri.new w3 (fun _ => 0) _
  have hb4 : Below w3.heap.size w3 w4 := by rw [← h4]; exact (Below.refl _ _).alloc (Nat.le_refl _) _
  have hb24 : Below w2.heap.size w2 w4 := hb3.trans (hb4.mono hb3.size)
  have hq4 := hq2.trans (hb24.mono hq2.size)
  have P1 := Lib.hid (U1.on hb24)
  have P2 := Lib.hid (U2.on hb24)
  have P3 := Lib.hid (U3.on hb24)
  have P4 : Hid (Tri 27 w4 w1.heap.size (upto (fun i => (lkA N c i : Int)) 0)) := Lib.hid ((t4.on hb4).congr rfl rfl rfl)
  have P5 : Hid (Tri 27 w4 w3.heap.size (upto (lkO N c) 0)) := Lib.hid (t5.congr rfl rfl rfl)
  have l1 : w.heap.size < w1.heap.size := by omega
  have l2 : w.heap.size + 1 < w1.heap.size := by omega
  have l3 : w.heap.size + 1 + 1 < w1.heap.size := by omega
  have l4 : w1.heap.size < w3.heap.size := t4.lt
  have hgam : ∀ k, k < 3 → 0 ≤ gam c k ∧ gam c k ≤ 65535 := fun k _ => clm_bd (by omega) (c k)
  clear t1 t2 t3 t4 t5 U1 U2 U3 d0 d1 d2 hb0 hb1 hb3 hb4 hb24 h0 hq hq2
  go_wp2
  clear h2 h3 h4 x0 x1 x2 y0 y1 y2 hz2
  go_loopw [7] (fun i wr => ∃ k : Nat, k ≤ 3 ∧ i = .int .i64 k ∧ Tri 27 wr w1.heap.size (upto (fun i => (lkA N c i : Int)) k) ∧ Tri 27 wr w3.heap.size (upto (lkO N c) k) ∧ Below w1.heap.size w4 wr) (fun i _ => 3 - (intOf i).toNat)
  case atStart => exact ⟨0, by omega, rfl, P4.out, P5.out, Below.refl _ _⟩
  case round =>
    obtain ⟨k, hk, rfl, t4, t5, hb⟩ := hrel
    by_cases hlt : k < 3
    · have t1 := P1.out.below hb l1
      have t2 := P2.out.below hb l2
      have hg := hgam k hlt
      have hA0 := lkA_int hN c k
      have hO0 : lkO N c k = gam c k * ((N : Int) - 1) - 65535 * (lkA N c k : Int) := rfl
      obtain ⟨g1, g2, g3⟩ := lk_bd hN hN' c k
      have c2 := t2.cell k hlt
      obtain ⟨V, hV⟩ : ∃ V, gam c k = V := ⟨_, rfl⟩
      obtain ⟨A, hA⟩ : ∃ A : Nat, lkA N c k = A := ⟨_, rfl⟩
      rw [hV] at hg hA0 hO0 c2
      rw [hA] at hA0 hO0 g1
      have hmn : ∀ (ts : Array TypeId) (t : TypeId) (w : World), (Builtin.min_ ts t #[.int .i64 (V * ((N : Int) - 1) / 65535), .int .i64 ((N : Int) - 2)]).run Try.prog w = .ok (.int .i64 (A : Int)) w := fun ts t w => by rw [run_min_int2 w ts t, hA0]
      obtain ⟨p1, p2⟩ := mul_bd (a := V) (A := 65535) (b := (N : Int) - 1) (B := 16) hg.1 hg.2 (by omega) (by omega)
      have i1 : 0 ≤ (k : Int) ∧ (k : Int) < 3 := by omega
      have r1 := cell_regrown t1.c0
      have r2 := cell_regrown c2
      have Q1 := Lib.hid t1
      have Q2 := Lib.hid t2
      have Q4 := Lib.hid t4
      have Q5 := Lib.hid t5
      have HO := Lib.hid hO0
      have HAk := Lib.hid hA
      have HVk := Lib.hid hV
      have hl23 : w1.heap.size < wr.heap.size := t4.lt
      clear t1 t2 t4 t5 hA0 hO0 hA hV c2
      go_wp2
      refine region_below_tail 14 (by kernel_rfl) (by kernel_rfl) ?_
      simp only [List.take_succ_cons, List.take_zero, List.drop_succ_cons, List.drop_zero]
      repeat (go_big_quiet_step (fail))
      refine wpQuiet_nil ?_
      intro w5 hw5
      replace hw5 := below_of_regrown hw5
      have t1 := Q1.out.on hw5
      have t2 := Q2.out.on hw5
      have t4 := Q4.out.on hw5
      have t5 := Q5.out.on hw5
      have c4 := t4.cell k hlt
      have f4 := t4.free k
      obtain ⟨w6, h6⟩ : ∃ w6, w5.setCell ⟨w1.heap.size, k, none⟩ (.int .i64 (A : Int)) = w6 := ⟨_, rfl⟩
      have u1 : Two 31 w6 w.heap.size (.int .i64 N) (.slice (some ⟨gb, go, none⟩) n cap) := by rw [← h6]; exact t1.keep (by omega)
      have u2 : Tri 28 w6 (w.heap.size + 1) (gam c) := by rw [← h6]; exact t2.keep (by omega)
      have u4 : Tri 27 w6 w1.heap.size (upto (fun i => (lkA N c i : Int)) (k + 1)) := by
        have := upto_step t4 hlt
        simp only [HAk.out] at this
        rw [h6] at this
        exact this
      have u5 : Tri 27 w6 w3.heap.size (upto (lkO N c) k) := by rw [← h6]; exact t5.keep (by omega)
      have e4 : w6.cell? ⟨w1.heap.size, k, none⟩ = some (.int .i64 (A : Int)) := by
        have := u4.cell k hlt
        rw [show upto (fun i => (lkA N c i : Int)) (k + 1) k = (A : Int) by unfold upto; rw [if_pos (by omega)]; exact congrArg (fun x : Nat => (x : Int)) HAk.out] at this
        exact this
      have e2 := u2.cell k hlt
      rw [HVk.out] at e2
      have hb6 : Below w1.heap.size w4 w6 := by rw [← h6]; exact (hb.trans (hw5.mono (by omega))).setCell (p := ⟨w1.heap.size, k, none⟩) (Nat.le_refl _) _
      have s1 := cell_regrown u1.c0
      have s2 := cell_regrown e2
      have s4 := cell_regrown e4
      have R4 := Lib.hid u4
      have R5 := Lib.hid u5
      have hl26 : w1.heap.size < w6.heap.size := u4.lt
      clear r1 r2 t1 t2 t4 t5 u1 u2 u4 u5 e2 e4
      go_wp2
      clear h6 c4 f4
      refine region_below_tail 14 (by kernel_rfl) (by kernel_rfl) ?_
      simp only [List.take_succ_cons, List.take_zero, List.drop_succ_cons, List.drop_zero]
      repeat (go_big_quiet_step (fail))
      refine wpQuiet_nil ?_
      intro w7 hw7
      replace hw7 := below_of_regrown hw7
      have t4 := R4.out.on hw7
      have t5 := R5.out.on hw7
      have c5 := t5.cell k hlt
      have f5 := t5.free k
      have S4 := Lib.hid t4
      have S5 := Lib.hid (upto_step t5 hlt)
      have hb7 := hb6.trans (hw7.mono (by omega))
      clear s1 s2 s4 t4 t5
      go_wp2
      go_roundw
      case rel => exact ⟨k + 1, by omega, by go_num, S4.out.keep (by omega), by rw [← HO.out]; exact S5.out, hb7.setCell (p := ⟨w3.heap.size, k, none⟩) (by simp; omega) _⟩
      case measure => simp [intOf]; omega
    · obtain rfl : k = 3 := by omega
      obtain ⟨wo, rfl⟩ : ∃ wo : World, wo = wr := ⟨_, rfl⟩
      have hqo := hq4.trans (hb.mono (by have := hq4.size; omega))
      have X1 := Lib.hid (P1.out.below hb l1)
      have X3 := Lib.hid (P3.out.below hb l3)
      have X4 := Lib.hid (upto_3 t4)
      have X5 := Lib.hid (upto_3 t5)
      have l5 : w3.heap.size < wo.heap.size := t5.lt
      obtain ⟨w6, h6⟩ : ∃ w6, wo.alloc (.cells #[.int .i64 0, .int .i64 1, .int .i64 2] 27) = w6 := ⟨_, rfl⟩
      have tx : Tri 27 w6 wo.heap.size (axs (bub (lkO N c) 0)) := by rw [← h6]; exact Tri.new wo (fun k => (k : Int)) 27
      have hb6 : Below wo.heap.size wo w6 := by rw [← h6]; exact (Below.refl _ _).alloc (Nat.le_refl _) _
      have hq6 := hqo.trans (hb6.mono hqo.size)
      have Y1 := Lib.hid (X1.out.on hb6)
      have Y3 := Lib.hid (X3.out.on hb6)
      have Y4 := Lib.hid (X4.out.on hb6)
      have Y5 := Lib.hid (X5.out.on hb6)
      have YX := Lib.hid tx
      clear t4 t5 tx hb hqo hb6 P1 P2 P3 P4 P5
      go_wp2
      clear h6
      go_loopw [9] (fun i wr => ∃ (j m : Nat), i = .int .i64 j ∧ ((j = 0 ∧ m = 0) ∨ (j = 1 ∧ m = 2) ∨ (j = 2 ∧ m = 3)) ∧ Tri 27 wr wo.heap.size (axs (bub (lkO N c) m)) ∧ Below wo.heap.size w6 wr) (fun i _ => 2 - (intOf i).toNat)
      case atStart => exact ⟨0, 0, rfl, by omega, YX.out, Below.refl _ _⟩
      case round =>
        obtain ⟨j, m, rfl, hjm, tx, hb⟩ := hrel
        by_cases hj : j < 2
        · obtain ⟨wm, rfl⟩ : ∃ wm : World, wm = wr := ⟨_, rfl⟩
          have TX := Lib.hid tx
          clear tx
          go_wp2
          go_loopw [10] (fun i wr => ∃ k : Nat, k ≤ 2 - j ∧ i = .int .i64 k ∧ Tri 27 wr wo.heap.size (axs (bub (lkO N c) (m + k))) ∧ Below wo.heap.size w6 wr) (fun i _ => 2 - (intOf i).toNat)
          case atStart => exact ⟨0, by omega, rfl, TX.out, hb⟩
          case round =>
            obtain ⟨k, hk, rfl, tx, hb2⟩ := hrel
            by_cases hl : k < 2 - j
            · have t5 := Y5.out.below hb2 l5
              have hmod : (m + k) % 2 = k := by omega
              have hstep : bub (lkO N c) (m + k + 1) = bst (lkO N c) (bub (lkO N c) (m + k)) k := by
                show bst _ _ ((m + k) % 2) = _
                rw [hmod]
              have hok := bub_ok (lkO N c) (m + k)
              obtain ⟨p, hp⟩ : ∃ p, bub (lkO N c) (m + k) = p := ⟨_, rfl⟩
              rw [hp] at hstep hok tx
              have HS := Lib.hid hstep
              have TX := Lib.hid tx
              have a3 := hok k (by omega)
              have b3 := hok (k + 1) (by omega)
              have cx : wr.cell? ⟨wo.heap.size, k, none⟩ = some (.int .i64 ((p k : Nat) : Int)) := tx.cell k (by omega)
              have cy : wr.cell? ⟨wo.heap.size, k + 1, none⟩ = some (.int .i64 ((p (k + 1) : Nat) : Int)) := tx.cell (k + 1) (by omega)
              have ca := t5.cell (p k) a3
              have cb := t5.cell (p (k + 1)) b3
              have hsw := fun (W : World) (h : Tri 27 W wo.heap.size (axs p)) => h.swap' (j := k) (by omega)
              have HSW := Lib.hid hsw
              have i1 : 0 ≤ (k : Int) ∧ (k : Int) + 1 < 3 := by omega
              have i2 : 0 ≤ ((p k : Nat) : Int) ∧ ((p k : Nat) : Int) < 3 := by omega
              have i3 : 0 ≤ ((p (k + 1) : Nat) : Int) ∧ ((p (k + 1) : Nat) : Int) < 3 := by omega
              have hgo : ∀ W : World, Tri 27 W wo.heap.size (axs p) → W.cell? ⟨wo.heap.size, k, none⟩ = some (.int .i64 ((p k : Nat) : Int)) ∧ W.cell? ⟨wo.heap.size, k + 1, none⟩ = some (.int .i64 ((p (k + 1) : Nat) : Int)) := fun W h => ⟨h.cell k (by omega), h.cell (k + 1) (by omega)⟩
              have HGO := Lib.hid hgo
              have f0 := tx.free k
              have f1 := tx.free (k + 1)
              clear tx t5 hok hstep hp hsw hmod hgo
              by_cases hc : lkO N c (p k) < lkO N c (p (k + 1))
              · have E := Lib.hid (HS.out.trans (bst_t hc))
                have dc : decide (lkO N c (p k) < lkO N c (p (k + 1))) = true := decide_eq_true hc
                clear hc
                go_wp2
                go_quiet (fail)
                go_wp2
                go_roundw
                case rel => exact ⟨k + 1, by omega, by go_num, by rw [← Nat.add_assoc, E.out]; exact HSW.out _ (TX.out.on ((Drawn.of _).below _)), ((below_drewN hb2 _).setCell (p := ⟨wo.heap.size, k, none⟩) (Nat.le_refl _) _).setCell (p := ⟨wo.heap.size, k + 1, none⟩) (Nat.le_refl _) _⟩
                case measure => simp [intOf]; omega
              · have E := Lib.hid (HS.out.trans (bst_f hc))
                have dc : decide (lkO N c (p k) < lkO N c (p (k + 1))) = false := decide_eq_false hc
                clear hc
                go_wp2
                go_quiet (fail)
                go_wp2
                go_roundw
                case rel => exact ⟨k + 1, by omega, by go_num, by rw [← Nat.add_assoc, E.out]; exact TX.out.on ((Drawn.of _).below _), below_drewN hb2 _⟩
                case measure => simp [intOf]; omega
            · obtain rfl : k = 2 - j := by omega
              have TX := Lib.hid tx
              clear tx
              go_wp2
              go_roundw
              case rel => exact ⟨j + 1, m + (2 - j), by go_num, by omega, TX.out, hb2⟩
              case measure => simp [intOf]; omega
        · obtain ⟨rfl, rfl⟩ : j = 2 ∧ m = 3 := by omega
          obtain ⟨wp, rfl⟩ : ∃ wp : World, wp = wr := ⟨_, rfl⟩
          have hqp := hq6.trans (hb.mono (by have := hq6.size; omega))
          rw [bub_axo] at tx
          obtain ⟨w7, h7⟩ : ∃ w7, wp.alloc (.cells #[.int .i64 0, .int .i64 0, .int .i64 0] 27) = w7 := ⟨_, rfl⟩
          have ts : Tri 27 w7 wp.heap.size (fun _ => 0) := by rw [← h7]; exact Tri.new wp (fun _ => 0) _
          have hb7 : Below wp.heap.size wp w7 := by rw [← h7]; exact (Below.refl _ _).alloc (Nat.le_refl _) _
          have hq7 := hqp.trans (hb7.mono hqp.size)
          have l6 : wo.heap.size < wp.heap.size := tx.lt
          have Z1 := Lib.hid ((Y1.out.below hb (by omega)).on hb7)
          have Z3 := Lib.hid ((Y3.out.below hb (by omega)).on hb7)
          have Z4 : Hid (Tri 27 w7 w1.heap.size (axs (psn (lkA N c) (lkO N c) 0))) := Lib.hid (((Y4.out.below hb (by omega)).on hb7).congr rfl rfl rfl)
          have Z5 := Lib.hid ((Y5.out.below hb l5).on hb7)
          have ZX := Lib.hid (tx.on hb7)
          have Z6 : Hid (Tri 27 w7 wp.heap.size (sx N g c 0)) := Lib.hid (ts.congr rfl rfl rfl)
          have hob : ∀ i, i < 3 → 0 ≤ lkO N c i ∧ lkO N c i ≤ 65535 := fun i _ => (lk_bd hN hN' c i).2
          clear tx ts hb hb7 hqp hjm hj
          go_wp2
          clear h7
          go_loopw [13, 14] (fun l i wr => ∃ k : Nat, k ≤ 4 ∧ i = .int .i64 k ∧ l = .int .i64 (lft (lkO N c) (min k 3)) ∧ Two 31 wr w.heap.size (.int .i64 N) (.slice (some ⟨gb, go, none⟩) n cap) ∧ Tri 28 wr (w.heap.size + 1 + 1) (fun _ => 0) ∧ Tri 27 wr w1.heap.size (axs (psn (lkA N c) (lkO N c) (min k 3))) ∧ Tri 27 wr w3.heap.size (lkO N c) ∧ Tri 27 wr wo.heap.size (axs (axo (lkO N c))) ∧ Tri 27 wr wp.heap.size (sx N g c k) ∧ Below w.heap.size w wr) (fun _ i _ => 4 - (intOf i).toNat)
          case atStart => exact ⟨0, by omega, rfl, rfl, Z1.out, Z3.out, Z4.out, Z5.out, ZX.out, Z6.out, hq7⟩
          case round =>
            obtain ⟨k, hk, rfl, rfl, t1, t3, t4, t5, tx, t6, hq⟩ := hrel
            obtain ⟨wr0, rfl⟩ : ∃ wr0 : World, wr0 = wr := ⟨_, rfl⟩
            by_cases hlt : k < 3
            · have hpk : ∀ i, i < 3 → psn (lkA N c) (lkO N c) k i ≤ N - 1 := fun i _ => by
                have h1 := psn_le (lkA N c) (lkO N c) k i (by omega)
                have h2 := (lk_bd hN hN' c i).1
                omega
              have hr : ixN N (psn (lkA N c) (lkO N c) k) < n := by rw [HG.out.2.2.1]; exact ixN_lt hpk (by omega)
              have hgr := HG.out.2.2.2 _ hr
              have hcr := HC.out.below hq hgw _ hr
              have hl0 := lft_bd hob k (by omega)
              have hs0 := fun i (hi : i < 3) => smV_bd (A := lkA N c) (g := g) hN (fun i _ => (lk_bd hN hN' c i).1) hob (HG.out.2.2.1 ▸ HG.out.2.2.2) hi k (by omega)
              have hX3 := axo_lt (lkO N c) hlt
              have hle := lft_le hob k hlt
              have hl1 := lft_bd hob (k + 1) (by omega)
              obtain ⟨X, hX⟩ : ∃ X, axo (lkO N c) k = X := ⟨_, rfl⟩
              obtain ⟨O, hO⟩ : ∃ O, lkO N c X = O := ⟨_, rfl⟩
              have HLF : lft (lkO N c) (k + 1) = O := by simp only [lft]; rw [hX, hO]
              rw [HLF] at hl1 hle
              have HPS : Hid (∀ i, psn (lkA N c) (lkO N c) (k + 1) i = if i = X then psn (lkA N c) (lkO N c) k i + 1 else psn (lkA N c) (lkO N c) k i) := Lib.hid (fun i => by simp only [psn]; rw [hX])
              have cx : wr0.cell? ⟨wo.heap.size, k, none⟩ = some (.int .i64 ((axo (lkO N c) k : Nat) : Int)) := tx.cell k hlt
              rw [hX] at cx hX3
              have c5 := t5.cell X hX3
              rw [hO] at c5
              have i2 : 0 ≤ (X : Int) ∧ (X : Int) < 3 := by omega
              have e13 : lft (lkO N c) (min k 3) = lft (lkO N c) k := by rw [Nat.min_eq_left (by omega)]
              have e13p : psn (lkA N c) (lkO N c) (min k 3) = psn (lkA N c) (lkO N c) k := by rw [Nat.min_eq_left (by omega)]
              have HLF' := Lib.hid (show lft (lkO N c) (min (k + 1) 3) = O by rw [Nat.min_eq_left (by omega)]; exact HLF)
              have HP4 := Lib.hid (show psn (lkA N c) (lkO N c) (min (k + 1) 3) = psn (lkA N c) (lkO N c) (k + 1) by rw [Nat.min_eq_left (by omega)])
              rw [e13]
              rw [e13p] at t4
              obtain ⟨L, hL⟩ : ∃ L, lft (lkO N c) k = L := ⟨_, rfl⟩
              have HSX : Hid (∀ i, sx N g c (k + 1) i = sx N g c k i + (L - O) * g (ixN N (psn (lkA N c) (lkO N c) k)) i) := Lib.hid (fun i => by unfold sx; rw [if_neg (by omega), if_neg (by omega)]; simp only [smV]; rw [hX, hL, hO])
              have HSB : Hid (∀ i, i < 3 → 0 ≤ sx N g c k i ∧ sx N g c k i ≤ 4294836225) := Lib.hid (fun i hi => by unfold sx; rw [if_neg (by omega)]; have := hs0 i hi; omega)
              rw [hL] at hl0 hle
              rw [hL]
              have i1 : 0 ≤ (k : Int) ∧ (k : Int) < 4 := by omega
              have z0 : wr0.cell? ⟨w1.heap.size, 0, none⟩ = some (.int .i64 ((psn (lkA N c) (lkO N c) k 0 : Nat) : Int)) := t4.c0
              have z1 : wr0.cell? ⟨w1.heap.size, 1, none⟩ = some (.int .i64 ((psn (lkA N c) (lkO N c) k 1 : Nat) : Int)) := t4.c1
              have z2 : wr0.cell? ⟨w1.heap.size, 2, none⟩ = some (.int .i64 ((psn (lkA N c) (lkO N c) k 2 : Nat) : Int)) := t4.c2
              have b0 := hpk 0 (by omega)
              have b1 := hpk 1 (by omega)
              have b2 := hpk 2 (by omega)
              have eix : ((psn (lkA N c) (lkO N c) k 0 : Int) * (N : Int) + (psn (lkA N c) (lkO N c) k 1 : Int)) * (N : Int) + (psn (lkA N c) (lkO N c) k 2 : Int) = ((ixN N (psn (lkA N c) (lkO N c) k) : Nat) : Int) := by unfold ixN; simp
              have u0 := t1.c0
              have u1 := t1.c1
              have s0 := hcr 0 (by omega)
              have s1 := hcr 1 (by omega)
              have s2 := hcr 2 (by omega)
              rw [Nat.add_zero] at s0
              have Q1 := Lib.hid t1
              have Q3 := Lib.hid t3
              have Q4 := Lib.hid t4
              have Q5 := Lib.hid t5
              have QX := Lib.hid tx
              have ls : wp.heap.size < wr0.heap.size := t6.lt
              obtain ⟨r, hre⟩ : ∃ r, ixN N (psn (lkA N c) (lkO N c) k) = r := ⟨_, rfl⟩
              rw [hre] at hr hgr s0 s1 s2 eix HSX
              have HGR := Lib.hid hgr
              obtain ⟨w8, h8⟩ : ∃ w8, wr0.alloc (.cells #[.int .i64 (g r 0), .int .i64 (g r 1), .int .i64 (g r 2)] 28) = w8 := ⟨_, rfl⟩
              have tv : Tri 28 w8 wr0.heap.size (g r) := by rw [← h8]; exact Tri.new wr0 (g r) _
              have hb8 : Below wr0.heap.size wr0 w8 := by rw [← h8]; exact (Below.refl _ _).alloc (Nat.le_refl _) _
              have TV := Lib.hid tv
              have T6 : Hid (Tri 27 w8 wp.heap.size (mixf (sx N g c k) (sx N g c (k + 1)) 0)) := Lib.hid ((t6.on hb8).congr rfl rfl rfl)
              have hq8 := hq.trans (hb8.mono hq.size)
              have i3 : 0 ≤ (r : Int) ∧ (r : Int) < n := by omega
              obtain ⟨P0, hP0⟩ : ∃ P : Nat, psn (lkA N c) (lkO N c) k 0 = P := ⟨_, rfl⟩
              obtain ⟨P1', hP1⟩ : ∃ P : Nat, psn (lkA N c) (lkO N c) k 1 = P := ⟨_, rfl⟩
              obtain ⟨P2', hP2⟩ : ∃ P : Nat, psn (lkA N c) (lkO N c) k 2 = P := ⟨_, rfl⟩
              rw [hP0] at z0 b0 eix
              rw [hP1] at z1 b1 eix
              rw [hP2] at z2 b2 eix
              obtain ⟨p1, p2⟩ := mul_bd (a := (P0 : Int)) (A := 16) (b := (N : Int)) (B := 17) (by omega) (by omega) (by omega) (by omega)
              obtain ⟨p3, p4⟩ := mul_bd (a := (P0 : Int) * (N : Int) + (P1' : Int)) (A := 288) (b := (N : Int)) (B := 17) (by omega) (by omega) (by omega) (by omega)
              have R1 := Lib.hid (Q1.out.on hb8)
              have R3 := Lib.hid (Q3.out.on hb8)
              have R4 := Lib.hid (Q4.out.on hb8)
              have R5 := Lib.hid (Q5.out.on hb8)
              have RX := Lib.hid (QX.out.on hb8)
              have HOO := Lib.hid hO
              have HXX := Lib.hid hX
              clear hX hO HLF e13 e13p
              clear t1 t3 t4 t5 tx t6 tv hr hgr hcr hs0 hpk hre hb8 hL hP0 hP1 hP2
              go_wp2
              clear h8 s0 s1 s2 z0 z1 z2 u0 u1 p1 p2 p3 p4 eix cx c5
              go_loopw [17] (fun i wr => ∃ q : Nat, q ≤ 3 ∧ i = .int .i64 q ∧ Tri 27 wr wp.heap.size (mixf (sx N g c k) (sx N g c (k + 1)) q) ∧ Tri 28 wr wr0.heap.size (g r) ∧ Below wp.heap.size w8 wr) (fun i _ => 3 - (intOf i).toNat)
              case atStart => exact ⟨0, by omega, rfl, T6.out, TV.out, Below.refl _ _⟩
              case round =>
                obtain ⟨q, hq3, rfl, t6, tv, hb9⟩ := hrel
                by_cases hlq : q < 3
                · have hS := HSB.out q hlq
                  have hSX := HSX.out q
                  have hV := HGR.out q hlq
                  have c6 : wr.cell? ⟨wp.heap.size, q, none⟩ = some (.int .i64 (sx N g c k q)) := by have := t6.cell q hlq; rw [show mixf (sx N g c k) (sx N g c (k + 1)) q q = sx N g c k q from if_neg (by omega)] at this; exact this
                  have cv := tv.cell q hlq
                  generalize sx N g c k q = S at hS hSX c6
                  obtain ⟨V, hVe⟩ : ∃ V, g r q = V := ⟨_, rfl⟩
                  rw [hVe] at hV hSX cv
                  obtain ⟨m1, m2⟩ := mul_bd (a := (L - O)) (A := 65535) (b := V) (B := 65535) (by omega) (by omega) hV.1 hV.2
                  have e6 := cell_regrown c6
                  have ev := cell_regrown cv
                  have j1 : 0 ≤ (q : Int) ∧ (q : Int) < 3 := by omega
                  have U6 := Lib.hid t6
                  have UV := Lib.hid tv
                  have HX6 := Lib.hid hSX
                  have lw : wp.heap.size < wr.heap.size := t6.lt
                  clear t6 tv hSX hVe c6 cv
                  go_wp2
                  refine region_below_tail 11 (by kernel_rfl) (by kernel_rfl) ?_
                  simp only [List.take_succ_cons, List.take_zero, List.drop_succ_cons, List.drop_zero]
                  repeat (go_big_quiet_step (fail))
                  refine wpQuiet_nil ?_
                  intro w9 hw9
                  replace hw9 := below_of_regrown hw9
                  have t6 := U6.out.on hw9
                  have c6 := t6.cell q hlq
                  have f6 := t6.free q
                  have V6 := Lib.hid (mixf_step t6 hlq HX6.out)
                  have VV := Lib.hid (UV.out.on hw9)
                  have hb10 := hb9.trans (hw9.mono (by omega))
                  clear t6 e6 ev
                  go_wp2
                  go_roundw
                  case rel => exact ⟨q + 1, by omega, by go_num, V6.out, VV.out.keep (by omega), hb10.setCell (p := ⟨wp.heap.size, q, none⟩) (Nat.le_refl _) _⟩
                  case measure => simp [intOf]; omega
                · obtain rfl : q = 3 := by omega
                  have T6' : Hid (Tri 27 wr wp.heap.size (sx N g c (k + 1))) := Lib.hid (t6.congr rfl rfl rfl)
                  have hq9 := hq8.trans (hb9.mono (by have := hq8.size; omega))
                  have S1' := Lib.hid (R1.out.below hb9 (by omega))
                  have S3' := Lib.hid (R3.out.below hb9 (by omega))
                  have S5' := Lib.hid (R5.out.below hb9 (by omega))
                  have SX' := Lib.hid (RX.out.below hb9 (by omega))
                  have t4 := R4.out.below hb9 (by omega)
                  have tx := SX'.out
                  have cx : wr.cell? ⟨wo.heap.size, k, none⟩ = some (.int .i64 ((axo (lkO N c) k : Nat) : Int)) := tx.cell k hlt
                  rw [HXX.out] at cx
                  have c4 : wr.cell? ⟨w1.heap.size, X, none⟩ = some (.int .i64 ((psn (lkA N c) (lkO N c) k X : Nat) : Int)) := t4.cell X hX3
                  have f4 := t4.free X
                  have hpX : psn (lkA N c) (lkO N c) k X ≤ N - 1 := by have h1 := psn_le (lkA N c) (lkO N c) k X (by omega); have h2 := (lk_bd hN hN' c X).1; omega
                  have S4' := Lib.hid (t4.set (j := X) (d := axs (psn (lkA N c) (lkO N c) (k + 1))) (v := (psn (lkA N c) (lkO N c) k X : Nat) + 1) hX3 (by unfold axs; rw [HPS.out, if_pos rfl]; simp) (fun i hi => by unfold axs; rw [HPS.out, if_neg hi]))
                  generalize psn (lkA N c) (lkO N c) k X = PX' at *
                  clear t6 tv t4 tx
                  go_wp2
                  go_roundw
                  case rel => exact ⟨k + 1, by omega, by go_num, by rw [HLF'.out], S1'.out.keep (by omega), S3'.out.keep (by omega), by rw [HP4.out]; exact S4'.out, S5'.out.keep (by omega), SX'.out.keep (by omega), T6'.out.keep (by omega), hq9.setCell (by simp; omega) _⟩
                  case measure => simp [intOf]; omega
            · by_cases hlt3 : k = 3
              · subst hlt3
                have hpk : ∀ i, i < 3 → psn (lkA N c) (lkO N c) 3 i ≤ N - 1 := fun i _ => by
                  have h1 := psn_le (lkA N c) (lkO N c) 3 i (by omega)
                  have h2 := (lk_bd hN hN' c i).1
                  omega
                have hr : ixN N (psn (lkA N c) (lkO N c) 3) < n := by rw [HG.out.2.2.1]; exact ixN_lt hpk (by omega)
                have hgr := HG.out.2.2.2 _ hr
                have hcr := HC.out.below hq hgw _ hr
                have hl0 := lft_bd hob 3 (by omega)
                have hs0 := fun i (hi : i < 3) => smV_bd (A := lkA N c) (g := g) hN (fun i _ => (lk_bd hN hN' c i).1) hob (HG.out.2.2.1 ▸ HG.out.2.2.2) hi 3 (by omega)
                have e13 : lft (lkO N c) (min 3 3) = lft (lkO N c) 3 := rfl
                rw [e13]
                replace t4 : Tri 27 wr0 w1.heap.size (axs (psn (lkA N c) (lkO N c) 3)) := t4
                obtain ⟨L, hL⟩ : ∃ L, lft (lkO N c) 3 = L := ⟨_, rfl⟩
                have HSX : Hid (∀ i, sx N g c (3 + 1) i = sx N g c 3 i + L * g (ixN N (psn (lkA N c) (lkO N c) 3)) i) := Lib.hid (fun i => by unfold sx; rw [if_pos rfl, if_neg (by omega)]; unfold lkS; rw [hL])
                have HSB : Hid (∀ i, i < 3 → 0 ≤ sx N g c 3 i ∧ sx N g c 3 i ≤ 4294836225) := Lib.hid (fun i hi => by unfold sx; rw [if_neg (by omega)]; have := hs0 i hi; omega)
                have HLL := Lib.hid (show lft (lkO N c) (min (3 + 1) 3) = L from hL)
                rw [hL] at hl0
                rw [hL]
                have z0 : wr0.cell? ⟨w1.heap.size, 0, none⟩ = some (.int .i64 ((psn (lkA N c) (lkO N c) 3 0 : Nat) : Int)) := t4.c0
                have z1 : wr0.cell? ⟨w1.heap.size, 1, none⟩ = some (.int .i64 ((psn (lkA N c) (lkO N c) 3 1 : Nat) : Int)) := t4.c1
                have z2 : wr0.cell? ⟨w1.heap.size, 2, none⟩ = some (.int .i64 ((psn (lkA N c) (lkO N c) 3 2 : Nat) : Int)) := t4.c2
                have b0 := hpk 0 (by omega)
                have b1 := hpk 1 (by omega)
                have b2 := hpk 2 (by omega)
                have eix : ((psn (lkA N c) (lkO N c) 3 0 : Int) * (N : Int) + (psn (lkA N c) (lkO N c) 3 1 : Int)) * (N : Int) + (psn (lkA N c) (lkO N c) 3 2 : Int) = ((ixN N (psn (lkA N c) (lkO N c) 3) : Nat) : Int) := by unfold ixN; simp
                have u0 := t1.c0
                have u1 := t1.c1
                have s0 := hcr 0 (by omega)
                have s1 := hcr 1 (by omega)
                have s2 := hcr 2 (by omega)
                rw [Nat.add_zero] at s0
                have Q1 := Lib.hid t1
                have Q3 := Lib.hid t3
                have Q4 := Lib.hid t4
                have Q5 := Lib.hid t5
                have QX := Lib.hid tx
                have ls : wp.heap.size < wr0.heap.size := t6.lt
                obtain ⟨r, hre⟩ : ∃ r, ixN N (psn (lkA N c) (lkO N c) 3) = r := ⟨_, rfl⟩
                rw [hre] at hr hgr s0 s1 s2 eix HSX
                have HGR := Lib.hid hgr
                obtain ⟨w8, h8⟩ : ∃ w8, wr0.alloc (.cells #[.int .i64 (g r 0), .int .i64 (g r 1), .int .i64 (g r 2)] 28) = w8 := ⟨_, rfl⟩
                have tv : Tri 28 w8 wr0.heap.size (g r) := by rw [← h8]; exact Tri.new wr0 (g r) _
                have hb8 : Below wr0.heap.size wr0 w8 := by rw [← h8]; exact (Below.refl _ _).alloc (Nat.le_refl _) _
                have TV := Lib.hid tv
                have T6 : Hid (Tri 27 w8 wp.heap.size (mixf (sx N g c 3) (sx N g c (3 + 1)) 0)) := Lib.hid ((t6.on hb8).congr rfl rfl rfl)
                have hq8 := hq.trans (hb8.mono hq.size)
                have i3 : 0 ≤ (r : Int) ∧ (r : Int) < n := by omega
                obtain ⟨P0, hP0⟩ : ∃ P : Nat, psn (lkA N c) (lkO N c) 3 0 = P := ⟨_, rfl⟩
                obtain ⟨P1', hP1⟩ : ∃ P : Nat, psn (lkA N c) (lkO N c) 3 1 = P := ⟨_, rfl⟩
                obtain ⟨P2', hP2⟩ : ∃ P : Nat, psn (lkA N c) (lkO N c) 3 2 = P := ⟨_, rfl⟩
                rw [hP0] at z0 b0 eix
                rw [hP1] at z1 b1 eix
                rw [hP2] at z2 b2 eix
                obtain ⟨p1, p2⟩ := mul_bd (a := (P0 : Int)) (A := 16) (b := (N : Int)) (B := 17) (by omega) (by omega) (by omega) (by omega)
                obtain ⟨p3, p4⟩ := mul_bd (a := (P0 : Int) * (N : Int) + (P1' : Int)) (A := 288) (b := (N : Int)) (B := 17) (by omega) (by omega) (by omega) (by omega)
                have R1 := Lib.hid (Q1.out.on hb8)
                have R3 := Lib.hid (Q3.out.on hb8)
                have R4 := Lib.hid (Q4.out.on hb8)
                have R5 := Lib.hid (Q5.out.on hb8)
                have RX := Lib.hid (QX.out.on hb8)
                clear e13
                clear t1 t3 t4 t5 tx t6 tv hr hgr hcr hs0 hpk hre hb8 hL hP0 hP1 hP2
                go_wp2
                clear h8 s0 s1 s2 z0 z1 z2 u0 u1 p1 p2 p3 p4 eix
                go_loopw [17] (fun i wr => ∃ q : Nat, q ≤ 3 ∧ i = .int .i64 q ∧ Tri 27 wr wp.heap.size (mixf (sx N g c 3) (sx N g c (3 + 1)) q) ∧ Tri 28 wr wr0.heap.size (g r) ∧ Below wp.heap.size w8 wr) (fun i _ => 3 - (intOf i).toNat)
                case atStart => exact ⟨0, by omega, rfl, T6.out, TV.out, Below.refl _ _⟩
                case round =>
                  obtain ⟨q, hq3, rfl, t6, tv, hb9⟩ := hrel
                  by_cases hlq : q < 3
                  · have hS := HSB.out q hlq
                    have hSX := HSX.out q
                    have hV := HGR.out q hlq
                    have c6 : wr.cell? ⟨wp.heap.size, q, none⟩ = some (.int .i64 (sx N g c 3 q)) := by have := t6.cell q hlq; rw [show mixf (sx N g c 3) (sx N g c (3 + 1)) q q = sx N g c 3 q from if_neg (by omega)] at this; exact this
                    have cv := tv.cell q hlq
                    generalize sx N g c 3 q = S at hS hSX c6
                    obtain ⟨V, hVe⟩ : ∃ V, g r q = V := ⟨_, rfl⟩
                    rw [hVe] at hV hSX cv
                    obtain ⟨m1, m2⟩ := mul_bd (a := L) (A := 65535) (b := V) (B := 65535) (by omega) (by omega) hV.1 hV.2
                    have e6 := cell_regrown c6
                    have ev := cell_regrown cv
                    have j1 : 0 ≤ (q : Int) ∧ (q : Int) < 3 := by omega
                    have U6 := Lib.hid t6
                    have UV := Lib.hid tv
                    have HX6 := Lib.hid hSX
                    have lw : wp.heap.size < wr.heap.size := t6.lt
                    clear t6 tv hSX hVe c6 cv
                    go_wp2
                    refine region_below_tail 11 (by kernel_rfl) (by kernel_rfl) ?_
                    simp only [List.take_succ_cons, List.take_zero, List.drop_succ_cons, List.drop_zero]
                    repeat (go_big_quiet_step (fail))
                    refine wpQuiet_nil ?_
                    intro w9 hw9
                    replace hw9 := below_of_regrown hw9
                    have t6 := U6.out.on hw9
                    have c6 := t6.cell q hlq
                    have f6 := t6.free q
                    have V6 := Lib.hid (mixf_step t6 hlq HX6.out)
                    have VV := Lib.hid (UV.out.on hw9)
                    have hb10 := hb9.trans (hw9.mono (by omega))
                    clear t6 e6 ev
                    go_wp2
                    go_roundw
                    case rel => exact ⟨q + 1, by omega, by go_num, V6.out, VV.out.keep (by omega), hb10.setCell (p := ⟨wp.heap.size, q, none⟩) (Nat.le_refl _) _⟩
                    case measure => simp [intOf]; omega
                  · obtain rfl : q = 3 := by omega
                    have T6' : Hid (Tri 27 wr wp.heap.size (sx N g c (3 + 1))) := Lib.hid (t6.congr rfl rfl rfl)
                    have hq9 := hq8.trans (hb9.mono (by have := hq8.size; omega))
                    have S1' := Lib.hid (R1.out.below hb9 (by omega))
                    have S3' := Lib.hid (R3.out.below hb9 (by omega))
                    have S5' := Lib.hid (R5.out.below hb9 (by omega))
                    have SX' := Lib.hid (RX.out.below hb9 (by omega))
                    have t4 := R4.out.below hb9 (by omega)
                    have S4' := Lib.hid t4
                    clear t6 tv t4
                    go_wp2
                    go_roundw
                    case rel => exact ⟨4, by omega, by go_num, by rw [HLL.out], S1'.out, S3'.out, S4'.out, S5'.out, SX'.out, T6'.out, hq9⟩
                    case measure => simp [intOf]
              · obtain rfl : k = 4 := by omega
                have hb0 := lkS_bd HG.out c (i := 0) (by omega)
                have hb1 := lkS_bd HG.out c (i := 1) (by omega)
                have hb2 := lkS_bd HG.out c (i := 2) (by omega)
                have e0 : sx N g c 4 0 = lkS N g c 0 := rfl
                have e1 : sx N g c 4 1 = lkS N g c 1 := rfl
                have e2 : sx N g c 4 2 = lkS N g c 2 := rfl
                have z0 := t6.c0
                have z1 := t6.c1
                have z2 := t6.c2
                rw [e0] at z0
                rw [e1] at z1
                rw [e2] at z2
                have v0 : lkV N g c 0 = (lkS N g c 0 + 32767) / 65535 := rfl
                have v1 : lkV N g c 1 = (lkS N g c 1 + 32767) / 65535 := rfl
                have v2 : lkV N g c 2 = (lkS N g c 2 + 32767) / 65535 := rfl
                have x0 := t3.c0
                have x1 := t3.c1
                have x2 := t3.c2
                have y0 := t3.free 0
                have y1 := t3.free 1
                have y2 := t3.free 2
                generalize lkS N g c 0 = S0 at *
                generalize lkS N g c 1 = S1 at *
                generalize lkS N g c 2 = S2 at *
                have H0 := Lib.hid v0
                have H1 := Lib.hid v1
                have H2 := Lib.hid v2
                clear t1 t3 t4 t5 tx t6 v0 v1 v2 e0 e1 e2
                go_wp2
                refine bodyPost_ret (v := .agg #[.int .i64 ((S0 + 32767) / 65535), .int .i64 ((S1 + 32767) / 65535), .int .i64 ((S2 + 32767) / 65535)]) (by simp [results, Try.results54, go_sem, *]) rfl ?_
                exact ⟨by rw [H0.out, H1.out, H2.out], set3_below hq (by omega) _ _ _⟩


/-- What the reference returns, as cells. -/
def gotC (c : Nat → Int) (e : Int) : Array Value := #[.int .i64 (c 0), .int .i64 (c 1), .int .i64 (c 2), .int .i64 0, .slice none 0 0, .int .i64 0, .int .u8 0, .int .u8 0, .int .u8 0, .int .u8 0, .int .i64 e]
def Gotb (w : World) (b : Nat) (c : Nat → Int) (e : Int) : Prop := w.heap[b]? = some (.cells (gotC c e) 36 (0, 0))
theorem Gotb.on {w w' : World} {b : Nat} {c : Nat → Int} {e : Int} (h : Gotb w b c e) (hb : Below w.heap.size w w') : Gotb w' b c e := (hb.block b (Array.getElem?_eq_some_iff.1 h).1).trans h
theorem Gotb.lt {w : World} {b : Nat} {c : Nat → Int} {e : Int} (h : Gotb w b c e) : b < w.heap.size := (Array.getElem?_eq_some_iff.1 h).1
theorem info_got : (Try.prog.info? 36).map (·.size) = some 11 := by kernel_rfl

theorem lookG_new (w : World) (n : Int) (v : Value) (c : Nat → Int) (tg t : TypeId) : ∃ w0, ((w.alloc (.cells #[.int .i64 n, v] tg)).alloc (.cells #[.int .i64 (c 0), .int .i64 (c 1), .int .i64 (c 2)] t)).alloc (.cells #[.int .i64 0, .int .i64 0, .int .i64 0, .int .i64 0, .slice none 0 0, .int .i64 0, .int .u8 0, .int .u8 0, .int .u8 0, .int .u8 0, .int .i64 0] 36) = w0 ∧
    Below w.heap.size w w0 ∧ w0.heap.size = w.heap.size + 3 ∧ Two tg w0 w.heap.size (.int .i64 n) v ∧ Tri t w0 (w.heap.size + 1) c ∧ Gotb w0 (w.heap.size + 1 + 1) (fun _ => 0) 0 := by
  refine ⟨_, rfl, (((Below.refl _ w).alloc (Nat.le_refl _) _).alloc (by simp) _).alloc (by simp <;> omega) _, by simp, ((Two.new w _ v tg).alloc _).alloc _, ?_, ?_⟩
  · have h := Tri.new (w.alloc (.cells #[.int .i64 n, v] tg)) c t
    simp only [World.size_alloc] at h
    exact h.alloc _
  · have h := heap_alloc_new ((w.alloc (.cells #[.int .i64 n, v] tg)).alloc (.cells #[.int .i64 (c 0), .int .i64 (c 1), .int .i64 (c 2)] t)) (.cells (gotC (fun _ => 0) 0) 36)
    simp only [World.size_alloc] at h
    exact h

theorem got_one (c : Nat → Int) (e : Int) : (gotC c e).all (·.oneCell') = true := by simp [gotC, Value.oneCell']

set_option maxRecDepth 100000 in
set_option maxHeartbeats 2000000 in
theorem refLook_no {N n B : Nat} {v : Value} {g : Nat → Nat → Int} {c : Nat → Int} {w : World} (hN : N ≤ 1000000) (hB : B ≤ w.heap.size) (hv : Cls w B v n g) (hG : ¬ GrV N n g) :
    Calls Try.prog 24 #[.agg #[.int .i64 N, v], col c] w fun e w' => e = .returned (.agg (gotC (fun _ => 0) 1)) ∧ Below w.heap.size w w' := by
  obtain ⟨w0, h0, hb0, hz, t1, t2, t3⟩ := lookG_new w N v c 31 28
  have kv := Lib.hid (refGrid_any (g := g) (N := N) (w := w0) hN (Nat.le_trans hB hb0.size) (hv.below hb0 hB))
  rw [grB_f hG] at kv
  have T3 := Lib.hid t3
  have g0 := t1.c0
  have g1 := t1.c1
  have hsh := hv.shape
  obtain ⟨a, cap, rfl⟩ := hsh
  clear t1 t2 t3 hv hG
  unfold col
  go_enter Try.func24, Try.ntmps24
  go_wp2_with fail
  refine kv.out.mono ?_
  rintro e w1 ⟨rfl, hb1⟩
  have T3' := Lib.hid (T3.out.on hb1)
  have hq := hb0.trans (hb1.mono hb0.size)
  clear h0 g0 g1
  go_wp2_with (refine list_store (cs := gotC (fun _ => 0) 1) rfl 36 (.tmp 4) (.tmp 10) (by rfl) (by rfl) (by rfl) T3'.out info_got rfl (got_one _ _) ?_; intro W4 h4 hx; have h4' := Lib.hid h4; clear h4)
  refine bodyPost_ret (v := .agg (gotC (fun _ => 0) 1)) (results_cell_row rfl _ _ (w.heap.size + 1 + 1) _ _ _ _ rfl h4'.out Try.underlying36 rfl info_got) rfl ?_
  exact ⟨rfl, Exc.below hq hx (by omega) hq.size⟩

set_option maxRecDepth 100000 in
set_option maxHeartbeats 2000000 in
theorem refLook_yes {N n B : Nat} {v : Value} {g : Nat → Nat → Int} {c : Nat → Int} {w : World} (hB : B ≤ w.heap.size) (hv : Cls w B v n g) (hG : GrV N n g) :
    Calls Try.prog 24 #[.agg #[.int .i64 N, v], col c] w fun e w' => e = .returned (.agg (gotC (lkV N g c) 0)) ∧ Below w.heap.size w w' := by
  obtain ⟨w0, h0, hb0, hz, t1, t2, t3⟩ := lookG_new w N v c 31 28
  have kv := Lib.hid (refGrid_any (g := g) (N := N) (w := w0) (by have := hG.2.1; omega) (Nat.le_trans hB hb0.size) (hv.below hb0 hB))
  rw [grB_t hG] at kv
  have T1 := Lib.hid t1
  have T2 := Lib.hid t2
  have T3 := Lib.hid t3
  have g0 := t1.c0
  have g1 := t1.c1
  have HV := Lib.hid hv
  have HG := Lib.hid hG
  have hsh := hv.shape
  obtain ⟨a, cap, rfl⟩ := hsh
  clear t1 t2 t3 hv hG
  unfold col
  go_enter Try.func24, Try.ntmps24
  go_wp2_with fail
  refine kv.out.mono ?_
  rintro e w1 ⟨rfl, hb1⟩
  have hq := hb0.trans (hb1.mono hb0.size)
  have t1 := T1.out.on hb1
  have t2 := T2.out.on hb1
  have T3' := Lib.hid (T3.out.on hb1)
  have kl := Lib.hid (refLook1_any (c := c) (w := w1) HG.out (Nat.le_trans hB hq.size) (HV.out.below hq hB))
  unfold col at kl
  have d0 := t2.c0
  have d1 := t2.c1
  have d2 := t2.c2
  clear h0 g0 g1 hb1
  have g0 := t1.c0
  have g1 := t1.c1
  clear t1 t2
  go_wp2_with fail
  refine kl.out.mono ?_
  rintro e w2 ⟨rfl, hb2⟩
  have T4 := Lib.hid (T3'.out.on hb2)
  have hq2 := hq.trans (hb2.mono hq.size)
  clear g0 g1 d0 d1 d2
  go_wp2_with (refine list_store (cs := gotC (lkV N g c) 0) rfl 36 (.tmp 4) (.tmp 14) (by rfl) (by rfl) (by rfl) T4.out info_got rfl (got_one _ _) ?_; intro W4 h4 hx; have h4' := Lib.hid h4; clear h4)
  refine bodyPost_ret (v := .agg (gotC (lkV N g c) 0)) (results_cell_row rfl _ _ (w.heap.size + 1 + 1) _ _ _ _ rfl h4'.out Try.underlying36 rfl info_got) rfl ?_
  exact ⟨rfl, Exc.below hq2 hx (by omega) hq2.size⟩

end Go.Proofs.Ytmilljlkcbljpaa

/- rest; looking up stays between the corners, and is exact at grid points. -/
namespace Go.Proofs.Ytmilljlkcbljpaa
open Go.RowKit Go.Sort

set_option maxHeartbeats 400000 in
theorem rest_any {x : Int} {n : Nat} {w : World} (hn : 1 ≤ n) (hn' : n ≤ 1000) :
    Calls Try.prog 15 #[.int .i64 x, .int .i64 n] w fun e w' => (∃ k : Nat, k < n ∧ (k : Int) = (x.tmod n + n) % n ∧ e = .returned (.int .i64 k)) ∧ w = w' := by
  have h1 := Int.tmod_lt_of_pos x (b := (n : Int)) (by omega)
  have h2 := Int.tmod_lt_of_pos (-x) (b := (n : Int)) (by omega)
  rw [Int.neg_tmod] at h2
  have d0 : ((n : Int) == 0) = false := by simp; omega
  have p1 : 0 ≤ x.tmod n + n := by omega
  have p2 : x.tmod n + n ≤ 2000 := by omega
  have h3 := Int.emod_nonneg (x.tmod n + n) (b := (n : Int)) (by omega)
  have h4 := Int.emod_lt_of_pos (x.tmod n + n) (b := (n : Int)) (by omega)
  obtain ⟨k, hk⟩ := Int.eq_ofNat_of_zero_le h3
  rw [hk] at h4
  have HK := Lib.hid hk
  have HL := Lib.hid (show k < n by omega)
  clear hk h3 h4
  go_enter Try.func15, Try.ntmps15
  go_wp2
  go_ret
  exact ⟨⟨k, HL.out, HK.out.symm, ret_int HK.out⟩, rfl⟩

theorem smV_between {N : Nat} {A : Nat → Nat} {o : Nat → Int} {g : Nat → Nat → Int} {L H : Int} {i : Nat} (ho : ∀ i, i < 3 → 0 ≤ o i ∧ o i ≤ 65535) (hg : ∀ k, k ≤ 3 → L ≤ g (ixN N (psn A o k)) i ∧ g (ixN N (psn A o k)) i ≤ H) :
    ∀ k, k ≤ 3 → (65535 - lft o k) * L ≤ smV N A o g k i ∧ smV N A o g k i ≤ (65535 - lft o k) * H
  | 0, _ => by simp [smV, lft]
  | k + 1, hk => by
    have ih := smV_between ho hg k (by omega)
    have hl := lft_le ho k (by omega)
    have hgi := hg k (by omega)
    have hw : lft o (k + 1) = o (axo o k) := rfl
    rw [hw] at hl ⊢
    have p1 := Int.mul_le_mul_of_nonneg_left hgi.1 (show 0 ≤ lft o k - o (axo o k) by omega)
    have p2 := Int.mul_le_mul_of_nonneg_left hgi.2 (show 0 ≤ lft o k - o (axo o k) by omega)
    have e1 : (65535 - o (axo o k)) * L = (65535 - lft o k) * L + (lft o k - o (axo o k)) * L := by rw [← Int.add_mul]; congr 1; omega
    have e2 : (65535 - o (axo o k)) * H = (65535 - lft o k) * H + (lft o k - o (axo o k)) * H := by rw [← Int.add_mul]; congr 1; omega
    show _ ≤ smV N A o g k i + _ ∧ smV N A o g k i + _ ≤ _
    rw [e1, e2]
    omega

theorem lkV_between {N : Nat} {g : Nat → Nat → Int} {c : Nat → Int} {L H : Int} {i : Nat} (hN : 2 ≤ N) (hN' : N ≤ 17) (hg : ∀ k, k ≤ 3 → L ≤ g (ixN N (psn (lkA N c) (lkO N c) k)) i ∧ g (ixN N (psn (lkA N c) (lkO N c) k)) i ≤ H) :
    L ≤ lkV N g c i ∧ lkV N g c i ≤ H := by
  have ho : ∀ i, i < 3 → 0 ≤ lkO N c i ∧ lkO N c i ≤ 65535 := fun i _ => (lk_bd hN hN' c i).2
  have h1 := smV_between ho hg 3 (by omega)
  have h2 := lft_bd ho 3 (by omega)
  have h3 := hg 3 (by omega)
  have p1 := Int.mul_le_mul_of_nonneg_left h3.1 h2.1
  have p2 := Int.mul_le_mul_of_nonneg_left h3.2 h2.1
  have e1 : (65535 - lft (lkO N c) 3) * L + lft (lkO N c) 3 * L = 65535 * L := by rw [← Int.add_mul]; congr 1; omega
  have e2 : (65535 - lft (lkO N c) 3) * H + lft (lkO N c) 3 * H = 65535 * H := by rw [← Int.add_mul]; congr 1; omega
  unfold lkV lkS
  omega

/-- A corner, by its number. -/
theorem corner (A : Nat → Nat) (o : Nat → Int) (k : Nat) (hk : k ≤ 3) : ∃ j, j < 8 ∧ psn A o k 0 = A 0 + j % 2 ∧ psn A o k 1 = A 1 + j / 2 % 2 ∧ psn A o k 2 = A 2 + j / 4 := by
  have h0 := psn_le A o k 0 hk
  have h1 := psn_le A o k 1 hk
  have h2 := psn_le A o k 2 hk
  exact ⟨(psn A o k 0 - A 0) + 2 * (psn A o k 1 - A 1) + 4 * (psn A o k 2 - A 2), by omega, by omega, by omega, by omega⟩
def cix (N : Nat) (A : Nat → Nat) (j : Nat) : Nat := ((A 0 + j % 2) * N + A 1 + j / 2 % 2) * N + A 2 + j / 4
theorem lkV_corners {N : Nat} {g : Nat → Nat → Int} {c : Nat → Int} {L H : Int} {i : Nat} (hN : 2 ≤ N) (hN' : N ≤ 17) (hg : ∀ j, j < 8 → L ≤ g (cix N (lkA N c) j) i ∧ g (cix N (lkA N c) j) i ≤ H) :
    L ≤ lkV N g c i ∧ lkV N g c i ≤ H :=
  lkV_between hN hN' fun k hk => by
    obtain ⟨j, hj, e0, e1, e2⟩ := corner (lkA N c) (lkO N c) k hk
    have : ixN N (psn (lkA N c) (lkO N c) k) = cix N (lkA N c) j := by unfold ixN cix; rw [e0, e1, e2]; simp only [Nat.add_assoc]
    rw [this]
    exact hg j hj
theorem cix_lt {N : Nat} {A : Nat → Nat} {j : Nat} (hN : 2 ≤ N) (hA : ∀ i, i < 3 → A i ≤ N - 2) (hj : j < 8) : cix N A j < N * N * N := by
  have := ixN_lt (N := N) (p := fun i => if i = 0 then A 0 + j % 2 else if i = 1 then A 1 + j / 2 % 2 else A 2 + j / 4) (fun i hi => by
    have a0 := hA 0 (by omega)
    have a1 := hA 1 (by omega)
    have a2 := hA 2 (by omega)
    by_cases h0 : i = 0
    · simp only [h0, if_true]; omega
    · by_cases h1 : i = 1
      · simp only [h1]; simp; omega
      · simp only [h0, h1, if_false]; omega) (by omega)
  unfold ixN at this
  simpa [cix, Nat.add_assoc] using this

theorem lkV_exact {N s : Nat} {g : Nat → Nat → Int} {c : Nat → Int} {A : Nat → Nat} (hN : 2 ≤ N) (hs : s * (N - 1) = 65535) (hA : ∀ i, i < 3 → A i ≤ N - 2) (hc : ∀ i, i < 3 → c i = (s * A i : Nat)) {i : Nat} : lkV N g c i = g (ixN N A) i := by
  obtain ⟨M, rfl⟩ : ∃ M, N = M + 1 := ⟨N - 1, by omega⟩
  have e : ((M + 1 : Nat) : Int) - 1 = (M : Int) := by omega
  rw [Nat.add_sub_cancel] at hs
  have hle : ∀ i, i < 3 → s * A i ≤ 65535 := fun i hi => by
    have : s * A i ≤ s * M := Nat.mul_le_mul_left s (by have := hA i hi; omega)
    omega
  have hgm : ∀ i, i < 3 → gam c i = (s * A i : Nat) := fun i hi => by
    unfold gam
    rw [hc i hi]
    exact clm_in (by omega) (by have := hle i hi; omega)
  have hm : ∀ i, i < 3 → s * A i * M = 65535 * A i := fun i hi => by rw [Nat.mul_right_comm, hs]
  have ha : ∀ i, i < 3 → lkA (M + 1) c i = A i := fun i hi => by
    unfold lkA
    rw [hgm i hi, Int.toNat_natCast, Nat.add_sub_cancel, hm i hi, Nat.mul_div_cancel_left _ (by omega)]
    exact Nat.min_eq_left (hA i hi)
  have ho : ∀ i, i < 3 → lkO (M + 1) c i = 0 := fun i hi => by
    unfold lkO
    rw [hgm i hi, ha i hi, e, ← Int.natCast_mul, hm i hi]
    omega
  have hx : ∀ k, k < 3 → lkO (M + 1) c (axo (lkO (M + 1) c) k) = 0 := fun k hk => ho _ (axo_lt _ hk)
  have hix : ixN (M + 1) (psn (lkA (M + 1) c) (lkO (M + 1) c) 0) = ixN (M + 1) A := by
    unfold ixN
    show (lkA (M + 1) c 0 * _ + lkA (M + 1) c 1) * _ + lkA (M + 1) c 2 = _
    rw [ha 0 (by omega), ha 1 (by omega), ha 2 (by omega)]
  have l0 : lft (lkO (M + 1) c) 0 = 65535 := rfl
  have l1 : lft (lkO (M + 1) c) 1 = 0 := hx 0 (by omega)
  have l2 : lft (lkO (M + 1) c) 2 = 0 := hx 1 (by omega)
  have l3 : lft (lkO (M + 1) c) 3 = 0 := hx 2 (by omega)
  unfold lkV lkS
  rw [l3]
  simp only [smV]
  rw [hx 0 (by omega), hx 1 (by omega), hx 2 (by omega), l0, l1, l2, hix]
  omega

end Go.Proofs.Ytmilljlkcbljpaa
