/- Texts of this proof, one behind another: Qa Qb We Wo Si. -/
import Derived.Test.YtmilljlkcbljpaaZ6
/- A region that draws its order over calls and one new block that waits for nothing. -/
namespace Go.Proofs.Ytmilljlkcbljpaa
open Go.RowKit Go.Sort
variable {P : Program} {ops : Array Oper} {md : Region.Mode} {C : World → Prop} {Q : Exit → Act → World → Prop}

/-- One operation, then K. -/
def nrm (Q : Exit → Act → World → Prop) (K : Act → World → Prop) : Exit → Act → World → Prop
  | .normal => K
  | e => Q e
theorem upon_nrm {o : Oper} {a : Act} {K : Act → World → Prop} {r : Result Next} (h : o.upon P a (wpList P ops (nrm Q K) []) (nrm Q K) r) : o.upon P a K Q r := by
  cases r with
  | ok n w' =>
    cases n <;> simp only [Oper.upon] at h ⊢
    case value u => exact h
    case skip => exact h
    case defer d => exact h
    case enter f args =>
      refine Calls.mono h fun e w'' he => ?_
      cases e <;> exact he
    case row row args => exact Rows.mono h fun u w'' he => he
  | halt x w' => cases x <;> simp only [Oper.upon] at h ⊢ <;> exact h
theorem op_of_list {i : Nat} {o : Oper} (hi : ops[i]? = some o) (hg : o.guard = none) {K : Act → World → Prop} {a : Act} {w : World} (h : wpList P ops (nrm Q K) [o] a w) : wpOp P ops Q i K a w := by
  unfold wpOp
  unfold wpList at h
  simp only [hi, Region.wanted, hg, if_true] at h ⊢
  rcases h with h | h
  · exact .inl (upon_nrm h)
  · exact .inr h

/-- The worlds that hold what w0 held. -/
def Cw (w0 : World) : World → Prop := fun w' => ∃ p : Regrown, w' = grow (redrawn w0 p.d) p.os
theorem Cw.below {w0 w' : World} (h : Cw w0 w') : Below w0.heap.size w0 w' := below_of_regrown h
theorem Cw.of {w0 w' : World} (h : Below w0.heap.size w0 w') : Cw w0 w' := regrown_of_below h
theorem Cw.trans {w0 w1 w2 : World} (h : Cw w0 w1) (k : Cw w1 w2) : Cw w0 w2 := .of (h.below.trans ⟨k.below.os, k.below.tape, k.below.output, k.below.size, fun j hj => k.below.block j (Nat.lt_of_lt_of_le hj h.below.size)⟩)

theorem headW_cls {C' : World → Prop} {tl : List Nat} {L : Array Bool → Act → World → Prop} (hC : ∀ w, C w → C' w) : ∀ (f : Nat) (listed : Array Bool) (a : Act) (w : World), headW P md ops C Q tl L f listed a w → headW P md ops C' Q tl L f listed a w
  | 0, _, _, _, h => h
  | f + 1, _, _, _, h => ⟨h.1, fun i hi => ⟨(h.2 i hi).1, wpOp_mono (fun a' w' h' => ⟨hC _ h'.1, headW_cls hC f _ a' w' h'.2⟩) (h.2 i hi).2⟩⟩

theorem headO_order {a : Act} {listed : Array Bool} (hd : List Nat) (t : Nat) (tl : List Nat) (hdo : List Oper) {K : Act → Prop} (hh : hd.map (fun i => ops[i]?) = hdo.map some)
    (hB : orderB md ops listed hd t tl = true) (h : wpQuiet P ops C K hdo a) : headO P md ops C (t :: tl) (fun listed' a' => seqL md ops (t :: tl) listed' = true ∧ K a') hd.length listed a := by
  simp only [orderB, Bool.and_eq_true, decide_eq_true_eq] at hB
  obtain ⟨⟨⟨⟨⟨⟨⟨⟨hsel, hs⟩, hc⟩, hcl⟩, hsz⟩, hall⟩, htl⟩, hx⟩, hlex⟩ := hB
  have inv0 : OrdInv md ops hd (t :: tl) listed := by
    refine ⟨hsz, fun j oj hj hl e he hb => ?_, fun u hu => ?_, fun j hj hun => ?_⟩
    · have h1 := List.all_eq_true.1 hcl j (List.mem_range.2 (Array.getElem?_eq_some_iff.1 hj).1)
      simp only [hl, Bool.not_true, Bool.false_or, hj] at h1
      have h2 := Array.all_eq_true_iff_forall_mem.1 h1 e he
      simpa [hb] using h2
    · have h1 := List.all_eq_true.1 htl u hu
      simpa using h1
    · have h1 := List.all_eq_true.1 hall j (List.mem_range.2 hj)
      simp only [hun, Bool.false_or, Bool.or_eq_true, List.contains_iff_mem] at h1
      exact h1
  exact headO_lex (C := C) (P := P) hsel hs hc (fun i hi hi' => by
    have h1 := List.all_eq_true.1 hx i hi'
    simp only [Bool.not_eq_true', List.contains_eq_mem, decide_eq_false_iff_not] at h1
    exact h1 hi) hd hdo listed a hh (fun _ h => h) inv0 hlex h

/-- What is to be shown: the block made ahead of a call, or behind all of them. -/
def frW (P : Program) (ops : Array Oper) (Q : Exit → Act → World → Prop) (w0 : World) (mo : Oper) (tlo : List Oper) : List Oper → List Oper → Act → World → Prop
  | [], p2, a, _ => pureW P ops (Cw w0) (fun a' => ∀ w', Cw w0 w' → wpList P ops (nrm Q fun a'' w'' => Cw w0 w'' ∧ wpList P ops Q tlo a'' w'') [mo] a' w') p2 a
  | c :: cs, p2, a, w => wpList P ops (nrm Q fun a' w' => Cw w0 w' ∧ wpQuiet P ops (Cw w') (fun a'' => ∀ w'', Cw w' w'' → wpList P ops Q tlo a'' w'') (c :: cs ++ p2) a') [mo] a w ∧
      wpList P ops (nrm Q fun a' w' => Cw w0 w' ∧ frW P ops Q w0 mo tlo cs p2 a' w') [c] a w

def frB (md : Region.Mode) (ops : Array Oper) (m t : Nat) (tl p2 : List Nat) : List Nat → Array Bool → Bool
  | [], listed => freeL md ops p2 listed && decide (Region.ready md ops (setL p2 listed) = [m]) && seqL md ops (t :: tl) ((setL p2 listed).setIfInBounds m true)
  | c :: cs, listed => decide (Region.ready md ops listed = [c, m]) && orderB md ops (listed.setIfInBounds m true) (c :: cs ++ p2) t tl && frB md ops m t tl p2 cs (listed.setIfInBounds c true)

theorem headW_free {w0 : World} {hd0 : List Nat} {m t : Nat} {tl p2 : List Nat} {mo : Oper} {p2o tlo : List Oper} (hsel : Region.noSelect ops = true) (hQ : ∀ c a d v w, Q (.panic c) (a.put d v) w → Q (.panic c) a w)
    (hs : sinkL md ops t hd0 = true) (hc : chainL md ops t tl = true) (hx : ∀ i ∈ hd0, i ∉ t :: tl) (hmo : ops[m]? = some mo) (hmg : mo.guard = none) (hm0 : m ∈ hd0) (hp2 : p2.map (fun i => ops[i]?) = p2o.map some) (hp20 : ∀ i ∈ p2, i ∈ hd0) :
    ∀ (cs : List Nat) (cso : List Oper) (listed : Array Bool) (a : Act) (w : World), Cw w0 w → cs.map (fun i => ops[i]?) = cso.map some → (∀ i ∈ cs, i ∈ hd0) → (∀ o ∈ cso, o.guard = none) → OrdInv md ops hd0 (t :: tl) listed → frB md ops m t tl p2 cs listed = true →
      frW P ops Q w0 mo tlo cso p2o a w → headW P md ops (Cw w0) Q (t :: tl) (fun listed' a' w' => seqL md ops (t :: tl) listed' = true ∧ wpList P ops Q tlo a' w') (cs.length + p2.length + 1) listed a w
  | [], [], listed, a, w, hw, _, _, _, inv, hB, h => by
    simp only [frB, Bool.and_eq_true, decide_eq_true_eq] at hB
    obtain ⟨⟨hf, hr⟩, hq⟩ := hB
    rw [List.length_nil, Nat.zero_add]
    refine headW_pure (hd := hd0) hsel hQ hs hc hx (fun listed' a' w' hL => seqL_ready hL.1) 1 (listed' := setL p2 listed) (fun a1 w1 hC1 hK1 inv1 => ?_) p2 p2o listed a w hw hp2 hp20 inv hf rfl h
    refine ⟨(fun h0 => by rw [hr] at h0; cases h0), fun i hi => ?_⟩
    rw [hr] at hi
    have him : i = m := by simpa using hi
    subst him
    exact ⟨hx _ hm0, wpOp_mono (fun a' w' h' => ⟨h'.1, hq, h'.2⟩) (op_of_list hmo hmg (hK1 w1 hC1))⟩
  | [], _ :: _, _, _, _, _, hm, _, _, _, _, _ => by simp at hm
  | _ :: _, [], _, _, _, _, hm, _, _, _, _, _ => by simp at hm
  | c :: cs, co :: cso, listed, a, w, hw, hmm, hsub, hgd, inv, hB, h => by
    have hmm' := hmm
    simp only [List.map_cons, List.cons.injEq] at hmm
    obtain ⟨h0, hm2⟩ := hmm
    simp only [frB, Bool.and_eq_true, decide_eq_true_eq] at hB
    obtain ⟨⟨hr, hB1⟩, hB2⟩ := hB
    obtain ⟨h1, h2⟩ := h
    rw [show (c :: cs).length + p2.length + 1 = (cs.length + p2.length + 1) + 1 by simp only [List.length_cons]; omega]
    refine ⟨(fun h0 => by rw [hr] at h0; cases h0), fun i hi => ?_⟩
    have hi' := hi
    rw [hr] at hi'
    have him : i = c ∨ i = m := by simpa using hi'
    rcases him with rfl | rfl
    · have hin := hx i (hsub i List.mem_cons_self)
      refine ⟨hin, wpOp_mono (fun a' w' h' => ⟨h'.1, ?_⟩) (op_of_list h0 (hgd co List.mem_cons_self) h2)⟩
      exact headW_free hsel hQ hs hc hx hmo hmg hm0 hp2 hp20 cs cso _ a' w' h'.1 hm2 (fun j hj => hsub j (List.mem_cons_of_mem _ hj)) (fun o ho => hgd o (List.mem_cons_of_mem _ ho)) (inv.set hi hin) hB2 h'.2
    · have hin := hx i hm0
      refine ⟨hin, wpOp_mono (fun a' w' h' => ⟨h'.1, ?_⟩) (op_of_list hmo hmg h1)⟩
      have H := headO_order (C := Cw w') (P := P) (c :: cs ++ p2) t tl (co :: cso ++ p2o) (by rw [List.map_append, List.map_append, hmm', hp2]) hB1 h'.2
      have H2 := headW_of_headO (C := Cw w') (Q := Q) (L' := fun listed' a' w' => seqL md ops (t :: tl) listed' = true ∧ wpList P ops Q tlo a' w') (g := 0) (fun listed2 a2 w2 hw2 hL => ⟨hL.1, hL.2 w2 hw2⟩) _ (t :: tl) (fun i hi => hi) _ _ w' (.of (Below.refl _ _)) H
      rw [Nat.add_zero] at H2
      have e : (c :: cs ++ p2).length = cs.length + p2.length + 1 := by simp only [List.length_append, List.length_cons]; omega
      rw [e] at H2
      exact headW_cls (fun w2 h2 => h'.1.trans h2) _ _ _ _ H2

def freeB (md : Region.Mode) (ops : Array Oper) (ps cs p2 : List Nat) (m t : Nat) (tl : List Nat) : Bool :=
  Region.noSelect ops && sinkL md ops t (ps ++ (cs ++ (p2 ++ [m]))) && chainL md ops t tl &&
  ((List.range ops.size).all fun j => (Array.replicate ops.size false).getD j true || (ps ++ (cs ++ (p2 ++ [m]))).contains j || (t :: tl).contains j) && ((t :: tl).all fun j => !(Array.replicate ops.size false).getD j true) && ((t :: tl).all fun j => !(ps ++ (cs ++ (p2 ++ [m]))).contains j) &&
  freeL md ops ps (Array.replicate ops.size false) && frB md ops m t tl p2 cs (setL ps (Array.replicate ops.size false)) && decide (ps.length + (cs.length + p2.length + 1) + (t :: tl).length = ops.size)

/-- The theorem: ps pure operations, cs calls (one after another), p2 pure ones behind them, m the one that makes a block, t :: tl the rest. -/
theorem region_free {id : Nat} {a : Act} {w : World} {l : List Oper} (ps cs p2 : List Nat) (m t : Nat) (tl : List Nat) {mo : Oper} (hm : P.follows .mixedOrders = true) (hmo : l.toArray[m]? = some mo) (hmg : mo.guard = none) (hp : ps.map (fun i => l.toArray[i]?) = (selL l ps).map some)
    (hcs : cs.map (fun i => l.toArray[i]?) = (selL l cs).map some) (hp2 : p2.map (fun i => l.toArray[i]?) = (selL l p2).map some) (ht : (t :: tl).map (fun i => l.toArray[i]?) = (selL l (t :: tl)).map some) (hgd : ((selL l cs).all fun o => o.guard.isNone) = true)
    (hB : freeB .any l.toArray ps cs p2 m t tl = true) (hQ : ∀ c a d v w, Q (.panic c) (a.put d v) w → Q (.panic c) a w)
    (h : pureW P l.toArray (Cw w) (fun a1 => ∀ ws, Cw w ws → frW P l.toArray Q w mo (selL l (t :: tl)) (selL l cs) (selL l p2) a1 ws) (selL l ps) a) : (Code.region id l.toArray true).wp P Q a w := by
  refine wp_region_any hm ?_
  simp only [freeB, Bool.and_eq_true, decide_eq_true_eq] at hB
  obtain ⟨⟨⟨⟨⟨⟨⟨⟨hsel, hs⟩, hc⟩, hall⟩, htl⟩, hx⟩, hf⟩, hfr⟩, hsz⟩ := hB
  have inv0 : OrdInv .any l.toArray (ps ++ (cs ++ (p2 ++ [m]))) (t :: tl) (Array.replicate l.toArray.size false) := ord_of (fun j oj hj hl e he hb => by
    rw [Array.getD_eq_getD_getElem?, Array.getElem?_replicate] at hl
    split at hl <;> cases hl) (by simp) hall htl
  have hxx : ∀ i ∈ ps ++ (cs ++ (p2 ++ [m])), i ∉ t :: tl := fun i hi hi' => by
    have h1 := List.all_eq_true.1 hx i hi'
    simp only [Bool.not_eq_true', List.contains_eq_mem, decide_eq_false_iff_not] at h1
    exact h1 hi
  have hC0 : Cw w { w with drawn := w.drawn + 1 } := ⟨⟨w.drawn + 1, #[]⟩, by rw [grow_empty]; rfl⟩
  have := any_of_headW (P := P) (ops := l.toArray) (md := .any) (Q := Q) (C := Cw w) (tl := t :: tl) (g := (t :: tl).length) (L := fun listed' a' w' => seqL .any l.toArray (t :: tl) listed' = true ∧ wpList P l.toArray Q (selL l (t :: tl)) a' w') (fun listed' a' w' hL => any_of_seqL (t :: tl) _ listed' a' w' ht hL.1 hL.2) (ps.length + (cs.length + p2.length + 1)) _ _ _ (headW_pure (hd := ps ++ (cs ++ (p2 ++ [m]))) hsel hQ hs hc hxx (fun listed' a' w' hL => seqL_ready hL.1) _ (listed' := setL ps (Array.replicate l.toArray.size false)) (fun a1 w1 hC1 hK1 inv1 =>
      headW_free hsel hQ hs hc hxx hmo hmg (by simp) hp2 (fun i hi => by simp [hi]) cs _ _ a1 w1 hC1 hcs (fun i hi => by simp [hi]) (fun o ho => by have := List.all_eq_true.1 hgd o ho; simpa using this) inv1 hfr (hK1 w1 hC1)) ps (selL l ps) _ a { w with drawn := w.drawn + 1 } hC0 hp (fun i hi => by simp [hi]) inv0 hf rfl h)
  rwa [hsz] at this

end Go.Proofs.Ytmilljlkcbljpaa

/- A region that draws its order: the pure operations ahead, past one that makes a block; the rest by hand. -/
namespace Go.Proofs.Ytmilljlkcbljpaa
open Go.RowKit Go.Sort
variable {P : Program} {ops : Array Oper} {md : Region.Mode} {C : World → Prop} {Q : Exit → Act → World → Prop}

def allIn (ps : List Nat) (listed : Array Bool) : Bool := ps.all fun i => listed.getD i false

def headZ (P : Program) (md : Region.Mode) (ops : Array Oper) (C : World → Prop) (Q : Exit → Act → World → Prop) (ps : List Nat) : Nat → Array Bool → Act → World → Prop
  | 0, listed, a, w => wpAny P md ops Q 0 listed a w
  | f + 1, listed, a, w => (allIn ps listed = true → wpAny P md ops Q (f + 1) listed a w) ∧ (allIn ps listed = false → Region.ready md ops listed ≠ [] ∧ ∀ i ∈ Region.ready md ops listed, wpOp P ops Q i (fun a' w' => C w' ∧ headZ P md ops C Q ps f (listed.setIfInBounds i true) a' w') a w)

theorem any_of_headZ {ps : List Nat} : ∀ (f : Nat) (listed : Array Bool) (a : Act) (w : World), headZ P md ops C Q ps f listed a w → wpAny P md ops Q f listed a w
  | 0, _, _, _, h => h
  | f + 1, listed, a, w, h => by
    cases e : allIn ps listed with
    | true => exact h.1 e
    | false =>
      obtain ⟨h1, h2⟩ := h.2 e
      exact ⟨fun h0 => absurd h0 h1, fun i hi => wpOp_mono (fun a' w' h' => any_of_headZ f _ a' w' h'.2) (h2 i hi)⟩
theorem headZ_of_any {ps : List Nat} {f : Nat} {listed : Array Bool} {a : Act} {w : World} (e : allIn ps listed = true) (h : wpAny P md ops Q f listed a w) : headZ P md ops C Q ps f listed a w := by
  cases f with
  | zero => exact h
  | succ f => exact ⟨fun _ => h, fun h' => by rw [e] at h'; cases h'⟩

theorem allIn_set {ps : List Nat} {i : Nat} {listed : Array Bool} (h : allIn ps listed = true) : allIn ps (listed.setIfInBounds i true) = true := by
  unfold allIn at *
  rw [List.all_eq_true] at *
  exact fun j hj => getD_set_true (h j hj)

structure ZInv (md : Region.Mode) (ops : Array Oper) (ps : List Nat) (m : Nat) (listed : Array Bool) : Prop where
  ord : OrdInv md ops (List.range ops.size) [] listed
  rest : ∀ j, j < ops.size → j ∉ ps → j ≠ m → listed.getD j false = true → allIn ps listed = true

/-- Whatever is neither pure nor m waits for all of the pure ones: c itself does, all else waits for something that does. -/
def zB (md : Region.Mode) (ops : Array Oper) (ps : List Nat) (m c : Nat) : Bool :=
  (ps.all fun i => decide (i < ops.size)) && sinkL md ops c ps && (List.range ops.size).all fun j => ps.contains j || decide (j = m) || decide (j = c) || (List.range ops.size).any fun k => !ps.contains k && decide (k ≠ m) && Region.waitsFor md ops j k

theorem ZInv.ready {ps : List Nat} {m c : Nat} {listed : Array Bool} (hB : zB md ops ps m c = true) (inv : ZInv md ops ps m listed) (hun : allIn ps listed = false) {j : Nat} (hj : j ∈ Region.ready md ops listed) : j ∈ ps ∨ j = m := by
  simp only [zB, Bool.and_eq_true] at hB
  obtain ⟨⟨hps, hs⟩, hall⟩ := hB
  by_cases h1 : j ∈ ps
  · exact .inl h1
  by_cases h2 : j = m
  · exact .inr h2
  exfalso
  obtain ⟨hju, oj, hoj, haft⟩ := mem_ready.1 hj
  have hjs := (Array.getElem?_eq_some_iff.1 hoj).1
  have h3 := List.all_eq_true.1 hall j (List.mem_range.2 hjs)
  simp only [Bool.or_eq_true, List.contains_iff_mem, decide_eq_true_eq] at h3
  rcases h3 with ((h3 | h3) | h3) | h3
  · exact h1 h3
  · exact h2 h3
  · subst h3
    simp only [allIn, List.all_eq_false] at hun
    obtain ⟨i, hi, hiu⟩ := hun
    have hin : i < listed.size := by rw [inv.ord.size]; have := List.all_eq_true.1 hps i hi; simpa using this
    have hiu' : listed.getD i true = false := getD_in hin (by simpa using hiu)
    exact tail_waits0 inv.ord ps hs i hi hiu' hj
  · obtain ⟨k, hk, hw⟩ := List.any_eq_true.1 h3
    simp only [Bool.and_eq_true, Bool.not_eq_true', List.contains_eq_mem, decide_eq_false_iff_not, decide_eq_true_eq] at hw
    obtain ⟨⟨hk1, hk2⟩, hw⟩ := hw
    obtain ⟨oj', hoj', e, he, hb, hon⟩ := Region.waitsFor_spec hw
    have : oj' = oj := Option.some.inj (hoj'.symm.trans hoj)
    subst this
    have h4 := haft e he hb
    rw [hon] at h4
    have := inv.rest k (List.mem_range.1 hk) hk1 hk2 h4
    rw [hun] at this
    cases this

theorem ZInv.set {ps : List Nat} {m c i : Nat} {listed : Array Bool} (hB : zB md ops ps m c = true) (inv : ZInv md ops ps m listed) (hi : i ∈ Region.ready md ops listed) : ZInv md ops ps m (listed.setIfInBounds i true) := by
  refine ⟨inv.ord.set hi (by simp), fun j hj h1 h2 hl => ?_⟩
  by_cases hij : i = j
  · subst hij
    cases e : allIn ps listed with
    | true => exact allIn_set e
    | false =>
      rcases inv.ready hB e hi with h | h
      · exact absurd h h1
      · exact absurd h h2
  · rw [getD_set_ne false hij] at hl
    exact allIn_set (inv.rest j hj h1 h2 hl)

theorem headZ_first {ps : List Nat} {m c i : Nat} {oi : Oper} {v : Value} (hB : zB md ops ps m c = true) (hi : ops[i]? = some oi) (hsel : ∀ (j : Nat) (o : Oper) cs b, ops[j]? = some o → o.op ≠ .select cs b)
    (hQ : ∀ c a w, Q (.panic c) (a.put oi.dst v) w → Q (.panic c) a w) (hin : i ∈ ps) (hm : ∀ a w, C w → ∀ K, wpOp P ops Q m K a w → wpOp P ops Q m (fun a' w' => C w' ∧ K a' w') a w) :
    ∀ (f : Nat) (listed : Array Bool) (a : Act) (w : World), C w → ZInv md ops ps m listed →
      (∀ j oj, ops[j]? = some oj → j ≠ i → listed.getD j true = false → (∀ e ∈ oj.after, Region.binds md e = true → e.on ≠ i) → oi.apart ops oj = true) →
      i ∈ Region.ready md ops listed → PureIn P ops C oi v a → headZ P md ops C Q ps f (listed.setIfInBounds i true) (a.put oi.dst v) w → headZ P md ops C Q ps (f + 1) listed a w := by
  intro f
  induction f with
  | zero =>
    intro listed a w hC inv _ hr hy H
    have hun := (mem_ready.1 hr).1
    have hall : allIn ps listed = false := by
      simp only [allIn, List.all_eq_false]
      exact ⟨i, hin, by rw [getD_both hun]; simp⟩
    refine ⟨fun h => (by rw [hall] at h; cases h), fun _ => ⟨fun h => (by rw [h] at hr; cases hr), fun j hj => ?_⟩⟩
    by_cases hji : j = i
    · subst hji; exact hy.wpOp hi hC ⟨hC, H⟩
    · have := ready_mono hj hji
      rw [H.1] at this
      cases this
  | succ f ih =>
    intro listed a w hC inv hfree hr hy H
    have hun := (mem_ready.1 hr).1
    have hall : allIn ps listed = false := by
      simp only [allIn, List.all_eq_false]
      exact ⟨i, hin, by rw [getD_both hun]; simp⟩
    refine ⟨fun h => (by rw [hall] at h; cases h), fun _ => ⟨fun h => (by rw [h] at hr; cases hr), fun j hj => ?_⟩⟩
    by_cases hji : j = i
    · subst hji; exact hy.wpOp hi hC ⟨hC, H⟩
    · have h1 : wpOp P ops Q j (fun a' w' => C w' ∧ headZ P md ops C Q ps f ((listed.setIfInBounds i true).setIfInBounds j true) a' w') (a.put oi.dst v) w := by
        cases e : allIn ps (listed.setIfInBounds i true) with
        | false => exact (H.2 e).2 j (ready_mono hj hji)
        | true =>
          have hjm : j = m := by
            rcases inv.ready hB hall hj with h | h
            · exfalso
              have h2 := List.all_eq_true.1 e j h
              rw [getD_set_ne false (Ne.symm hji), getD_both (mem_ready.1 hj).1] at h2
              cases h2
            · exact h
          subst hjm
          exact wpOp_mono (fun a' w' h' => ⟨h'.1, headZ_of_any (allIn_set e) h'.2⟩) (hm _ _ hC _ ((H.1 e).2 j (ready_mono hj hji)))
      obtain ⟨hjun, oj, hoj, haft⟩ := mem_ready.1 hj
      have hnot : ∀ e ∈ oj.after, Region.binds md e = true → e.on ≠ i := fun e he hb heq => by
        have h1 := haft e he hb
        rw [heq, getD_both hun] at h1
        cases h1
      have hap := hfree j oj hoj hji hjun hnot
      obtain ⟨_, _, h3⟩ := Oper.apart_spec hap
      have h2 := wpOp_putY (Y := PureIn P ops C oi v) hoj hap (fun cs b => hsel j oj cs b hoj) (fun a hy u => hy.of_same (execOp_put oi (fun cs b => hsel i oi cs b hi) a oj.dst u h3) (wanted_put oi a oj.dst u h3)) (fun a d hy => hy.of_same rfl rfl) hQ hy h1
      have hfree' : ∀ k ok, ops[k]? = some ok → k ≠ i → (listed.setIfInBounds j true).getD k true = false →
          (∀ e ∈ ok.after, Region.binds md e = true → e.on ≠ i) → oi.apart ops ok = true := fun k ok hk hki hun hno => by
        refine hfree k ok hk hki ?_ hno
        by_cases hjk : j = k
        · subst hjk; exact hjun
        · rw [getD_set_ne true hjk] at hun; exact hun
      refine wpOp_mono (fun a' w' h3 => ⟨h3.2.1, ih (listed.setIfInBounds j true) a' w' h3.2.1 (inv.set hB hj) hfree' (ready_mono hr (Ne.symm hji)) h3.1 ?_⟩) h2
      rw [Array.setIfInBounds_comm _ _ hji]
      exact h3.2.2

theorem headZ_pure {ps : List Nat} {m c : Nat} (hB : zB md ops ps m c = true) (hsel : Region.noSelect ops = true) (hQ : ∀ c a d v w, Q (.panic c) (a.put d v) w → Q (.panic c) a w)
    (hm : ∀ a w, C w → ∀ K, wpOp P ops Q m K a w → wpOp P ops Q m (fun a' w' => C w' ∧ K a' w') a w) (f : Nat) {K : Act → Prop} {listed' : Array Bool} (hK : ∀ a w, C w → K a → headZ P md ops C Q ps f listed' a w) :
    ∀ (qs : List Nat) (l : List Oper) (listed : Array Bool) (a : Act) (w : World), C w → qs.map (fun i => ops[i]?) = l.map some → (∀ i ∈ qs, i ∈ ps) → ZInv md ops ps m listed → freeL md ops qs listed = true → setL qs listed = listed' →
      pureW P ops C K l a → headZ P md ops C Q ps (qs.length + f) listed a w
  | [], [], listed, a, w, hw, _, _, _, _, he, h => by rw [List.length_nil, Nat.zero_add]; subst he; exact hK a w hw h
  | [], _ :: _, _, _, _, _, hm, _, _, _, _, _ => by simp at hm
  | _ :: _, [], _, _, _, _, hm, _, _, _, _, _ => by simp at hm
  | i :: qs, o :: l, listed, a, w, hw, hmm, hsub, inv, hf, he, h => by
    simp only [List.map_cons, List.cons.injEq] at hmm
    obtain ⟨h0, hmm⟩ := hmm
    simp only [freeL, Bool.and_eq_true] at hf
    obtain ⟨⟨hr, hfr⟩, hf⟩ := hf
    obtain ⟨v, hy, hn⟩ := h
    have hr' : i ∈ Region.ready md ops listed := by simpa using hr
    rw [List.length_cons, show qs.length + 1 + f = (qs.length + f) + 1 by omega]
    exact headZ_first hB h0 (Region.noSelect_spec hsel) (fun c a w => hQ c a _ v w) (hsub i List.mem_cons_self) hm _ listed a w hw inv (Region.free_spec h0 hfr) hr' hy
      (headZ_pure hB hsel hQ hm f hK qs l _ _ w hw hmm (fun j hj => hsub j (List.mem_cons_of_mem _ hj)) (inv.set hB hr') hf he hn)

/-- The pure operations of a region ahead of all else. -/
theorem region_first {id : Nat} {a : Act} {w : World} {l : List Oper} (ps : List Nat) (m c g : Nat) (hmx : P.follows .mixedOrders = true) (hp : ps.map (fun i => l.toArray[i]?) = (selL l ps).map some)
    (hB : (Region.noSelect l.toArray && zB .any l.toArray ps m c && freeL .any l.toArray ps (Array.replicate l.toArray.size false) && !ps.isEmpty && decide (ps.length + g = l.toArray.size)) = true) (hQ : ∀ c a d v w, Q (.panic c) (a.put d v) w → Q (.panic c) a w)
    (hm : ∀ a w', Cw w w' → ∀ K, wpOp P l.toArray Q m K a w' → wpOp P l.toArray Q m (fun a' w'' => Cw w w'' ∧ K a' w'') a w')
    (h : pureW P l.toArray (Cw w) (fun a1 => ∀ ws, Cw w ws → wpAny P .any l.toArray Q g (setL ps (Array.replicate l.toArray.size false)) a1 ws) (selL l ps) a) : (Code.region id l.toArray true).wp P Q a w := by
  refine wp_region_any hmx ?_
  simp only [Bool.and_eq_true, decide_eq_true_eq] at hB
  obtain ⟨⟨⟨⟨hsel, hz⟩, hf⟩, hne⟩, hsz⟩ := hB
  have hno : ∀ j, (Array.replicate l.toArray.size false).getD j false = false := fun j => by
    rw [Array.getD_eq_getD_getElem?, Array.getElem?_replicate]; split <;> rfl
  have inv0 : ZInv .any l.toArray ps m (Array.replicate l.toArray.size false) := ⟨⟨by simp, fun j oj hj hl e he hb => (by rw [hno] at hl; cases hl), fun t ht => (by cases ht), fun j hj _ => .inl (List.mem_range.2 hj)⟩, fun j _ _ _ hl => (by rw [hno] at hl; cases hl)⟩
  have hall : allIn ps (setL ps (Array.replicate l.toArray.size false)) = true := by
    have hsz' : ∀ (qs : List Nat) (li : Array Bool), (setL qs li).size = li.size := fun qs => by
      induction qs with
      | nil => intro li; rfl
      | cons x qs ih => intro li; show (setL qs (li.setIfInBounds x true)).size = _; rw [ih]; simp
    have keep : ∀ (qs : List Nat) (li : Array Bool) (j : Nat), li.getD j false = true → (setL qs li).getD j false = true := fun qs => by
      induction qs with
      | nil => intro li j h; exact h
      | cons x qs ih => intro li j h; exact ih _ _ (getD_set_true h)
    have key : ∀ (qs : List Nat) (li : Array Bool), (∀ i ∈ qs, i < li.size) → ∀ i ∈ qs, (setL qs li).getD i false = true := fun qs => by
      induction qs with
      | nil => intro li _ i hi; cases hi
      | cons x qs ih =>
        intro li hlt i hi
        rcases List.mem_cons.1 hi with rfl | hi
        · refine keep qs _ _ ?_
          have := hlt i List.mem_cons_self
          rw [Array.getD_eq_getD_getElem?]
          simp [this]
        · exact ih _ (fun j hj => by simpa using hlt j (List.mem_cons_of_mem _ hj)) i hi
    simp only [allIn, List.all_eq_true]
    intro i hi
    have hz' := hz
    simp only [zB, Bool.and_eq_true] at hz'
    have := List.all_eq_true.1 hz'.1.1 i hi
    exact key ps _ (fun j hj => by have := List.all_eq_true.1 hz'.1.1 j hj; simpa using this) i hi
  have hC0 : Cw w { w with drawn := w.drawn + 1 } := ⟨⟨w.drawn + 1, #[]⟩, by rw [grow_empty]; rfl⟩
  have := any_of_headZ (C := Cw w) (ps := ps) _ _ _ _ (headZ_pure (P := P) (md := .any) (C := Cw w) (Q := Q) hz hsel hQ hm g (fun a1 w1 hC1 hK1 => headZ_of_any hall (hK1 w1 hC1)) ps (selL l ps) (Array.replicate l.toArray.size false) a { w with drawn := w.drawn + 1 } hC0 hp (fun _ h => h) inv0 hf rfl h)
  rwa [hsz] at this

/-- Steps of an order by hand. -/
theorem any_one {f i : Nat} {o : Oper} {listed : Array Bool} {a : Act} {w : World} (hr : Region.ready md ops listed = [i]) (hi : ops[i]? = some o) (hg : o.guard = none) (h : wpList P ops (nrm Q fun a' w' => wpAny P md ops Q f (listed.setIfInBounds i true) a' w') [o] a w) : wpAny P md ops Q (f + 1) listed a w := by
  refine ⟨fun h0 => (by rw [hr] at h0; cases h0), fun j hj => ?_⟩
  rw [hr] at hj
  obtain rfl : j = i := by simpa using hj
  exact op_of_list hi hg h
theorem any_two {f i i' : Nat} {o o' : Oper} {listed : Array Bool} {a : Act} {w : World} (hr : Region.ready md ops listed = [i, i']) (hi : ops[i]? = some o) (hi' : ops[i']? = some o') (hg : o.guard = none) (hg' : o'.guard = none) (h : wpList P ops (nrm Q fun a' w' => wpAny P md ops Q f (listed.setIfInBounds i true) a' w') [o] a w)
    (h' : wpList P ops (nrm Q fun a' w' => wpAny P md ops Q f (listed.setIfInBounds i' true) a' w') [o'] a w) : wpAny P md ops Q (f + 1) listed a w := by
  refine ⟨fun h0 => (by rw [hr] at h0; cases h0), fun j hj => ?_⟩
  rw [hr] at hj
  have hj' : j = i ∨ j = i' := by simpa using hj
  rcases hj' with rfl | rfl
  · exact op_of_list hi hg h
  · exact op_of_list hi' hg' h'

theorem any_pure {l : List Oper} (ps : List Nat) (f : Nat) {listed : Array Bool} {a : Act} {w : World} (hp : ps.map (fun i => l.toArray[i]?) = (selL l ps).map some) (hB : (Region.noSelect l.toArray && freeL md l.toArray ps listed) = true) (hQ : ∀ c a d v w, Q (.panic c) (a.put d v) w → Q (.panic c) a w)
    (h : pureW P l.toArray (fun _ => True) (fun a' => wpAny P md l.toArray Q f (setL ps listed) a' w) (selL l ps) a) : wpAny P md l.toArray Q (ps.length + f) listed a w := by
  simp only [Bool.and_eq_true] at hB
  exact any_take ps (selL l ps) listed a w f hB.1 hQ hp hB.2 h
theorem any_tail {l : List Oper} (tl : List Nat) {listed : Array Bool} {a : Act} {w : World} (hp : tl.map (fun i => l.toArray[i]?) = (selL l tl).map some) (hB : seqL md l.toArray tl listed = true)
    (h : wpList P l.toArray Q (selL l tl) a w) : wpAny P md l.toArray Q tl.length listed a w := any_of_seqL tl (selL l tl) listed a w hp hB h

/-- A new block keeps what was there. -/
theorem alloc_mid {j : Nat} {o : Oper} {elem : TypeId} {W : World} (hj : ops[j]? = some o) (ho : o.op = .alloc elem) (ha : ∀ w, ∃ v ob, (Instr.alloc elem true (.tuple #[])).run P w = .ok v (w.alloc ob)) (a : Act) (w : World)
    (hC : Cw W w) (K : Act → World → Prop) (h : wpOp P ops Q j K a w) : wpOp P ops Q j (fun a' w' => Cw W w' ∧ K a' w') a w := by
  unfold wpOp at *
  simp only [hj] at *
  split
  · rename_i hw
    simp only [hw, if_true] at h
    refine h.imp (fun h => ?_) id
    unfold Oper.wp at *
    have hr : (execOp a.eval o).run P w = ((Instr.alloc elem true (.tuple #[])).run P w).andThen fun u w' => .ok (.value u) w' := by
      unfold execOp
      simp [ho]
    rw [hr] at h ⊢
    obtain ⟨v, ob, e⟩ := ha w
    have hg : Cw W (w.alloc ob) := .of (hC.below.alloc hC.below.size ob)
    simp only [e, Result.andThen_ok, Oper.upon] at h ⊢
    exact ⟨hg, h⟩
  · rename_i hw
    simp only [hw] at h
    exact ⟨hC, h⟩

end Go.Proofs.Ytmilljlkcbljpaa

/- worst. -/
namespace Go.Proofs.Ytmilljlkcbljpaa
open Go.RowKit Go.Sort

/-- The greatest of three. -/
def mx3 (x y z : Int) : Int := if z > (if y > x then y else x) then z else (if y > x then y else x)
theorem mx3_is (x y z : Int) : x ≤ mx3 x y z ∧ y ≤ mx3 x y z ∧ z ≤ mx3 x y z ∧ (mx3 x y z = x ∨ mx3 x y z = y ∨ mx3 x y z = z) := by
  unfold mx3; split <;> split <;> omega
theorem run_mx3 (ts : Array TypeId) (t : TypeId) (x y z : Int) (w : World) : (Builtin.max_ ts t #[.int .i64 x, .int .i64 y, .int .i64 z]).run Try.prog w = .ok (.int .i64 (mx3 x y z)) w := run_max_int3 w ts t .i64 .i64 .i64 x y z

/-- The error over the first k channels. -/
def wc (a b : Nat → Int) (n : Int) : Nat → Int
  | 0 => n
  | k + 1 => mx3 (wc a b n k) (a k - b k) (b k - a k)
theorem wc_bd {a b : Nat → Int} {n : Int} (ha : InG a) (hb : InG b) (h0 : 0 ≤ n) (h1 : n ≤ 65535) : ∀ k, k ≤ 3 → 0 ≤ wc a b n k ∧ wc a b n k ≤ 65535
  | 0, _ => ⟨h0, h1⟩
  | k + 1, hk => by
    have ih := wc_bd ha hb h0 h1 k (by omega)
    have a1 := ha k (by omega)
    have b1 := hb k (by omega)
    have := mx3_is (wc a b n k) (a k - b k) (b k - a k)
    show 0 ≤ mx3 _ _ _ ∧ mx3 _ _ _ ≤ 65535
    omega
theorem wc_le {a b : Nat → Int} {n : Int} : ∀ k, n ≤ wc a b n k
  | 0 => Int.le_refl _
  | k + 1 => Int.le_trans (wc_le k) (mx3_is (wc a b n k) (a k - b k) (b k - a k)).1
theorem wc_ge {a b : Nat → Int} {n : Int} : ∀ k i, i < k → a i - b i ≤ wc a b n k ∧ b i - a i ≤ wc a b n k
  | 0, i, h => by omega
  | k + 1, i, h => by
    have := mx3_is (wc a b n k) (a k - b k) (b k - a k)
    show a i - b i ≤ mx3 _ _ _ ∧ b i - a i ≤ mx3 _ _ _
    by_cases e : i = k
    · subst e; omega
    · have := wc_ge (a := a) (b := b) (n := n) k i (by omega); omega
/-- The error over the first k colours. -/
def wsV (A B : Nat → Nat → Int) : Nat → Int
  | 0 => 0
  | k + 1 => wc (A k) (B k) (wsV A B k) 3
theorem wsV_bd {A B : Nat → Nat → Int} {n : Nat} (hA : ∀ k, k < n → InG (A k)) (hB : ∀ k, k < n → InG (B k)) : ∀ k, k ≤ n → 0 ≤ wsV A B k ∧ wsV A B k ≤ 65535
  | 0, _ => by show (0 : Int) ≤ 0 ∧ (0 : Int) ≤ 65535; omega
  | k + 1, hk => wc_bd (hA k (by omega)) (hB k (by omega)) (wsV_bd hA hB k (by omega)).1 (wsV_bd hA hB k (by omega)).2 3 (Nat.le_refl _)
theorem wsV_ge {A B : Nat → Nat → Int} : ∀ n k i, k < n → i < 3 → A k i - B k i ≤ wsV A B n ∧ B k i - A k i ≤ wsV A B n
  | 0, k, i, h, _ => by omega
  | n + 1, k, i, h, hi => by
    show A k i - B k i ≤ wc (A n) (B n) (wsV A B n) 3 ∧ B k i - A k i ≤ wc (A n) (B n) (wsV A B n) 3
    by_cases e : k = n
    · subst e; exact wc_ge 3 i hi
    · have := wsV_ge (A := A) (B := B) n k i (by omega) hi
      have h2 := wc_le (a := A n) (b := B n) (n := wsV A B n) 3
      omega

theorem lkV_gam {N n : Nat} {g : Nat → Nat → Int} (hG : GrV N n g) (c : Nat → Int) : InG (lkV N g c) := fun i hi => by
  have := lkS_bd hG c hi
  unfold lkV
  omega

/-- The two answers at colour k. -/
noncomputable def wA (S : Nat → Sp) (n : Nat) (L : Nat → Nat → Int) (k : Nat) : Nat → Int := gam (cnv S (L k) (n - 1))
def wB (N : Nat) (g L : Nat → Nat → Int) (k : Nat) : Nat → Int := lkV N g (L k)
/-- The greatest error of a grid. -/
noncomputable def wstV (S : Nat → Sp) (n N : Nat) (g L : Nat → Nat → Int) (l : Nat) : Int := wsV (wA S n L) (wB N g L) l

set_option maxRecDepth 100000 in
set_option maxHeartbeats 4000000 in
theorem worst_any {n N l m B : Nat} {v vg vl : Value} {S : Nat → Sp} {g L : Nat → Nat → Int} {w : World} (hn1 : 1 ≤ n) (hn : n ≤ 4096) (hl : l ≤ 1000000) (hB : B ≤ w.heap.size) (hc : Chn w B v n S) (hv : ∀ k, k < n → (S k).val = true)
    (hG : GrV N m g) (hg : Cls w B vg m g) (hL : Cls w B vl l L) :
    Calls Try.prog 48 #[v, .agg #[.int .i64 N, vg], vl] w fun e w' => e = .returned (.int .i64 (wstV S n N g L l)) ∧ Below w.heap.size w w' := by
  obtain ⟨w0, h0⟩ : ∃ w0, w.alloc (.cells #[.int .i64 N, vg] 31) = w0 := ⟨_, rfl⟩
  have t1 : Two 31 w0 w.heap.size (.int .i64 N) vg := by rw [← h0]; exact Two.new w _ _ _
  have hb0 : Below w.heap.size w w0 := by rw [← h0]; exact (Below.refl _ _).alloc (Nat.le_refl _) _
  have T1 := Lib.hid t1
  have HC := Lib.hid hc
  have HV := Lib.hid hv
  have HG := Lib.hid hG
  have HGC := Lib.hid hg
  have HL := Lib.hid hL
  have HA : Hid (∀ k, k < l → InG (wA S n L k)) := Lib.hid (fun k _ => InG.of _)
  have HB : Hid (∀ k, k < l → InG (wB N g L k)) := Lib.hid (fun k _ => lkV_gam hG _)
  have hsh := hL.shape
  have hgs := hg.shape
  obtain ⟨al, cl, rfl⟩ := hsh
  obtain ⟨ag, cg, rfl⟩ := hgs
  clear t1 hc hv hG hg hL
  go_enter Try.func48, Try.ntmps48
  go_wp2
  clear h0
  go_loopw [7, 15] (fun e i wr => ∃ k : Nat, k ≤ l ∧ i = .int .i64 k ∧ e = .int .i64 (wsV (wA S n L) (wB N g L) k) ∧ Below w.heap.size w wr ∧ Two 31 wr w.heap.size (.int .i64 N) (.slice ag m cg)) (fun _ i _ => l - (intOf i).toNat)
  case atStart => exact ⟨0, by omega, rfl, rfl, hb0, T1.out⟩
  case round =>
    obtain ⟨k, hk, rfl, rfl, hq, t1⟩ := hrel
    by_cases hlt : k < l
    · have hLr := HL.out.below hq hB
      obtain ⟨lb, lo, lc, e1, e2, e3⟩ := hLr.at (by omega)
      cases e1
      have c0 := e3 k hlt 0 (by omega)
      have c1 := e3 k hlt 1 (by omega)
      have c2 := e3 k hlt 2 (by omega)
      rw [Nat.add_zero] at c0
      have g0 := t1.c0
      have g1 := t1.c1
      have hqs := hq.size
      have i1 : 0 ≤ (k : Int) ∧ (k : Int) < l := by omega
      obtain ⟨w1, h1⟩ : ∃ w1, wr.alloc (.cells #[.int .i64 (L k 0), .int .i64 (L k 1), .int .i64 (L k 2)] 28) = w1 := ⟨_, rfl⟩
      have x1 : Tri 28 w1 wr.heap.size (L k) := by rw [← h1]; exact Tri.new wr (L k) _
      have hb1 : Below wr.heap.size wr w1 := by rw [← h1]; exact (Below.refl _ _).alloc (Nat.le_refl _) _
      have hq1 := hq.trans (hb1.mono hq.size)
      have kl := Lib.hid (look_any (c := L k) (w := w1) HG.out (Nat.le_trans hB hq1.size) (HGC.out.below hq1 hB))
      unfold col at kl
      have y0 := x1.c0
      have y1 := x1.c1
      have y2 := x1.c2
      have q0 : w1.cell? ⟨w.heap.size, 0, none⟩ = some (.int .i64 N) := (t1.on hb1).c0
      have q1 : w1.cell? ⟨w.heap.size, 1, none⟩ = some (.slice ag m cg) := (t1.on hb1).c1
      have X1 := Lib.hid x1
      have U1 := Lib.hid (t1.on hb1)
      clear x1 t1 hLr e3
      go_wp2_with fail
      refine kl.out.mono ?_
      rintro e w2 ⟨rfl, hb2⟩
      have eB : lkV N g (L k) = wB N g L k := rfl
      rw [eB]
      clear eB
      have eA := Lib.hid (show gam (cnv S (L k) (n - 1)) = wA S n L k from rfl)
      obtain ⟨b, hbv⟩ : ∃ b, wB N g L k = b := ⟨_, rfl⟩
      obtain ⟨a, hav⟩ : ∃ a, wA S n L k = a := ⟨_, rfl⟩
      have hGa : InG a := by rw [← hav]; exact HA.out k hlt
      have hGb : InG b := by rw [← hbv]; exact HB.out k hlt
      have hE : wsV (wA S n L) (wB N g L) (k + 1) = wc a b (wsV (wA S n L) (wB N g L) k) 3 := by show wc _ _ _ 3 = _; rw [hav, hbv]
      obtain ⟨E0, hE0⟩ : ∃ E0, wsV (wA S n L) (wB N g L) k = E0 := ⟨_, rfl⟩
      have hE01 : 0 ≤ E0 ∧ E0 ≤ 65535 := by rw [← hE0]; exact wsV_bd HA.out HB.out k hk
      rw [hav] at eA
      rw [hE0] at hE ⊢
      rw [hbv]
      have HE := Lib.hid hE
      have HGA := Lib.hid hGa
      have HGB := Lib.hid hGb
      obtain ⟨w3, h3⟩ : ∃ w3, w2.alloc (.cells #[.int .i64 (b 0), .int .i64 (b 1), .int .i64 (b 2)] 28) = w3 := ⟨_, rfl⟩
      have hb3 : Below w2.heap.size w2 w3 := by rw [← h3]; exact (Below.refl _ _).alloc (Nat.le_refl _) _
      have tb : Tri 28 w3 w2.heap.size b := by rw [← h3]; exact Tri.new w2 b _
      have hb13 : Below w1.heap.size w1 w3 := hb2.trans (hb3.mono hb2.size)
      have hq3 := hq1.trans (hb13.mono hq1.size)
      have X3 := X1.out.on hb13
      have U3 := Lib.hid (U1.out.on hb13)
      have kc := Lib.hid (convert_any (c := L k) (w := w3) hn1 hn (Nat.le_trans hB hq3.size) (HC.out.below hq3 hB) HV.out)
      unfold col at kc
      clear y0 y1 y2 q0 q1 c0 c1 c2 g0 g1 h1 hE hGa hGb hav hbv hE0
      have y0 := X3.c0
      have y1 := X3.c1
      have y2 := X3.c2
      have TB := Lib.hid tb
      clear X3 tb hb2 hb3 hb13
      go_wp2_with fail
      refine kc.out.mono ?_
      rintro e w4 ⟨rfl, hb4⟩
      have TB4 := Lib.hid (TB.out.on hb4)
      have U4 := Lib.hid (U3.out.on hb4)
      have hq4 := hq3.trans (hb4.mono hq3.size)
      have kg := Lib.hid (gamut_any (c := cnv S (L k) (n - 1)) (w := w4))
      rw [eA.out] at kg
      unfold col at kg
      clear y0 y1 y2 h3 hb4
      go_wp2_with fail
      refine kg.out.mono ?_
      rintro e w5 ⟨rfl, hb5⟩
      have TB5 := Lib.hid (TB4.out.on hb5)
      have U5 := Lib.hid (U4.out.on hb5)
      have hq5 := hq4.trans (hb5.mono hq4.size)
      clear hb5
      go_wp2
      go_loopw [7, 26] (fun e i wr => ∃ j : Nat, j ≤ 3 ∧ i = .int .i64 j ∧ e = .int .i64 (wc a b E0 j) ∧ Drawn w5 wr) (fun _ i _ => 3 - (intOf i).toNat)
      case atStart => exact ⟨0, by omega, rfl, rfl, .refl _⟩
      case round =>
        obtain ⟨j, hj, rfl, rfl, hd⟩ := hrel
        by_cases hjl : j < 3
        · have hix := index_col a j hjl
          have cb := (TB5.out.on (hd.below _)).cell j hjl
          have a1 := HGA.out j hjl
          have b1 := HGB.out j hjl
          have e1 := wc_bd HGA.out HGB.out hE01.1 hE01.2 j hj
          have HS := Lib.hid (show wc a b E0 (j + 1) = mx3 (wc a b E0 j) (a j - b j) (b j - a j) from rfl)
          have hmx := fun (ts : Array TypeId) (t : TypeId) (w : World) => run_mx3 ts t (wc a b E0 j) (a j - b j) (b j - a j) w
          generalize mx3 (wc a b E0 j) (a j - b j) (b j - a j) = M at *
          generalize wc a b E0 j = Ej at *
          generalize a j = aj at *
          generalize b j = bj at *
          have i2 : 0 ≤ (j : Int) ∧ (j : Int) < 3 := by omega
          have HD := Lib.hid hd
          clear hd
          go_wp2
          go_quiet (fail)
          go_wp2
          go_roundw
          case rel => exact ⟨j + 1, by omega, by go_num, by rw [HS.out], HD.out.on _⟩
          case measure => simp [intOf]; omega
        · obtain rfl : j = 3 := by omega
          have U6 := Lib.hid (U5.out.on (hd.below _))
          have hq6 := Lib.hid (hq5.trans ((hd.below _).mono hq5.size))
          clear hd
          go_wp2
          go_roundw
          case rel => exact ⟨k + 1, by omega, by go_num, by rw [HE.out], hq6.out, U6.out⟩
          case measure => simp [intOf]; omega
    · obtain rfl : k = l := by omega
      clear t1
      go_wp2
      go_ret
      exact ⟨rfl, hq⟩

end Go.Proofs.Ytmilljlkcbljpaa

/- Worst. -/
namespace Go.Proofs.Ytmilljlkcbljpaa
open Go.RowKit Go.Sort

set_option maxRecDepth 100000 in
set_option maxHeartbeats 2000000 in
theorem Worst_chk {n N l m B : Nat} {v vg vl : Value} {S : Nat → Sp} {g L : Nat → Nat → Int} {w : World} (hn : n ≤ 9223372036854775807) (hB : B ≤ w.heap.size) (hc : Chn w B v n S) (he : chkV n S ≠ 0) (hg : Cls w B vg m g) (hL : Cls w B vl l L) :
    Calls Try.prog 17 #[v, .agg #[.int .i64 N, vg], vl] w fun e w' => e = .returned (.tuple #[.int .i64 0, .int .i64 (chkV n S)]) ∧ Below w.heap.size w w' := by
  obtain ⟨w0, h0⟩ : ∃ w0, w.alloc (.cells #[.int .i64 N, vg] 31) = w0 := ⟨_, rfl⟩
  have hb0 : Below w.heap.size w w0 := by rw [← h0]; exact (Below.refl _ _).alloc (Nat.le_refl _) _
  have kc := Lib.hid (check_any (w := w0) hn (Nat.le_trans hB hb0.size) (hc.below hb0 hB))
  obtain ⟨al, cl, rfl⟩ := hL.shape
  obtain ⟨ag, cg, rfl⟩ := hg.shape
  obtain ⟨E, hE⟩ : ∃ E, chkV n S = E := ⟨_, rfl⟩
  rw [hE] at kc he ⊢
  have e0 : (E != 0) = true := by simpa using he
  clear hc hg hL he hE
  go_enter Try.func17, Try.ntmps17
  go_wp2_with fail
  refine kc.out.mono ?_
  rintro e w1 ⟨rfl, hb1⟩
  have hq := hb0.trans (hb1.mono hb0.size)
  clear h0
  go_wp2
  refine bodyPost_ret (v := .tuple #[.int .i64 0, .int .i64 E]) (by simp [results, Try.results17, go_sem]) rfl ?_
  exact ⟨rfl, hq⟩

set_option maxRecDepth 100000 in
set_option maxHeartbeats 2000000 in
theorem Worst_no {n N l m B : Nat} {v vg vl : Value} {S : Nat → Sp} {g L : Nat → Nat → Int} {w : World} (hn : n ≤ 9223372036854775807) (hN : N ≤ 1000000) (hB : B ≤ w.heap.size) (hc : Chn w B v n S) (he : chkV n S = 0) (hG : ¬ GrV N m g) (hg : Cls w B vg m g) (hL : Cls w B vl l L) :
    Calls Try.prog 17 #[v, .agg #[.int .i64 N, vg], vl] w fun e w' => e = .returned (.tuple #[.int .i64 0, .int .i64 1]) ∧ Below w.heap.size w w' := by
  obtain ⟨w0, h0⟩ : ∃ w0, w.alloc (.cells #[.int .i64 N, vg] 31) = w0 := ⟨_, rfl⟩
  have t1 : Two 31 w0 w.heap.size (.int .i64 N) vg := by rw [← h0]; exact Two.new w _ _ _
  have hb0 : Below w.heap.size w w0 := by rw [← h0]; exact (Below.refl _ _).alloc (Nat.le_refl _) _
  have kc := Lib.hid (check_any (w := w0) hn (Nat.le_trans hB hb0.size) (hc.below hb0 hB))
  have HG := Lib.hid hg
  obtain ⟨al, cl, rfl⟩ := hL.shape
  obtain ⟨ag, cg, rfl⟩ := hg.shape
  have T1 := Lib.hid t1
  rw [he] at kc
  clear hc hg hL he t1
  go_enter Try.func17, Try.ntmps17
  go_wp2_with fail
  refine kc.out.mono ?_
  rintro e w1 ⟨rfl, hb1⟩
  have hq := hb0.trans (hb1.mono hb0.size)
  have t1 := T1.out.on hb1
  have g0 := t1.c0
  have g1 := t1.c1
  have kv := Lib.hid (grid_any (N := N) (w := w1) hN (Nat.le_trans hB hq.size) (HG.out.below hq hB))
  rw [grB_f hG] at kv
  clear h0 t1 hG
  go_wp2_with fail
  refine kv.out.mono ?_
  rintro e w2 ⟨rfl, hb2⟩
  have hq2 := hq.trans (hb2.mono hq.size)
  clear g0 g1
  go_wp2
  refine bodyPost_ret (v := .tuple #[.int .i64 0, .int .i64 1]) (by simp [results, Try.results17, go_sem]) rfl ?_
  exact ⟨rfl, hq2⟩

set_option maxRecDepth 100000 in
set_option maxHeartbeats 2000000 in
theorem Worst_many {n N l m B : Nat} {v vg vl : Value} {S : Nat → Sp} {g L : Nat → Nat → Int} {w : World} (hn : n ≤ 9223372036854775807) (hl : 4096 < l) (hl' : l ≤ 1000000) (hB : B ≤ w.heap.size) (hc : Chn w B v n S) (he : chkV n S = 0) (hG : GrV N m g) (hg : Cls w B vg m g) (hL : Cls w B vl l L) :
    Calls Try.prog 17 #[v, .agg #[.int .i64 N, vg], vl] w fun e w' => e = .returned (.tuple #[.int .i64 0, .int .i64 2]) ∧ Below w.heap.size w w' := by
  obtain ⟨w0, h0⟩ : ∃ w0, w.alloc (.cells #[.int .i64 N, vg] 31) = w0 := ⟨_, rfl⟩
  have t1 : Two 31 w0 w.heap.size (.int .i64 N) vg := by rw [← h0]; exact Two.new w _ _ _
  have hb0 : Below w.heap.size w w0 := by rw [← h0]; exact (Below.refl _ _).alloc (Nat.le_refl _) _
  have kc := Lib.hid (check_any (w := w0) hn (Nat.le_trans hB hb0.size) (hc.below hb0 hB))
  have HG := Lib.hid hg
  obtain ⟨al, cl, rfl⟩ := hL.shape
  obtain ⟨ag, cg, rfl⟩ := hg.shape
  have T1 := Lib.hid t1
  rw [he] at kc
  clear hc hg hL he t1
  go_enter Try.func17, Try.ntmps17
  go_wp2_with fail
  refine kc.out.mono ?_
  rintro e w1 ⟨rfl, hb1⟩
  have hq := hb0.trans (hb1.mono hb0.size)
  have t1 := T1.out.on hb1
  have g0 := t1.c0
  have g1 := t1.c1
  have kv := Lib.hid (grid_any (N := N) (w := w1) (by have := hG.2.1; omega) (Nat.le_trans hB hq.size) (HG.out.below hq hB))
  rw [grB_t hG] at kv
  have dl : decide (4096 < (l : Int)) = true := decide_eq_true (by omega)
  clear h0 t1 hG
  go_wp2_with fail
  refine kv.out.mono ?_
  rintro e w2 ⟨rfl, hb2⟩
  have hq2 := hq.trans (hb2.mono hq.size)
  clear g0 g1
  go_wp2
  refine bodyPost_ret (v := .tuple #[.int .i64 0, .int .i64 2]) (by simp [results, Try.results17, go_sem]) rfl ?_
  exact ⟨rfl, hq2⟩

set_option maxRecDepth 100000 in
set_option maxHeartbeats 2000000 in
theorem Worst_yes {n N l m B : Nat} {v vg vl : Value} {S : Nat → Sp} {g L : Nat → Nat → Int} {w : World} (hn : n ≤ 9223372036854775807) (hl : l ≤ 4096) (hB : B ≤ w.heap.size) (hc : Chn w B v n S) (he : chkV n S = 0) (hG : GrV N m g) (hg : Cls w B vg m g) (hL : Cls w B vl l L) :
    Calls Try.prog 17 #[v, .agg #[.int .i64 N, vg], vl] w fun e w' => e = .returned (.tuple #[.int .i64 (wstV S n N g L l), .int .i64 0]) ∧ Below w.heap.size w w' := by
  obtain ⟨w0, h0⟩ : ∃ w0, w.alloc (.cells #[.int .i64 N, vg] 31) = w0 := ⟨_, rfl⟩
  have t1 : Two 31 w0 w.heap.size (.int .i64 N) vg := by rw [← h0]; exact Two.new w _ _ _
  have hb0 : Below w.heap.size w w0 := by rw [← h0]; exact (Below.refl _ _).alloc (Nat.le_refl _) _
  have kc := Lib.hid (check_any (w := w0) hn (Nat.le_trans hB hb0.size) (hc.below hb0 hB))
  have HG := Lib.hid hg
  have HC := Lib.hid hc
  have HL := Lib.hid hL
  have HGV := Lib.hid hG
  obtain ⟨k1, k2, k3⟩ := chkV_ok he
  have HK := Lib.hid k3
  obtain ⟨al, cl, rfl⟩ := hL.shape
  obtain ⟨ag, cg, rfl⟩ := hg.shape
  have T1 := Lib.hid t1
  rw [he] at kc
  clear hc hg hL he t1 k3
  go_enter Try.func17, Try.ntmps17
  go_wp2_with fail
  refine kc.out.mono ?_
  rintro e w1 ⟨rfl, hb1⟩
  have hq := hb0.trans (hb1.mono hb0.size)
  have t1 := T1.out.on hb1
  have T2 := Lib.hid t1
  have g0 := t1.c0
  have g1 := t1.c1
  have kv := Lib.hid (grid_any (N := N) (w := w1) (by have := hG.2.1; omega) (Nat.le_trans hB hq.size) (HG.out.below hq hB))
  rw [grB_t hG] at kv
  have dl : decide (4096 < (l : Int)) = false := decide_eq_false (by omega)
  clear h0 t1 hG
  go_wp2_with fail
  refine kv.out.mono ?_
  rintro e w2 ⟨rfl, hb2⟩
  have hq2 := hq.trans (hb2.mono hq.size)
  have t2 := T2.out.on hb2
  clear g0 g1
  have g0 := t2.c0
  have g1 := t2.c1
  have kw := Lib.hid (worst_any (w := w2) (by omega) (by omega) (by omega) (Nat.le_trans hB hq2.size) (HC.out.below hq2 hB) HK.out HGV.out (HG.out.below hq2 hB) (HL.out.below hq2 hB))
  clear t2
  go_wp2_with fail
  refine kw.out.mono ?_
  rintro e w3 ⟨rfl, hb3⟩
  have hq3 := hq2.trans (hb3.mono hq2.size)
  clear g0 g1
  go_wp2
  refine bodyPost_ret (v := .tuple #[.int .i64 (wstV S n N g L l), .int .i64 0]) (by simp [results, Try.results17, go_sem]) rfl ?_
  exact ⟨rfl, hq3⟩

end Go.Proofs.Ytmilljlkcbljpaa

/- Simplify. -/
namespace Go.Proofs.Ytmilljlkcbljpaa
open Go.RowKit Go.Sort

theorem tab_grv {S : Nat → Sp} {n m : Nat} (h : 2 ≤ m) (h' : m ≤ 17) : GrV m (m * m * m) (tabV S n m) := ⟨h, h', rfl, fun _ _ => InG.of _⟩
/-- The error of the table of size m. -/
noncomputable def tbW (S : Nat → Sp) (n : Nat) (L : Nat → Nat → Int) (l m : Nat) : Int := wstV S n m (tabV S n m) L l

set_option maxRecDepth 100000 in
set_option maxHeartbeats 2000000 in
theorem Simplify_chk {n l B : Nat} {v vl : Value} {S : Nat → Sp} {L : Nat → Nat → Int} {w : World} (hn : n ≤ 9223372036854775807) (hB : B ≤ w.heap.size) (hc : Chn w B v n S) (he : chkV n S ≠ 0) (hL : Cls w B vl l L) :
    Calls Try.prog 19 #[v, vl] w fun e w' => e = .returned (.tuple #[.agg #[.int .i64 0, .slice none 0 0], .int .i64 (chkV n S)]) ∧ Below w.heap.size w w' := by
  obtain ⟨w0, h0, hb0, hz, t1⟩ := grid_new w 31
  have T1 := Lib.hid t1
  have kc := Lib.hid (check_any (w := w0) hn (by omega) (hc.below hb0 hB))
  obtain ⟨al, cl, rfl⟩ := hL.shape
  obtain ⟨E, hE⟩ : ∃ E, chkV n S = E := ⟨_, rfl⟩
  rw [hE] at kc he ⊢
  have d0 : (E != 0) = true := by simpa using he
  clear t1 hc he hE hL
  go_enter Try.func19, Try.ntmps19
  go_wp2_with fail
  refine kc.out.mono ?_
  rintro e w1 ⟨rfl, hb1⟩
  have t1 := T1.out.on hb1
  have x0 := t1.c0
  have x1 := t1.c1
  have y0 := t1.free 0
  have y1 := t1.free 1
  have hq := hb0.trans (hb1.mono hb0.size)
  clear t1 h0
  go_wp2
  refine bodyPost_ret (v := .tuple #[.agg #[.int .i64 0, .slice none 0 0], .int .i64 E]) (by simp [results, Try.results19, go_sem, *]) rfl ?_
  exact ⟨rfl, set2_below hq (by simp) _ _⟩

/-- What Simplify returns: the first table whose error is small enough, or none. -/
def SimOk (S : Nat → Sp) (n : Nat) (L : Nat → Nat → Int) (l : Nat) (w w' : World) (e : Ending) : Prop :=
  (∃ (m : Nat) (x : Value), 2 ≤ m ∧ m ≤ 17 ∧ tbW S n L l m ≤ 257 ∧ (∀ j, 2 ≤ j → j < m → 257 < tbW S n L l j) ∧ e = .returned (.tuple #[.agg #[.int .i64 m, x], .int .i64 0]) ∧ w'.ownsRow w.heap.size 28 3 x (m * m * m) (vals3 (tabV S n m) (m * m * m))) ∨
  ((∀ j, 2 ≤ j → j ≤ 17 → 257 < tbW S n L l j) ∧ e = .returned (.tuple #[.agg #[.int .i64 0, .slice none 0 0], .int .i64 22]))

set_option maxRecDepth 100000 in
set_option maxHeartbeats 4000000 in
theorem Simplify_yes {n l B : Nat} {v vl : Value} {S : Nat → Sp} {L : Nat → Nat → Int} {w : World} (hn : n ≤ 9223372036854775807) (hl : l ≤ 4096) (hB : B ≤ w.heap.size) (hc : Chn w B v n S) (he : chkV n S = 0) (hL : Cls w B vl l L) :
    Calls Try.prog 19 #[v, vl] w fun e w' => SimOk S n L l w w' e ∧ Below w.heap.size w w' := by
  obtain ⟨w0, h0, hb0, hz, t1⟩ := grid_new w 31
  have T1 := Lib.hid t1
  have kc := Lib.hid (check_any (w := w0) hn (by omega) (hc.below hb0 hB))
  obtain ⟨k1, k2, k3⟩ := chkV_ok he
  have HK := Lib.hid k3
  have HC := Lib.hid hc
  have HL := Lib.hid hL
  obtain ⟨al, cl, rfl⟩ := hL.shape
  have Z := Lib.hid hz
  rw [he] at kc
  have dl : decide (4096 < (l : Int)) = false := decide_eq_false (by omega)
  clear t1 hc he k3 hL hz
  go_enter Try.func19, Try.ntmps19
  go_wp2_with fail
  refine kc.out.mono ?_
  rintro e w1 ⟨rfl, hb1⟩
  have hq := hb0.trans (hb1.mono hb0.size)
  have T2 := Lib.hid (T1.out.on hb1)
  have l1 : w.heap.size < w1.heap.size := by have := hb1.size; have := Z.out; omega
  clear h0 hb1
  go_wp2
  go_loopw [7] (fun i wr => ∃ m : Nat, 2 ≤ m ∧ m ≤ 18 ∧ i = .int .i64 m ∧ Hid (∀ j, 2 ≤ j → j < m → 257 < tbW S n L l j) ∧ Two 31 wr w.heap.size (.int .i64 0) (.slice none 0 0) ∧ Below w.heap.size w wr ∧ w.heap.size < wr.heap.size) (fun i _ => 18 - (intOf i).toNat)
  case atStart => exact ⟨2, by omega, by omega, rfl, Lib.hid (fun j h1 h2 => by omega), T2.out, hq, l1⟩
  case round =>
    obtain ⟨m, hm, hm18, rfl, hs, t2, hq2, hl2⟩ := hrel
    have T3 := Lib.hid t2
    by_cases hlt : m ≤ 17
    · have q8 := (cube_bd hm hlt).1
      have dm : decide ((m : Int) ≤ 17) = true := decide_eq_true (by omega)
      clear t2
      go_wp2_with fail
      refine (sample_any (n := n) (S := S) (B := B) (by omega) (by omega) hm hlt (Nat.le_trans hB hq2.size) (HC.out.below hq2 hB) HK.out).mono ?_
      rintro e w3 ⟨x, rfl, hown, hb3⟩
      obtain ⟨gb, cap, rfl⟩ := own_pos hown (by omega)
      obtain ⟨w4, h4⟩ : ∃ w4, w3.alloc (.cells #[.int .i64 m, .slice (some ⟨gb, 0, none⟩) (m * m * m) cap] 31) = w4 := ⟨_, rfl⟩
      have hb4 : Below w3.heap.size w3 w4 := by rw [← h4]; exact (Below.refl _ _).alloc (Nat.le_refl _) _
      have t4 : Two 31 w4 w3.heap.size (.int .i64 m) (.slice (some ⟨gb, 0, none⟩) (m * m * m) cap) := by rw [← h4]; exact Two.new _ _ _ _
      have hb34 : Below wr.heap.size wr w4 := hb3.trans (hb4.mono hb3.size)
      have hq4 := hq2.trans (hb34.mono hq2.size)
      have HO := Lib.hid (own_below hown hb4)
      have hcl := (Cls.of_own hown (Nat.le_refl _)).on hb4
      have kw := Lib.hid (worst_any (w := w4) (B := w4.heap.size) (by omega) (by omega) (by omega) (Nat.le_refl _) ⟨fun k hk => Crv.mono ((HC.out.below hq4 hB).1 k hk) (Nat.le_trans hB hq4.size), by
        rcases (HC.out.below hq4 hB).2 with h | ⟨b, off, cp, h1, h2, h3⟩
        · exact .inl h
        · exact .inr ⟨b, off, cp, h1, ⟨Nat.lt_of_lt_of_le h2.1 (Nat.le_trans hB hq4.size), h2.2⟩, h3⟩⟩ HK.out (tab_grv hm hlt) hcl ((HL.out.below hq4 hB).mono (Nat.le_trans hB hq4.size)))
      have T4 := Lib.hid (T3.out.on hb34)
      have U4 := Lib.hid t4
      have g0 := t4.c0
      have g1 := t4.c1
      have eW := Lib.hid (show wstV S n m (tabV S n m) L l = tbW S n L l m from rfl)
      obtain ⟨V, hV⟩ : ∃ V, tbW S n L l m = V := ⟨_, rfl⟩
      have HV := Lib.hid hV
      rw [eW.out, hV] at kw
      clear t4 hcl hown hb3 hb4 hV
      go_wp2_with fail
      refine kw.out.mono ?_
      rintro e w5 ⟨rfl, hb5⟩
      have hq5 := hq4.trans (hb5.mono hq4.size)
      have t5 := U4.out.on hb5
      have s5 := T4.out.on hb5
      have HO5 := Lib.hid (own_below HO.out hb5)
      clear g0 g1 h4
      by_cases hle : V ≤ 257
      · have dv : decide (V ≤ 257) = true := decide_eq_true hle
        have g0 := t5.c0
        have g1 := t5.c1
        have x0 := s5.c0
        have x1 := s5.c1
        have y0 := s5.free 0
        have y1 := s5.free 1
        clear t5 s5
        go_wp2
        refine bodyPost_ret (v := .tuple #[.agg #[.int .i64 m, .slice (some ⟨gb, 0, none⟩) (m * m * m) cap], .int .i64 0]) (by simp [results, Try.results19, go_sem, *]) rfl ?_
        exact ⟨.inl ⟨m, _, hm, hlt, by rw [HV.out]; exact hle, hs.out, rfl, own_le (own_keep (own_keep HO5.out hl2) hl2) hq2.size⟩, set2_below hq5 (Nat.le_refl _) _ _⟩
      · have dv : decide (V ≤ 257) = false := decide_eq_false hle
        have T5 := Lib.hid s5
        clear t5 s5
        go_wp2
        go_roundw
        case rel => exact ⟨m + 1, by omega, by omega, by go_num, Lib.hid (fun j h1 h2 => by
            by_cases e : j = m
            · subst e; rw [HV.out]; omega
            · exact hs.out j h1 (by omega)), T5.out, hq5, by have := hb34.size; have := hb5.size; omega⟩
        case measure => simp [intOf]; omega
    · obtain rfl : m = 18 := by omega
      have x0 := t2.c0
      have x1 := t2.c1
      have y0 := t2.free 0
      have y1 := t2.free 1
      clear t2
      go_wp2
      refine bodyPost_ret (v := .tuple #[.agg #[.int .i64 0, .slice none 0 0], .int .i64 22]) (by simp [results, Try.results19, go_sem, *]) rfl ?_
      exact ⟨.inr ⟨fun j h1 h2 => hs.out j h1 (by omega), rfl⟩, set2_below hq2 (Nat.le_refl _) _ _⟩

end Go.Proofs.Ytmilljlkcbljpaa
