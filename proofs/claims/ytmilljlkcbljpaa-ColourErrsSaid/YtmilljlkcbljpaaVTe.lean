/- Texts of this proof, one behind another: Qb At Te. -/
import Derived.Test.YtmilljlkcbljpaaV9
/- A region that draws its order: the pure operations ahead, past one that makes a block; the rest by hand. -/
namespace Go.Proofs.Ytmilljlkcbljpaa
open Go.RowKit Go.Sort
variable {P : Program} {ops : Array Oper} {md : Region.Mode} {C : World → Prop} {Q : Exit → Act → World → Prop}

def allIn (ps : List Nat) (listed : Array Bool) : Bool := ps.all fun i => listed.getD i false

def headZ (P : Program) (md : Region.Mode) (ops : Array Oper) (C : World → Prop) (Q : Exit → Act → World → Prop) (ps : List Nat) : Nat → Array Bool → Act → World → Prop
  | 0, listed, a, w => wpAny P md ops Q 0 listed a w
  | f + 1, listed, a, w => (allIn ps listed = true → wpAny P md ops Q (f + 1) listed a w) ∧ (allIn ps listed = false → Region.ready md ops listed ≠ [] ∧ ∀ i ∈ Region.ready md ops listed, wpOp P ops Q i (fun a' w' => C w' ∧ headZ P md ops C Q ps f (listed.setIfInBounds i true) a' w') a w)

theorem any_of_headZ {ps : List Nat} : ∀ (f : Nat) (listed : Array Bool) (a : Act) (w : World), headZ P md ops C Q ps f listed a w → wpAny P md ops Q f listed a w
  | 0, _, _, _, h => h
  | f + 1, listed, a, w, h => by
    cases e : allIn ps listed with
    | true => exact h.1 e
    | false =>
      obtain ⟨h1, h2⟩ := h.2 e
      exact ⟨fun h0 => absurd h0 h1, fun i hi => wpOp_mono (fun a' w' h' => any_of_headZ f _ a' w' h'.2) (h2 i hi)⟩
theorem headZ_of_any {ps : List Nat} {f : Nat} {listed : Array Bool} {a : Act} {w : World} (e : allIn ps listed = true) (h : wpAny P md ops Q f listed a w) : headZ P md ops C Q ps f listed a w := by
  cases f with
  | zero => exact h
  | succ f => exact ⟨fun _ => h, fun h' => by rw [e] at h'; cases h'⟩

theorem allIn_set {ps : List Nat} {i : Nat} {listed : Array Bool} (h : allIn ps listed = true) : allIn ps (listed.setIfInBounds i true) = true := by
  unfold allIn at *
  rw [List.all_eq_true] at *
  exact fun j hj => getD_set_true (h j hj)

structure ZInv (md : Region.Mode) (ops : Array Oper) (ps : List Nat) (m : Nat) (listed : Array Bool) : Prop where
  ord : OrdInv md ops (List.range ops.size) [] listed
  rest : ∀ j, j < ops.size → j ∉ ps → j ≠ m → listed.getD j false = true → allIn ps listed = true

/-- Whatever is neither pure nor m waits for all of the pure ones: c itself does, all else waits for something that does. -/
def zB (md : Region.Mode) (ops : Array Oper) (ps : List Nat) (m c : Nat) : Bool :=
  (ps.all fun i => decide (i < ops.size)) && sinkL md ops c ps && (List.range ops.size).all fun j => ps.contains j || decide (j = m) || decide (j = c) || (List.range ops.size).any fun k => !ps.contains k && decide (k ≠ m) && Region.waitsFor md ops j k

theorem ZInv.ready {ps : List Nat} {m c : Nat} {listed : Array Bool} (hB : zB md ops ps m c = true) (inv : ZInv md ops ps m listed) (hun : allIn ps listed = false) {j : Nat} (hj : j ∈ Region.ready md ops listed) : j ∈ ps ∨ j = m := by
  simp only [zB, Bool.and_eq_true] at hB
  obtain ⟨⟨hps, hs⟩, hall⟩ := hB
  by_cases h1 : j ∈ ps
  · exact .inl h1
  by_cases h2 : j = m
  · exact .inr h2
  exfalso
  obtain ⟨hju, oj, hoj, haft⟩ := mem_ready.1 hj
  have hjs := (Array.getElem?_eq_some_iff.1 hoj).1
  have h3 := List.all_eq_true.1 hall j (List.mem_range.2 hjs)
  simp only [Bool.or_eq_true, List.contains_iff_mem, decide_eq_true_eq] at h3
  rcases h3 with ((h3 | h3) | h3) | h3
  · exact h1 h3
  · exact h2 h3
  · subst h3
    simp only [allIn, List.all_eq_false] at hun
    obtain ⟨i, hi, hiu⟩ := hun
    have hin : i < listed.size := by rw [inv.ord.size]; have := List.all_eq_true.1 hps i hi; simpa using this
    have hiu' : listed.getD i true = false := getD_in hin (by simpa using hiu)
    exact tail_waits0 inv.ord ps hs i hi hiu' hj
  · obtain ⟨k, hk, hw⟩ := List.any_eq_true.1 h3
    simp only [Bool.and_eq_true, Bool.not_eq_true', List.contains_eq_mem, decide_eq_false_iff_not, decide_eq_true_eq] at hw
    obtain ⟨⟨hk1, hk2⟩, hw⟩ := hw
    obtain ⟨oj', hoj', e, he, hb, hon⟩ := Region.waitsFor_spec hw
    have : oj' = oj := Option.some.inj (hoj'.symm.trans hoj)
    subst this
    have h4 := haft e he hb
    rw [hon] at h4
    have := inv.rest k (List.mem_range.1 hk) hk1 hk2 h4
    rw [hun] at this
    cases this

theorem ZInv.set {ps : List Nat} {m c i : Nat} {listed : Array Bool} (hB : zB md ops ps m c = true) (inv : ZInv md ops ps m listed) (hi : i ∈ Region.ready md ops listed) : ZInv md ops ps m (listed.setIfInBounds i true) := by
  refine ⟨inv.ord.set hi (by simp), fun j hj h1 h2 hl => ?_⟩
  by_cases hij : i = j
  · subst hij
    cases e : allIn ps listed with
    | true => exact allIn_set e
    | false =>
      rcases inv.ready hB e hi with h | h
      · exact absurd h h1
      · exact absurd h h2
  · rw [getD_set_ne false hij] at hl
    exact allIn_set (inv.rest j hj h1 h2 hl)

theorem headZ_first {ps : List Nat} {m c i : Nat} {oi : Oper} {v : Value} (hB : zB md ops ps m c = true) (hi : ops[i]? = some oi) (hsel : ∀ (j : Nat) (o : Oper) cs b, ops[j]? = some o → o.op ≠ .select cs b)
    (hQ : ∀ c a w, Q (.panic c) (a.put oi.dst v) w → Q (.panic c) a w) (hin : i ∈ ps) (hm : ∀ a w, C w → ∀ K, wpOp P ops Q m K a w → wpOp P ops Q m (fun a' w' => C w' ∧ K a' w') a w) :
    ∀ (f : Nat) (listed : Array Bool) (a : Act) (w : World), C w → ZInv md ops ps m listed →
      (∀ j oj, ops[j]? = some oj → j ≠ i → listed.getD j true = false → (∀ e ∈ oj.after, Region.binds md e = true → e.on ≠ i) → oi.apart ops oj = true) →
      i ∈ Region.ready md ops listed → PureIn P ops C oi v a → headZ P md ops C Q ps f (listed.setIfInBounds i true) (a.put oi.dst v) w → headZ P md ops C Q ps (f + 1) listed a w := by
  intro f
  induction f with
  | zero =>
    intro listed a w hC inv _ hr hy H
    have hun := (mem_ready.1 hr).1
    have hall : allIn ps listed = false := by
      simp only [allIn, List.all_eq_false]
      exact ⟨i, hin, by rw [getD_both hun]; simp⟩
    refine ⟨fun h => (by rw [hall] at h; cases h), fun _ => ⟨fun h => (by rw [h] at hr; cases hr), fun j hj => ?_⟩⟩
    by_cases hji : j = i
    · subst hji; exact hy.wpOp hi hC ⟨hC, H⟩
    · have := ready_mono hj hji
      rw [H.1] at this
      cases this
  | succ f ih =>
    intro listed a w hC inv hfree hr hy H
    have hun := (mem_ready.1 hr).1
    have hall : allIn ps listed = false := by
      simp only [allIn, List.all_eq_false]
      exact ⟨i, hin, by rw [getD_both hun]; simp⟩
    refine ⟨fun h => (by rw [hall] at h; cases h), fun _ => ⟨fun h => (by rw [h] at hr; cases hr), fun j hj => ?_⟩⟩
    by_cases hji : j = i
    · subst hji; exact hy.wpOp hi hC ⟨hC, H⟩
    · have h1 : wpOp P ops Q j (fun a' w' => C w' ∧ headZ P md ops C Q ps f ((listed.setIfInBounds i true).setIfInBounds j true) a' w') (a.put oi.dst v) w := by
        cases e : allIn ps (listed.setIfInBounds i true) with
        | false => exact (H.2 e).2 j (ready_mono hj hji)
        | true =>
          have hjm : j = m := by
            rcases inv.ready hB hall hj with h | h
            · exfalso
              have h2 := List.all_eq_true.1 e j h
              rw [getD_set_ne false (Ne.symm hji), getD_both (mem_ready.1 hj).1] at h2
              cases h2
            · exact h
          subst hjm
          exact wpOp_mono (fun a' w' h' => ⟨h'.1, headZ_of_any (allIn_set e) h'.2⟩) (hm _ _ hC _ ((H.1 e).2 j (ready_mono hj hji)))
      obtain ⟨hjun, oj, hoj, haft⟩ := mem_ready.1 hj
      have hnot : ∀ e ∈ oj.after, Region.binds md e = true → e.on ≠ i := fun e he hb heq => by
        have h1 := haft e he hb
        rw [heq, getD_both hun] at h1
        cases h1
      have hap := hfree j oj hoj hji hjun hnot
      obtain ⟨_, _, h3⟩ := Oper.apart_spec hap
      have h2 := wpOp_putY (Y := PureIn P ops C oi v) hoj hap (fun cs b => hsel j oj cs b hoj) (fun a hy u => hy.of_same (execOp_put oi (fun cs b => hsel i oi cs b hi) a oj.dst u h3) (wanted_put oi a oj.dst u h3)) (fun a d hy => hy.of_same rfl rfl) hQ hy h1
      have hfree' : ∀ k ok, ops[k]? = some ok → k ≠ i → (listed.setIfInBounds j true).getD k true = false →
          (∀ e ∈ ok.after, Region.binds md e = true → e.on ≠ i) → oi.apart ops ok = true := fun k ok hk hki hun hno => by
        refine hfree k ok hk hki ?_ hno
        by_cases hjk : j = k
        · subst hjk; exact hjun
        · rw [getD_set_ne true hjk] at hun; exact hun
      refine wpOp_mono (fun a' w' h3 => ⟨h3.2.1, ih (listed.setIfInBounds j true) a' w' h3.2.1 (inv.set hB hj) hfree' (ready_mono hr (Ne.symm hji)) h3.1 ?_⟩) h2
      rw [Array.setIfInBounds_comm _ _ hji]
      exact h3.2.2

theorem headZ_pure {ps : List Nat} {m c : Nat} (hB : zB md ops ps m c = true) (hsel : Region.noSelect ops = true) (hQ : ∀ c a d v w, Q (.panic c) (a.put d v) w → Q (.panic c) a w)
    (hm : ∀ a w, C w → ∀ K, wpOp P ops Q m K a w → wpOp P ops Q m (fun a' w' => C w' ∧ K a' w') a w) (f : Nat) {K : Act → Prop} {listed' : Array Bool} (hK : ∀ a w, C w → K a → headZ P md ops C Q ps f listed' a w) :
    ∀ (qs : List Nat) (l : List Oper) (listed : Array Bool) (a : Act) (w : World), C w → qs.map (fun i => ops[i]?) = l.map some → (∀ i ∈ qs, i ∈ ps) → ZInv md ops ps m listed → freeL md ops qs listed = true → setL qs listed = listed' →
      pureW P ops C K l a → headZ P md ops C Q ps (qs.length + f) listed a w
  | [], [], listed, a, w, hw, _, _, _, _, he, h => by rw [List.length_nil, Nat.zero_add]; subst he; exact hK a w hw h
  | [], _ :: _, _, _, _, _, hm, _, _, _, _, _ => by simp at hm
  | _ :: _, [], _, _, _, _, hm, _, _, _, _, _ => by simp at hm
  | i :: qs, o :: l, listed, a, w, hw, hmm, hsub, inv, hf, he, h => by
    simp only [List.map_cons, List.cons.injEq] at hmm
    obtain ⟨h0, hmm⟩ := hmm
    simp only [freeL, Bool.and_eq_true] at hf
    obtain ⟨⟨hr, hfr⟩, hf⟩ := hf
    obtain ⟨v, hy, hn⟩ := h
    have hr' : i ∈ Region.ready md ops listed := by simpa using hr
    rw [List.length_cons, show qs.length + 1 + f = (qs.length + f) + 1 by omega]
    exact headZ_first hB h0 (Region.noSelect_spec hsel) (fun c a w => hQ c a _ v w) (hsub i List.mem_cons_self) hm _ listed a w hw inv (Region.free_spec h0 hfr) hr' hy
      (headZ_pure hB hsel hQ hm f hK qs l _ _ w hw hmm (fun j hj => hsub j (List.mem_cons_of_mem _ hj)) (inv.set hB hr') hf he hn)

/-- The pure operations of a region ahead of all else. -/
theorem region_first {id : Nat} {a : Act} {w : World} {l : List Oper} (ps : List Nat) (m c g : Nat) (hmx : P.follows .mixedOrders = true) (hp : ps.map (fun i => l.toArray[i]?) = (selL l ps).map some)
    (hB : (Region.noSelect l.toArray && zB .any l.toArray ps m c && freeL .any l.toArray ps (Array.replicate l.toArray.size false) && !ps.isEmpty && decide (ps.length + g = l.toArray.size)) = true) (hQ : ∀ c a d v w, Q (.panic c) (a.put d v) w → Q (.panic c) a w)
    (hm : ∀ a w', Cw w w' → ∀ K, wpOp P l.toArray Q m K a w' → wpOp P l.toArray Q m (fun a' w'' => Cw w w'' ∧ K a' w'') a w')
    (h : pureW P l.toArray (Cw w) (fun a1 => ∀ ws, Cw w ws → wpAny P .any l.toArray Q g (setL ps (Array.replicate l.toArray.size false)) a1 ws) (selL l ps) a) : (Code.region id l.toArray true).wp P Q a w := by
  refine wp_region_any hmx ?_
  simp only [Bool.and_eq_true, decide_eq_true_eq] at hB
  obtain ⟨⟨⟨⟨hsel, hz⟩, hf⟩, hne⟩, hsz⟩ := hB
  have hno : ∀ j, (Array.replicate l.toArray.size false).getD j false = false := fun j => by
    rw [Array.getD_eq_getD_getElem?, Array.getElem?_replicate]; split <;> rfl
  have inv0 : ZInv .any l.toArray ps m (Array.replicate l.toArray.size false) := ⟨⟨by simp, fun j oj hj hl e he hb => (by rw [hno] at hl; cases hl), fun t ht => (by cases ht), fun j hj _ => .inl (List.mem_range.2 hj)⟩, fun j _ _ _ hl => (by rw [hno] at hl; cases hl)⟩
  have hall : allIn ps (setL ps (Array.replicate l.toArray.size false)) = true := by
    have hsz' : ∀ (qs : List Nat) (li : Array Bool), (setL qs li).size = li.size := fun qs => by
      induction qs with
      | nil => intro li; rfl
      | cons x qs ih => intro li; show (setL qs (li.setIfInBounds x true)).size = _; rw [ih]; simp
    have keep : ∀ (qs : List Nat) (li : Array Bool) (j : Nat), li.getD j false = true → (setL qs li).getD j false = true := fun qs => by
      induction qs with
      | nil => intro li j h; exact h
      | cons x qs ih => intro li j h; exact ih _ _ (getD_set_true h)
    have key : ∀ (qs : List Nat) (li : Array Bool), (∀ i ∈ qs, i < li.size) → ∀ i ∈ qs, (setL qs li).getD i false = true := fun qs => by
      induction qs with
      | nil => intro li _ i hi; cases hi
      | cons x qs ih =>
        intro li hlt i hi
        rcases List.mem_cons.1 hi with rfl | hi
        · refine keep qs _ _ ?_
          have := hlt i List.mem_cons_self
          rw [Array.getD_eq_getD_getElem?]
          simp [this]
        · exact ih _ (fun j hj => by simpa using hlt j (List.mem_cons_of_mem _ hj)) i hi
    simp only [allIn, List.all_eq_true]
    intro i hi
    have hz' := hz
    simp only [zB, Bool.and_eq_true] at hz'
    have := List.all_eq_true.1 hz'.1.1 i hi
    exact key ps _ (fun j hj => by have := List.all_eq_true.1 hz'.1.1 j hj; simpa using this) i hi
  have hC0 : Cw w { w with drawn := w.drawn + 1 } := ⟨⟨w.drawn + 1, #[]⟩, by rw [grow_empty]; rfl⟩
  have := any_of_headZ (C := Cw w) (ps := ps) _ _ _ _ (headZ_pure (P := P) (md := .any) (C := Cw w) (Q := Q) hz hsel hQ hm g (fun a1 w1 hC1 hK1 => headZ_of_any hall (hK1 w1 hC1)) ps (selL l ps) (Array.replicate l.toArray.size false) a { w with drawn := w.drawn + 1 } hC0 hp (fun _ h => h) inv0 hf rfl h)
  rwa [hsz] at this

/-- Steps of an order by hand. -/
theorem any_one {f i : Nat} {o : Oper} {listed : Array Bool} {a : Act} {w : World} (hr : Region.ready md ops listed = [i]) (hi : ops[i]? = some o) (hg : o.guard = none) (h : wpList P ops (nrm Q fun a' w' => wpAny P md ops Q f (listed.setIfInBounds i true) a' w') [o] a w) : wpAny P md ops Q (f + 1) listed a w := by
  refine ⟨fun h0 => (by rw [hr] at h0; cases h0), fun j hj => ?_⟩
  rw [hr] at hj
  obtain rfl : j = i := by simpa using hj
  exact op_of_list hi hg h
theorem any_two {f i i' : Nat} {o o' : Oper} {listed : Array Bool} {a : Act} {w : World} (hr : Region.ready md ops listed = [i, i']) (hi : ops[i]? = some o) (hi' : ops[i']? = some o') (hg : o.guard = none) (hg' : o'.guard = none) (h : wpList P ops (nrm Q fun a' w' => wpAny P md ops Q f (listed.setIfInBounds i true) a' w') [o] a w)
    (h' : wpList P ops (nrm Q fun a' w' => wpAny P md ops Q f (listed.setIfInBounds i' true) a' w') [o'] a w) : wpAny P md ops Q (f + 1) listed a w := by
  refine ⟨fun h0 => (by rw [hr] at h0; cases h0), fun j hj => ?_⟩
  rw [hr] at hj
  have hj' : j = i ∨ j = i' := by simpa using hj
  rcases hj' with rfl | rfl
  · exact op_of_list hi hg h
  · exact op_of_list hi' hg' h'

theorem any_pure {l : List Oper} (ps : List Nat) (f : Nat) {listed : Array Bool} {a : Act} {w : World} (hp : ps.map (fun i => l.toArray[i]?) = (selL l ps).map some) (hB : (Region.noSelect l.toArray && freeL md l.toArray ps listed) = true) (hQ : ∀ c a d v w, Q (.panic c) (a.put d v) w → Q (.panic c) a w)
    (h : pureW P l.toArray (fun _ => True) (fun a' => wpAny P md l.toArray Q f (setL ps listed) a' w) (selL l ps) a) : wpAny P md l.toArray Q (ps.length + f) listed a w := by
  simp only [Bool.and_eq_true] at hB
  exact any_take ps (selL l ps) listed a w f hB.1 hQ hp hB.2 h
theorem any_tail {l : List Oper} (tl : List Nat) {listed : Array Bool} {a : Act} {w : World} (hp : tl.map (fun i => l.toArray[i]?) = (selL l tl).map some) (hB : seqL md l.toArray tl listed = true)
    (h : wpList P l.toArray Q (selL l tl) a w) : wpAny P md l.toArray Q tl.length listed a w := any_of_seqL tl (selL l tl) listed a w hp hB h

/-- A new block keeps what was there. -/
theorem alloc_mid {j : Nat} {o : Oper} {elem : TypeId} {W : World} (hj : ops[j]? = some o) (ho : o.op = .alloc elem) (ha : ∀ w, ∃ v ob, (Instr.alloc elem true (.tuple #[])).run P w = .ok v (w.alloc ob)) (a : Act) (w : World)
    (hC : Cw W w) (K : Act → World → Prop) (h : wpOp P ops Q j K a w) : wpOp P ops Q j (fun a' w' => Cw W w' ∧ K a' w') a w := by
  unfold wpOp at *
  simp only [hj] at *
  split
  · rename_i hw
    simp only [hw, if_true] at h
    refine h.imp (fun h => ?_) id
    unfold Oper.wp at *
    have hr : (execOp a.eval o).run P w = ((Instr.alloc elem true (.tuple #[])).run P w).andThen fun u w' => .ok (.value u) w' := by
      unfold execOp
      simp [ho]
    rw [hr] at h ⊢
    obtain ⟨v, ob, e⟩ := ha w
    have hg : Cw W (w.alloc ob) := .of (hC.below.alloc hC.below.size ob)
    simp only [e, Result.andThen_ok, Oper.upon] at h ⊢
    exact ⟨hg, h⟩
  · rename_i hw
    simp only [hw] at h
    exact ⟨hC, h⟩

end Go.Proofs.Ytmilljlkcbljpaa

/- Arguments that came in: an array of two slices of integers. -/
namespace Go.Proofs.Ytmilljlkcbljpaa
open Go.ChangeShapes Go.WideShapes Go.ChangeAt Go.RowKit

set_option maxRecDepth 100000 in
theorem open_sl2 {H : Type} {enc : TypeId × Value → H} {W : World} {r : Reach} {base : Nat} {t e : TypeId} {v : Value} {d : DataW H} {p : List MemPlace} (ht : Try.prog.underlying t = some (.array 2 e)) (he : Try.prog.underlying e = some (.slice 3))
    (hct : Try.prog.cellsOf t = 2) (hce : Try.prog.cellsOf e = 1) (hv : Value.okWide Try.prog W r base t v) (h : DataW.Trod enc Try.prog W 0 (fun _ => true) true t v d p) :
    ∃ v0 v1, v = .agg #[v0, v1] ∧ (∃ n f, n ≤ 9223372036854775807 ∧ Sl W W.heap.size v0 n f) ∧ ∃ n f, n ≤ 9223372036854775807 ∧ Sl W W.heap.size v1 n f := by
  obtain ⟨cs, rfl, hsz, _⟩ : ∃ cs, v = .agg cs ∧ cs.size = Try.prog.cellsOf t ∧ Row.okWide Try.prog W r base t cs := by
    simpa [Value.okWide, ht] using hv
  rw [hct] at hsz
  obtain ⟨l⟩ := cs
  obtain ⟨c0, c1, rfl⟩ := list2 l hsz
  obtain ⟨fuel, hf⟩ := h
  obtain ⟨xs, m, rfl, _, _, hxs, hel⟩ := DataW.trod_array ht hf
  refine ⟨c0, c1, rfl, ?_, ?_⟩
  · have h0 := hel 0 (by omega)
    rw [hce] at h0
    obtain ⟨y, hy⟩ : ∃ y, xs[0]? = some y := ⟨_, List.getElem?_eq_getElem (by omega)⟩
    rw [hy] at h0
    exact sl_of_trod he (by simpa [Value.cells] using h0)
  · have h0 := hel 1 (by omega)
    rw [hce] at h0
    obtain ⟨y, hy⟩ : ∃ y, xs[1]? = some y := ⟨_, List.getElem?_eq_getElem (by omega)⟩
    rw [hy] at h0
    exact sl_of_trod he (by simpa [Value.cells] using h0)

end Go.Proofs.Ytmilljlkcbljpaa

/- The statement ColourErrs, walked. -/
namespace Go.Proofs.Ytmilljlkcbljpaa
open Go.RowKit Go.Sort

theorem made_zero (n j : Nat) (h : j < n * 3) : (madeCells #[.int .i64 0, .int .i64 0, .int .i64 0] (n * 3))[j]? = some (.int .i64 0) := by
  have h3 : j % 3 < 3 := Nat.mod_lt _ (by omega)
  simp only [madeCells, Array.getElem?_map, Array.getElem?_range, h, if_true, Option.map_some]
  obtain e | e | e : j % 3 = 0 ∨ j % 3 = 1 ∨ j % 3 = 2 := by omega
  all_goals simp [e]
/-- make([]Colour, 4097). -/
theorem make_cols (w : World) : ∃ w', (Instr.makeSlice 29 (.int .i64 4097) (.int .i64 4097)).run Try.prog w = .ok (.slice (some ⟨w.heap.size, 0, none⟩) 4097 4097) w' ∧
    Cls w' w'.heap.size (.slice (some ⟨w.heap.size, 0, none⟩) 4097 4097) 4097 (fun _ _ => 0) ∧ Below w.heap.size w w' := by
  obtain ⟨i0, hi, hz0, hz1, hz2⟩ := info_parts Try.info3
  have hr := run_make (P := Try.prog) w 29 28 i0 _ Try.underlying29 hi hz0 .i64 .i64 4097 4097 (by omega) (by omega) (by rw [hz2]; omega) (by omega)
  rw [hz1] at hr
  refine ⟨_, hr, .inr ⟨w.heap.size, 0, 4097, rfl, ⟨by simp, Nat.le_refl _⟩, fun k hk j hj => ?_⟩, (Below.refl _ _).alloc (Nat.le_refl _) _⟩
  rw [World.cell?_alloc_at _ _ _ _ rfl]
  exact made_zero 4097 _ (by omega)

theorem make_mid {P : Program} {ops : Array Oper} {Q : Exit → Act → World → Prop} {W : World} {j : Nat} {o : Oper} {t : TypeId} {L C : Value} (hj : ops[j]? = some o) (ho : o.op = .makeSlice t (.const L) (.const C)) (ha : ∀ w, ∃ v ob, (Instr.makeSlice t L C).run P w = .ok v (w.alloc ob)) (a : Act) (w : World)
    (hC : Cw W w) (K : Act → World → Prop) (h : wpOp P ops Q j K a w) : wpOp P ops Q j (fun a' w' => Cw W w' ∧ K a' w') a w := by
  unfold wpOp at *
  simp only [hj] at *
  split
  · rename_i hw
    simp only [hw, if_true] at h
    refine h.imp (fun h => ?_) id
    unfold Oper.wp at *
    have hr : (execOp a.eval o).run P w = ((Instr.makeSlice t L C).run P w).andThen fun u w' => .ok (.value u) w' := by
      unfold execOp
      simp [ho, Act.eval]
    rw [hr] at h ⊢
    obtain ⟨v, ob, e⟩ := ha w
    have hg : Cw W (w.alloc ob) := .of (hC.below.alloc hC.below.size ob)
    simp only [e, Result.andThen_ok, Oper.upon] at h ⊢
    exact ⟨hg, h⟩
  · rename_i hw
    simp only [hw] at h
    exact ⟨hC, h⟩
theorem make_cols' (w : World) : ∃ v ob, (Instr.makeSlice 29 (.int .i64 4097) (.int .i64 4097)).run Try.prog w = .ok v (w.alloc ob) := by
  obtain ⟨i0, hi, hz0, hz1, hz2⟩ := info_parts Try.info3
  exact ⟨_, _, run_make (P := Try.prog) w 29 28 i0 _ Try.underlying29 hi hz0 .i64 .i64 4097 4097 (by omega) (by omega) (by rw [hz2]; omega) (by omega)⟩

theorem both_new (w : World) (x y : Value) (t : TypeId) : ∃ w0, w.alloc (.cells #[x, y] t) = w0 ∧ Below w.heap.size w w0 ∧ Two t w0 w.heap.size x y :=
  ⟨_, rfl, (Below.refl _ _).alloc (Nat.le_refl _) _, Two.new w _ _ _⟩

set_option maxRecDepth 100000 in
set_option maxHeartbeats 8000000 in
theorem colourErrs_walk {n0 n1 n2 : Nat} {v0 v1 v2 : Value} {f0 f1 f2 : Nat → Int} {a : Int} {w : World} (hn0 : n0 ≤ 9223372036854775807) (hs0 : Sl w w.heap.size v0 n0 f0) (hn1 : n1 ≤ 9223372036854775807) (hs1 : Sl w w.heap.size v1 n1 f1) (hn2 : n2 ≤ 9223372036854775807) (hs2 : Sl w w.heap.size v2 n2 f2) :
    Calls Try.prog 3 #[.agg #[v0, v1], .int .i64 a, v2] w fun e w' => e = .returned (.bool true) ∧ Below w.heap.size w w' := by
  obtain ⟨b0, d0, rfl⟩ := hs0.shape
  obtain ⟨b1, d1, rfl⟩ := hs1.shape
  obtain ⟨b2, d2, rfl⟩ := hs2.shape
  obtain ⟨w0, h0, hq0, t0⟩ := both_new w (.slice b0 n0 d0) (.slice b1 n1 d1) 23
  have HS0 := Lib.hid hs0
  have HS1 := Lib.hid hs1
  have HS2 := Lib.hid hs2
  have T0 := Lib.hid t0
  clear hs0 hs1 hs2 t0
  go_enter Try.func3, Try.ntmps3
  go_wp2_with fail
  refine (sanity_any w0).mono ?_
  rintro e w1 ⟨rfl, hb1⟩
  have hq1 := hq0.trans (hb1.mono hq0.size)
  have T1 := Lib.hid (T0.out.on hb1)
  have c0 := T1.out.c0
  clear h0
  go_wp2_with fail
  refine (refChain_any (B := w.heap.size) (by omega) hq1.size (HS0.out.below hq1 (Nat.le_refl _))).mono ?_
  rintro e w2 ⟨xc, vs, rfl, hch, hb2⟩
  have hq2 := hq1.trans (hb2.mono hq1.size)
  obtain ⟨n, hn⟩ : ∃ n, min n0 5 = n := ⟨_, rfl⟩
  have hn5 : n ≤ 5 := by omega
  rw [hn] at hch
  obtain ⟨S, hS⟩ : ∃ S : Nat → Sp, (fun j => Sq (vs j) (f0 j)) = S := ⟨_, rfl⟩
  have hchn := hch.chn
  rw [hS] at hchn
  have HC2 := Lib.hid hchn
  have shc := hchn.shape
  have T2 := Lib.hid (T1.out.on hb2)
  clear hch hS hn hchn c0
  obtain ⟨ac, cc, rfl⟩ := shc
  have c1 := T2.out.c1
  go_wp2_with fail
  refine (refChain_any (B := w.heap.size) (by omega) hq2.size (HS1.out.below hq2 (Nat.le_refl _))).mono ?_
  rintro e w3 ⟨xd, vs', rfl, hch, hb3⟩
  have hq3 := hq2.trans (hb3.mono hq2.size)
  obtain ⟨n', hn'⟩ : ∃ n, min n1 5 = n := ⟨_, rfl⟩
  have hn5' : n' ≤ 5 := by omega
  rw [hn'] at hch
  obtain ⟨S', hS'⟩ : ∃ S : Nat → Sp, (fun j => Sq (vs' j) (f1 j)) = S := ⟨_, rfl⟩
  have hchn := hch.chn
  rw [hS'] at hchn
  have HD3 := Lib.hid hchn
  have HC3 := Lib.hid (chn_on HC2.out hb3)
  have shc := hchn.shape
  clear hch hS' hn' hchn c1
  obtain ⟨ad, cd, rfl⟩ := shc
  go_wp2_with fail
  refine (rest_any (n := 4) (by omega) (by omega)).mono ?_
  rintro e w3' ⟨⟨k4, hk4, hke, rfl⟩, rfl⟩
  clear hke
  have i4 : 0 ≤ (k4 : Int) ∧ (k4 : Int) ≤ 3 := by omega
  obtain ⟨N, E0, hN, hTB⟩ := tables_both n' S' (2 + (k4 : Int))
  have kr := Lib.hid (hTB (w := w3) (by omega) (Nat.le_refl _) HD3.out).2
  obtain ⟨M, hM⟩ : ∃ M, N * N * N = M := ⟨_, rfl⟩
  have hM5 : M ≤ 4913 := by
    have h1 : N * N ≤ 17 * 17 := Nat.mul_le_mul hN hN
    have h2 : N * N * N ≤ 17 * 17 * 17 := Nat.mul_le_mul h1 hN
    omega
  obtain ⟨G, hG⟩ : ∃ G, tabV S' n' N = G := ⟨_, rfl⟩
  rw [hM, hG] at kr
  clear hTB hM hG
  go_wp2_with fail
  refine kr.out.mono ?_
  rintro e wc ⟨y, rfl, hcy, hbc⟩
  obtain ⟨ay, cy, rfl⟩ := hcy.shape
  obtain ⟨wd, hwd, hbd, to0⟩ := gox_new wc
  have TO := Lib.hid to0
  have hbcd := hbc.trans (hbd.mono hbc.size)
  have HY := Lib.hid hcy
  have HBD := Lib.hid hbd
  clear to0 hcy hbd kr
  go_wp2_with (refine list_store (cs := gotA (fun _ => 0) N (.slice ay M cy) 0 (fun _ => 0) E0) rfl 36 (.tmp 9) (.tmp 27) (by rfl) (by rfl) (by rfl) TO.out info_got rfl (gotA_one _ _ _ _ _ _ _ _) ?_; intro we h4 hx; have g4 : Gob we wc.heap.size _ := h4; have hbe := Exc.below hbcd hx hbc.size hbcd.size; have hbce := Exc.below HBD.out hx (Nat.le_refl _) HBD.out.size; have HYe := Lib.hid ((HY.out.below hbce (Nat.le_refl _)).mono hbce.size); have G4 := Lib.hid g4; clear h4 hwd hx; have HCe := Lib.hid (chn_on HC3.out hbe); have hqe := hq3.trans (hbe.mono hq3.size); clear g4 hbe hbce)
  refine (refColours_any (B := w.heap.size) (by omega) hqe.size (HS2.out.below hqe (Nat.le_refl _))).mono ?_
  rintro e wf ⟨xl, rfl, hcl, hbf⟩
  have hqf := hqe.trans (hbf.mono hqe.size)
  obtain ⟨l, hl⟩ : ∃ l, colN n2 = l := ⟨_, rfl⟩
  have hl40 : l ≤ 40 := by rw [← hl]; unfold colN; omega
  rw [hl] at hcl
  obtain ⟨L, hL⟩ : ∃ L, colG f2 = L := ⟨_, rfl⟩
  rw [hL] at hcl
  have hlc := Cls.of_own hcl (Nat.le_refl _)
  have shl := hlc.shape
  have HLf := Lib.hid hlc
  have HCf := Lib.hid (chn_on HCe.out hbf)
  have HYf := Lib.hid (HYe.out.on hbf)
  have G4f := Lib.hid (G4.out.on hbf)
  clear hcl hL hl hlc
  obtain ⟨al, cl, rfl⟩ := shl
  obtain ⟨g2, g3⟩ := G4f.out.grid
  obtain ⟨V, E, hE1, hE2, hWB⟩ := worsts_both n N M l S G L
  obtain ⟨V', E', hE1', hE2', hWB'⟩ := worsts_both n N M 4097 S G (fun _ _ => 0)
  have HEE : Hid ((E = 0 ∧ E' = 2) ∨ (E ≠ 0 ∧ E' = E)) := Lib.hid (by
    rw [hE2 (by omega), hE1' (by omega)]
    by_cases h1 : chkV n S = 0
    · cases grB N M G <;> simp [h1]
    · simp [h1])
  have kw := Lib.hid (hWB (w := wf) (by omega) (by omega) (by omega) (Nat.le_refl _) HCf.out HYf.out HLf.out).1
  have HWB := Lib.hid (fun (W : World) (h1 : Chn W W.heap.size (.slice ac n cc) n S) (h2 : Cls W W.heap.size (.slice ay M cy) M G) (h3 : Cls W W.heap.size (.slice al l cl) l L) => (hWB (w := W) (by omega) (by omega) (by omega) (Nat.le_refl _) h1 h2 h3).2)
  have HWB' := Lib.hid (fun (W : World) (x : Value) (h1 : Chn W W.heap.size (.slice ac n cc) n S) (h2 : Cls W W.heap.size (.slice ay M cy) M G) (h3 : Cls W W.heap.size x 4097 (fun _ _ => 0)) => (hWB' (w := W) (by omega) (by omega) (by omega) (Nat.le_refl _) h1 h2 h3).1)
  clear hE1 hE2 hE1' hE2' hWB hWB'
  go_wp2_with fail
  refine kw.out.mono ?_
  rintro e wg ⟨rfl, hbg⟩
  have hqg := hqf.trans (hbg.mono hqf.size)
  have HLg := Lib.hid (HLf.out.on hbg)
  have HCg := Lib.hid (chn_on HCf.out hbg)
  have HYg := Lib.hid (HYf.out.on hbg)
  have G4g := Lib.hid (G4f.out.on hbg)
  have kr := Lib.hid (HWB.out wg HCg.out HYg.out HLg.out)
  clear g2 g3 kw HWB
  obtain ⟨g2, g3⟩ := G4g.out.grid
  go_wp2_with fail
  refine kr.out.mono ?_
  rintro e wh ⟨rfl, hbh⟩
  obtain ⟨wj, hwj, hbj, to1⟩ := gox_new wh
  have TO1 := Lib.hid to1
  have hbij := hbh.trans (hbj.mono hbh.size)
  clear to1 hbj g2 g3 kr
  go_wp2_with (refine list_store (cs := gotA (fun _ => 0) 0 (.slice none 0 0) V (fun _ => 0) E) rfl 36 (.tmp 13) (.tmp 42) (by rfl) (by rfl) (by rfl) TO1.out info_got rfl (gotA_one _ _ _ _ _ _ _ _) ?_; intro wk h4 hx; have G5 : Hid (Gob wk wh.heap.size _) := Lib.hid h4; have hbk := Exc.below hbij hx hbh.size hbij.size; clear h4 hwj hx; have HCk := Lib.hid (chn_on HCg.out hbk); have HYk := Lib.hid (HYg.out.on hbk); have G4k := Lib.hid (G4g.out.on hbk); have hqk := hqg.trans (hbk.mono hqg.size); clear hbk)
  refine region_first [0, 1, 2] 3 4 7 (by kernel_rfl) (by kernel_rfl) (by kernel_rfl) (fun _ _ d _ _ h => by cases d <;> exact h) (fun a w' hC K h => make_mid rfl rfl make_cols' a w' hC K h) ?_
  simp only [selL, List.filterMap_cons, List.filterMap_nil, List.getElem?_cons_zero, List.getElem?_cons_succ]
  refine pureW_step (.slice ac n cc) rfl (fun w' _ => ?_) (fun K' hK' => ?_)
  · go_simp
  go_simp
  refine hK' _ ?_
  clear hK' K'
  refine pureW_step (.pointer (some ⟨wc.heap.size, 3, none⟩)) rfl (fun w' _ => ?_) (fun K' hK' => ?_)
  · go_simp
  go_simp
  refine hK' _ ?_
  clear hK' K'
  refine pureW_step (.agg #[.int .i64 N, .slice ay M cy]) rfl (fun w' hw' => ?_) (fun K' hK' => ?_)
  · obtain ⟨g2, g3⟩ := (G4k.out.on hw'.below).grid
    go_simp
  go_simp
  refine hK' _ ?_
  clear hK' K'
  refine pureW_nil ?_
  intro ws hws
  have hbs := hws.below
  clear hws
  have hqs := hqk.trans (hbs.mono hqk.size)
  obtain ⟨wt, hmk, hcz, hbt⟩ := make_cols ws
  have hbst := hbs.trans (hbt.mono hbs.size)
  have HCt := Lib.hid (chn_on HCk.out hbst)
  have HYt := Lib.hid (HYk.out.on hbst)
  have G5t := Lib.hid (G5.out.on hbst)
  have hqt := hqk.trans (hbst.mono hqk.size)
  have kz := Lib.hid (HWB'.out wt _ HCt.out HYt.out hcz)
  clear hcz hbs hbt hbst
  refine any_one (i := 3) (by kernel_rfl) rfl rfl ?_
  go_wp2
  show wpAny _ _ _ _ _ _ _ _
  clear hmk
  refine any_one (i := 4) (by kernel_rfl) rfl rfl ?_
  go_wp2_with fail
  refine kz.out.mono ?_
  rintro e wu ⟨rfl, hbu⟩
  have hqu := hqt.trans (hbu.mono hqt.size)
  have G5u := G5t.out.on hbu
  go_wp2
  show wpAny _ _ _ _ _ _ _ _
  refine any_pure [5, 6, 7] 2 (by kernel_rfl) (by kernel_rfl) (fun _ _ d _ _ h => by cases d <;> exact h) ?_
  simp only [selL, List.filterMap_cons, List.filterMap_nil, List.getElem?_cons_zero, List.getElem?_cons_succ]
  refine pureW_step (.tuple #[.int .i64 V', .int .i64 E']) rfl (fun w' _ => ?_) (fun K' hK' => ?_)
  · go_simp
  go_simp
  refine hK' _ ?_
  clear hK' K'
  refine pureW_step (.int .i64 V') rfl (fun w' _ => ?_) (fun K' hK' => ?_)
  · go_simp
  go_simp
  refine hK' _ ?_
  clear hK' K'
  refine pureW_step (.int .i64 E') rfl (fun w' _ => ?_) (fun K' hK' => ?_)
  · go_simp
  go_simp
  refine hK' _ ?_
  clear hK' K'
  refine pureW_nil ?_
  refine any_tail [8, 9] (by kernel_rfl) (by kernel_rfl) ?_
  simp only [selL, List.filterMap_cons, List.filterMap_nil, List.getElem?_cons_zero, List.getElem?_cons_succ]
  have e0 := G5u.num
  have e1 := G5u.err
  clear G5u
  rcases HEE.out with ⟨rfl, rfl⟩ | ⟨hne, rfl⟩
  · go_wp2
    go_ret
    exact ⟨rfl, hqu⟩
  · have hn0' : (E' != 0) = true := by simpa using hne
    clear hne
    go_wp2
    go_ret
    exact ⟨rfl, hqu⟩

end Go.Proofs.Ytmilljlkcbljpaa
