/- Points at equal distances: the iterator of package curve, and the curve of a function's values at them. -/
import Derived.RangeFuncBox
import Derived.RangeFuncNested
import Derived.RangeFuncBound
import Derived.RangeFuncCalls
import Derived.RangeFuncLeaves
import Derived.Shelf.Abstract
import Derived.Shelf.RegionOpen
import Derived.OwnWalkIn
import Derived.TacticsInMore
import Derived.LoopNIn
import Derived.LoopIn
import Derived.Maps.AppendAt
import Derived.Test.YtmilljlkcbljpaaE
import Derived.Test.YtmilljlkcbljpaaRg
namespace Go.Proofs.Ytmilljlkcbljpaa
open Go.RowKit Go.Shelf

attribute [local go_sem] Oper.semAt_some

/-- The i-th argument of n points. -/
def argV (i n : Nat) : Int := (131070 * (i : Int) + n - 1) / (2 * ((n : Int) - 1))
/-- The arguments of n points. -/
def args (n : Nat) : List Int := (List.range n).map fun i => argV i n

theorem argV_bd {i n : Nat} (h : 2 ≤ n) (hi : i < n) : 0 ≤ argV i n ∧ argV i n ≤ 65535 := by
  unfold argV
  have h1 : (i : Int) + 1 ≤ n := by omega
  constructor
  · exact Int.ediv_nonneg (by omega) (by omega)
  · have h2 : (131070 * (i : Int) + n - 1) < 65536 * (2 * ((n : Int) - 1)) := by omega
    have := Int.ediv_lt_of_lt_mul (by omega) h2
    omega

theorem upto_len (n k : Nat) : ((List.range k).map fun i => argV i n).length = k := by simp
theorem upto_snoc (n k : Nat) : ((List.range (k + 1)).map fun i => argV i n) = ((List.range k).map fun i => argV i n) ++ [argV k n] := by simp [List.range_succ]

set_option maxRecDepth 100000 in
set_option maxHeartbeats 1000000 in
/-- The iterator's function: all arguments of n points, in their order, for every loop body that keeps the box of n. -/
theorem arguments1_in (m : Nat) (hm : 1 ≤ m) (l bn n : Nat) (hn : 2 ≤ n) (hn' : n ≤ 257) (J Jx : List Int → World → Prop)
    (hY : ∀ pre x W, J pre W → pre.length < n → YieldAt Fence.wide (m - 1) Try.prog l #[.int .i64 (clp x)] W fun e W' =>
      (e = .returned (.bool true) ∧ J (pre ++ [x]) W' ∧ W'.heap[bn]? = W.heap[bn]?) ∨ (e = .returned (.bool false) ∧ Jx (pre ++ [x]) W'))
    (W : World) (hb : Boxed W bn 3 (.int .i64 n)) (h0 : J [] W) :
    CallsIn Fence.wide m Try.prog 117 #[.func (.yield l) #[] #[], .pointer (some ⟨bn, 0, none⟩)] W fun e W' => (∃ v, e = .returned v) ∧
      ((∃ ys, ys = args n ∧ J ys W') ∨ (∃ pre, True ∧ Jx pre W')) := by
  refine callsIn_of_wp Try.func117 rfl trivial ?_ rfl
  simp only [Try.ntmps117, List.size_toArray, List.length_cons, List.length_nil, Nat.reduceAdd, Nat.reduceSub, Array.replicate_succ, Array.replicate_zero, List.push_toArray, List.append_toArray, List.nil_append, List.cons_append]
  have hc := hb.cell
  gi_wp2
  gi_loopw [5] (fun p wr => ∃ k : Nat, k ≤ n ∧ p = .int .i64 k ∧ Boxed wr bn 3 (.int .i64 n) ∧ J ((List.range k).map fun i => argV i n) wr)
    (fun p wr => n - (intOf p).toNat)
  case atStart =>
    exact ⟨0, by omega, rfl, hb, h0⟩
  case round =>
    obtain ⟨k, hk, rfl, hbr, hJ⟩ := hrel
    have hcr := hbr.cell
    by_cases hlt : k < n
    · have A := argV_bd hn hlt
      obtain ⟨fn, tmps, assign, body, hy, hR⟩ := hY _ (argV k n) wr hJ (by rw [upto_len]; exact hlt)
      rw [clp_in A.1 A.2] at hy
      have E : (131070 * (k : Int) + n - 1) / (2 * ((n : Int) - 1)) = argV k n := rfl
      gi_wp2
      refine hR.mono ?_
      rintro e W3 (⟨rfl, hJ3, hk3⟩ | ⟨rfl, hJx3⟩)
      · have hb3 : Boxed W3 bn 3 (.int .i64 n) := hk3.trans hbr
        gi_wp2
        go_roundw
        case rel => exact ⟨k + 1, by omega, by go_num, hb3, by rw [upto_snoc]; exact hJ3⟩
        case measure => simp [intOf]; omega
      · gi_wp2
        refine bodyPost_ret (results_none rfl _ _ _) rfl ?_
        exact ⟨⟨_, rfl⟩, .inr ⟨_, trivial, hJx3⟩⟩
    · obtain rfl : k = n := by omega
      gi_wp2
      go_end0
      exact ⟨⟨_, rfl⟩, .inl ⟨_, rfl, hJ⟩⟩

set_option maxHeartbeats 1000000 in
theorem arguments_any (n : Int) (w : World) :
    Calls Try.prog 113 #[.int .i64 n] w fun e w' => e = .returned (.func (.func 117) #[] #[.pointer (some ⟨w.heap.size, 0, none⟩)]) ∧ w.alloc (.cells #[.int .i64 n] 3) = w' := by
  have hmf : ∀ (fn : Fn) (first cap : Array Value) (w : World), (Instr.makeFunc fn first cap).run Try.prog w = .ok (.func fn first cap) w := fun _ _ _ _ => rfl
  go_enter Try.func113, Try.ntmps113
  go_wp2
  go_ret
  exact ⟨rfl, rfl⟩

/-- arguments(n), as what a loop ranges over. -/
theorem arguments_stops (m : Nat) (hm : 1 ≤ m) (bn n : Nat) (hn : 2 ≤ n) (hn' : n ≤ 257) (w : World) (hb : Boxed w bn 3 (.int .i64 n)) :
    SeqStopsK Fence.wide m Try.prog 117 #[.pointer (some ⟨bn, 0, none⟩)] (fun x : Int => #[Value.int .i64 (clp x)]) (fun W W' => W'.heap[bn]? = W.heap[bn]?) (fun ys => ys = args n) (fun _ => True) n w :=
  fun l J Jx W hW _ _ hY h0 => arguments1_in m hm l bn n hn hn' J Jx hY W ((hW.block bn hb.lt).trans hb) h0

/-- What a callee of the loop's body says: it hands back a number, and nothing that lay has turned. -/
def Gives (g : Nat) (vs : Array Value) (y : Int) (W : World) : Prop :=
  Calls Try.prog g vs W fun e W' => e = .returned (.int .i64 y) ∧ Below W.heap.size W W'

theorem Try.infoInt : (Try.prog.info? 3).map (fun i => (i.zero, i.size, i.bytes)) = some (some (.int .i64 0), 1, 8) := by kernel_rfl

/-- Where 'c = append(c, f(x))' stands, said of the operations that have come up: the loads, the call, the new slice, the append, the store. -/
def Stage (base k : Nat) (x y : Int) (v f : Value) (xs : List Value) (W : World) (b0 b1 b2 b3 b4 b5 b6 : Bool) (t10 t11 t12 t13 t14 t15 : Value) (W' : World) : Prop :=
  (b0 = true → t10 = v) ∧ (b1 = true → t11 = f) ∧ (b2 = true → t12 = .int .i64 x) ∧ (b3 = true → b1 = true ∧ b2 = true ∧ t13 = .int .i64 y) ∧
  (b4 = false → b5 = false ∧ b6 = false ∧ Below W.heap.size W W') ∧
  (b4 = true → b3 = true ∧ ∃ W1, Below W.heap.size W W1 ∧ (b5 = false → b6 = false ∧ W' = W1.alloc (.cells #[.int .i64 y] 3) ∧ t14 = .slice (some ⟨W1.heap.size, 0, none⟩) 1 1) ∧
    (b5 = true → b0 = true ∧ ∃ W2, W2.ownsRow (base + 3) 3 1 t15 (k + 1) (xs ++ [.int .i64 y]) ∧ (W1.alloc (.cells #[.int .i64 y] 3)).grownBy W2 v.ownBlock ∧
      (b6 = false → W' = W2) ∧ (b6 = true → W' = W2.setCell ⟨base + 1, 0, none⟩ t15)))

/-- Before the new slice is made, nothing that lay has turned; what the two boxes hold is there as long as the append has not come up. -/
theorem Stage.cell {base k : Nat} {x y : Int} {v f : Value} {xs : List Value} {W W' : World} {b0 b1 b2 b3 b4 b5 b6 : Bool} {t10 t11 t12 t13 t14 t15 : Value}
    (h : Stage base k x y v f xs W b0 b1 b2 b3 b4 b5 b6 t10 t11 t12 t13 t14 t15 W') (h5 : b5 = false) {p : Addr} (hp : p.block < W.heap.size) : W'.cell? p = W.cell? p := by
  obtain ⟨_, _, _, _, h4, h6⟩ := h
  cases b4 with
  | false => exact (h4 rfl).2.2.cell hp
  | true =>
    obtain ⟨_, W1, hb, h7, _⟩ := h6 rfl
    obtain ⟨_, rfl, _⟩ := h7 h5
    exact (hb.alloc hb.size _).cell hp

theorem args_mem {n : Nat} {x : Int} (hn : 2 ≤ n) (h : x ∈ args n) : 0 ≤ x ∧ x ≤ 65535 := by
  obtain ⟨i, hi, rfl⟩ := List.mem_map.1 h
  exact argV_bd hn (List.mem_range.1 hi)
theorem args_vals {n : Nat} {G : Int → Int} (hn : 2 ≤ n) : ((args n).map fun x => Value.int .i64 (G (clp x))) = (List.range n).map fun i => .int .i64 (G (argV i n)) := by
  unfold args
  rw [List.map_map]
  refine List.map_congr_left fun i hi => ?_
  have A := argV_bd hn (List.mem_range.1 hi)
  simp only [Function.comp_def]
  rw [clp_in A.1 A.2]

theorem own_below {w w' : World} {base size n : Nat} {e : TypeId} {v : Value} {xs : List Value} (h : w.ownsRow base e size v n xs) (hb : Below w.heap.size w w') : w'.ownsRow base e size v n xs := by
  refine h.kept ⟨hb.os, hb.tape, hb.output, hb.size, fun k hk _ => hb.block k hk⟩ (row := none) ?_
  rcases h.2 with ⟨rfl, _⟩ | ⟨g, cap, cur, rfl, _⟩
  · exact .inl rfl
  · exact .inr (by simp [Value.ownBlock])
theorem boxed_below {w w' : World} {B : Nat} {t : TypeId} {v : Value} (h : Boxed w B t v) (hb : Below w.heap.size w w') : Boxed w' B t v := (hb.block B h.lt).trans h

/-- Where the append has come up, the slice and the call have. -/
theorem Stage.late {base k : Nat} {x y : Int} {v f : Value} {xs : List Value} {W W' : World} {b0 b1 b2 b3 b4 b5 b6 : Bool} {t10 t11 t12 t13 t14 t15 : Value}
    (h : Stage base k x y v f xs W b0 b1 b2 b3 b4 b5 b6 t10 t11 t12 t13 t14 t15 W') (h5 : b5 = true) : b0 = true ∧ b1 = true ∧ b2 = true ∧ b3 = true ∧ b4 = true := by
  obtain ⟨_, _, _, h3, h4, h6⟩ := h
  cases b4 with
  | false => exact absurd ((h4 rfl).1.symm.trans h5) (by simp)
  | true =>
    obtain ⟨q, W1, _, _, h8⟩ := h6 rfl
    exact ⟨(h8 h5).1, (h3 q).1, (h3 q).2.1, q, rfl⟩

set_option maxRecDepth 100000 in
set_option maxHeartbeats 2000000 in
theorem sample_line {G : Int → Int} {n : Nat} {w : World} (hn : 2 ≤ n) (hn' : n ≤ 257) (hf : ∀ x W, 0 ≤ x → x ≤ 65535 → Below w.heap.size w W → Gives 103 #[.int .i64 x] (G x) W) :
    Calls Try.prog 102 #[.int .i64 n, .func (.func 103) #[] #[]] w fun e w' => ∃ v, e = .returned v ∧ w'.ownsRow w.heap.size 3 1 v n ((List.range n).map fun i => .int .i64 (G (argV i n))) ∧ Below w.heap.size w w' := by
  obtain ⟨i0, hi', hz0, hz1, hz2⟩ := info_parts Try.infoInt
  refine (callsIn_wide (n := 5)).1 ?_
  refine callsIn_of_wp_marks Try.func102 rfl trivial ?_ rfl
  simp only [Try.ntmps102, List.size_toArray, List.length_cons, List.length_nil, Nat.reduceAdd, Nat.reduceSub, Array.replicate_succ, Array.replicate_zero, List.push_toArray, List.append_toArray, List.nil_append, List.cons_append]
  gi_wp2_with (refine ⟨trivial, ?_⟩; gi_at_call 113; refine (callsIn_wide.2 (arguments_any _ _)).mono ?_; rintro e w' ⟨rfl, rfl⟩)
  have h1 : 1 ≤ 5 := by omega
  have bF := Boxed.new w 98 (.func (.func 103) #[] #[])
  have bC := Boxed.new (w.alloc (.cells #[.func (.func 103) #[] #[]] 98)) 59 (.slice none 0 0)
  have bN := Boxed.new ((w.alloc (.cells #[.func (.func 103) #[] #[]] 98)).alloc (.cells #[.slice none 0 0] 59)) 3 (.int .i64 n)
  simp only [World.size_alloc] at bC bN
  have hB0 : Below w.heap.size w (((w.alloc (.cells #[.func (.func 103) #[] #[]] 98)).alloc (.cells #[.slice none 0 0] 59)).alloc (.cells #[.int .i64 n] 3)) :=
    (((Below.refl _ w).alloc (Nat.le_refl _) _).alloc (by simp) _).alloc (by simp; omega) _
  obtain ⟨w3, hw3⟩ : ∃ w3, ((w.alloc (.cells #[.func (.func 103) #[] #[]] 98)).alloc (.cells #[.slice none 0 0] 59)).alloc (.cells #[.int .i64 n] 3) = w3 := ⟨_, rfl⟩
  have hz3 : w3.heap.size = w.heap.size + 3 := by rw [← hw3]; simp
  replace bC := bC.alloc (.cells #[.int .i64 n] 3)
  replace bF := (bF.alloc (.cells #[.slice none 0 0] 59)).alloc (.cells #[.int .i64 n] 3)
  rw [hw3] at bC bF bN hB0 ⊢
  refine wpIn_rangeFunc_ownG rfl h1 (gf := 117) (lb := #[.pointer (some ⟨w.heap.size + 1 + 1, 0, none⟩)]) rfl trivial (enters_of Try.func117 (by kernel_rfl) rfl)
    (arguments_stops (5 - 1) (by omega) (w.heap.size + 1 + 1) n hn hn' _ bN) (fun h k => k.trans h) (fun W k o o' hk h _ _ => World.putObj_heap_other (by omega)) (Below.refl _ _) (fun _ => rfl)
    (fun pre W => ((∃ v, Boxed W (w.heap.size + 1) 59 v ∧ W.ownsRow (w.heap.size + 3) 3 1 v pre.length (pre.map fun x => .int .i64 (G (clp x))) ∧ True) ∧
      Boxed W w.heap.size 98 (.func (.func 103) #[] #[])) ∧ Below w.heap.size w W ∧ w.heap.size + 3 ≤ W.heap.size)
    (fun _ _ _ => False)
    ?hI
    (fun _ _ _ _ _ hs _ _ => hs)
    ⟨⟨⟨_, bC, World.ownsRow_nil _ _ _ _, trivial⟩, bF⟩, hB0, by omega⟩
    (fun x => { tmps := #[.int .i64 n, .func (.func 103) #[] #[], undef, .pointer (some ⟨w.heap.size, 0, none⟩), .slice none 0 0, .pointer (some ⟨w.heap.size + 1, 0, none⟩), .int .i64 (clp x), .int .i64 n,
      .func (.func 117) #[] #[.pointer (some ⟨w.heap.size + 1 + 1, 0, none⟩)], .int .i64 (clp x), undef, undef, undef, undef, undef, undef, undef], defers := [] }) ?assign ?body ?done ?stop
  case hI =>
    refine OwnFrom.and (OwnFrom.and ((holdsRow_own (w.heap.size + 3) (w.heap.size + 1) 59 3 1 (fun pre : List Int => pre.length) (fun pre => pre.map fun x => .int .i64 (G (clp x))) (fun _ _ => True)).from _) ((boxed_own _ _ _).from _))
      (OwnFrom.and (ownFrom_below (Nat.le_refl _) (by omega)) (fun _ _ _ _ hs hg _ => Nat.le_trans hs hg.size))
  case assign =>
    intro l x W K hK
    gi_wp2
    exact hK
  case body =>
    rintro l pre x₀ W ⟨⟨⟨v, hv, hrow, _⟩, hbf⟩, hB, hn₀⟩ hlt
    obtain ⟨hx0, hx1⟩ := clp_bd x₀
    obtain ⟨x, hx⟩ : ∃ x, clp x₀ = x := ⟨_, rfl⟩
    rw [hx] at hx0 hx1 ⊢
    have hx' := Lib.hid hx
    clear hx
    have hmx : Try.prog.follows .mixedOrders = true := by kernel_rfl
    gi_wp2
    refine wpIn_region_any hmx ?_
    change wpAnyIn _ _ _ _ _ _ _ _ _ (World.drew _)
    have hc := hv.cell
    have hcf := hbf.cell
    obtain ⟨y, hy⟩ : ∃ y, G x = y := ⟨_, rfl⟩
    have hf' : ∀ W', Below w.heap.size w W' → Gives 103 #[.int .i64 x] y W' := fun W' hb => by rw [← hy]; exact hf _ _ hx0 hx1 hb
    have hf'' := Lib.hid hf'
    clear hf' hf
    refine wpAnyIn_inv (Inv := fun listed a W' => ∃ b0 b1 b2 b3 b4 b5 b6 : Bool, listed = #[b0, b1, b2, b3, b4, b5, b6] ∧ ∃ t10 t11 t12 t13 t14 t15 : Value,
      a = { tmps := #[.int .i64 n, .func (.func 103) #[] #[], undef, .pointer (some ⟨w.heap.size, 0, none⟩), .slice none 0 0, .pointer (some ⟨w.heap.size + 1, 0, none⟩), .int .i64 x, .int .i64 n,
        .func (.func 117) #[] #[.pointer (some ⟨w.heap.size + 1 + 1, 0, none⟩)], .int .i64 x, t10, t11, t12, t13, t14, t15, undef], defers := [] } ∧
      Stage w.heap.size pre.length x y v (.func (.func 103) #[] #[]) (pre.map fun x => .int .i64 (G (clp x))) W b0 b1 b2 b3 b4 b5 b6 t10 t11 t12 t13 t14 t15 W') ?_ ?_ _ _ _ _ ?_ ?_
    · rintro listed a W' i ⟨b0, b1, b2, b3, b4, b5, b6, rfl, t10, t11, t12, t13, t14, t15, rfl, hS⟩ hi
      obtain ⟨hun, o, ho, hdeps⟩ := mem_ready.1 hi
      rcases i with _ | _ | _ | _ | _ | _ | _ | i
      · -- the load of c
        obtain rfl : b0 = false := by simpa using hun
        have h5 : b5 = false := by
          cases b5 with
          | false => rfl
          | true => exact absurd (hS.late rfl).1 (by simp)
        have hc' : W'.cell? ⟨w.heap.size + 1, 0, none⟩ = some v := (hS.cell h5 (p := ⟨w.heap.size + 1, 0, none⟩) (by show w.heap.size + 1 < _; omega)).trans hc
        subst h5
        have HS := Lib.hid hS
        clear hi ho hdeps hS
        refine wpOpIn_step rfl (fun K hK => ?_)
        go_simp
        refine hK _ _ ⟨true, b1, b2, b3, b4, false, b6, by simp, _, _, _, _, _, _, rfl, ?_⟩
        obtain ⟨_, g1, g2, g3, g4, g5⟩ := HS.out
        exact ⟨fun _ => rfl, g1, g2, g3, g4, fun h => let ⟨q1, W1, q2, q3, _⟩ := g5 h; ⟨q1, W1, q2, q3, fun h => by cases h⟩⟩
      · -- the load of f
        obtain rfl : b1 = false := by simpa using hun
        have h5 : b5 = false := by
          cases b5 with
          | false => rfl
          | true => exact absurd (hS.late rfl).2.1 (by simp)
        have hc' : W'.cell? ⟨w.heap.size, 0, none⟩ = some (.func (.func 103) #[] #[]) := (hS.cell h5 (p := ⟨w.heap.size, 0, none⟩) (by show w.heap.size < _; omega)).trans hcf
        subst h5
        have HS := Lib.hid hS
        clear hi ho hdeps hS
        refine wpOpIn_step rfl (fun K hK => ?_)
        go_simp
        refine hK _ _ ⟨b0, true, b2, b3, b4, false, b6, by simp, _, _, _, _, _, _, rfl, ?_⟩
        obtain ⟨g0, _, g2, g3, g4, g5⟩ := HS.out
        exact ⟨g0, fun _ => rfl, g2, fun h => absurd (g3 h).1 (by simp), g4, g5⟩
      · -- the argument
        obtain rfl : b2 = false := by simpa using hun
        have HS := Lib.hid hS
        clear hi ho hdeps hS
        refine wpOpIn_step rfl (fun K hK => ?_)
        go_simp
        refine hK _ _ ⟨b0, b1, true, b3, b4, b5, b6, by simp, _, _, _, _, _, _, rfl, ?_⟩
        obtain ⟨g0, g1, _, g3, g4, g5⟩ := HS.out
        exact ⟨g0, g1, fun _ => rfl, fun h => absurd (g3 h).2.1 (by simp), g4, g5⟩
      · -- the call of f
        obtain rfl : b3 = false := by simpa using hun
        obtain ⟨o', ho', hd⟩ : ∃ o', _ = some o' ∧ _ := ⟨o, ho, hdeps⟩
        obtain rfl := Option.some.inj ho
        have d1 := hdeps ⟨1, .data⟩ (by simp) rfl
        have d2 := hdeps ⟨2, .data⟩ (by simp) rfl
        obtain rfl : b1 = true := by simpa using d1
        obtain rfl : b2 = true := by simpa using d2
        obtain rfl := hS.2.1 rfl
        obtain rfl := hS.2.2.1 rfl
        have h4 : b4 = false := by
          cases b4 with
          | false => rfl
          | true => exact absurd (hS.2.2.2.2.2 rfl).1 (by simp)
        subst h4
        obtain ⟨rfl, rfl, hbW⟩ := hS.2.2.2.2.1 rfl
        have HS := Lib.hid hS
        clear hi hdeps hS d1 d2 hd ho'
        refine wpOpIn_step rfl (fun K hK => ?_)
        go_simp
        refine ⟨trivial, ?_⟩
        refine (CallsIn.inRound l (callsIn_wide.2 (hf''.out W' (hB.trans (hbW.mono hB.size))))).mono ?_
        rintro e W2 ⟨rfl, hb2⟩
        refine hK _ _ ⟨b0, true, true, true, false, false, false, by simp, _, _, _, _, _, _, rfl, ?_⟩
        obtain ⟨g0, g1, g2, _, _, _⟩ := HS.out
        exact ⟨g0, g1, g2, fun _ => ⟨rfl, rfl, rfl⟩, fun _ => ⟨rfl, rfl, hbW.trans (hb2.mono hbW.size)⟩, fun h => by cases h⟩
      · -- the new slice
        obtain rfl : b4 = false := by simpa using hun
        obtain rfl := Option.some.inj ho
        have d3 := hdeps ⟨3, .data⟩ (by simp) rfl
        obtain rfl : b3 = true := by simpa using d3
        obtain ⟨_, _, rfl⟩ := hS.2.2.2.1 rfl
        obtain ⟨rfl, rfl, hbW⟩ := hS.2.2.2.2.1 rfl
        have HS := Lib.hid hS
        clear hi hdeps hS d3
        refine wpOpIn_step rfl (fun K hK => ?_)
        go_simp
        refine hK _ _ ⟨b0, b1, b2, true, true, false, false, by simp, _, _, _, _, _, _, rfl, ?_⟩
        obtain ⟨g0, g1, g2, g3, _, _⟩ := HS.out
        exact ⟨g0, g1, g2, g3, fun h => (by cases h), fun _ => ⟨rfl, W', hbW, fun _ => ⟨rfl, rfl, rfl⟩, fun h => (by cases h)⟩⟩
      · -- the append
        obtain rfl : b5 = false := by simpa using hun
        obtain rfl := Option.some.inj ho
        have d0 := hdeps ⟨0, .data⟩ (by simp) rfl
        have d4 := hdeps ⟨4, .data⟩ (by simp) rfl
        obtain rfl : b0 = true := by simpa using d0
        obtain rfl : b4 = true := by simpa using d4
        obtain rfl := hS.1 rfl
        obtain ⟨rfl, W1, hbW, h7, _⟩ := hS.2.2.2.2.2 rfl
        obtain ⟨rfl, rfl, rfl⟩ := h7 rfl
        have HS := Lib.hid hS
        clear hi hdeps hS d0 d4
        have hrow1 : W1.ownsRow (w.heap.size + 3) 3 1 t10 pre.length (pre.map fun x => .int .i64 (G (clp x))) := own_below hrow hbW
        have hsz := hbW.size
        refine wpOpIn_step rfl (fun K hK => ?_)
        refine (if_pos (show _ = true by rfl)).mpr ?_
        refine wpIn_append_op _ _ _ 59 rfl (w.heap.size + 3) 3 i0 (.int .i64 0) 1 8 Try.underlying59 hi' hz0 hz1 hz2 rfl (by decide) t10 pre.length (pre.map fun x => .int .i64 (G (clp x))) rfl (hrow1.alloc _) ⟨W1.heap.size, 0, none⟩ 1 1 [.int .i64 y] rfl rfl (cell_one_new _ _ _) (by simp [Value.oneCell']) (by unfold maxLen; omega) (by omega) (by simp; omega) ?_
        intro v' w1 hown' hgrow _
        refine hK _ _ ⟨true, b1, b2, true, true, true, false, by simp, _, _, _, _, _, _, rfl, ?_⟩
        obtain ⟨g0, g1, g2, g3, _, _⟩ := HS.out
        exact ⟨g0, g1, g2, g3, fun h => (by cases h), fun _ => ⟨rfl, W1, hbW, fun h => (by cases h), fun _ => ⟨rfl, w1, hown', hgrow, fun _ => rfl, fun h => (by cases h)⟩⟩⟩
      · -- the store
        obtain rfl : b6 = false := by simpa using hun
        obtain rfl := Option.some.inj ho
        have d5 := hdeps ⟨5, .data⟩ (by simp) rfl
        obtain rfl : b5 = true := by simpa using d5
        obtain ⟨rfl, rfl, rfl, rfl, rfl⟩ := hS.late rfl
        obtain ⟨_, W1, hbW, _, h8⟩ := hS.2.2.2.2.2 rfl
        obtain ⟨_, W2, hown, hgrow, h9, _⟩ := h8 rfl
        obtain rfl := h9 rfl
        obtain rfl := hS.1 rfl
        have hsz := hbW.size
        obtain ⟨g', cap', rfl⟩ := ownsRow_succ hown
        obtain ⟨hv1, hv2, _, hk2, hb2⟩ := (boxed_below hv hbW).appended (n₀ := w.heap.size) (by decide) (own_le (own_below hrow hbW) (by omega)) (by omega) (by omega) (own_le hown (by omega)) hgrow
        have hc1 := hv1.cell
        have hf1 := hv1.frozen
        have HS := Lib.hid hS
        clear hi hdeps hS d5 h8 h9
        refine wpOpIn_step rfl (fun K hK => ?_)
        go_simp
        refine hK _ _ ⟨true, true, true, true, true, true, true, by simp, _, _, _, _, _, _, rfl, ?_⟩
        obtain ⟨g0, g1, g2, g3, _, _⟩ := HS.out
        exact ⟨g0, g1, g2, g3, fun h => (by cases h), fun _ => ⟨rfl, W1, hbW, fun h => (by cases h), fun _ => ⟨rfl, W', hown, hgrow, fun h => (by cases h), fun _ => rfl⟩⟩⟩
      · simp at hun
    · -- behind the region
      rintro listed a W' ⟨b0, b1, b2, b3, b4, b5, b6, rfl, t10, t11, t12, t13, t14, t15, rfl, hS⟩ hr
      have h6 : b6 = true := by
        cases b6 with
        | true => rfl
        | false =>
          exfalso
          have hr' := congrArg List.isEmpty hr
          cases b0 <;> cases b1 <;> cases b2 <;> cases b3 <;> cases b4 <;> cases b5 <;> exact Bool.noConfusion (hr'.symm.trans (by kernel_rfl : _ = false))
      subst h6
      have h5 : b5 = true := by
        cases b5 with
        | true => rfl
        | false => cases b4 with
          | false => exact absurd (hS.2.2.2.2.1 rfl).2.1 (by simp)
          | true => obtain ⟨_, _, _, h, _⟩ := hS.2.2.2.2.2 rfl; exact absurd (h rfl).1 (by simp)
      subst h5
      obtain ⟨rfl, rfl, rfl, rfl, rfl⟩ := hS.late rfl
      obtain ⟨_, W1, hbW, _, h8⟩ := hS.2.2.2.2.2 rfl
      obtain ⟨_, W2, hown, hgrow, _, h9⟩ := h8 rfl
      obtain rfl := h9 rfl
      obtain rfl := hS.1 rfl
      have hsz := hbW.size
      obtain ⟨hv1, hv2, _, hk2, hb2⟩ := (boxed_below hv hbW).appended (n₀ := w.heap.size) (by decide) (own_le (own_below hrow hbW) (by omega)) (by omega) (by omega) (own_le hown (by omega)) hgrow
      have hr3 := hown.kept (grownBy_setCell' W2 (w.heap.size + 1) t15) (.inr (hv1.not_row (by decide) hown).symm)
      have hbf3 : Boxed (W2.setCell ⟨w.heap.size + 1, 0, none⟩ t15) w.heap.size 98 (.func (.func 103) #[] #[]) :=
        ((((boxed_below hbf hbW).alloc _).kept hgrow ((boxed_below hbf hbW).not_row (by decide) (own_below hrow hbW))).kept (grownBy_setCell' W2 (w.heap.size + 1) t15) (by simp))
      have hne : ∀ q, t10.ownBlock = some q → w.heap.size + 3 ≤ q := fun q hq => (hrow.lt q hq).1
      have hkp : (W2.setCell ⟨w.heap.size + 1, 0, none⟩ t15).heap[w.heap.size + 1 + 1]? = W.heap[w.heap.size + 1 + 1]? := by
        rw [Below.heap_setCell _ _ _ _ (by show w.heap.size + 1 + 1 ≠ w.heap.size + 1; omega), hgrow.block _ (by simp; omega) (fun e => by have := hne _ e.symm; omega), Below.heap_alloc _ _ _ (by omega)]
        exact hbW.block _ (by omega)
      have hko : KeepsOthers W W1 := ⟨hbW.size, fun k o hk _ => (hbW.block k (Array.getElem?_eq_some_iff.1 hk).1).trans hk⟩
      have hsz2 : w.heap.size + 3 ≤ (W2.setCell ⟨w.heap.size + 1, 0, none⟩ t15).heap.size := by have := hgrow.size; simp at this ⊢; omega
      have hr4 : (W2.setCell ⟨w.heap.size + 1, 0, none⟩ t15).ownsRow (w.heap.size + 3) 3 1 t15 (pre ++ [x₀]).length ((pre ++ [x₀]).map fun x => .int .i64 (G (clp x))) := by
        simpa [hx'.out, hy] using hr3
      have hB3 : Below w.heap.size w (W2.setCell ⟨w.heap.size + 1, 0, none⟩ t15) := (hB.trans (hbW.mono (by omega))).trans hb2
      have H := Lib.hid hr4
      clear hr4 hr3 hS h8 h9 hgrow hown hrow hy hr hne
      gi_wp2
      exact ⟨(hko.trans hk2).from _, hkp, ⟨⟨_, hv2, H.out⟩, hbf3⟩, hB3, hsz2⟩
    · simp
    · exact ⟨false, false, false, false, false, false, false, rfl, _, _, _, _, _, _, rfl, (fun h => by cases h), (fun h => by cases h), (fun h => by cases h), (fun h => by cases h), (fun _ => ⟨rfl, rfl, (Below.refl _ _).drew⟩), (fun h => by cases h)⟩
  case done =>
    rintro D ys W hD rfl ⟨⟨⟨v, hv, hrow, _⟩, hbf⟩, hB, hn₀⟩ hK
    have hc := hv.cell
    have hl : (args n).length = n := upto_len n n
    rw [hl, args_vals hn] at hrow
    have H := Lib.hid hrow
    clear hrow
    gi_wp2
    refine ⟨by simp, .inl ⟨_, _, rfl, run_takeDeferred hK, ?_⟩⟩
    exact ⟨_, results_tmp rfl _ _ _, v, rfl, own_le (ownsRow_putObj H.out _ hK rfl) (by omega), hB.trans (belowK_b (w := w) (Nat.le_refl _) W D _ _ (by omega) hK rfl rfl)⟩
  case stop =>
    rintro D c pre W _ _ h _
    exact h.elim

end Go.Proofs.Ytmilljlkcbljpaa
