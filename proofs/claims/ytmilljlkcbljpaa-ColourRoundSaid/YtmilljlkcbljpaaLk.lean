/- look: one corner added. -/
import Derived.Test.YtmilljlkcbljpaaLp
namespace Go.Proofs.Ytmilljlkcbljpaa
open Go.RowKit Go.Sort

theorem add_new (w : World) (k : Int) (c : Nat → Int) (t t' : TypeId) : ∃ w0, (w.alloc (.cells #[.int .i64 k] t)).alloc (.cells #[.int .i64 (c 0), .int .i64 (c 1), .int .i64 (c 2)] t') = w0 ∧
    Below w.heap.size w w0 ∧ w0.heap.size = w.heap.size + 2 ∧ One t w0 w.heap.size (.int .i64 k) ∧ Tri t' w0 (w.heap.size + 1) c := by
  refine ⟨_, rfl, ((Below.refl _ w).alloc (Nat.le_refl _) _).alloc (by simp) _, by simp, (One.new w _ t).alloc _, ?_⟩
  have h := Tri.new (w.alloc (.cells #[.int .i64 k] t)) c t'
  rw [World.size_alloc] at h
  exact h

set_option maxRecDepth 100000 in
set_option maxHeartbeats 1000000 in
theorem add_any {N n B bg ba bs : Nat} {v : Value} {g : Nat → Nat → Int} {p : Nat → Nat} {s : Nat → Int} {K : Int} {tg ta ts : TypeId} {w : World} (hG : GrV N n g) (hv : Cls w B v n g) (hp : ∀ i, i < 3 → p i ≤ N - 1) (hK : 0 ≤ K) (hK' : K ≤ 65535)
    (hs : ∀ i, i < 3 → 0 ≤ s i ∧ s i ≤ 4294836225) (tgr : Two tg w bg (.int .i64 N) v) (tat : Tri ta w ba (axs p)) (tsm : Tri ts w bs s) :
    Calls Try.prog 86 #[.int .i64 K, .pointer (some ⟨bg, 0, none⟩), .pointer (some ⟨ba, 0, none⟩), .pointer (some ⟨bs, 0, none⟩)] w fun e w' => e = .returned (.tuple #[]) ∧ Tri ts w' bs (fun i => s i + K * g (ixN N p) i) ∧ Exc bs w w' := by
  obtain ⟨hN, hN', hn, hg⟩ := hG
  have hix := ixN_lt hp (by omega)
  rw [← hn] at hix
  obtain ⟨q1, q2, q3, q4⟩ := cube_bd hN hN'
  rw [← hn] at q1 q2
  obtain ⟨b, off, cap, rfl, hbB, hcs⟩ := hv.at (by omega)
  obtain ⟨ix, hixe⟩ : ∃ ix, ix = ixN N p := ⟨_, rfl⟩
  rw [← hixe] at hix
  have s0 : w.cell? ⟨b, off + ix * 3, none⟩ = some (.int .i64 (g ix 0)) := hcs ix hix 0 (by omega)
  have s1 := hcs ix hix 1 (by omega)
  have s2 := hcs ix hix 2 (by omega)
  have hgi := hg ix hix
  obtain ⟨w0, h0, hb0, hz, o1, o2⟩ := add_new w K (g ix) 3 28
  have O1 := Lib.hid o1
  have O2 := Lib.hid o2
  have Z := Lib.hid hz
  have P1 := Lib.hid (tsm.on hb0)
  have TS := Lib.hid tsm
  have hmf : ∀ (fn : Fn) (first cap : Array Value) (w : World), (Instr.makeFunc fn first cap).run Try.prog w = .ok (.func fn first cap) w := fun _ _ _ _ => rfl
  have g0 := tgr.c0
  have g1 := tgr.c1
  have a0 : w.cell? ⟨ba, 0, none⟩ = some (.int .i64 ((p 0 : Nat) : Int)) := tat.c0
  have a1 : w.cell? ⟨ba, 1, none⟩ = some (.int .i64 ((p 1 : Nat) : Int)) := tat.c1
  have a2 : w.cell? ⟨ba, 2, none⟩ = some (.int .i64 ((p 2 : Nat) : Int)) := tat.c2
  have p0 := hp 0 (by omega)
  have p1 := hp 1 (by omega)
  have p2 := hp 2 (by omega)
  have lg := tgr.lt
  have la := tat.lt
  have lb : b < w.heap.size := World.block_lt_of_cell? w _ s0
  obtain ⟨m1, m2⟩ := mul_bd (a := ((p 0 : Nat) : Int)) (A := 16) (b := (N : Int)) (B := 17) (by omega) (by omega) (by omega) (by omega)
  obtain ⟨m3, m4⟩ := mul_bd (a := ((p 0 : Nat) : Int) * (N : Int) + ((p 1 : Nat) : Int)) (A := 288) (b := (N : Int)) (B := 17) (by omega) (by omega) (by omega) (by omega)
  have n1 : (((p 0 : Nat) : Int) * (N : Int) + ((p 1 : Nat) : Int)) * (N : Int) + ((p 2 : Nat) : Int) = (ix : Int) := by rw [hixe]; simp [ixN]
  have i1 : 0 ≤ (ix : Int) ∧ (ix : Int) < n := by omega
  have HS := Lib.hid hs
  rw [← hixe]
  clear o1 o2 hz tgr tat tsm hcs hv hg hn hixe hs
  generalize p 0 = p0' at *
  generalize p 1 = p1' at *
  generalize p 2 = p2' at *
  go_enter Try.func86, Try.ntmps86
  have x0 := P1.out.c0
  have x1 := P1.out.c1
  have x2 := P1.out.c2
  go_wp2_with fail
  refine (each_look2 (c := s) (r := fun i => s i + K * g ix i) fun i hi W hbW => (look21_any hi (HS.out i hi).1 (HS.out i hi).2 hK hK' hgi (O1.out.on hbW).cell (O2.out.on hbW)).mono fun e w' ⟨he, hd⟩ => ⟨he, hd.below _⟩).mono ?_
  unfold col
  rintro e w1 ⟨rfl, hb1⟩
  have t1 := P1.out.on hb1
  have z0 := t1.c0
  have z1 := t1.c1
  have z2 := t1.c2
  have f0 := t1.free 0
  have f1 := t1.free 1
  have f2 := t1.free 2
  have T1 := Lib.hid (t1.set3 (fun i => s i + K * g ix i))
  have hq := Exc.of_below (b := bs) (hb0.trans (hb1.mono hb0.size))
  clear t1 h0 x0 x1 x2
  go_wp2
  go_end0
  exact ⟨rfl, T1.out, ((hq.set _).set _).set _⟩

end Go.Proofs.Ytmilljlkcbljpaa
