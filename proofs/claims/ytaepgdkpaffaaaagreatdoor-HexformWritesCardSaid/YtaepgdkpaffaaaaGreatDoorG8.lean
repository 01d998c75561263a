import Derived.Test.YtaepgdkpaffaaaaGreatDoorG7
import Derived.Deep.RegionHeld
import Derived.Deep.DeepCutAuto
import Derived.IntWalk
set_option linter.unusedVariables false
set_option linter.unusedSimpArgs false
/- caliperref05: Unpack. -/
namespace Go.Proofs.YtaepgdkpaffaaaaGreatDoor
open Go.RowKit Go.Proofs.YtaepgdkpaffaaaaGreatDoorW.PrintWords Cal

theorem cell_of_heap {W : World} {g k t : Nat} {cs : Array Value} {fr : Nat × Nat} {v : Value} (h : W.heap[g]? = some (.cells cs t fr)) (hk : cs[k]? = some v) : W.cell? ⟨g, k, none⟩ = some v := by
  simp [World.cell?, h, hk]
/-- The format's row, its fields under names of their own. -/
structure Info (n : Nat) (v : Value) (pr ex ls : Int) : Prop where
  out : ∃ (nm wd ms pl : Value), v = .agg #[.int .i64 n, nm, .int .i64 2, wd, .int .i64 pr, .int .i64 ex, .int .i64 ls, ms, pl, .bool false]
def zero33 : Array Value := #[.int .i64 0, .bool false, .bool false, .int .i64 0, .int .u64 0, .int .u64 0, .int .u64 0, .int .u64 0]
/-- What lies in memory while Unpack runs: the pattern, the result's cell, the format's row. -/
structure UW (w : World) (x g6 : Nat) (inf : Array Value) (W : World) : Prop where
  h0 : W.heap[w.heap.size]? = some (.cells (bcells x) 24 (0, 0))
  h1 : W.heap[w.heap.size + 1]? = some (.cells zero33 33 (0, 0))
  h2 : W.heap[g6]? = some (.cells inf 81 (0, 0))
  lt0 : w.heap.size + 1 < W.heap.size
  lt : g6 < W.heap.size
  b : Below w.heap.size w W
theorem UW.ext {w : World} {x g6 : Nat} {inf : Array Value} {W W' : World} (h : UW w x g6 inf W) (hb : Below W.heap.size W W') : UW w x g6 inf W' :=
  ⟨(hb.block _ (by have := h.lt0; omega)).trans h.h0, (hb.block _ h.lt0).trans h.h1, (hb.block _ h.lt).trans h.h2, by have := h.lt0; have := hb.size; omega, by have := h.lt; have := hb.size; omega, btrans h.b hb⟩
theorem UW.low {w : World} {x g6 B : Nat} {inf : Array Value} {W W' : World} (h : UW w x g6 inf W) (hb : Below B W W') (b1 : w.heap.size + 1 < B) (b2 : g6 < B) : UW w x g6 inf W' :=
  ⟨(hb.block _ (by omega)).trans h.h0, (hb.block _ b1).trans h.h1, (hb.block _ b2).trans h.h2, by have := h.lt0; have := hb.size; omega, by have := h.lt; have := hb.size; omega, h.b.trans (hb.mono (by omega))⟩
theorem UW.start {w w1 w2 : World} (x : Nat) {inf : Array Value} (hb1 : Below ((w.alloc (.cells #[.int .u64 (wd x 0), .int .u64 (wd x 1), .int .u64 (wd x 2), .int .u64 (wd x 3)] 24)).alloc (.cells #[.int .i64 0, .bool false, .bool false, .int .i64 0, .int .u64 0, .int .u64 0, .int .u64 0, .int .u64 0] 33)).heap.size ((w.alloc (.cells #[.int .u64 (wd x 0), .int .u64 (wd x 1), .int .u64 (wd x 2), .int .u64 (wd x 3)] 24)).alloc (.cells #[.int .i64 0, .bool false, .bool false, .int .i64 0, .int .u64 0, .int .u64 0, .int .u64 0, .int .u64 0] 33)) w1)
    (hb2 : Below w1.heap.size w1 w2) : UW w x w2.heap.size inf (w2.alloc (.cells inf 81)) := by
  have e0 : ((w.alloc (.cells #[.int .u64 (wd x 0), .int .u64 (wd x 1), .int .u64 (wd x 2), .int .u64 (wd x 3)] 24)).alloc (.cells #[.int .i64 0, .bool false, .bool false, .int .i64 0, .int .u64 0, .int .u64 0, .int .u64 0, .int .u64 0] 33)).heap.size = w.heap.size + 2 := by
    show ((w.heap.push _).push _).size = _
    rw [Array.size_push, Array.size_push]
  have b1 := hb1.size
  have b2 := hb2.size
  have k : ∀ g, g < w.heap.size + 2 → w2.heap[g]? = ((w.alloc (.cells #[.int .u64 (wd x 0), .int .u64 (wd x 1), .int .u64 (wd x 2), .int .u64 (wd x 3)] 24)).alloc (.cells #[.int .i64 0, .bool false, .bool false, .int .i64 0, .int .u64 0, .int .u64 0, .int .u64 0, .int .u64 0] 33)).heap[g]? := fun g hg => (hb2.block g (by omega)).trans (hb1.block g (by omega))
  have e1 : (w.alloc (.cells #[.int .u64 (wd x 0), .int .u64 (wd x 1), .int .u64 (wd x 2), .int .u64 (wd x 3)] 24)).heap.size = w.heap.size + 1 := by
    show (w.heap.push _).size = _
    rw [Array.size_push]
  have n1 := heap_alloc_new (w.alloc (.cells #[.int .u64 (wd x 0), .int .u64 (wd x 1), .int .u64 (wd x 2), .int .u64 (wd x 3)] 24)) (.cells #[.int .i64 0, .bool false, .bool false, .int .i64 0, .int .u64 0, .int .u64 0, .int .u64 0, .int .u64 0] 33)
  rw [e1] at n1
  refine ⟨?_, ?_, heap_alloc_new _ _, ?_, ?_, ?_⟩
  · exact (heap_alloc_old _ _ (by omega)).trans ((k _ (by omega)).trans ((heap_alloc_old _ _ (by omega)).trans (heap_alloc_new _ _)))
  · exact (heap_alloc_old _ _ (by omega)).trans ((k _ (by omega)).trans n1)
  · show _ < (w2.heap.push _).size; rw [Array.size_push]; omega
  · show _ < (w2.heap.push _).size; rw [Array.size_push]; omega
  · exact Below.alloc (((((Below.refl _ _).alloc (Nat.le_refl _) _).alloc (by omega) _).trans (hb1.mono (by omega))).trans (hb2.mono (by omega))) (by omega) _
theorem UW.pat {w : World} {x g6 : Nat} {inf : Array Value} {W : World} (h : UW w x g6 inf W) :
    W.cell? ⟨w.heap.size, 0, none⟩ = some (.int .u64 (wd x 0)) ∧ W.cell? ⟨w.heap.size, 1, none⟩ = some (.int .u64 (wd x 1)) ∧ W.cell? ⟨w.heap.size, 2, none⟩ = some (.int .u64 (wd x 2)) ∧ W.cell? ⟨w.heap.size, 3, none⟩ = some (.int .u64 (wd x 3)) :=
  ⟨cell_of_heap h.h0 rfl, cell_of_heap h.h0 rfl, cell_of_heap h.h0 rfl, cell_of_heap h.h0 rfl⟩

theorem UW.s5 {w : World} {x g6 : Nat} {inf : Array Value} {W : World} {q : Int} (h : UW w x g6 inf W) (I5 : inf[5]? = some (.int .i64 q)) :
    W.cell? ⟨w.heap.size, 0, none⟩ = some (.int .u64 (wd x 0)) ∧ W.cell? ⟨w.heap.size, 1, none⟩ = some (.int .u64 (wd x 1)) ∧ W.cell? ⟨w.heap.size, 2, none⟩ = some (.int .u64 (wd x 2)) ∧ W.cell? ⟨w.heap.size, 3, none⟩ = some (.int .u64 (wd x 3)) ∧ W.cell? ⟨g6, 5, none⟩ = some (.int .i64 q) :=
  ⟨cell_of_heap h.h0 rfl, cell_of_heap h.h0 rfl, cell_of_heap h.h0 rfl, cell_of_heap h.h0 rfl, cell_of_heap h.h2 I5⟩
theorem below_row {w W : World} (h : Below w.heap.size w W) {g : Nat} (hg : w.heap.size ≤ g) (cs : Array Value) : Below w.heap.size w (W.setRow g cs) :=
  h.trans ⟨rfl, rfl, rfl, by simp [World.setRow], fun k hk => setRow_other _ _ _ _ (by omega)⟩
theorem frozen_of_heap {W : World} {g k t : Nat} {cs : Array Value} (h : W.heap[g]? = some (.cells cs t (0, 0))) : W.frozen? ⟨g, k, none⟩ = false := by
  simp [World.frozen?, h]
theorem far {W : World} {g h k j : Nat} {v u : Value} (hne : g ≠ h) (hc : W.cell? ⟨h, j, none⟩ = some u) : (W.setCell ⟨g, k, none⟩ v).cell? ⟨h, j, none⟩ = some u :=
  (World.cell?_setCell_far _ _ _ _ hne).trans hc
theorem size33 : (Tryz.prog.info? 33).map (·.size) = some 8 := by kernel_rfl
/-- A datum. -/
structure Dat where
  cl : Int
  sg : Bool
  sl : Bool
  ex : Int
  c : Nat
def Dat.cells (d : Dat) : Array Value := #[.int .i64 d.cl, .bool d.sg, .bool d.sl, .int .i64 d.ex, .int .u64 (wd d.c 0), .int .u64 (wd d.c 1), .int .u64 (wd d.c 2), .int .u64 (wd d.c 3)]
def dcells (cl : Int) (sg sl : Bool) (ex : Int) (c : Nat) : Array Value := #[.int .i64 cl, .bool sg, .bool sl, .int .i64 ex, .int .u64 (wd c 0), .int .u64 (wd c 1), .int .u64 (wd c 2), .int .u64 (wd c 3)]
/-- What a pattern of a binary format means. -/
def undat (n x : Nat) : Dat :=
  if x / 2 ^ (prec n - 1) % 2 ^ expo n = 2 ^ expo n - 1 then
    if x % 2 ^ (prec n - 1) = 0 then ⟨2, ((x / 2 ^ (prec n - 1 + expo n) % 2 : Nat) : Int) == 1, false, 0, 0⟩
    else ⟨3, ((x / 2 ^ (prec n - 1 + expo n) % 2 : Nat) : Int) == 1, ((x / 2 ^ (prec n - 1 - 1) % 2 : Nat) : Int) == 0, 0, x % 2 ^ (prec n - 1 - 1)⟩
  else if x / 2 ^ (prec n - 1) % 2 ^ expo n = 0 then ⟨1, ((x / 2 ^ (prec n - 1 + expo n) % 2 : Nat) : Int) == 1, false, least n, x % 2 ^ (prec n - 1)⟩
  else ⟨1, ((x / 2 ^ (prec n - 1 + expo n) % 2 : Nat) : Int) == 1, false, least n - 1 + ((x / 2 ^ (prec n - 1) % 2 ^ expo n : Nat) : Int), x % 2 ^ (prec n - 1) + 2 ^ (prec n - 1)⟩
theorem wd_zero (i : Nat) : wd 0 i = 0 := by unfold wd; simp
set_option maxRecDepth 100000 in
set_option maxHeartbeats 1200000 in
theorem runpack_1 (n x p : Nat) (w : World) (h1 : 1 ≤ n) (h2 : n ≤ 6) (hx : x < 2 ^ 256) (hg : good n x = true) (hp : prec n = p + 1) :
    Calls Tryz.prog 18 #[.int .i64 n, bv x] w (fun e w' => e = .returned (.tuple #[.agg (undat n x).cells, .int .i64 0]) ∧ Below w.heap.size w w') := by
  obtain ⟨D, hD⟩ : ∃ D, D = undat n x := ⟨_, rfl⟩
  rw [← hD]
  unfold undat at hD
  rw [hp, Nat.add_sub_cancel] at hD
  have C1 := Lib.hid (fun W => rgood_c n x W hx)
  rw [hg] at C1
  have C2 := fun W => rof4_c n W h1 h2
  unfold rinfo at C2
  rw [hp] at C2
  have hp9 : p ≤ 240 := by rcases six h1 h2 with rfl | rfl | rfl | rfl | rfl | rfl <;> (simp [prec] at hp; omega)
  have hp7 : 7 ≤ p := by rcases six h1 h2 with rfl | rfl | rfl | rfl | rfl | rfl <;> (simp [prec] at hp; omega)
  have hls0 : -20000 ≤ least n := by rcases six h1 h2 with rfl | rfl | rfl | rfl | rfl | rfl <;> decide
  have hls1 : least n ≤ 0 := by rcases six h1 h2 with rfl | rfl | rfl | rfl | rfl | rfl <;> decide
  have hq9 : expo n ≤ 15 := by rcases six h1 h2 with rfl | rfl | rfl | rfl | rfl | rfl <;> decide
  generalize expo n = q at *
  generalize least n = ls at *
  generalize most n = ms at *
  generalize ((p + 1 - 2 : Nat) : Int) = pl at *
  generalize ((p + 1 + q : Nat) : Int) = wid at *
  generalize fname n = nm at *
  replace C2 := Lib.hid C2
  have C3 : Hid (∀ W, Calls Tryz.prog 40 #[bv x, .int .i64 0, .int .i64 p] W (fun e w' => ∃ v, e = .returned v ∧ NT w' v (x % 2 ^ p) ∧ Below W.heap.size W w')) := fun W => by
    have := rfield_c x 0 p W hx (by omega) (by omega)
    rwa [Nat.pow_zero, Nat.div_one] at this
  have C4 := Lib.hid (fun W => rfield_c x p q W hx (by omega) (by omega))
  have C5 := Lib.hid (fun v W h => rnumber_c v (x / 2 ^ p % 2 ^ q) W h (Nat.lt_of_lt_of_le (Nat.mod_lt _ (Nat.two_pow_pos _)) (Nat.le_trans (Nat.pow_le_pow_right (by omega) hq9) (by omega))))
  have C6 : Hid (∀ W, Calls Tryz.prog 40 #[bv x, .int .i64 ((p : Int) + q), .int .i64 1] W (fun e w' => ∃ v, e = .returned v ∧ NT w' v (x / 2 ^ (p + q) % 2) ∧ Below W.heap.size W w')) := fun W => by
    have := rfield_c x (p + q) 1 W hx (by omega) (by omega)
    rw [Nat.pow_one] at this
    exact this
  have C7 := Lib.hid (fun v W h => rnumber_c v (x / 2 ^ (p + q) % 2) W h (by omega))
  have ep : ((p - 1 : Nat) : Int) = (p : Int) - 1 := by omega
  have C40a : Hid (∀ W, Calls Tryz.prog 40 #[bv x, .int .i64 ((p : Int) - 1), .int .i64 1] W (fun e w' => ∃ v, e = .returned v ∧ NT w' v (x / 2 ^ (p - 1) % 2) ∧ Below W.heap.size W w')) := fun W => by
    have := rfield_c x (p - 1) 1 W hx (by omega) (by omega)
    rwa [Nat.pow_one, ep] at this
  have C57a := Lib.hid (fun v W h => rnumber_c v (x / 2 ^ (p - 1) % 2) W h (by omega))
  have C40b : Hid (∀ W, Calls Tryz.prog 40 #[bv x, .int .i64 0, .int .i64 ((p : Int) - 1)] W (fun e w' => ∃ v, e = .returned v ∧ NT w' v (x % 2 ^ (p - 1)) ∧ Below W.heap.size W w')) := fun W => by
    have := rfield_c x 0 (p - 1) W hx (by omega) (by omega)
    rwa [Nat.pow_zero, Nat.div_one, ep] at this
  have C65b := Lib.hid (fun v W h => rbits_c v (x % 2 ^ (p - 1)) W h)
  have C30 : Hid (∀ W, Calls Tryz.prog 30 #[.int .u64 2, .int .i64 p] W (fun e w' => ∃ v, e = .returned v ∧ NT w' v (2 ^ p) ∧ Below W.heap.size W w')) := fun W => by
    have h9 : (2 : Nat) ^ p < B ^ 4 := by rw [← B4]; exact Nat.pow_lt_pow_right (by omega) (by omega)
    exact rpow_c 2 p 4 W (by omega) (by omega) (by omega) (by omega) (by omega) h9
  have hw1 : wl (x % 2 ^ p) ≤ 4 := wl_le (by rw [← B4]; exact Nat.lt_of_le_of_lt (Nat.mod_le _ _) hx)
  have hw2 : wl (2 ^ p) ≤ 4 := wl_le (by rw [← B4]; exact Nat.pow_lt_pow_right (by omega) (by omega))
  have C61 := Lib.hid (fun v1 v2 W (h1 : NT W v1 (x % 2 ^ p)) (h2 : NT W v2 (2 ^ p)) => radd_c v1 v2 _ _ W (h1.nb hw1) (h2.nb hw2) (by omega))
  have C65c := Lib.hid (fun v W h => rbits_c v (x % 2 ^ p + 2 ^ p) W h)
  clear hg hp hx hw1 hw2 ep
  obtain ⟨E, hE⟩ : ∃ E, E = x / 2 ^ p % 2 ^ q := ⟨_, rfl⟩
  obtain ⟨F, hF⟩ : ∃ F, F = x % 2 ^ p := ⟨_, rfl⟩
  obtain ⟨sb, hsb⟩ : ∃ sb, sb = x / 2 ^ (p + q) % 2 := ⟨_, rfl⟩
  rw [← hE] at C4 C5
  rw [← hF] at C3 C61 C65c
  rw [← hsb] at C6 C7
  rw [← hE, ← hF, ← hsb] at hD
  have HD := Lib.hid hD
  clear hD
  have HE := Lib.hid hE
  have HF := Lib.hid hF
  have HS := Lib.hid hsb
  clear hE hF hsb
  unfold bv at *
  go_enter Tryz.func18, Tryz.ntmps18
  go_wp2_with fail
  (with_reducible refine (C1.out _).mono ?_); rintro e w1 ⟨rfl, hb1⟩
  go_wp2_with fail
  (with_reducible refine (C2.out _).mono ?_); rintro e w2 ⟨rfl, hb2⟩
  have U := UW.start x (inf := #[.int .i64 n, .string ⟨nm⟩, .int .i64 2, .int .i64 wid, .int .i64 ((p + 1 : Nat) : Int), .int .i64 q, .int .i64 ls, .int .i64 ms, .int .i64 pl, .bool false]) hb1 hb2
  go_wp2_with fail
  have ec : ((p + 1 : Nat) : Int) = (p : Int) + 1 := by omega
  rw [ec] at U
  obtain ⟨g6, hg6⟩ : ∃ g6, g6 = w2.heap.size := ⟨_, rfl⟩
  obtain ⟨inf, hinf⟩ : ∃ inf : Array Value, inf = #[.int .i64 n, .string ⟨nm⟩, .int .i64 2, .int .i64 wid, .int .i64 ((p : Int) + 1), .int .i64 q, .int .i64 ls, .int .i64 ms, .int .i64 pl, .bool false] := ⟨_, rfl⟩
  rw [← hg6, ← hinf] at U ⊢
  obtain ⟨W0, hW0⟩ : ∃ W0, W0 = w2.alloc (.cells inf 81) := ⟨_, rfl⟩
  rw [← hW0] at U ⊢
  clear hW0 ec hb1 hb2 hg6 C1 C2
  have I5 : inf[5]? = some (.int .i64 q) := by rw [hinf]; rfl
  have I6 : inf[6]? = some (.int .i64 ls) := by rw [hinf]; rfl
  have HI5 := Lib.hid I5
  have HI6 := Lib.hid I6
  have Ud := Lib.hid (U.ext (below_drew (Below.refl _ _)))
  clear hinf U I5 I6
  go_region_held (fun w' => w'.cell? ⟨w.heap.size, 0, none⟩ = some (.int .u64 (wd x 0)) ∧ w'.cell? ⟨w.heap.size, 1, none⟩ = some (.int .u64 (wd x 1)) ∧ w'.cell? ⟨w.heap.size, 2, none⟩ = some (.int .u64 (wd x 2)) ∧ w'.cell? ⟨w.heap.size, 3, none⟩ = some (.int .u64 (wd x 3)) ∧ w'.cell? ⟨g6, 5, none⟩ = some (.int .i64 q))
    (first | exact UW.s5 Ud.out HI5.out | exact UW.s5 U3.out HI5.out | exact UW.s5 U4.out HI5.out)
    (first | (go_at_call 40; (with_reducible refine (C3.out _).mono ?_); rintro e w3 ⟨v3, rfl, hv3, hb3⟩; have U3 := Lib.hid (Ud.out.ext hb3))
           | (go_at_call 40; (with_reducible refine (C4.out _).mono ?_); rintro e w4 ⟨v4, rfl, hv4, hb4⟩; have U4 := Lib.hid (U3.out.ext hb4))
           | (go_at_call 57; (with_reducible refine (C5.out v4 _ hv4).mono ?_); rintro e w5 ⟨rfl, rfl⟩))
  have c1 := UW.s5 U4.out HI5.out
  obtain ⟨c10, c11, c12, c13, c15⟩ := c1
  go_wp2_with fail
  (with_reducible refine (C6.out _).mono ?_); rintro e w6 ⟨v6, rfl, hv6, hb6⟩
  have U6 := Lib.hid (U4.out.ext hb6)
  clear c10 c11 c12 c13 c15
  obtain ⟨c10, c11, c12, c13, c15⟩ := UW.s5 U6.out HI5.out
  go_wp2_with fail
  (with_reducible refine (C7.out _ _ hv6).mono ?_); rintro e w7 ⟨rfl, rfl⟩
  clear c10 c11 c12 c13 c15
  have c2 := fun o => UW.s5 (U6.out.ext ((Below.refl _ _).alloc (Nat.le_refl _) o)) HI5.out
  have c20 := fun o => (c2 o).1
  have c21 := fun o => (c2 o).2.1
  have c22 := fun o => (c2 o).2.2.1
  have c23 := fun o => (c2 o).2.2.2.1
  have c25 := fun o => (c2 o).2.2.2.2
  clear c2
  obtain ⟨M, hM⟩ : ∃ M : Nat, M = 2 ^ q - 1 := ⟨_, rfl⟩
  have hM9 : M ≤ 32767 := by
    have : 2 ^ q ≤ 2 ^ 15 := Nat.pow_le_pow_right (by omega) hq9
    omega
  have kq : wrap64 ((2 : Int) ^ q) = (M : Int) + 1 := by
    have h2 : 0 < 2 ^ q := Nat.two_pow_pos q
    have h3 : ((2 : Int) ^ q) = ((2 ^ q : Nat) : Int) := by simp
    rw [h3]
    unfold wrap64
    omega
  have HM := Lib.hid hM
  clear hM
  obtain ⟨A3, a3, rfl, ha3, hb3', hr3⟩ := hv3.out
  have H3 := Lib.hid hv3
  clear hr3 hv3
  have H4 := Lib.hid hv4
  have H6 := Lib.hid hv6
  clear hv4 hv6
  by_cases hE : E = M
  · by_cases hF : F = 0
    · have e1 : ((E : Int) == (M : Int)) = true := by rw [hE]; simp
      have e2 : ((wl F : Nat) == 0) = true := by rw [hF, wl_zero]; simp
      have e3 : (((wl F : Nat) : Int) == 0) = true := by rw [hF, wl_zero]; simp
      generalize wl F = k3 at *
      have HEM := Lib.hid hE
      have HF0 := Lib.hid hF
      clear hE hF
      have HU := fun o => (U6.out.ext ((Below.refl _ _).alloc (Nat.le_refl _) o))
      have hg := fun o => (HU o).h1
      go_wp2_with (refine wpList_store_row rfl 33 (.tmp 4) (.tmp 100) rfl (w.heap.size + 1) (dcells 2 ((sb : Int) == 1) false 0 0) ?_ ?_ 33 zero33 ?_ size33 ?_ ?_ ?_; (· rfl); (· simp only [dcells, wd_zero]; rfl); (· exact hg _); (· rfl); (· simp [dcells, Value.oneCell']))
      (try simp only [Exit.inBlock, Exit.then])
      refine bodyPost_ret (results_cell_row_tmp rfl _ _ (w.heap.size + 1) 33 (dcells 2 ((sb : Int) == 1) false 0 0) (0, 0) _ rfl (setRow_heap _ _ _ _ _ _ (hg _)) Tryz.underlying33 rfl size33 (.int .i64 0) rfl) rfl ?_
      refine ⟨?_, below_row (HU _).b (Nat.le_succ _) _⟩
      rw [HD.out, if_pos (by rw [← HM.out]; exact HEM.out), if_pos HF0.out]
      rfl
    · have e1 : ((E : Int) == (M : Int)) = true := by rw [hE]; simp
      have e2 : ((wl F : Nat) == 0) = false := by rw [beq_eq_false_iff_ne]; exact fun h => hF (wl_eq_zero.1 h)
      have e3 : (((wl F : Nat) : Int) == 0) = false := by rw [beq_eq_false_iff_ne]; exact fun h => hF (wl_eq_zero.1 (by omega))
      generalize wl F = k3 at *
      have HEM := Lib.hid hE
      have HF0 := Lib.hid hF
      clear hE hF
      go_upto_region 12 with fail
      have hd0 := heap_alloc_new w7 (Obj.cells #[.int .i64 3, .bool ((sb : Int) == 1), .bool false, .int .i64 0, .int .u64 0, .int .u64 0, .int .u64 0, .int .u64 0] 33)
      have HU0 := U6.out.ext ((Below.refl _ _).alloc (Nat.le_refl _) (Obj.cells #[.int .i64 3, .bool ((sb : Int) == 1), .bool false, .int .i64 0, .int .u64 0, .int .u64 0, .int .u64 0, .int .u64 0] 33))
      have hlt : w7.heap.size < (w7.alloc (Obj.cells #[.int .i64 3, .bool ((sb : Int) == 1), .bool false, .int .i64 0, .int .u64 0, .int .u64 0, .int .u64 0, .int .u64 0] 33)).heap.size := by show _ < (w7.heap.push _).size; rw [Array.size_push]; omega
      have HBW := Lib.hid (Below.alloc (btrans hb4 hb6) (btrans hb4 hb6).size (Obj.cells #[.int .i64 3, .bool ((sb : Int) == 1), .bool false, .int .i64 0, .int .u64 0, .int .u64 0, .int .u64 0, .int .u64 0] 33))
      have hn6 := U6.out.lt
      have hn1 := U6.out.lt0
      generalize (w7.alloc (Obj.cells #[.int .i64 3, .bool ((sb : Int) == 1), .bool false, .int .i64 0, .int .u64 0, .int .u64 0, .int .u64 0, .int .u64 0] 33)) = W8 at *
      obtain ⟨g11, hg11⟩ : ∃ g, g = w7.heap.size := ⟨_, rfl⟩
      rw [← hg11] at hd0 hlt hn6 hn1 ⊢
      clear hg11 c20 c21 c22 c23 c25
      have HU8 := Lib.hid HU0
      have hne6 : g6 ≠ g11 := by omega
      have hne6' : g11 ≠ g6 := by omega
      have HD8 := Lib.hid hd0
      have hlt8 := Lib.hid hlt
      have HN6 := Lib.hid hn6
      have HN1 := Lib.hid hn1
      clear hd0 hlt HU0 hn6 hn1 hne6 e1 e2 kq
      clear e3
      obtain ⟨c10, c11, c12, c13, c15⟩ := HU8.out.s5 HI5.out
      go_wp2_with fail
      (with_reducible refine (C40a.out _).mono ?_); rintro e w9 ⟨v9, rfl, hv9, hb9⟩
      have U9 := Lib.hid (HU8.out.ext hb9)
      have d9 := (hb9.block _ hlt8.out).trans HD8.out
      have f9 := frozen_of_heap (k := 2) d9
      have d92 := cell_of_heap d9 (k := 2) (v := .bool false) rfl
      have D9 := Lib.hid d9
      clear c10 c11 c12 c13 c15 d9
      go_wp2_with fail
      (with_reducible refine (C57a.out _ _ hv9).mono ?_); rintro e w' ⟨rfl, rfl⟩
      generalize hsl : (x / 2 ^ (p - 1) % 2) = sl at *
      have HSL := Lib.hid hsl
      clear hsl hv9
      go_upto_region 13 with fail
      have hd10 := Lib.hid (heap_setCell_same w' g11 2 _ 33 (.bool ((sl : Int) == 0)) D9.out)
      have hu10 := Lib.hid (U9.out.low (Below.setCell (Below.refl g11 w') (p := ⟨g11, 2, none⟩) (Nat.le_refl _) (.bool ((sl : Int) == 0))) HN1.out HN6.out)
      have hl10 := Lib.hid (show g11 < (w'.setCell ⟨g11, 2, none⟩ (.bool ((sl : Int) == 0))).heap.size from Nat.lt_of_lt_of_le (Nat.lt_of_lt_of_le hlt8.out hb9.size) (Below.setCell (Below.refl g11 w') (p := ⟨g11, 2, none⟩) (Nat.le_refl _) (.bool ((sl : Int) == 0))).size)
      generalize (w'.setCell ⟨g11, 2, none⟩ (.bool ((sl : Int) == 0))) = W10 at *
      clear f9 d92
      obtain ⟨c10, c11, c12, c13, c15⟩ := hu10.out.s5 HI5.out
      go_wp2_with fail
      (with_reducible refine (C40b.out _).mono ?_); rintro e w11 ⟨v11, rfl, hv11, hb11⟩
      have U11 := Lib.hid (hu10.out.ext hb11)
      clear c10 c11 c12 c13 c15
      go_wp2_with fail
      (with_reducible refine (C65b.out _ _ hv11.ns).mono ?_); rintro e w12 ⟨rfl, hb12⟩
      have U12 := Lib.hid (U11.out.ext hb12)
      have d9 := (hb12.block _ (Nat.lt_of_lt_of_le hl10.out hb11.size)).trans ((hb11.block _ hl10.out).trans hd10.out)
      have f9 := fun k => frozen_of_heap (k := k) d9
      have d94 := cell_of_heap d9 (k := 4) (v := .int .u64 0) rfl
      have d95 := cell_of_heap d9 (k := 5) (v := .int .u64 0) rfl
      have d96 := cell_of_heap d9 (k := 6) (v := .int .u64 0) rfl
      have d97 := cell_of_heap d9 (k := 7) (v := .int .u64 0) rfl
      have D12 := Lib.hid d9
      clear d9 hv11
      generalize hpl : x % 2 ^ (p - 1) = P at *
      have HPL := Lib.hid hpl
      clear hpl
      go_upto_region 16 with fail
      have hd9 := heap_setCell_same _ g11 7 _ 33 (.int .u64 (wd P 3)) (heap_setCell_same _ g11 6 _ 33 (.int .u64 (wd P 2)) (heap_setCell_same _ g11 5 _ 33 (.int .u64 (wd P 1)) (heap_setCell_same _ g11 4 _ 33 (.int .u64 (wd P 0)) D12.out)))
      have hu9 := U12.out.low (Below.setCell (Below.setCell (Below.setCell (Below.setCell (Below.refl g11 w12) (p := ⟨g11, 4, none⟩) (Nat.le_refl _) (.int .u64 (wd P 0))) (p := ⟨g11, 5, none⟩) (Nat.le_refl _) (.int .u64 (wd P 1))) (p := ⟨g11, 6, none⟩) (Nat.le_refl _) (.int .u64 (wd P 2))) (p := ⟨g11, 7, none⟩) (Nat.le_refl _) (.int .u64 (wd P 3))) HN1.out HN6.out
      replace hd9 : _ = some (Obj.cells (dcells 3 ((sb : Int) == 1) ((sl : Int) == 0) 0 P) 33 (0, 0)) := hd9
      generalize ((((w12.setCell ⟨g11, 4, none⟩ (.int .u64 (wd P 0))).setCell ⟨g11, 5, none⟩ (.int .u64 (wd P 1))).setCell ⟨g11, 6, none⟩ (.int .u64 (wd P 2))).setCell ⟨g11, 7, none⟩ (.int .u64 (wd P 3))) = Wz at *
      clear f9 d94 d95 d96 d97
      have hz1 := hu9.h1
      have hzb := hu9.b
      clear hu9
      go_wp2_with (first | (refine wpList_load_row rfl 33 (.tmp 11) rfl g11 rfl 33 (dcells 3 ((sb : Int) == 1) ((sl : Int) == 0) 0 P) (0, 0) _ hd9 Tryz.underlying33 rfl size33 ?_)
                         | (refine wpList_store_row rfl 33 (.tmp 4) (.tmp 100) rfl (w.heap.size + 1) (dcells 3 ((sb : Int) == 1) ((sl : Int) == 0) 0 P) ?_ ?_ 33 zero33 hz1 size33 ?_ ?_ ?_; (· rfl); (· rfl); (· rfl); (· simp [dcells, Value.oneCell'])))
      (try simp only [Exit.inBlock, Exit.then])
      refine bodyPost_ret (results_cell_row_tmp rfl _ _ (w.heap.size + 1) 33 (dcells 3 ((sb : Int) == 1) ((sl : Int) == 0) 0 P) (0, 0) _ rfl (setRow_heap _ _ _ _ _ _ hz1) Tryz.underlying33 rfl size33 (.int .i64 0) rfl) rfl ?_
      refine ⟨?_, below_row hzb (Nat.le_succ _) _⟩
      rw [HD.out, if_pos (by rw [← HM.out]; exact HEM.out), if_neg HF0.out]
      rfl
  · by_cases hE0 : E = 0
    · have e1 : ((E : Int) == (M : Int)) = false := by rw [beq_eq_false_iff_ne]; omega
      have e2 : ((E : Int) == 0) = true := by rw [hE0]; simp
      have HEM := Lib.hid hE
      have HE0 := Lib.hid hE0
      have C65 := Lib.hid (fun W h => rbits_c (.slice A3 (wl F) a3) F W (NT.ns (NT.ext H3.out h)))
      unfold bv at C65
      generalize wl F = k3 at *
      clear hE hE0
      have HU := fun o => (U6.out.ext ((Below.refl _ _).alloc (Nat.le_refl _) o))
      have hg := fun o => (HU o).h1
      go_wp2_with fail
      have hd0 := heap_alloc_new w7 (Obj.cells #[.int .i64 1, .bool ((sb : Int) == 1), .bool false, .int .i64 0, .int .u64 0, .int .u64 0, .int .u64 0, .int .u64 0] 33)
      have HU0 := HU (Obj.cells #[.int .i64 1, .bool ((sb : Int) == 1), .bool false, .int .i64 0, .int .u64 0, .int .u64 0, .int .u64 0, .int .u64 0] 33)
      have hlt : w7.heap.size < (w7.alloc (Obj.cells #[.int .i64 1, .bool ((sb : Int) == 1), .bool false, .int .i64 0, .int .u64 0, .int .u64 0, .int .u64 0, .int .u64 0] 33)).heap.size := by show _ < (w7.heap.push _).size; rw [Array.size_push]; omega
      have HBW := Lib.hid (below_drew (Below.alloc (btrans hb4 hb6) (btrans hb4 hb6).size (Obj.cells #[.int .i64 1, .bool ((sb : Int) == 1), .bool false, .int .i64 0, .int .u64 0, .int .u64 0, .int .u64 0, .int .u64 0] 33)))
      have hn6 := U6.out.lt
      have hn1 := U6.out.lt0
      generalize (w7.alloc (Obj.cells #[.int .i64 1, .bool ((sb : Int) == 1), .bool false, .int .i64 0, .int .u64 0, .int .u64 0, .int .u64 0, .int .u64 0] 33)) = W8 at *
      obtain ⟨g11, hg11⟩ : ∃ g, g = w7.heap.size := ⟨_, rfl⟩
      rw [← hg11] at hd0 hlt hn6 hn1 ⊢
      clear hg11 c20 c21 c22 c23 c25 hg HU
      have HU8 := Lib.hid HU0
      have hne6 : g6 ≠ g11 := by omega
      have hne6' : g11 ≠ g6 := by omega
      have HD8 := Lib.hid hd0
      have hlt8 := Lib.hid hlt
      have hbd := Lib.hid (below_drew (Below.refl W8.heap.size W8))
      have s0 := cell_of_heap ((HU8.out.ext hbd.out)).h2 HI6.out
      have HN6 := Lib.hid hn6
      have HN1 := Lib.hid hn1
      clear hd0 hlt HU0 hn6 hn1 hne6 e1 e2 kq
      generalize hQQ : Exit.inBlock 0 _ = QQ
      replace hQQ := Lib.hid hQQ
      refine wp_mono (Q := Exit.then (fun a w => QQ .normal a w) (bodyPost Tryz.prog Tryz.f18 (fun e w' => e = .returned (.tuple #[.agg D.cells, .int .i64 0]) ∧ Below w.heap.size w w'))) ?_ (by intro e a w h; rw [← hQQ.out]; cases e <;> first | exact h | (rw [hQQ.out]; exact h) | exact h.elim)
      generalize hKK : (fun a w => QQ Exit.normal a w) = KK
      replace hKK := Lib.hid hKK
      go_region_held (fun w' => w'.cell? ⟨g6, 6, none⟩ = some (.int .i64 ls))
        (first | (with_reducible exact s0) | (with_reducible exact s9) | (with_reducible exact far hne6' (far hne6' (far hne6' (far hne6' s9)))) | (with_reducible exact far hne6' (far hne6' (far hne6' (far hne6' (far hne6' s9))))))
        (first | (go_at_call 65; (with_reducible refine (C65.out _ HBW.out).mono ?_); rintro e w9 ⟨rfl, hb9⟩; have U9 := Lib.hid ((HU8.out.ext hbd.out).ext hb9); have s9 := cell_of_heap U9.out.h2 HI6.out; have d9 := (hb9.block _ (show g11 < W8.drew.heap.size from hlt8.out)).trans HD8.out; have f9 := fun k => frozen_of_heap (k := k) d9; have d93 := cell_of_heap d9 (k := 3) (v := .int .i64 0) rfl; have d94 := cell_of_heap d9 (k := 4) (v := .int .u64 0) rfl; have d95 := cell_of_heap d9 (k := 5) (v := .int .u64 0) rfl; have d96 := cell_of_heap d9 (k := 6) (v := .int .u64 0) rfl; have d97 := cell_of_heap d9 (k := 7) (v := .int .u64 0) rfl; have D9 := Lib.hid d9; clear d9))
      rw [Exit.then, ← hKK.out, ← hQQ.out]
      simp only [Exit.inBlock, Exit.then]
      have hd9 := heap_setCell_same _ g11 3 _ 33 (.int .i64 ls) (heap_setCell_same _ g11 7 _ 33 (.int .u64 (wd F 3)) (heap_setCell_same _ g11 6 _ 33 (.int .u64 (wd F 2)) (heap_setCell_same _ g11 5 _ 33 (.int .u64 (wd F 1)) (heap_setCell_same _ g11 4 _ 33 (.int .u64 (wd F 0)) D9.out))))
      have hu9 := U9.out.low (Below.setCell (Below.setCell (Below.setCell (Below.setCell (Below.setCell (Below.refl g11 w9) (p := ⟨g11, 4, none⟩) (Nat.le_refl _) (.int .u64 (wd F 0))) (p := ⟨g11, 5, none⟩) (Nat.le_refl _) (.int .u64 (wd F 1))) (p := ⟨g11, 6, none⟩) (Nat.le_refl _) (.int .u64 (wd F 2))) (p := ⟨g11, 7, none⟩) (Nat.le_refl _) (.int .u64 (wd F 3))) (p := ⟨g11, 3, none⟩) (Nat.le_refl _) (.int .i64 ls)) HN1.out HN6.out
      replace hd9 : _ = some (Obj.cells (dcells 1 ((sb : Int) == 1) false ls F) 33 (0, 0)) := hd9
      generalize (((((w9.setCell ⟨g11, 4, none⟩ (.int .u64 (wd F 0))).setCell ⟨g11, 5, none⟩ (.int .u64 (wd F 1))).setCell ⟨g11, 6, none⟩ (.int .u64 (wd F 2))).setCell ⟨g11, 7, none⟩ (.int .u64 (wd F 3))).setCell ⟨g11, 3, none⟩ (.int .i64 ls)) = Wz at *
      clear s0 s9 f9 d93 d94 d95 d96 d97
      have hz1 := hu9.h1
      have hzb := hu9.b
      clear hu9
      go_wp2_with (first | (refine wpList_load_row rfl 33 (.tmp 11) rfl g11 rfl 33 (dcells 1 ((sb : Int) == 1) false ls F) (0, 0) _ hd9 Tryz.underlying33 rfl size33 ?_)
                         | (refine wpList_store_row rfl 33 (.tmp 4) (.tmp 100) rfl (w.heap.size + 1) (dcells 1 ((sb : Int) == 1) false ls F) ?_ ?_ 33 zero33 hz1 size33 ?_ ?_ ?_; (· rfl); (· rfl); (· rfl); (· simp [dcells, Value.oneCell'])))
      (try simp only [Exit.inBlock, Exit.then])
      refine bodyPost_ret (results_cell_row_tmp rfl _ _ (w.heap.size + 1) 33 (dcells 1 ((sb : Int) == 1) false ls F) (0, 0) _ rfl (setRow_heap _ _ _ _ _ _ hz1) Tryz.underlying33 rfl size33 (.int .i64 0) rfl) rfl ?_
      refine ⟨?_, below_row hzb (Nat.le_succ _) _⟩
      rw [HD.out, if_neg (by rw [← HM.out]; exact HEM.out), if_pos HE0.out]
      rfl
    · have e1 : ((E : Int) == (M : Int)) = false := by rw [beq_eq_false_iff_ne]; omega
      have e2 : ((E : Int) == 0) = false := by rw [beq_eq_false_iff_ne]; omega
      have hE9 : E ≤ 32767 := by rw [HE.out]; have := Nat.mod_lt (x / 2 ^ p) (Nat.two_pow_pos q); have : 2 ^ q ≤ 2 ^ 15 := Nat.pow_le_pow_right (by omega) hq9; omega
      have HEM := Lib.hid hE
      have HE0 := Lib.hid hE0
      generalize wl F = k3 at *
      clear hE hE0
      go_upto_region 7 with fail
      have hd0 := heap_alloc_new w7 (Obj.cells #[.int .i64 1, .bool ((sb : Int) == 1), .bool false, .int .i64 0, .int .u64 0, .int .u64 0, .int .u64 0, .int .u64 0] 33)
      have HU0 := U6.out.ext ((Below.refl _ _).alloc (Nat.le_refl _) (Obj.cells #[.int .i64 1, .bool ((sb : Int) == 1), .bool false, .int .i64 0, .int .u64 0, .int .u64 0, .int .u64 0, .int .u64 0] 33))
      have hlt : w7.heap.size < (w7.alloc (Obj.cells #[.int .i64 1, .bool ((sb : Int) == 1), .bool false, .int .i64 0, .int .u64 0, .int .u64 0, .int .u64 0, .int .u64 0] 33)).heap.size := by show _ < (w7.heap.push _).size; rw [Array.size_push]; omega
      have HBW := Lib.hid (Below.alloc (btrans hb4 hb6) (btrans hb4 hb6).size (Obj.cells #[.int .i64 1, .bool ((sb : Int) == 1), .bool false, .int .i64 0, .int .u64 0, .int .u64 0, .int .u64 0, .int .u64 0] 33))
      have hn6 := U6.out.lt
      have hn1 := U6.out.lt0
      generalize (w7.alloc (Obj.cells #[.int .i64 1, .bool ((sb : Int) == 1), .bool false, .int .i64 0, .int .u64 0, .int .u64 0, .int .u64 0, .int .u64 0] 33)) = W8 at *
      obtain ⟨g11, hg11⟩ : ∃ g, g = w7.heap.size := ⟨_, rfl⟩
      rw [← hg11] at hd0 hlt hn6 hn1 ⊢
      clear hg11 c20 c21 c22 c23 c25
      have HU8 := Lib.hid HU0
      have hne6 : g6 ≠ g11 := by omega
      have hne6' : g11 ≠ g6 := by omega
      have HD8 := Lib.hid hd0
      have hlt8 := Lib.hid hlt
      have HN6 := Lib.hid hn6
      have HN1 := Lib.hid hn1
      clear hd0 hlt HU0 hn6 hn1 hne6 e1 e2 kq
      have hbd := Lib.hid (below_drew (Below.refl W8.heap.size W8))
      have s0 := cell_of_heap ((HU8.out.ext hbd.out)).h2 HI6.out
      generalize hpp : F + 2 ^ p = G at *
      have HPP := Lib.hid hpp
      clear hpp
      have hx9 : 0 ≤ (E : Int) := by omega
      have hk0 := IntWalk.i64_in (ls - 1) (by omega)
      have hk1 := IntWalk.i64_in (ls - 1 + (E : Int)) (by omega)
      generalize hQQ : Exit.inBlock 0 _ = QQ
      replace hQQ := Lib.hid hQQ
      refine wp_mono (Q := Exit.then (fun a w => QQ .normal a w) (bodyPost Tryz.prog Tryz.f18 (fun e w' => e = .returned (.tuple #[.agg D.cells, .int .i64 0]) ∧ Below w.heap.size w w'))) ?_ (by intro e a w h; rw [← hQQ.out]; cases e <;> first | exact h | (rw [hQQ.out]; exact h) | exact h.elim)
      generalize hKK : (fun a w => QQ Exit.normal a w) = KK
      replace hKK := Lib.hid hKK
      go_region_held (fun w' => w'.cell? ⟨g6, 6, none⟩ = some (.int .i64 ls))
        (first | (with_reducible exact s0) | (with_reducible exact s9) | (with_reducible exact s10) | (with_reducible exact s11) | (with_reducible exact far hne6' (far hne6' (far hne6' (far hne6' s11)))) | (with_reducible exact far hne6' (far hne6' (far hne6' (far hne6' (far hne6' s11))))))
        (first | (go_at_call 30; (with_reducible refine (C30.out _).mono ?_); rintro e w9 ⟨v9, rfl, hv9, hb9⟩; have U9 := Lib.hid ((HU8.out.ext hbd.out).ext hb9); have s9 := cell_of_heap U9.out.h2 HI6.out)
               | (go_at_call 61; (with_reducible refine (C61.out _ _ _ (NT.ext H3.out (btrans (below_drew HBW.out) hb9)) hv9).mono ?_); rintro e w10 ⟨v10, rfl, hv10, hb10⟩; have U10 := Lib.hid (U9.out.ext hb10); have s10 := cell_of_heap U10.out.h2 HI6.out)
               | (go_at_call 65; (with_reducible refine (C65c.out _ _ hv10.ns).mono ?_); rintro e w11 ⟨rfl, hb11⟩; have U11 := Lib.hid (U10.out.ext hb11); have s11 := cell_of_heap U11.out.h2 HI6.out; have d9 := (hb11.block _ (Nat.lt_of_lt_of_le hlt8.out (Nat.le_trans hb9.size hb10.size))).trans ((hb10.block _ (Nat.lt_of_lt_of_le hlt8.out hb9.size)).trans ((hb9.block _ (show g11 < W8.drew.heap.size from hlt8.out)).trans HD8.out)); have f9 := fun k => frozen_of_heap (k := k) d9; have d93 := cell_of_heap d9 (k := 3) (v := .int .i64 0) rfl; have d94 := cell_of_heap d9 (k := 4) (v := .int .u64 0) rfl; have d95 := cell_of_heap d9 (k := 5) (v := .int .u64 0) rfl; have d96 := cell_of_heap d9 (k := 6) (v := .int .u64 0) rfl; have d97 := cell_of_heap d9 (k := 7) (v := .int .u64 0) rfl; have D9 := Lib.hid d9; clear d9))
      rw [Exit.then, ← hKK.out, ← hQQ.out]
      simp only [Exit.inBlock, Exit.then]
      have hd9 := heap_setCell_same _ g11 3 _ 33 (.int .i64 (ls - 1 + E)) (heap_setCell_same _ g11 7 _ 33 (.int .u64 (wd G 3)) (heap_setCell_same _ g11 6 _ 33 (.int .u64 (wd G 2)) (heap_setCell_same _ g11 5 _ 33 (.int .u64 (wd G 1)) (heap_setCell_same _ g11 4 _ 33 (.int .u64 (wd G 0)) D9.out))))
      have hu9 := U11.out.low (Below.setCell (Below.setCell (Below.setCell (Below.setCell (Below.setCell (Below.refl g11 w11) (p := ⟨g11, 4, none⟩) (Nat.le_refl _) (.int .u64 (wd G 0))) (p := ⟨g11, 5, none⟩) (Nat.le_refl _) (.int .u64 (wd G 1))) (p := ⟨g11, 6, none⟩) (Nat.le_refl _) (.int .u64 (wd G 2))) (p := ⟨g11, 7, none⟩) (Nat.le_refl _) (.int .u64 (wd G 3))) (p := ⟨g11, 3, none⟩) (Nat.le_refl _) (.int .i64 (ls - 1 + E))) HN1.out HN6.out
      replace hd9 : _ = some (Obj.cells (dcells 1 ((sb : Int) == 1) false (ls - 1 + E) G) 33 (0, 0)) := hd9
      generalize (((((w11.setCell ⟨g11, 4, none⟩ (.int .u64 (wd G 0))).setCell ⟨g11, 5, none⟩ (.int .u64 (wd G 1))).setCell ⟨g11, 6, none⟩ (.int .u64 (wd G 2))).setCell ⟨g11, 7, none⟩ (.int .u64 (wd G 3))).setCell ⟨g11, 3, none⟩ (.int .i64 (ls - 1 + E))) = Wz at *
      clear s0 s9 s10 s11 f9 d93 d94 d95 d96 d97 hk0 hk1
      have hz1 := hu9.h1
      have hzb := hu9.b
      clear hu9
      go_wp2_with (first | (refine wpList_load_row rfl 33 (.tmp 11) rfl g11 rfl 33 (dcells 1 ((sb : Int) == 1) false (ls - 1 + E) G) (0, 0) _ hd9 Tryz.underlying33 rfl size33 ?_)
                         | (refine wpList_store_row rfl 33 (.tmp 4) (.tmp 100) rfl (w.heap.size + 1) (dcells 1 ((sb : Int) == 1) false (ls - 1 + E) G) ?_ ?_ 33 zero33 hz1 size33 ?_ ?_ ?_; (· rfl); (· rfl); (· rfl); (· simp [dcells, Value.oneCell'])))
      (try simp only [Exit.inBlock, Exit.then])
      refine bodyPost_ret (results_cell_row_tmp rfl _ _ (w.heap.size + 1) 33 (dcells 1 ((sb : Int) == 1) false (ls - 1 + E) G) (0, 0) _ rfl (setRow_heap _ _ _ _ _ _ hz1) Tryz.underlying33 rfl size33 (.int .i64 0) rfl) rfl ?_
      refine ⟨?_, below_row hzb (Nat.le_succ _) _⟩
      rw [HD.out, if_neg (by rw [← HM.out]; exact HEM.out), if_neg HE0.out]
      rfl
end Go.Proofs.YtaepgdkpaffaaaaGreatDoor
