import Derived.Test.YtaepgdkpaffaaaaGreatDoorG13
import Derived.Test.YtaepgdkpaffaaaaGreatDoorG9
import Derived.Deep.RegionHeld
import Derived.Deep.RegionWith
import Derived.Deep.DeepCutAuto
set_option linter.unusedVariables false
set_option linter.unusedSimpArgs false
/- package binary: Unpack. -/
namespace Go.Proofs.YtaepgdkpaffaaaaGreatDoor
open Go.RowKit Go.Proofs.YtaepgdkpaffaaaaGreatDoorW.PrintWords Cal

/-- What lies in memory while binary.Unpack runs: the pattern, the result's cell, the format's row. -/
structure BU (w : World) (x g6 : Nat) (inf : Array Value) (W : World) : Prop where
  h0 : W.heap[w.heap.size]? = some (.cells (bcells x) 24 (0, 0))
  h1 : W.heap[w.heap.size + 1]? = some (.cells zero33 33 (0, 0))
  h2 : W.heap[g6]? = some (.cells inf 74 (0, 0))
  lt0 : w.heap.size + 1 < W.heap.size
  lt : g6 < W.heap.size
  b : Below w.heap.size w W
theorem BU.ext {w : World} {x g6 : Nat} {inf : Array Value} {W W' : World} (h : BU w x g6 inf W) (hb : Below W.heap.size W W') : BU w x g6 inf W' :=
  ⟨(hb.block _ (by have := h.lt0; omega)).trans h.h0, (hb.block _ h.lt0).trans h.h1, (hb.block _ h.lt).trans h.h2, by have := h.lt0; have := hb.size; omega, by have := h.lt; have := hb.size; omega, btrans h.b hb⟩
theorem BU.low {w : World} {x g6 B : Nat} {inf : Array Value} {W W' : World} (h : BU w x g6 inf W) (hb : Below B W W') (b1 : w.heap.size + 1 < B) (b2 : g6 < B) : BU w x g6 inf W' :=
  ⟨(hb.block _ (by omega)).trans h.h0, (hb.block _ b1).trans h.h1, (hb.block _ b2).trans h.h2, by have := h.lt0; have := hb.size; omega, by have := h.lt; have := hb.size; omega, h.b.trans (hb.mono (by omega))⟩
theorem BU.start {w w2 : World} (x : Nat) {inf : Array Value} (hb1 : Below ((w.alloc (.cells #[.int .u64 (wd x 0), .int .u64 (wd x 1), .int .u64 (wd x 2), .int .u64 (wd x 3)] 24)).alloc (.cells #[.int .i64 0, .bool false, .bool false, .int .i64 0, .int .u64 0, .int .u64 0, .int .u64 0, .int .u64 0] 33)).heap.size ((w.alloc (.cells #[.int .u64 (wd x 0), .int .u64 (wd x 1), .int .u64 (wd x 2), .int .u64 (wd x 3)] 24)).alloc (.cells #[.int .i64 0, .bool false, .bool false, .int .i64 0, .int .u64 0, .int .u64 0, .int .u64 0, .int .u64 0] 33)) w2) : BU w x w2.heap.size inf (w2.alloc (.cells inf 74)) := by
  have e0 : ((w.alloc (.cells #[.int .u64 (wd x 0), .int .u64 (wd x 1), .int .u64 (wd x 2), .int .u64 (wd x 3)] 24)).alloc (.cells #[.int .i64 0, .bool false, .bool false, .int .i64 0, .int .u64 0, .int .u64 0, .int .u64 0, .int .u64 0] 33)).heap.size = w.heap.size + 2 := by
    show ((w.heap.push _).push _).size = _
    rw [Array.size_push, Array.size_push]
  have b1 := hb1.size
  have k : ∀ g, g < w.heap.size + 2 → w2.heap[g]? = ((w.alloc (.cells #[.int .u64 (wd x 0), .int .u64 (wd x 1), .int .u64 (wd x 2), .int .u64 (wd x 3)] 24)).alloc (.cells #[.int .i64 0, .bool false, .bool false, .int .i64 0, .int .u64 0, .int .u64 0, .int .u64 0, .int .u64 0] 33)).heap[g]? := fun g hg => hb1.block g (by omega)
  have e1 : (w.alloc (.cells #[.int .u64 (wd x 0), .int .u64 (wd x 1), .int .u64 (wd x 2), .int .u64 (wd x 3)] 24)).heap.size = w.heap.size + 1 := by
    show (w.heap.push _).size = _
    rw [Array.size_push]
  have n1 := heap_alloc_new (w.alloc (.cells #[.int .u64 (wd x 0), .int .u64 (wd x 1), .int .u64 (wd x 2), .int .u64 (wd x 3)] 24)) (.cells #[.int .i64 0, .bool false, .bool false, .int .i64 0, .int .u64 0, .int .u64 0, .int .u64 0, .int .u64 0] 33)
  rw [e1] at n1
  refine ⟨?_, ?_, heap_alloc_new _ _, ?_, ?_, ?_⟩
  · exact (heap_alloc_old _ _ (by omega)).trans ((k _ (by omega)).trans ((heap_alloc_old _ _ (by omega)).trans (heap_alloc_new _ _)))
  · exact (heap_alloc_old _ _ (by omega)).trans ((k _ (by omega)).trans n1)
  · show _ < (w2.heap.push _).size; rw [Array.size_push]; omega
  · show _ < (w2.heap.push _).size; rw [Array.size_push]; omega
  · exact Below.alloc ((((Below.refl _ _).alloc (Nat.le_refl _) _).alloc (by omega) _).trans (hb1.mono (by omega))) (by omega) _
theorem BU.pat {w : World} {x g6 : Nat} {inf : Array Value} {W : World} (h : BU w x g6 inf W) :
    W.cell? ⟨w.heap.size, 0, none⟩ = some (.int .u64 (wd x 0)) ∧ W.cell? ⟨w.heap.size, 1, none⟩ = some (.int .u64 (wd x 1)) ∧ W.cell? ⟨w.heap.size, 2, none⟩ = some (.int .u64 (wd x 2)) ∧ W.cell? ⟨w.heap.size, 3, none⟩ = some (.int .u64 (wd x 3)) :=
  ⟨cell_of_heap h.h0 rfl, cell_of_heap h.h0 rfl, cell_of_heap h.h0 rfl, cell_of_heap h.h0 rfl⟩


theorem BU.s8 {w : World} {x g6 : Nat} {inf : Array Value} {W : World} {wd_ q ls : Int} (h : BU w x g6 inf W) (I3 : inf[3]? = some (.int .i64 wd_)) (I5 : inf[5]? = some (.int .i64 q)) (I6 : inf[6]? = some (.int .i64 ls)) :
    W.cell? ⟨w.heap.size, 0, none⟩ = some (.int .u64 (wd x 0)) ∧ W.cell? ⟨w.heap.size, 1, none⟩ = some (.int .u64 (wd x 1)) ∧ W.cell? ⟨w.heap.size, 2, none⟩ = some (.int .u64 (wd x 2)) ∧ W.cell? ⟨w.heap.size, 3, none⟩ = some (.int .u64 (wd x 3)) ∧
    W.cell? ⟨g6, 3, none⟩ = some (.int .i64 wd_) ∧ W.cell? ⟨g6, 5, none⟩ = some (.int .i64 q) ∧ W.cell? ⟨g6, 6, none⟩ = some (.int .i64 ls) :=
  ⟨cell_of_heap h.h0 rfl, cell_of_heap h.h0 rfl, cell_of_heap h.h0 rfl, cell_of_heap h.h0 rfl, cell_of_heap h.h2 I3, cell_of_heap h.h2 I5, cell_of_heap h.h2 I6⟩
structure BX (w : World) (x g6 : Nat) (inf : Array Value) (g9 : Nat) (f : Nat → Int) (g11 : Nat) (dc : Array Value) (W : World) : Prop where
  u : BU w x g6 inf W
  f9 : Arr W g9 24 f
  d : W.heap[g11]? = some (.cells dc 33 (0, 0))
  n1 : w.heap.size + 1 < g6
  n2 : g6 < g9
  n3 : g9 < g11
  n4 : g11 < W.heap.size
theorem BX.ext {w : World} {x g6 : Nat} {inf : Array Value} {g9 : Nat} {f : Nat → Int} {g11 : Nat} {dc : Array Value} {W W' : World} (h : BX w x g6 inf g9 f g11 dc W) (hb : Below W.heap.size W W') : BX w x g6 inf g9 f g11 dc W' :=
  ⟨h.u.ext hb, h.f9.ext hb, (hb.block _ h.n4).trans h.d, h.n1, h.n2, h.n3, Nat.lt_of_lt_of_le h.n4 hb.size⟩
theorem BX.setd {w : World} {x g6 : Nat} {inf : Array Value} {g9 : Nat} {f : Nat → Int} {g11 : Nat} {dc : Array Value} {W : World} (h : BX w x g6 inf g9 f g11 dc W) (k : Nat) (v : Value) : BX w x g6 inf g9 f g11 (dc.setIfInBounds k v) (W.setCell ⟨g11, k, none⟩ v) := by
  have hb := Below.setCell (Below.refl g11 W) (p := ⟨g11, k, none⟩) (Nat.le_refl _) v
  have := h.n1
  have := h.n2
  have := h.n3
  exact ⟨h.u.low hb (by omega) (by omega), h.f9.below hb h.n3, heap_setCell_same _ _ _ _ _ _ h.d, h.n1, h.n2, h.n3, Nat.lt_of_lt_of_le h.n4 hb.size⟩
theorem BX.set9 {w : World} {x g6 : Nat} {inf : Array Value} {g9 : Nat} {f g : Nat → Int} {g11 : Nat} {dc : Array Value} {W : World} (h : BX w x g6 inf g9 f g11 dc W) : BX w x g6 inf g9 g g11 dc ((((W.setCell ⟨g9, 0, none⟩ (.int .u64 (g 0))).setCell ⟨g9, 1, none⟩ (.int .u64 (g 1))).setCell ⟨g9, 2, none⟩ (.int .u64 (g 2))).setCell ⟨g9, 3, none⟩ (.int .u64 (g 3))) := by
  have hb := below_put4 (Below.refl g9 W) (g := g9) (Nat.le_refl _) (.int .u64 (g 0)) (.int .u64 (g 1)) (.int .u64 (g 2)) (.int .u64 (g 3))
  have := h.n1
  have := h.n2
  have n3 := h.n3
  refine ⟨h.u.low hb (by omega) (by omega), ⟨arr_put4 h.f9 _ _ _ _⟩, ?_, h.n1, h.n2, h.n3, Nat.lt_of_lt_of_le h.n4 hb.size⟩
  rw [heap_setCell_other _ _ _ _ (show g11 ≠ g9 by omega), heap_setCell_other _ _ _ _ (show g11 ≠ g9 by omega), heap_setCell_other _ _ _ _ (show g11 ≠ g9 by omega), heap_setCell_other _ _ _ _ (show g11 ≠ g9 by omega)]
  exact h.d
theorem bv_nat {k : Nat} (h : k < 9223372036854775808) : bv k = .agg #[.int .u64 (k : Int), .int .u64 0, .int .u64 0, .int .u64 0] := bv_small k (by omega) (by omega)
set_option maxRecDepth 100000 in
set_option maxHeartbeats 1200000 in
theorem bunpack_1 (n x p : Nat) (w : World) (h1 : 1 ≤ n) (h2 : n ≤ 6) (hx : x < 2 ^ 256) (hg : good n x = true) (hp : prec n = p + 1) :
    Calls Tryz.prog 33 #[.int .i64 n, bv x] w (fun e w' => e = .returned (.tuple #[.agg (undat n x).cells, .int .i64 0]) ∧ Below w.heap.size w w') := by
  obtain ⟨D, hD⟩ : ∃ D, D = undat n x := ⟨_, rfl⟩
  rw [← hD]
  unfold undat at hD
  rw [hp, Nat.add_sub_cancel] at hD
  have C1 := fun W => dbinary_c n x W hx
  rw [hg] at C1
  unfold dinfoI at C1
  rw [if_pos (by omega), Int.toNat_natCast, dinfo_bin h1 h2] at C1
  unfold rinfo at C1
  rw [hp] at C1
  have hp9 : p ≤ 240 := by rcases six h1 h2 with rfl | rfl | rfl | rfl | rfl | rfl <;> (simp [prec] at hp; omega)
  have hp7 : 7 ≤ p := by rcases six h1 h2 with rfl | rfl | rfl | rfl | rfl | rfl <;> (simp [prec] at hp; omega)
  have hls0 : -20000 ≤ least n := by rcases six h1 h2 with rfl | rfl | rfl | rfl | rfl | rfl <;> decide
  have hls1 : least n ≤ 0 := by rcases six h1 h2 with rfl | rfl | rfl | rfl | rfl | rfl <;> decide
  have hq9 : expo n ≤ 15 := by rcases six h1 h2 with rfl | rfl | rfl | rfl | rfl | rfl <;> decide
  generalize expo n = q at *
  generalize least n = ls at *
  generalize most n = ms at *
  generalize ((p + 1 - 2 : Nat) : Int) = pl at *
  generalize fname n = nm at *
  have ew : ((p + 1 + q : Nat) : Int) = (p : Int) + (q : Int) + 1 := by omega
  have ep : ((p + 1 : Nat) : Int) = (p : Int) + 1 := by omega
  rw [ew, ep] at C1
  replace C1 := Lib.hid C1
  have hE9 : x / 2 ^ p % 2 ^ q ≤ 32767 := by
    have := Nat.mod_lt (x / 2 ^ p) (Nat.two_pow_pos q)
    have : 2 ^ q ≤ 2 ^ 15 := Nat.pow_le_pow_right (by omega) hq9
    omega
  have C88a : Hid (∀ W, Calls Tryz.prog 88 #[bv x, .int .i64 0, .int .i64 p] W (fun e w' => e = .returned (bv (x % 2 ^ p)) ∧ Below W.heap.size W w')) := fun W => by
    have := field_c x 0 p W hx (by omega) (by omega)
    rwa [Nat.pow_zero, Nat.div_one] at this
  have C88b : Hid (∀ W, Calls Tryz.prog 88 #[bv x, .int .i64 p, .int .i64 q] W (fun e w' => e = .returned (.agg #[.int .u64 ((x / 2 ^ p % 2 ^ q : Nat) : Int), .int .u64 0, .int .u64 0, .int .u64 0]) ∧ Below W.heap.size W w')) := fun W => by
    have := field_c x p q W hx (by omega) (by omega)
    rwa [bv_nat (Nat.lt_of_le_of_lt hE9 (by omega))] at this
  have C89a : Hid (∀ W, Calls Tryz.prog 89 #[bv x, .int .i64 ((p : Int) + q)] W (fun e w' => e = .returned (.int .u64 ((x / 2 ^ (p + q) % 2 : Nat) : Int)) ∧ Below W.heap.size W w')) := fun W => lbit_c x (p + q) W (by omega)
  have ep1 : ((p - 1 : Nat) : Int) = (p : Int) - 1 := by omega
  have C89b : Hid (∀ W, Calls Tryz.prog 89 #[bv x, .int .i64 ((p : Int) - 1)] W (fun e w' => e = .returned (.int .u64 ((x / 2 ^ (p - 1) % 2 : Nat) : Int)) ∧ Below W.heap.size W w')) := fun W => by
    have := lbit_c x (p - 1) W (by omega)
    rwa [ep1] at this
  have hF256 : x % 2 ^ p < 2 ^ 256 := Nat.lt_of_le_of_lt (Nat.mod_le _ _) hx
  have hFF : x % 2 ^ p % 2 ^ (p - 1) = x % 2 ^ (p - 1) := Nat.mod_mod_of_dvd _ ⟨2, by rw [← Nat.pow_succ]; congr 1; omega⟩
  have C88c : Hid (∀ W, Calls Tryz.prog 88 #[bv (x % 2 ^ p), .int .i64 0, .int .i64 ((p : Int) - 1)] W (fun e w' => e = .returned (bv (x % 2 ^ (p - 1))) ∧ Below W.heap.size W w')) := fun W => by
    have := field_c (x % 2 ^ p) 0 (p - 1) W hF256 (by omega) (by omega)
    rwa [Nat.pow_zero, Nat.div_one, ep1, hFF] at this
  have C91 := Lib.hid (fun W => bof_c 1 W (by omega) (by omega))
  rw [show (1 : Int).toNat = 1 from rfl] at C91
  have hlay : x % 2 ^ p ||| 1 * 2 ^ p = x % 2 ^ p + 2 ^ p := by
    have := Nat.two_pow_add_eq_or_of_lt (Nat.mod_lt x (Nat.two_pow_pos p)) 1
    rw [Nat.or_comm, Nat.one_mul, Nat.add_comm]
    rw [Nat.mul_one] at this
    exact this.symm
  have C90 := Lib.hid (fun W => lay_c (x % 2 ^ p) 1 p W (by omega))
  rw [hlay] at C90
  clear hlay hFF hF256 ep1 ew ep hg hp hx
  obtain ⟨E, hE⟩ : ∃ E, E = x / 2 ^ p % 2 ^ q := ⟨_, rfl⟩
  obtain ⟨F, hF⟩ : ∃ F, F = x % 2 ^ p := ⟨_, rfl⟩
  obtain ⟨sb, hsb⟩ : ∃ sb, sb = x / 2 ^ (p + q) % 2 := ⟨_, rfl⟩
  obtain ⟨sl, hsl⟩ : ∃ sl, sl = x / 2 ^ (p - 1) % 2 := ⟨_, rfl⟩
  obtain ⟨P, hP⟩ : ∃ P, P = x % 2 ^ (p - 1) := ⟨_, rfl⟩
  obtain ⟨G, hG⟩ : ∃ G, G = F + 2 ^ p := ⟨_, rfl⟩
  rw [← hE] at C88b hE9
  rw [← hF] at C88a C88c C90
  rw [← hsb] at C89a
  rw [← hsl] at C89b
  rw [← hP] at C88c
  rw [← hG] at C90
  rw [← hE, ← hF, ← hsb, ← hsl, ← hP, ← hG] at hD
  have HD := Lib.hid hD
  have HEL := Lib.hid (show E < 2 ^ q by rw [hE]; exact Nat.mod_lt _ (Nat.two_pow_pos q))
  clear hE hsb hsl hP hG hD
  have hFx : F < 2 ^ 256 := by rw [hF]; exact Nat.lt_trans (Nat.mod_lt _ (Nat.two_pow_pos p)) (two_pow_lt (by omega))
  have HFX := Lib.hid hFx
  clear hF hFx
  have kix : ∀ W, (Instr.index 24 (.agg #[.int .u64 (E : Int), .int .u64 0, .int .u64 0, .int .u64 0]) (.int .i64 0)).run Tryz.prog W = .ok (.int .u64 (E : Int)) W := fun _ => by kernel_rfl
  unfold bv at *
  go_enter Tryz.func33, Tryz.ntmps33
  go_wp2_with fail
  (with_reducible refine (C1.out _).mono ?_); rintro e w2 ⟨rfl, hb2⟩
  have U := BU.start x (inf := #[.int .i64 n, .string ⟨nm⟩, .int .i64 2, .int .i64 ((p : Int) + q + 1), .int .i64 ((p : Int) + 1), .int .i64 q, .int .i64 ls, .int .i64 ms, .int .i64 pl, .bool false]) hb2
  go_upto_region 4 with fail
  obtain ⟨g6, hg6⟩ : ∃ g6, g6 = w2.heap.size := ⟨_, rfl⟩
  obtain ⟨inf, hinf⟩ : ∃ inf : Array Value, inf = #[.int .i64 n, .string ⟨nm⟩, .int .i64 2, .int .i64 ((p : Int) + q + 1), .int .i64 ((p : Int) + 1), .int .i64 q, .int .i64 ls, .int .i64 ms, .int .i64 pl, .bool false] := ⟨_, rfl⟩
  rw [← hg6, ← hinf] at U ⊢
  obtain ⟨W0, hW0⟩ : ∃ W0, W0 = w2.alloc (.cells inf 74) := ⟨_, rfl⟩
  rw [← hW0] at U ⊢
  have hn1 : w.heap.size + 1 < g6 := by have := hb2.size; rw [size_alloc, size_alloc] at this; omega
  have HN1 := Lib.hid hn1
  clear hW0 hb2 hg6 C1 hn1
  have I3 : inf[3]? = some (.int .i64 ((p : Int) + q + 1)) := by rw [hinf]; rfl
  have I4 : inf[4]? = some (.int .i64 ((p : Int) + 1)) := by rw [hinf]; rfl
  have I5 : inf[5]? = some (.int .i64 q) := by rw [hinf]; rfl
  have I6 : inf[6]? = some (.int .i64 ls) := by rw [hinf]; rfl
  have HI3 := Lib.hid I3
  have HI5 := Lib.hid I5
  have HI6 := Lib.hid I6
  have k4 := cell_of_heap U.h2 I4
  have HU := Lib.hid U
  clear hinf U I3 I4 I5 I6
  go_upto_region 5 with fail
  clear k4
  obtain ⟨c0, c1, c2, c3, c4, c5, c6⟩ := HU.out.s8 HI3.out HI5.out HI6.out
  go_wp2_with fail
  (with_reducible refine (C88a.out _).mono ?_); rintro e w3 ⟨rfl, hb3⟩
  go_upto_region 6 with fail
  have U3 := HU.out.ext hb3
  have A9 := arr_new w3 F 24
  have HA9 := Lib.hid (show g6 < w3.heap.size from U3.lt)
  have HU3 := Lib.hid (U3.ext ((Below.refl _ _).alloc (Nat.le_refl _) (.cells #[.int .u64 (wd F 0), .int .u64 (wd F 1), .int .u64 (wd F 2), .int .u64 (wd F 3)] 24)))
  generalize (w3.alloc (.cells #[.int .u64 (wd F 0), .int .u64 (wd F 1), .int .u64 (wd F 2), .int .u64 (wd F 3)] 24)) = W3 at *
  generalize w3.heap.size = g9 at *
  have HA := Lib.hid A9
  clear c0 c1 c2 c3 c4 c5 c6 U3 A9 hb3
  obtain ⟨c0, c1, c2, c3, c4, c5, c6⟩ := HU3.out.s8 HI3.out HI5.out HI6.out
  go_wp2_with fail
  (with_reducible refine (C88b.out _).mono ?_); rintro e w4 ⟨rfl, hb4⟩
  go_upto_region 7 with fail
  have HU4 := Lib.hid (HU3.out.ext hb4)
  have HA4 := Lib.hid (HA.out.ext hb4)
  clear c0 c1 c2 c3 c4 c5 c6 hb4
  obtain ⟨c0, c1, c2, c3, c4, c5, c6⟩ := HU4.out.s8 HI3.out HI5.out HI6.out
  go_wp2_with fail
  (with_reducible refine (C89a.out _).mono ?_); rintro e w5 ⟨rfl, hb5⟩
  go_upto_region 11 with fail
  have HU5 := HU4.out.ext hb5
  have HA5 := HA4.out.ext hb5
  have HX : BX w x g6 inf g9 (wd F) w5.heap.size #[.int .i64 1, .bool ((sb : Int) == 1), .bool false, .int .i64 0, .int .u64 0, .int .u64 0, .int .u64 0, .int .u64 0] (w5.alloc (.cells #[.int .i64 1, .bool ((sb : Int) == 1), .bool false, .int .i64 0, .int .u64 0, .int .u64 0, .int .u64 0, .int .u64 0] 33)) :=
    ⟨HU5.ext ((Below.refl _ _).alloc (Nat.le_refl _) _), HA5.alloc _, heap_alloc_new _ _, HN1.out, HA9.out, HA5.lt, by rw [size_alloc]; omega⟩
  have HX5 := Lib.hid HX
  clear c0 c1 c2 c3 c4 c5 c6 hb5 HU5 HA5 HX
  generalize (w5.alloc (.cells #[.int .i64 1, .bool ((sb : Int) == 1), .bool false, .int .i64 0, .int .u64 0, .int .u64 0, .int .u64 0, .int .u64 0] 33)) = W5 at *
  generalize w5.heap.size = g11 at *
  obtain ⟨M, hM⟩ : ∃ M : Nat, M = 2 ^ q - 1 := ⟨_, rfl⟩
  have hM9 : M ≤ 32767 := by
    have : 2 ^ q ≤ 2 ^ 15 := Nat.pow_le_pow_right (by omega) hq9
    omega
  have hEM : E ≤ M := by
    have h2 : 0 < 2 ^ q := Nat.two_pow_pos q
    have := HEL.out
    omega
  have kq : wrap64 ((2 : Int) ^ q) = (M : Int) + 1 := by
    have h2 : 0 < 2 ^ q := Nat.two_pow_pos q
    have h3 : ((2 : Int) ^ q) = ((2 ^ q : Nat) : Int) := by simp
    rw [h3]
    unfold wrap64
    omega
  have HM := Lib.hid hM
  have HDX := HD.out
  rw [← HM.out] at HDX
  replace HDX := Lib.hid HDX
  clear hM kix HD
  obtain ⟨c0, c1, c2, c3, c4, c5, c6⟩ := HX5.out.u.s8 HI3.out HI5.out HI6.out
  by_cases hE : E = M
  · have hnl : ¬ (E < M) := by omega
    have HEM := Lib.hid hE
    clear hE
    go_upto_region 16 with fail
    have hA := HX5.out.f9.cell
    have ha_0 := hA 0 (by omega)
    have ha_1 := hA 1 (by omega)
    have ha_2 := hA 2 (by omega)
    have ha_3 := hA 3 (by omega)
    clear hA c0 c1 c2 c3 c4 c5 c6
    have kz := fun W => eqz_24 F HFX.out W
    by_cases hF : F = 0
    · have HF0 := Lib.hid hF
      have hd : decide (F = 0) = true := by simpa using hF
      rw [hd] at kz
      have d0 := cell_of_heap HX5.out.d (k := 0) (v := .int .i64 1) rfl
      have df := frozen_of_heap (k := 0) HX5.out.d
      clear hF hd
      go_upto_region 18 with fail
      have HX9 : BX w x g6 inf g9 (wd F) g11 (dcells 2 ((sb : Int) == 1) false 0 0) (W5.setCell ⟨g11, 0, none⟩ (.int .i64 2)) := by
        have := HX5.out.setd 0 (.int .i64 2)
        unfold dcells
        simp only [wd_zero]
        exact this
      generalize (W5.setCell ⟨g11, 0, none⟩ (.int .i64 2)) = Wz at *
      clear ha_0 ha_1 ha_2 ha_3 d0 df kz
      have hd9 := HX9.d
      have hz1 := HX9.u.h1
      have hzb := HX9.u.b
      clear HX9
      go_wp2_with (first | (refine wpList_load_row rfl 33 (.tmp 11) rfl g11 rfl 33 (dcells 2 ((sb : Int) == 1) false 0 0) (0, 0) _ hd9 Tryz.underlying33 rfl size33 ?_)
                         | (refine wpList_store_row rfl 33 (.tmp 4) (.tmp 80) rfl (w.heap.size + 1) (dcells 2 ((sb : Int) == 1) false 0 0) ?_ ?_ 33 zero33 hz1 size33 ?_ ?_ ?_; (· rfl); (· rfl); (· rfl); (· simp [dcells, Value.oneCell'])))
      (try simp only [Exit.inBlock, Exit.then])
      refine bodyPost_ret (results_cell_row_tmp rfl _ _ (w.heap.size + 1) 33 (dcells 2 ((sb : Int) == 1) false 0 0) (0, 0) _ rfl (setRow_heap _ _ _ _ _ _ hz1) Tryz.underlying33 rfl size33 (.int .i64 0) rfl) rfl ?_
      refine ⟨?_, below_row hzb (Nat.le_succ _) _⟩
      rw [HDX.out, if_pos HEM.out, if_pos HF0.out]
      rfl
    · have HF0 := Lib.hid hF
      have hd : decide (F = 0) = false := by simpa using hF
      rw [hd] at kz
      have d0 := cell_of_heap HX5.out.d (k := 0) (v := .int .i64 1) rfl
      have df := frozen_of_heap (k := 0) HX5.out.d
      clear hF hd
      go_upto_region 9 with fail
      have HX6 : Hid (BX w x g6 inf g9 (wd F) g11 #[.int .i64 3, .bool ((sb : Int) == 1), .bool false, .int .i64 0, .int .u64 0, .int .u64 0, .int .u64 0, .int .u64 0] (W5.setCell ⟨g11, 0, none⟩ (.int .i64 3))) := Lib.hid (HX5.out.setd 0 (.int .i64 3))
      generalize (W5.setCell ⟨g11, 0, none⟩ (.int .i64 3)) = W6 at *
      clear ha_0 ha_1 ha_2 ha_3 d0 df kz kq
      obtain ⟨c0, c1, c2, c3, c4, c5, c6⟩ := HX6.out.u.s8 HI3.out HI5.out HI6.out
      go_wp2_with fail
      (with_reducible refine (C89b.out _).mono ?_); rintro e w7 ⟨rfl, hb7⟩
      have HX7 := Lib.hid (HX6.out.ext hb7)
      have d2 := cell_of_heap HX7.out.d (k := 2) (v := .bool false) rfl
      have df := frozen_of_heap (k := 2) HX7.out.d
      clear c0 c1 c2 c3 c4 c5 c6 hb7
      go_upto_region 10 with fail
      have HX8 : Hid (BX w x g6 inf g9 (wd F) g11 #[.int .i64 3, .bool ((sb : Int) == 1), .bool ((sl : Int) == 0), .int .i64 0, .int .u64 0, .int .u64 0, .int .u64 0, .int .u64 0] (w7.setCell ⟨g11, 2, none⟩ (.bool ((sl : Int) == 0)))) := Lib.hid (HX7.out.setd 2 (.bool ((sl : Int) == 0)))
      generalize (w7.setCell ⟨g11, 2, none⟩ (.bool ((sl : Int) == 0))) = W8 at *
      clear d2 df
      have hA := HX8.out.f9.cell
      have ha_0 := hA 0 (by omega)
      have ha_1 := hA 1 (by omega)
      have ha_2 := hA 2 (by omega)
      have ha_3 := hA 3 (by omega)
      clear hA
      go_wp2_with fail
      (with_reducible refine (C88c.out _).mono ?_); rintro e w9 ⟨rfl, hb9⟩
      have HX9 := Lib.hid (HX8.out.ext hb9)
      clear ha_0 ha_1 ha_2 ha_3 hb9
      have d9 := HX9.out.d
      have f9 := fun k => frozen_of_heap (k := k) d9
      have d94 := cell_of_heap d9 (k := 4) (v := .int .u64 0) rfl
      have d95 := cell_of_heap d9 (k := 5) (v := .int .u64 0) rfl
      have d96 := cell_of_heap d9 (k := 6) (v := .int .u64 0) rfl
      have d97 := cell_of_heap d9 (k := 7) (v := .int .u64 0) rfl
      clear d9
      go_upto_region 18 with fail
      have HXz : BX w x g6 inf g9 (wd F) g11 (dcells 3 ((sb : Int) == 1) ((sl : Int) == 0) 0 P) ((((w9.setCell ⟨g11, 4, none⟩ (.int .u64 (wd P 0))).setCell ⟨g11, 5, none⟩ (.int .u64 (wd P 1))).setCell ⟨g11, 6, none⟩ (.int .u64 (wd P 2))).setCell ⟨g11, 7, none⟩ (.int .u64 (wd P 3))) := (((HX9.out.setd 4 (.int .u64 (wd P 0))).setd 5 (.int .u64 (wd P 1))).setd 6 (.int .u64 (wd P 2))).setd 7 (.int .u64 (wd P 3))
      generalize ((((w9.setCell ⟨g11, 4, none⟩ (.int .u64 (wd P 0))).setCell ⟨g11, 5, none⟩ (.int .u64 (wd P 1))).setCell ⟨g11, 6, none⟩ (.int .u64 (wd P 2))).setCell ⟨g11, 7, none⟩ (.int .u64 (wd P 3))) = Wz at *
      clear f9 d94 d95 d96 d97
      have hd9 := HXz.d
      have hz1 := HXz.u.h1
      have hzb := HXz.u.b
      clear HXz
      go_wp2_with (first | (refine wpList_load_row rfl 33 (.tmp 11) rfl g11 rfl 33 (dcells 3 ((sb : Int) == 1) ((sl : Int) == 0) 0 P) (0, 0) _ hd9 Tryz.underlying33 rfl size33 ?_)
                         | (refine wpList_store_row rfl 33 (.tmp 4) (.tmp 80) rfl (w.heap.size + 1) (dcells 3 ((sb : Int) == 1) ((sl : Int) == 0) 0 P) ?_ ?_ 33 zero33 hz1 size33 ?_ ?_ ?_; (· rfl); (· rfl); (· rfl); (· simp [dcells, Value.oneCell'])))
      (try simp only [Exit.inBlock, Exit.then])
      refine bodyPost_ret (results_cell_row_tmp rfl _ _ (w.heap.size + 1) 33 (dcells 3 ((sb : Int) == 1) ((sl : Int) == 0) 0 P) (0, 0) _ rfl (setRow_heap _ _ _ _ _ _ hz1) Tryz.underlying33 rfl size33 (.int .i64 0) rfl) rfl ?_
      refine ⟨?_, below_row hzb (Nat.le_succ _) _⟩
      rw [HDX.out, if_pos HEM.out, if_neg HF0.out]
      rfl
  · have hlt : E < M := by omega
    by_cases hE0 : E = 0
    · have km : max ((E : Int) - 1) 0 = 0 := by omega
      have hle : (E : Int) ≤ 0 := by omega
      have HEM := Lib.hid hE
      have HE0 := Lib.hid hE0
      have d3 := cell_of_heap HX5.out.d (k := 3) (v := .int .i64 0) rfl
      have df3 := frozen_of_heap (k := 3) HX5.out.d
      clear hE hE0
      go_upto_region 13 with fail
      have HX6 : Hid (BX w x g6 inf g9 (wd F) g11 #[.int .i64 1, .bool ((sb : Int) == 1), .bool false, .int .i64 ls, .int .u64 0, .int .u64 0, .int .u64 0, .int .u64 0] (W5.setCell ⟨g11, 3, none⟩ (.int .i64 ls))) := Lib.hid (HX5.out.setd 3 (.int .i64 ls))
      generalize (W5.setCell ⟨g11, 3, none⟩ (.int .i64 ls)) = W6 at *
      clear d3 df3 c0 c1 c2 c3 c4 c5 c6 km kq
      go_upto_region 15 with fail
      have hA := HX6.out.f9.cell
      have ha_0 := hA 0 (by omega)
      have ha_1 := hA 1 (by omega)
      have ha_2 := hA 2 (by omega)
      have ha_3 := hA 3 (by omega)
      clear hA
      have d9 := HX6.out.d
      have f9 := fun k => frozen_of_heap (k := k) d9
      have d94 := cell_of_heap d9 (k := 4) (v := .int .u64 0) rfl
      have d95 := cell_of_heap d9 (k := 5) (v := .int .u64 0) rfl
      have d96 := cell_of_heap d9 (k := 6) (v := .int .u64 0) rfl
      have d97 := cell_of_heap d9 (k := 7) (v := .int .u64 0) rfl
      clear d9
      go_upto_region 18 with fail
      have HX9 : BX w x g6 inf g9 (wd F) g11 (dcells 1 ((sb : Int) == 1) false (ls) F) (((((W6).setCell ⟨g11, 4, none⟩ (.int .u64 (wd F 0))).setCell ⟨g11, 5, none⟩ (.int .u64 (wd F 1))).setCell ⟨g11, 6, none⟩ (.int .u64 (wd F 2))).setCell ⟨g11, 7, none⟩ (.int .u64 (wd F 3))) := (((HX6.out.setd 4 (.int .u64 (wd F 0))).setd 5 (.int .u64 (wd F 1))).setd 6 (.int .u64 (wd F 2))).setd 7 (.int .u64 (wd F 3))
      generalize ((((W6.setCell ⟨g11, 4, none⟩ (.int .u64 (wd F 0))).setCell ⟨g11, 5, none⟩ (.int .u64 (wd F 1))).setCell ⟨g11, 6, none⟩ (.int .u64 (wd F 2))).setCell ⟨g11, 7, none⟩ (.int .u64 (wd F 3))) = Wz at *
      clear ha_0 ha_1 ha_2 ha_3 f9 d94 d95 d96 d97
      have hd9 := HX9.d
      have hz1 := HX9.u.h1
      have hzb := HX9.u.b
      clear HX9
      go_wp2_with (first | (refine wpList_load_row rfl 33 (.tmp 11) rfl g11 rfl 33 (dcells 1 ((sb : Int) == 1) false (ls) F) (0, 0) _ hd9 Tryz.underlying33 rfl size33 ?_)
                         | (refine wpList_store_row rfl 33 (.tmp 4) (.tmp 80) rfl (w.heap.size + 1) (dcells 1 ((sb : Int) == 1) false (ls) F) ?_ ?_ 33 zero33 hz1 size33 ?_ ?_ ?_; (· rfl); (· rfl); (· rfl); (· simp [dcells, Value.oneCell'])))
      (try simp only [Exit.inBlock, Exit.then])
      refine bodyPost_ret (results_cell_row_tmp rfl _ _ (w.heap.size + 1) 33 (dcells 1 ((sb : Int) == 1) false (ls) F) (0, 0) _ rfl (setRow_heap _ _ _ _ _ _ hz1) Tryz.underlying33 rfl size33 (.int .i64 0) rfl) rfl ?_
      refine ⟨?_, below_row hzb (Nat.le_succ _) _⟩
      rw [HDX.out, if_neg HEM.out, if_pos HE0.out]
      rfl
    · have km : max ((E : Int) - 1) 0 = (E : Int) - 1 := by omega
      have hgt : 0 < (E : Int) := by omega
      have ek : ls + ((E : Int) - 1) = ls - 1 + (E : Int) := by omega
      have HEK := Lib.hid ek
      have HEM := Lib.hid hE
      have HE0 := Lib.hid hE0
      have d3 := cell_of_heap HX5.out.d (k := 3) (v := .int .i64 0) rfl
      have df3 := frozen_of_heap (k := 3) HX5.out.d
      clear hE hE0 ek
      go_upto_region 13 with fail
      rw [HEK.out]
      have HX6 : Hid (BX w x g6 inf g9 (wd F) g11 #[.int .i64 1, .bool ((sb : Int) == 1), .bool false, .int .i64 (ls - 1 + E), .int .u64 0, .int .u64 0, .int .u64 0, .int .u64 0] (W5.setCell ⟨g11, 3, none⟩ (.int .i64 (ls - 1 + E)))) := Lib.hid (HX5.out.setd 3 (.int .i64 (ls - 1 + E)))
      generalize (W5.setCell ⟨g11, 3, none⟩ (.int .i64 (ls - 1 + E))) = W6 at *
      clear d3 df3 c0 c1 c2 c3 c4 c5 c6 km kq
      go_upto_region 14 with fail
      have hA := HX6.out.f9.cell
      have ha_0 := hA 0 (by omega)
      have ha_1 := hA 1 (by omega)
      have ha_2 := hA 2 (by omega)
      have ha_3 := hA 3 (by omega)
      clear hA
      have HD6 := Lib.hid (HX6.out.ext (below_drew (Below.refl W6.heap.size W6)))
      generalize hQQ : Exit.then _ (Exit.inBlock 0 _) = QQ
      replace hQQ := Lib.hid hQQ
      refine wp_mono (Q := Exit.then (fun a w => QQ .normal a w) (bodyPost Tryz.prog Tryz.f33 (fun e w' => e = .returned (.tuple #[.agg D.cells, .int .i64 0]) ∧ Below w.heap.size w w'))) ?_ (by intro e a w h; rw [← hQQ.out]; cases e <;> first | exact h | (rw [hQQ.out]; exact h) | exact h.elim)
      generalize hKK : (fun a w => QQ Exit.normal a w) = KK
      replace hKK := Lib.hid hKK
      go_region_with
        (first | (go_at_call 91; (with_reducible refine (C91.out _).mono ?_); rintro e w6 ⟨rfl, hb6⟩; have U6 := Lib.hid (HD6.out.ext hb6); have e0 := U6.out.f9.cell 0 (by omega); have e1 := U6.out.f9.cell 1 (by omega); have e2 := U6.out.f9.cell 2 (by omega); have e3 := U6.out.f9.cell 3 (by omega))
               | (go_at_call 90; (with_reducible refine (C90.out _).mono ?_); rintro e w7 ⟨rfl, hb7⟩; have U7 := Lib.hid (U6.out.ext hb7); have f7 := U7.out.f9.free; have m0 := U7.out.f9.cell 0 (by omega); have m1 := U7.out.f9.cell 1 (by omega); have m2 := U7.out.f9.cell 2 (by omega); have m3 := U7.out.f9.cell 3 (by omega)))
      all_goals
        rw [Exit.then, ← hKK.out, ← hQQ.out]
        simp only [Exit.inBlock, Exit.then]
        have HX7 := Lib.hid (U7.out.set9 (g := wd G))
        generalize ((((w7.setCell ⟨g9, 0, none⟩ (.int .u64 (wd G 0))).setCell ⟨g9, 1, none⟩ (.int .u64 (wd G 1))).setCell ⟨g9, 2, none⟩ (.int .u64 (wd G 2))).setCell ⟨g9, 3, none⟩ (.int .u64 (wd G 3))) = W8 at *
        clear e0 e1 e2 e3 m0 m1 m2 m3 f7 ha_0 ha_1 ha_2 ha_3
        have hA := HX7.out.f9.cell
        have ha_0 := hA 0 (by omega)
        have ha_1 := hA 1 (by omega)
        have ha_2 := hA 2 (by omega)
        have ha_3 := hA 3 (by omega)
        clear hA
        have d9 := HX7.out.d
        have f9 := fun k => frozen_of_heap (k := k) d9
        have d94 := cell_of_heap d9 (k := 4) (v := .int .u64 0) rfl
        have d95 := cell_of_heap d9 (k := 5) (v := .int .u64 0) rfl
        have d96 := cell_of_heap d9 (k := 6) (v := .int .u64 0) rfl
        have d97 := cell_of_heap d9 (k := 7) (v := .int .u64 0) rfl
        clear d9
        go_upto_region 18 with fail
        have HX9 : BX w x g6 inf g9 (wd G) g11 (dcells 1 ((sb : Int) == 1) false (ls - 1 + E) G) (((((W8).setCell ⟨g11, 4, none⟩ (.int .u64 (wd G 0))).setCell ⟨g11, 5, none⟩ (.int .u64 (wd G 1))).setCell ⟨g11, 6, none⟩ (.int .u64 (wd G 2))).setCell ⟨g11, 7, none⟩ (.int .u64 (wd G 3))) := (((HX7.out.setd 4 (.int .u64 (wd G 0))).setd 5 (.int .u64 (wd G 1))).setd 6 (.int .u64 (wd G 2))).setd 7 (.int .u64 (wd G 3))
        generalize ((((W8.setCell ⟨g11, 4, none⟩ (.int .u64 (wd G 0))).setCell ⟨g11, 5, none⟩ (.int .u64 (wd G 1))).setCell ⟨g11, 6, none⟩ (.int .u64 (wd G 2))).setCell ⟨g11, 7, none⟩ (.int .u64 (wd G 3))) = Wz at *
        clear ha_0 ha_1 ha_2 ha_3 f9 d94 d95 d96 d97
        have hd9 := HX9.d
        have hz1 := HX9.u.h1
        have hzb := HX9.u.b
        clear HX9
        go_wp2_with (first | (refine wpList_load_row rfl 33 (.tmp 11) rfl g11 rfl 33 (dcells 1 ((sb : Int) == 1) false (ls - 1 + E) G) (0, 0) _ hd9 Tryz.underlying33 rfl size33 ?_)
                           | (refine wpList_store_row rfl 33 (.tmp 4) (.tmp 80) rfl (w.heap.size + 1) (dcells 1 ((sb : Int) == 1) false (ls - 1 + E) G) ?_ ?_ 33 zero33 hz1 size33 ?_ ?_ ?_; (· rfl); (· rfl); (· rfl); (· simp [dcells, Value.oneCell'])))
        (try simp only [Exit.inBlock, Exit.then])
        refine bodyPost_ret (results_cell_row_tmp rfl _ _ (w.heap.size + 1) 33 (dcells 1 ((sb : Int) == 1) false (ls - 1 + E) G) (0, 0) _ rfl (setRow_heap _ _ _ _ _ _ hz1) Tryz.underlying33 rfl size33 (.int .i64 0) rfl) rfl ?_
        refine ⟨?_, below_row hzb (Nat.le_succ _) _⟩
        rw [HDX.out, if_neg HEM.out, if_neg HE0.out]
        rfl
end Go.Proofs.YtaepgdkpaffaaaaGreatDoor

/- package binary: Unpack of what is no pattern; both cases in one. -/
namespace Go.Proofs.YtaepgdkpaffaaaaGreatDoor
open Go.RowKit Go.Proofs.YtaepgdkpaffaaaaGreatDoorW.PrintWords Cal

theorem dinfoI_ten (n : Int) : ∃ (i0 i2 i3 i4 i5 i6 i7 i8 : Int) (nm : Array UInt8) (dn : Bool), dinfoI n = #[.int .i64 i0, .string ⟨nm⟩, .int .i64 i2, .int .i64 i3, .int .i64 i4, .int .i64 i5, .int .i64 i6, .int .i64 i7, .int .i64 i8, .bool dn] := by
  unfold dinfoI
  by_cases h : 1 ≤ n ∧ n ≤ 12
  · rw [if_pos h]
    obtain ⟨m, rfl⟩ := Int.eq_ofNat_of_zero_le (show 0 ≤ n by omega)
    rw [Int.toNat_natCast]
    by_cases h6 : m ≤ 6
    · rw [dinfo_bin (by omega) h6]; exact ⟨_, _, _, _, _, _, _, _, _, _, rfl⟩
    · obtain ⟨i0, nm, pw, i4, i5, i6, i7, i8, dn, e⟩ := dinfo_dec (n := m) (by omega) (by omega)
      rw [e]; exact ⟨_, _, _, _, _, _, _, _, _, _, rfl⟩
  · rw [if_neg h]; exact ⟨_, _, _, _, _, _, _, _, _, _, rfl⟩
set_option maxRecDepth 100000 in
theorem bunpack_0 (n : Int) (x : Nat) (w : World) (hx : x < 2 ^ 256) (hg : good n x = false) :
    Calls Tryz.prog 33 #[.int .i64 n, bv x] w (fun e w' => e = .returned (.tuple #[.agg zero33, .int .i64 1]) ∧ Below w.heap.size w w') := by
  have C1 := fun W => dbinary_c n x W hx
  rw [hg] at C1
  obtain ⟨i0, i2, i3, i4, i5, i6, i7, i8, nm, dn, e⟩ := dinfoI_ten n
  rw [e] at C1
  replace C1 := Lib.hid C1
  clear hg hx e
  unfold bv at *
  go_enter Tryz.func33, Tryz.ntmps33
  go_wp2_with fail
  (with_reducible refine (C1.out _).mono ?_); rintro e w2 ⟨rfl, hb2⟩
  have U := BU.start x (inf := #[.int .i64 i0, .string ⟨nm⟩, .int .i64 i2, .int .i64 i3, .int .i64 i4, .int .i64 i5, .int .i64 i6, .int .i64 i7, .int .i64 i8, .bool dn]) hb2
  have hz1 := U.h1
  have hbb := U.b
  clear U hb2 C1
  go_upto_region 2 with fail
  generalize (w2.alloc (.cells #[.int .i64 i0, .string ⟨nm⟩, .int .i64 i2, .int .i64 i3, .int .i64 i4, .int .i64 i5, .int .i64 i6, .int .i64 i7, .int .i64 i8, .bool dn] 74)) = W at *
  go_wp2_with (refine wpList_store_row rfl 33 (.tmp 4) (.tmp 20) rfl (w.heap.size + 1) zero33 ?_ ?_ 33 zero33 hz1 size33 ?_ ?_ ?_; (· rfl); (· rfl); (· rfl); (· simp [zero33, Value.oneCell']))
  (try simp only [Exit.inBlock, Exit.then])
  refine bodyPost_ret (results_cell_row_tmp rfl _ _ (w.heap.size + 1) 33 zero33 (0, 0) _ rfl (setRow_heap _ _ _ _ _ _ hz1) Tryz.underlying33 rfl size33 (.int .i64 1) rfl) rfl ?_
  exact ⟨rfl, below_row hbb (Nat.le_succ _) _⟩
theorem bunpack_c (n : Int) (x : Nat) (w : World) (hx : x < 2 ^ 256) :
    Calls Tryz.prog 33 #[.int .i64 n, bv x] w (fun e w' => e = .returned (.tuple #[.agg (undatI n x).1, .int .i64 (undatI n x).2]) ∧ Below w.heap.size w w') := by
  unfold undatI
  rcases hg : good n x with _ | _
  · rw [if_neg (by simp)]
    exact bunpack_0 n x w hx hg
  · rw [if_pos rfl]
    have h6 := good_six hg
    obtain ⟨m, rfl⟩ := Int.eq_ofNat_of_zero_le (show 0 ≤ n by omega)
    obtain ⟨p, hp⟩ := prec_pos m
    exact bunpack_1 m x p w (by omega) (by omega) hx hg hp
end Go.Proofs.YtaepgdkpaffaaaaGreatDoor

/- The texts of what is not finite: caliperref07.Others, grammar.bare, grammar.Others, shortest.Other. -/
namespace Go.Proofs.YtaepgdkpaffaaaaGreatDoor
open Go.RowKit Go.Proofs.YtaepgdkpaffaaaaGreatDoorW.PrintWords Cal

theorem ns_mid {W : World} {g c : Nat} {cl ex : Int} {sg sl : Bool} (h : W.heap[g]? = some (.cells (dcells cl sg sl ex c) 33 (0, 0))) (hc : c < 2 ^ 256) : NS W (.slice (some ⟨g, 4, none⟩) 4 4) c := by
  refine ⟨⟨_, 4, 4, blist c, rfl, by omega, by omega, ⟨by simp [blist], by omega, fun _ => ⟨_, rfl, fun j hj => ?_⟩⟩, blist_wf c, blist_val hc⟩⟩
  have : j = 0 ∨ j = 1 ∨ j = 2 ∨ j = 3 := by omega
  rcases this with rfl | rfl | rfl | rfl <;> exact cell_of_heap h rfl
theorem decS_len {c : Nat} (h : c < 2 ^ 256) : (decS c).length ≤ 1000000 := by
  unfold decS
  split
  · simp
  · have := decDigits_len_le (u := c) (k := 256) (Nat.lt_of_lt_of_le h (Nat.pow_le_pow_left (by omega) _)) (by omega)
    omega
theorem wl4 {c : Nat} (h : c < 2 ^ 256) : wl c ≤ 4 := wl_le (by rw [← B4]; exact h)
theorem bare_c (ds : List UInt8) (w : World) : Calls Tryz.prog 127 #[.string ⟨ds.toArray⟩] w (fun e w' => e = .returned (.string ⟨(ds.dropWhile (· == 48)).toArray⟩) ∧ w' = w) := by
  have C := Lib.hid (Tryz.strings_TrimLeft_one ⟨ds.toArray⟩ 48 (by decide) w)
  go_enter Tryz.func127, Tryz.ntmps127
  go_wp2_with fail
  (with_reducible refine C.out.mono ?_); rintro e w' ⟨rfl, rfl⟩
  go_wp2_with fail
  go_ret
  exact ⟨rfl, rfl⟩
/-- What text answers for a datum that is not finite. -/
def otext (cl : Int) (sg sl : Bool) (ds : List UInt8) : List UInt8 := if cl = 2 then textInf sg else textNaN sg sl ds
/-- Not finite: infinite, or a NaN. -/
def Odd (cl : Int) (sl : Bool) (c : Nat) : Prop := (cl = 2 ∧ sl = false) ∨ cl = 3
theorem rtext_odd (cl : Int) (sg sl : Bool) (c : Nat) (ds : List UInt8) (w : World) (h : Odd cl sl c) (hd : ds.length ≤ 1000000) :
    Calls Tryz.prog 95 #[.agg #[.int .i64 cl, .bool sg, .bool sl, .string ⟨ds.toArray⟩, .int .i64 0]] w (fun e w' => e = .returned (.string ⟨(otext cl sg sl ds).toArray⟩) ∧ Below w.heap.size w w') := by
  unfold otext
  rcases h with ⟨rfl, rfl⟩ | rfl
  · rw [if_pos rfl]; exact rtext_inf sg 0 ds w
  · rw [if_neg (by omega)]; exact rtext_nan sg sl 0 ds w hd
theorem gtext_odd (cl : Int) (sg sl : Bool) (c : Nat) (ds : List UInt8) (w : World) (h : Odd cl sl c) (hd : ds.length ≤ 1000000) :
    Calls Tryz.prog 133 #[.agg #[.int .i64 cl, .bool sg, .bool sl, .string ⟨ds.toArray⟩, .int .i64 0]] w (fun e w' => e = .returned (.string ⟨(otext cl sg sl ds).toArray⟩) ∧ Below w.heap.size w w') := by
  unfold otext
  rcases h with ⟨rfl, rfl⟩ | rfl
  · rw [if_pos rfl]; exact gtext_inf sg 0 ds w
  · rw [if_neg (by omega)]; exact gtext_nan sg sl 0 ds w hd
set_option maxRecDepth 100000 in
theorem rothers_c (cl ex : Int) (sg sl : Bool) (c : Nat) (w : World) (h : Odd cl sl c) (hc : c < 2 ^ 256) :
    Calls Tryz.prog 38 #[.agg (dcells cl sg sl ex c)] w (fun e w' => e = .returned (.string ⟨(otext cl sg sl (decS c)).toArray⟩) ∧ Below w.heap.size w w') := by
  have HN := Lib.hid (heap_alloc_new w (.cells (dcells cl sg sl ex c) 33))
  have HB := Lib.hid ((Below.refl w.heap.size w).alloc (Nat.le_refl _) (.cells (dcells cl sg sl ex c) 33))
  have C31 := Lib.hid (fun v W (h : NS W v c) => rdecimal_c v c W h (by have := wl4 hc; omega))
  have C95 := Lib.hid (fun W => rtext_odd cl sg sl c (decS c) W h (decS_len hc))
  have HC := Lib.hid hc
  obtain ⟨T, hT⟩ : ∃ T, T = otext cl sg sl (decS c) := ⟨_, rfl⟩
  rw [← hT] at C95 ⊢
  clear h hc hT
  unfold dcells at *
  go_enter Tryz.func38, Tryz.ntmps38
  go_upto_region 1 with fail
  generalize hWW : (w.alloc (.cells #[.int .i64 cl, .bool sg, .bool sl, .int .i64 ex, .int .u64 (wd c 0), .int .u64 (wd c 1), .int .u64 (wd c 2), .int .u64 (wd c 3)] 33)) = W at *
  clear hWW
  have NSd := Lib.hid ((ns_mid (cl := cl) (sg := sg) (sl := sl) (ex := ex) HN.out HC.out).ext (below_drew (Below.refl W.heap.size W)))
  have HNd : Hid (W.drew.heap[w.heap.size]? = some (.cells #[.int .i64 cl, .bool sg, .bool sl, .int .i64 ex, .int .u64 (wd c 0), .int .u64 (wd c 1), .int .u64 (wd c 2), .int .u64 (wd c 3)] 33 (0, 0))) := HN.out
  have HLd := Lib.hid (show w.heap.size < W.drew.heap.size by
    rcases Nat.lt_or_ge w.heap.size W.drew.heap.size with h | h
    · exact h
    · have := HNd.out; rw [Array.getElem?_eq_none h] at this; cases this)
  have f0 := cell_of_heap HNd.out (k := 0) (v := .int .i64 cl) rfl
  have f1 := cell_of_heap HNd.out (k := 1) (v := .bool sg) rfl
  have f2 := cell_of_heap HNd.out (k := 2) (v := .bool sl) rfl
  go_region_held (fun w' => w'.cell? ⟨w.heap.size, 0, none⟩ = some (.int .i64 cl) ∧ w'.cell? ⟨w.heap.size, 1, none⟩ = some (.bool sg) ∧ w'.cell? ⟨w.heap.size, 2, none⟩ = some (.bool sl))
    (first | (with_reducible exact ⟨f0, f1, f2⟩) | (with_reducible exact ⟨h0, h1, h2⟩) | (with_reducible exact ⟨p0, p1, p2⟩))
    (first | (go_at_call 31; (with_reducible refine (C31.out _ _ NSd.out).mono ?_); rintro e w1 ⟨rfl, hb1⟩; have HN1 := Lib.hid ((hb1.block _ HLd.out).trans HNd.out); have h0 := cell_of_heap HN1.out (k := 0) (v := .int .i64 cl) rfl; have h1 := cell_of_heap HN1.out (k := 1) (v := .bool sg) rfl; have h2 := cell_of_heap HN1.out (k := 2) (v := .bool sl) rfl)
           | (go_at_call 95; (with_reducible refine (C95.out _).mono ?_); rintro e w2 ⟨rfl, hb2⟩; have HN2 := Lib.hid ((hb2.block _ (Nat.lt_of_lt_of_le HLd.out hb1.size)).trans HN1.out); have p0 := cell_of_heap HN2.out (k := 0) (v := .int .i64 cl) rfl; have p1 := cell_of_heap HN2.out (k := 1) (v := .bool sg) rfl; have p2 := cell_of_heap HN2.out (k := 2) (v := .bool sl) rfl))
  simp only [Exit.then]
  go_wp2_with fail
  go_ret
  exact ⟨rfl, btrans (btrans (below_drew HB.out) hb1) hb2⟩
set_option maxRecDepth 100000 in
theorem gothers_c (cl ex : Int) (sg sl : Bool) (c : Nat) (ds : List UInt8) (w : World) (h : Odd cl sl c) (hd : (ds.dropWhile (· == 48)).length ≤ 1000000) :
    Calls Tryz.prog 92 #[.agg (dcells cl sg sl ex c), .string ⟨ds.toArray⟩] w (fun e w' => e = .returned (.string ⟨(otext cl sg sl (ds.dropWhile (· == 48))).toArray⟩) ∧ Below w.heap.size w w') := by
  have HN := Lib.hid (heap_alloc_new w (.cells (dcells cl sg sl ex c) 33))
  have HB := Lib.hid ((Below.refl w.heap.size w).alloc (Nat.le_refl _) (.cells (dcells cl sg sl ex c) 33))
  have C127 := Lib.hid (fun W => bare_c ds W)
  have C133 := Lib.hid (fun W => gtext_odd cl sg sl c (ds.dropWhile (· == 48)) W h hd)
  generalize ds.dropWhile (· == 48) = es at *
  obtain ⟨T, hT⟩ : ∃ T, T = otext cl sg sl es := ⟨_, rfl⟩
  rw [← hT] at C133 ⊢
  clear h hT hd
  unfold dcells at *
  go_enter Tryz.func92, Tryz.ntmps92
  go_upto_region 1 with fail
  generalize hWW : (w.alloc (.cells #[.int .i64 cl, .bool sg, .bool sl, .int .i64 ex, .int .u64 (wd c 0), .int .u64 (wd c 1), .int .u64 (wd c 2), .int .u64 (wd c 3)] 33)) = W at *
  clear hWW
  have HNd : Hid (W.drew.heap[w.heap.size]? = some (.cells #[.int .i64 cl, .bool sg, .bool sl, .int .i64 ex, .int .u64 (wd c 0), .int .u64 (wd c 1), .int .u64 (wd c 2), .int .u64 (wd c 3)] 33 (0, 0))) := HN.out
  have HLd := Lib.hid (show w.heap.size < W.drew.heap.size by
    rcases Nat.lt_or_ge w.heap.size W.drew.heap.size with h | h
    · exact h
    · have := HNd.out; rw [Array.getElem?_eq_none h] at this; cases this)
  have f0 := cell_of_heap HNd.out (k := 0) (v := .int .i64 cl) rfl
  have f1 := cell_of_heap HNd.out (k := 1) (v := .bool sg) rfl
  have f2 := cell_of_heap HNd.out (k := 2) (v := .bool sl) rfl
  go_region_held (fun w' => w'.cell? ⟨w.heap.size, 0, none⟩ = some (.int .i64 cl) ∧ w'.cell? ⟨w.heap.size, 1, none⟩ = some (.bool sg) ∧ w'.cell? ⟨w.heap.size, 2, none⟩ = some (.bool sl))
    (first | (with_reducible exact ⟨f0, f1, f2⟩) | (with_reducible exact ⟨p0, p1, p2⟩))
    (first | (go_at_call 127; (with_reducible refine (C127.out _).mono ?_); rintro e w1 ⟨rfl, rfl⟩)
           | (go_at_call 133; (with_reducible refine (C133.out _).mono ?_); rintro e w2 ⟨rfl, hb2⟩; have HN2 := Lib.hid ((hb2.block _ HLd.out).trans HNd.out); have p0 := cell_of_heap HN2.out (k := 0) (v := .int .i64 cl) rfl; have p1 := cell_of_heap HN2.out (k := 1) (v := .bool sg) rfl; have p2 := cell_of_heap HN2.out (k := 2) (v := .bool sl) rfl))
  simp only [Exit.then]
  go_wp2_with fail
  go_ret
  exact ⟨rfl, btrans (below_drew HB.out) hb2⟩
set_option maxRecDepth 100000 in
theorem other_c (cl ex : Int) (sg sl : Bool) (c : Nat) (w : World) (h : Odd cl sl c) (hc : c < 2 ^ 256) (ht : TB w) :
    Calls Tryz.prog 34 #[.agg (dcells cl sg sl ex c)] w (fun e w' => e = .returned (.string ⟨(otext cl sg sl (decS c)).toArray⟩) ∧ Below w.heap.size w w') := by
  have HN := Lib.hid (heap_alloc_new w (.cells (dcells cl sg sl ex c) 33))
  have hb0 := (Below.refl w.heap.size w).alloc (Nat.le_refl _) (.cells (dcells cl sg sl ex c) 33)
  have HB := Lib.hid hb0
  have HT := Lib.hid (ht.ext hb0)
  have C48 := Lib.hid (fun v W (h : NS W v c) (t : TB W) => digits_c v c W h (by have := wl4 hc; omega) t)
  have C92 := Lib.hid (fun W => gothers_c cl ex sg sl c (Lib.decDigits c) W h (by rw [bare_dec]; exact decS_len hc))
  rw [bare_dec] at C92
  have HC := Lib.hid hc
  have HLd := Lib.hid (show w.heap.size < (w.alloc (.cells (dcells cl sg sl ex c) 33)).heap.size by rw [size_alloc]; omega)
  generalize otext cl sg sl (decS c) = T at *
  clear h hc ht hb0
  unfold dcells at *
  go_enter Tryz.func34, Tryz.ntmps34
  go_upto_region 1 with fail
  generalize hWW : (w.alloc (.cells #[.int .i64 cl, .bool sg, .bool sl, .int .i64 ex, .int .u64 (wd c 0), .int .u64 (wd c 1), .int .u64 (wd c 2), .int .u64 (wd c 3)] 33)) = W at *
  clear hWW
  have NS0 := Lib.hid (ns_mid (cl := cl) (sg := sg) (sl := sl) (ex := ex) HN.out HC.out)
  go_wp2_with fail
  (with_reducible refine (C48.out _ _ NS0.out HT.out).mono ?_); rintro e w1 ⟨rfl, hb1⟩
  have HN1 := Lib.hid ((hb1.block _ HLd.out).trans HN.out)
  have hn1 := HN1.out
  go_wp2_with (refine wpList_load_row rfl 33 (.tmp 1) rfl w.heap.size rfl 33 _ (0, 0) _ hn1 Tryz.underlying33 rfl size33 ?_)
  (with_reducible refine (C92.out _).mono ?_); rintro e w2 ⟨rfl, hb2⟩
  go_wp2_with fail
  go_ret
  exact ⟨rfl, btrans (btrans HB.out hb1) hb2⟩
end Go.Proofs.YtaepgdkpaffaaaaGreatDoor
