import Derived.Test.YtaepgdkpaffaaaaGreatDoorG12
import Derived.Test.YtaepgdkpaffaaaaGreatDoorG11
import Derived.Laws.StructEq
set_option linter.unusedVariables false
set_option linter.unusedSimpArgs false
/- package desc: Binary. -/
namespace Go.Proofs.YtaepgdkpaffaaaaGreatDoor
open Go.RowKit Go.Proofs.YtaepgdkpaffaaaaGreatDoorW.PrintWords Cal

/-- Ten cells of a row. -/
def Ten (W : World) (g : Nat) (a0 a1 a2 a3 a4 a5 a6 a7 a8 a9 : Value) : Prop := W.heap[g]? = some (.cells #[a0, a1, a2, a3, a4, a5, a6, a7, a8, a9] 74 (0, 0))
theorem Ten.lt {W g a0 a1 a2 a3 a4 a5 a6 a7 a8 a9} (h : Ten W g a0 a1 a2 a3 a4 a5 a6 a7 a8 a9) : g < W.heap.size := by
  rcases Nat.lt_or_ge g W.heap.size with h1 | h1
  · exact h1
  · unfold Ten at h; rw [Array.getElem?_eq_none h1] at h; cases h
/-- What lies in memory while desc.Binary runs. -/
structure DB (w : World) (x g6 : Nat) (a0 a1 a2 a3 a4 a5 a6 a7 a8 a9 : Value) (W : World) : Prop where
  a : Arr W w.heap.size 24 (wd x)
  r : W.heap[w.heap.size + 1]? = some (.cells zero74 74 (0, 0))
  i : Ten W g6 a0 a1 a2 a3 a4 a5 a6 a7 a8 a9
  n : w.heap.size + 1 < g6
  b : Below w.heap.size w W
theorem DB.ext {w : World} {x g6 : Nat} {a0 a1 a2 a3 a4 a5 a6 a7 a8 a9 : Value} {W W' : World} (h : DB w x g6 a0 a1 a2 a3 a4 a5 a6 a7 a8 a9 W) (hb : Below W.heap.size W W') : DB w x g6 a0 a1 a2 a3 a4 a5 a6 a7 a8 a9 W' :=
  ⟨h.a.ext hb, (hb.block _ (by have := h.n; have := h.i.lt; omega)).trans h.r, (hb.block _ h.i.lt).trans h.i, h.n, btrans h.b hb⟩
theorem DB.s {w : World} {x g6 : Nat} {a0 a1 a2 a3 a4 a5 a6 a7 a8 a9 : Value} {W : World} (h : DB w x g6 a0 a1 a2 a3 a4 a5 a6 a7 a8 a9 W) :
    W.cell? ⟨w.heap.size, 0, none⟩ = some (.int .u64 (wd x 0)) ∧ W.cell? ⟨w.heap.size, 1, none⟩ = some (.int .u64 (wd x 1)) ∧ W.cell? ⟨w.heap.size, 2, none⟩ = some (.int .u64 (wd x 2)) ∧ W.cell? ⟨w.heap.size, 3, none⟩ = some (.int .u64 (wd x 3)) ∧
    W.cell? ⟨g6, 0, none⟩ = some a0 ∧ W.cell? ⟨g6, 1, none⟩ = some a1 ∧ W.cell? ⟨g6, 2, none⟩ = some a2 ∧ W.cell? ⟨g6, 3, none⟩ = some a3 ∧ W.cell? ⟨g6, 4, none⟩ = some a4 ∧
    W.cell? ⟨g6, 5, none⟩ = some a5 ∧ W.cell? ⟨g6, 6, none⟩ = some a6 ∧ W.cell? ⟨g6, 7, none⟩ = some a7 ∧ W.cell? ⟨g6, 8, none⟩ = some a8 ∧ W.cell? ⟨g6, 9, none⟩ = some a9 :=
  ⟨h.a.cell 0 (by omega), h.a.cell 1 (by omega), h.a.cell 2 (by omega), h.a.cell 3 (by omega), cell_of_heap h.i rfl, cell_of_heap h.i rfl, cell_of_heap h.i rfl, cell_of_heap h.i rfl, cell_of_heap h.i rfl, cell_of_heap h.i rfl, cell_of_heap h.i rfl, cell_of_heap h.i rfl, cell_of_heap h.i rfl, cell_of_heap h.i rfl⟩
theorem DB.z {w : World} {x g6 : Nat} {a0 a1 a2 a3 a4 a5 a6 a7 a8 a9 : Value} {W : World} (h : DB w x g6 a0 a1 a2 a3 a4 a5 a6 a7 a8 a9 W) :
    (∀ k, W.frozen? ⟨w.heap.size + 1, k, none⟩ = false) ∧ W.cell? ⟨w.heap.size + 1, 0, none⟩ = some (.int .i64 0) ∧ W.cell? ⟨w.heap.size + 1, 1, none⟩ = some (.string ⟨#[]⟩) ∧ W.cell? ⟨w.heap.size + 1, 2, none⟩ = some (.int .i64 0) ∧ W.cell? ⟨w.heap.size + 1, 3, none⟩ = some (.int .i64 0) ∧
    W.cell? ⟨w.heap.size + 1, 4, none⟩ = some (.int .i64 0) ∧ W.cell? ⟨w.heap.size + 1, 5, none⟩ = some (.int .i64 0) ∧ W.cell? ⟨w.heap.size + 1, 6, none⟩ = some (.int .i64 0) ∧ W.cell? ⟨w.heap.size + 1, 7, none⟩ = some (.int .i64 0) ∧ W.cell? ⟨w.heap.size + 1, 8, none⟩ = some (.int .i64 0) ∧ W.cell? ⟨w.heap.size + 1, 9, none⟩ = some (.bool false) :=
  ⟨fun k => frozen_of_heap h.r, cell_of_heap h.r rfl, cell_of_heap h.r rfl, cell_of_heap h.r rfl, cell_of_heap h.r rfl, cell_of_heap h.r rfl, cell_of_heap h.r rfl, cell_of_heap h.r rfl, cell_of_heap h.r rfl, cell_of_heap h.r rfl, cell_of_heap h.r rfl⟩
def put10 (W : World) (g : Nat) (a0 a1 a2 a3 a4 a5 a6 a7 a8 a9 : Value) : World :=
  (((((((((W.setCell ⟨g, 0, none⟩ a0).setCell ⟨g, 1, none⟩ a1).setCell ⟨g, 2, none⟩ a2).setCell ⟨g, 3, none⟩ a3).setCell ⟨g, 4, none⟩ a4).setCell ⟨g, 5, none⟩ a5).setCell ⟨g, 6, none⟩ a6).setCell ⟨g, 7, none⟩ a7).setCell ⟨g, 8, none⟩ a8).setCell ⟨g, 9, none⟩ a9
theorem put10_at (W : World) (g : Nat) (a0 a1 a2 a3 a4 a5 a6 a7 a8 a9 : Value) (h : W.heap[g]? = some (.cells zero74 74 (0, 0))) : Ten (put10 W g a0 a1 a2 a3 a4 a5 a6 a7 a8 a9) g a0 a1 a2 a3 a4 a5 a6 a7 a8 a9 := by
  unfold Ten put10
  have h0 : (W.setCell ⟨g, 0, none⟩ a0).heap[g]? = some (.cells #[a0, .string ⟨#[]⟩, .int .i64 0, .int .i64 0, .int .i64 0, .int .i64 0, .int .i64 0, .int .i64 0, .int .i64 0, .bool false] 74 (0, 0)) := heap_setCell_same _ g 0 _ 74 a0 h
  generalize W.setCell ⟨g, 0, none⟩ a0 = W1 at *
  have h1 : (W1.setCell ⟨g, 1, none⟩ a1).heap[g]? = some (.cells #[a0, a1, .int .i64 0, .int .i64 0, .int .i64 0, .int .i64 0, .int .i64 0, .int .i64 0, .int .i64 0, .bool false] 74 (0, 0)) := heap_setCell_same _ g 1 _ 74 a1 h0
  generalize W1.setCell ⟨g, 1, none⟩ a1 = W2 at *
  have h2 : (W2.setCell ⟨g, 2, none⟩ a2).heap[g]? = some (.cells #[a0, a1, a2, .int .i64 0, .int .i64 0, .int .i64 0, .int .i64 0, .int .i64 0, .int .i64 0, .bool false] 74 (0, 0)) := heap_setCell_same _ g 2 _ 74 a2 h1
  generalize W2.setCell ⟨g, 2, none⟩ a2 = W3 at *
  have h3 : (W3.setCell ⟨g, 3, none⟩ a3).heap[g]? = some (.cells #[a0, a1, a2, a3, .int .i64 0, .int .i64 0, .int .i64 0, .int .i64 0, .int .i64 0, .bool false] 74 (0, 0)) := heap_setCell_same _ g 3 _ 74 a3 h2
  generalize W3.setCell ⟨g, 3, none⟩ a3 = W4 at *
  have h4 : (W4.setCell ⟨g, 4, none⟩ a4).heap[g]? = some (.cells #[a0, a1, a2, a3, a4, .int .i64 0, .int .i64 0, .int .i64 0, .int .i64 0, .bool false] 74 (0, 0)) := heap_setCell_same _ g 4 _ 74 a4 h3
  generalize W4.setCell ⟨g, 4, none⟩ a4 = W5 at *
  have h5 : (W5.setCell ⟨g, 5, none⟩ a5).heap[g]? = some (.cells #[a0, a1, a2, a3, a4, a5, .int .i64 0, .int .i64 0, .int .i64 0, .bool false] 74 (0, 0)) := heap_setCell_same _ g 5 _ 74 a5 h4
  generalize W5.setCell ⟨g, 5, none⟩ a5 = W6 at *
  have h6 : (W6.setCell ⟨g, 6, none⟩ a6).heap[g]? = some (.cells #[a0, a1, a2, a3, a4, a5, a6, .int .i64 0, .int .i64 0, .bool false] 74 (0, 0)) := heap_setCell_same _ g 6 _ 74 a6 h5
  generalize W6.setCell ⟨g, 6, none⟩ a6 = W7 at *
  have h7 : (W7.setCell ⟨g, 7, none⟩ a7).heap[g]? = some (.cells #[a0, a1, a2, a3, a4, a5, a6, a7, .int .i64 0, .bool false] 74 (0, 0)) := heap_setCell_same _ g 7 _ 74 a7 h6
  generalize W7.setCell ⟨g, 7, none⟩ a7 = W8 at *
  have h8 : (W8.setCell ⟨g, 8, none⟩ a8).heap[g]? = some (.cells #[a0, a1, a2, a3, a4, a5, a6, a7, a8, .bool false] 74 (0, 0)) := heap_setCell_same _ g 8 _ 74 a8 h7
  generalize W8.setCell ⟨g, 8, none⟩ a8 = W9 at *
  have h9 : (W9.setCell ⟨g, 9, none⟩ a9).heap[g]? = some (.cells #[a0, a1, a2, a3, a4, a5, a6, a7, a8, a9] 74 (0, 0)) := heap_setCell_same _ g 9 _ 74 a9 h8
  generalize W9.setCell ⟨g, 9, none⟩ a9 = W10 at *
  exact h9
theorem put10_below (W : World) (g : Nat) (a0 a1 a2 a3 a4 a5 a6 a7 a8 a9 : Value) : Below g W (put10 W g a0 a1 a2 a3 a4 a5 a6 a7 a8 a9) := by
  have h := Below.refl g W
  replace h := h.setCell (p := ⟨g, 0, none⟩) (Nat.le_refl _) a0
  replace h := h.setCell (p := ⟨g, 1, none⟩) (Nat.le_refl _) a1
  replace h := h.setCell (p := ⟨g, 2, none⟩) (Nat.le_refl _) a2
  replace h := h.setCell (p := ⟨g, 3, none⟩) (Nat.le_refl _) a3
  replace h := h.setCell (p := ⟨g, 4, none⟩) (Nat.le_refl _) a4
  replace h := h.setCell (p := ⟨g, 5, none⟩) (Nat.le_refl _) a5
  replace h := h.setCell (p := ⟨g, 6, none⟩) (Nat.le_refl _) a6
  replace h := h.setCell (p := ⟨g, 7, none⟩) (Nat.le_refl _) a7
  replace h := h.setCell (p := ⟨g, 8, none⟩) (Nat.le_refl _) a8
  replace h := h.setCell (p := ⟨g, 9, none⟩) (Nat.le_refl _) a9
  exact h
theorem put10_other (W : World) (g h : Nat) (hne : h ≠ g) (a0 a1 a2 a3 a4 a5 a6 a7 a8 a9 : Value) : (put10 W g a0 a1 a2 a3 a4 a5 a6 a7 a8 a9).heap[h]? = W.heap[h]? := by
  unfold put10
  rw [heap_setCell_other _ _ _ _ hne, heap_setCell_other _ _ _ _ hne, heap_setCell_other _ _ _ _ hne, heap_setCell_other _ _ _ _ hne, heap_setCell_other _ _ _ _ hne, heap_setCell_other _ _ _ _ hne, heap_setCell_other _ _ _ _ hne, heap_setCell_other _ _ _ _ hne, heap_setCell_other _ _ _ _ hne, heap_setCell_other _ _ _ _ hne]
theorem DB.sput {w : World} {x g6 : Nat} {a0 a1 a2 a3 a4 a5 a6 a7 a8 a9 : Value} {W : World} (h : DB w x g6 a0 a1 a2 a3 a4 a5 a6 a7 a8 a9 W) (b0 b1 b2 b3 b4 b5 b6 b7 b8 b9 : Value) (W' : World) (e : W' = ((((((((((W.setCell ⟨w.heap.size + 1, 0, none⟩ b0).setCell ⟨w.heap.size + 1, 1, none⟩ b1).setCell ⟨w.heap.size + 1, 2, none⟩ b2).setCell ⟨w.heap.size + 1, 3, none⟩ b3).setCell ⟨w.heap.size + 1, 4, none⟩ b4).setCell ⟨w.heap.size + 1, 5, none⟩ b5).setCell ⟨w.heap.size + 1, 6, none⟩ b6).setCell ⟨w.heap.size + 1, 7, none⟩ b7).setCell ⟨w.heap.size + 1, 8, none⟩ b8).setCell ⟨w.heap.size + 1, 9, none⟩ b9)) :
    W'.cell? ⟨w.heap.size, 0, none⟩ = some (.int .u64 (wd x 0)) ∧ W'.cell? ⟨w.heap.size, 1, none⟩ = some (.int .u64 (wd x 1)) ∧ W'.cell? ⟨w.heap.size, 2, none⟩ = some (.int .u64 (wd x 2)) ∧ W'.cell? ⟨w.heap.size, 3, none⟩ = some (.int .u64 (wd x 3)) ∧
    W'.cell? ⟨g6, 0, none⟩ = some a0 ∧ W'.cell? ⟨g6, 1, none⟩ = some a1 ∧ W'.cell? ⟨g6, 2, none⟩ = some a2 ∧ W'.cell? ⟨g6, 3, none⟩ = some a3 ∧ W'.cell? ⟨g6, 4, none⟩ = some a4 ∧
    W'.cell? ⟨g6, 5, none⟩ = some a5 ∧ W'.cell? ⟨g6, 6, none⟩ = some a6 ∧ W'.cell? ⟨g6, 7, none⟩ = some a7 ∧ W'.cell? ⟨g6, 8, none⟩ = some a8 ∧ W'.cell? ⟨g6, 9, none⟩ = some a9 := by
  replace e : W' = put10 W (w.heap.size + 1) b0 b1 b2 b3 b4 b5 b6 b7 b8 b9 := e
  subst e
  have a : Arr (put10 W (w.heap.size + 1) b0 b1 b2 b3 b4 b5 b6 b7 b8 b9) w.heap.size 24 (wd x) := ⟨(put10_other _ _ _ (by omega) _ _ _ _ _ _ _ _ _ _).trans h.a.out⟩
  have i := (put10_other W (w.heap.size + 1) g6 (by have := h.n; omega) b0 b1 b2 b3 b4 b5 b6 b7 b8 b9).trans h.i
  exact ⟨a.cell 0 (by omega), a.cell 1 (by omega), a.cell 2 (by omega), a.cell 3 (by omega), cell_of_heap i rfl, cell_of_heap i rfl, cell_of_heap i rfl, cell_of_heap i rfl, cell_of_heap i rfl, cell_of_heap i rfl, cell_of_heap i rfl, cell_of_heap i rfl, cell_of_heap i rfl, cell_of_heap i rfl⟩
theorem DB.start {w w1 : World} (x : Nat) (a0 a1 a2 a3 a4 a5 a6 a7 a8 a9 : Value)
    (hb : Below ((w.alloc (.cells #[.int .u64 (wd x 0), .int .u64 (wd x 1), .int .u64 (wd x 2), .int .u64 (wd x 3)] 24)).alloc (.cells zero74 74)).heap.size ((w.alloc (.cells #[.int .u64 (wd x 0), .int .u64 (wd x 1), .int .u64 (wd x 2), .int .u64 (wd x 3)] 24)).alloc (.cells zero74 74)) w1) :
    DB w x w1.heap.size a0 a1 a2 a3 a4 a5 a6 a7 a8 a9 (w1.alloc (.cells #[a0, a1, a2, a3, a4, a5, a6, a7, a8, a9] 74)) := by
  have e1 := size_alloc w (.cells #[.int .u64 (wd x 0), .int .u64 (wd x 1), .int .u64 (wd x 2), .int .u64 (wd x 3)] 24)
  have e2 := size_alloc (w.alloc (.cells #[.int .u64 (wd x 0), .int .u64 (wd x 1), .int .u64 (wd x 2), .int .u64 (wd x 3)] 24)) (.cells zero74 74)
  have r0 := heap_alloc_new (w.alloc (.cells #[.int .u64 (wd x 0), .int .u64 (wd x 1), .int .u64 (wd x 2), .int .u64 (wd x 3)] 24)) (.cells zero74 74)
  rw [e1] at r0
  have hs := hb.size
  exact ⟨(((arr_new w x 24).alloc _).ext hb).alloc _, (heap_alloc_old _ _ (by omega)).trans ((hb.block _ (by omega)).trans r0), heap_alloc_new _ _, by omega, Below.alloc ((((Below.refl _ _).alloc (Nat.le_refl _) _).alloc (by omega) _).trans (hb.mono (by omega))) (by omega) _⟩
theorem leq_c {a b : Nat} : decide ((a : Int) ≤ (b : Int)) = decide (a ≤ b) := by
  rw [decide_eq_decide]; omega
set_option maxRecDepth 100000 in
set_option maxHeartbeats 1000000 in
theorem dbin_in (n x pw : Nat) (w : World) (i0 i4 i5 i6 i7 i8 : Int) (nm : Array UInt8) (dn : Bool) (hx : x < 2 ^ 256)
    (hi : ∀ W, Calls Tryz.prog 46 #[.int .i64 n] W (fun e w' => e = .returned (.tuple #[.agg #[.int .i64 i0, .string ⟨nm⟩, .int .i64 2, .int .i64 pw, .int .i64 i4, .int .i64 i5, .int .i64 i6, .int .i64 i7, .int .i64 i8, .bool dn], .int .i64 0]) ∧ Below W.heap.size W w')) :
    Calls Tryz.prog 69 #[.int .i64 n, bv x] w (fun e w' => e = .returned (.tuple #[.agg #[.int .i64 i0, .string ⟨nm⟩, .int .i64 2, .int .i64 pw, .int .i64 i4, .int .i64 i5, .int .i64 i6, .int .i64 i7, .int .i64 i8, .bool dn], .bool (decide (bl x ≤ pw))]) ∧ Below w.heap.size w w') := by
  have C1 := Lib.hid hi
  have C2 := Lib.hid (fun W => llen_c x W hx)
  generalize bl x = L at *
  clear hi hx
  unfold bv at *
  go_enter Tryz.func69, Tryz.ntmps69
  go_wp2_with fail
  (with_reducible refine (C1.out _).mono ?_); rintro e w1 ⟨rfl, hb1⟩
  have HS := Lib.hid (DB.start x (.int .i64 i0) (.string ⟨nm⟩) (.int .i64 2) (.int .i64 pw) (.int .i64 i4) (.int .i64 i5) (.int .i64 i6) (.int .i64 i7) (.int .i64 i8) (.bool dn) hb1)
  clear hb1
  go_upto_region 2 with fail
  generalize (w1.alloc (.cells #[.int .i64 i0, .string ⟨nm⟩, .int .i64 2, .int .i64 pw, .int .i64 i4, .int .i64 i5, .int .i64 i6, .int .i64 i7, .int .i64 i8, .bool dn] 74)) = W at *
  generalize w1.heap.size = g6 at *
  have HD := Lib.hid (HS.out.ext (below_drew (Below.refl W.heap.size W)))
  go_region_held (fun w' => w'.cell? ⟨w.heap.size, 0, none⟩ = some (.int .u64 (wd x 0)) ∧ w'.cell? ⟨w.heap.size, 1, none⟩ = some (.int .u64 (wd x 1)) ∧ w'.cell? ⟨w.heap.size, 2, none⟩ = some (.int .u64 (wd x 2)) ∧ w'.cell? ⟨w.heap.size, 3, none⟩ = some (.int .u64 (wd x 3)) ∧ w'.cell? ⟨g6, 0, none⟩ = some (.int .i64 i0) ∧ w'.cell? ⟨g6, 1, none⟩ = some (.string ⟨nm⟩) ∧ w'.cell? ⟨g6, 2, none⟩ = some (.int .i64 2) ∧ w'.cell? ⟨g6, 3, none⟩ = some (.int .i64 pw) ∧ w'.cell? ⟨g6, 4, none⟩ = some (.int .i64 i4) ∧ w'.cell? ⟨g6, 5, none⟩ = some (.int .i64 i5) ∧ w'.cell? ⟨g6, 6, none⟩ = some (.int .i64 i6) ∧ w'.cell? ⟨g6, 7, none⟩ = some (.int .i64 i7) ∧ w'.cell? ⟨g6, 8, none⟩ = some (.int .i64 i8) ∧ w'.cell? ⟨g6, 9, none⟩ = some (.bool dn))
    (first | (with_reducible exact DB.s HD.out) | (with_reducible exact DB.s U1.out) | (with_reducible exact DB.sput U1.out (.int .i64 i0) (.string ⟨nm⟩) (.int .i64 2) (.int .i64 pw) (.int .i64 i4) (.int .i64 i5) (.int .i64 i6) (.int .i64 i7) (.int .i64 i8) (.bool dn) _ rfl))
    (first | (go_at_call 35; (with_reducible refine (C2.out _).mono ?_); rintro e w2 ⟨rfl, hb2⟩; have U1 := Lib.hid (HD.out.ext hb2); obtain ⟨fz, z0, z1, z2, z3, z4, z5, z6, z7, z8, z9⟩ := U1.out.z))
  have hr := put10_at _ _ (.int .i64 i0) (.string ⟨nm⟩) (.int .i64 2) (.int .i64 pw) (.int .i64 i4) (.int .i64 i5) (.int .i64 i6) (.int .i64 i7) (.int .i64 i8) (.bool dn) U1.out.r
  have hbb := Lib.hid (U1.out.b.trans ((put10_below w2 (w.heap.size + 1) (.int .i64 i0) (.string ⟨nm⟩) (.int .i64 2) (.int .i64 pw) (.int .i64 i4) (.int .i64 i5) (.int .i64 i6) (.int .i64 i7) (.int .i64 i8) (.bool dn)).mono (Nat.le_succ _)))
  have hW9 : ∃ W9, W9 = put10 w2 (w.heap.size + 1) (.int .i64 i0) (.string ⟨nm⟩) (.int .i64 2) (.int .i64 pw) (.int .i64 i4) (.int .i64 i5) (.int .i64 i6) (.int .i64 i7) (.int .i64 i8) (.bool dn) := ⟨_, rfl⟩
  obtain ⟨W9, hW9⟩ := hW9
  rw [← hW9] at hr hbb
  unfold put10 at hW9
  rw [← hW9]
  simp only [Exit.then]
  unfold Ten at hr
  clear hW9
  go_wp2_with fail
  refine bodyPost_ret (results_cell_row_tmp rfl _ _ (w.heap.size + 1) 74 _ (0, 0) _ rfl hr Tryz.underlying74 rfl size74 _ rfl) rfl ?_
  exact ⟨rfl, hbb.out⟩

set_option maxRecDepth 100000 in
set_option maxHeartbeats 1000000 in
theorem dbin_dec (n x pw : Nat) (w : World) (i0 i4 i5 i6 i7 i8 : Int) (nm : Array UInt8) (dn : Bool)
    (hi : ∀ W, Calls Tryz.prog 46 #[.int .i64 n] W (fun e w' => e = .returned (.tuple #[.agg #[.int .i64 i0, .string ⟨nm⟩, .int .i64 10, .int .i64 pw, .int .i64 i4, .int .i64 i5, .int .i64 i6, .int .i64 i7, .int .i64 i8, .bool dn], .int .i64 0]) ∧ Below W.heap.size W w')) :
    Calls Tryz.prog 69 #[.int .i64 n, bv x] w (fun e w' => e = .returned (.tuple #[.agg #[.int .i64 i0, .string ⟨nm⟩, .int .i64 10, .int .i64 pw, .int .i64 i4, .int .i64 i5, .int .i64 i6, .int .i64 i7, .int .i64 i8, .bool dn], .bool false]) ∧ Below w.heap.size w w') := by
  have C1 := Lib.hid hi
  have C2 : True := trivial
  clear hi
  unfold bv at *
  go_enter Tryz.func69, Tryz.ntmps69
  go_wp2_with fail
  (with_reducible refine (C1.out _).mono ?_); rintro e w1 ⟨rfl, hb1⟩
  have HS := Lib.hid (DB.start x (.int .i64 i0) (.string ⟨nm⟩) (.int .i64 10) (.int .i64 pw) (.int .i64 i4) (.int .i64 i5) (.int .i64 i6) (.int .i64 i7) (.int .i64 i8) (.bool dn) hb1)
  clear hb1
  go_upto_region 2 with fail
  generalize (w1.alloc (.cells #[.int .i64 i0, .string ⟨nm⟩, .int .i64 10, .int .i64 pw, .int .i64 i4, .int .i64 i5, .int .i64 i6, .int .i64 i7, .int .i64 i8, .bool dn] 74)) = W at *
  generalize w1.heap.size = g6 at *
  have HD := Lib.hid (HS.out.ext (below_drew (Below.refl W.heap.size W)))
  obtain ⟨fz, z0, z1, z2, z3, z4, z5, z6, z7, z8, z9⟩ := HS.out.z
  obtain ⟨x0, x1, x2, x3, y0, y1, y2, y3, y4, y5, y6, y7, y8, y9⟩ := HS.out.s
  go_region
  have hr := put10_at _ _ (.int .i64 i0) (.string ⟨nm⟩) (.int .i64 10) (.int .i64 pw) (.int .i64 i4) (.int .i64 i5) (.int .i64 i6) (.int .i64 i7) (.int .i64 i8) (.bool dn) HS.out.r
  have hbb := Lib.hid (HS.out.b.trans ((put10_below W (w.heap.size + 1) (.int .i64 i0) (.string ⟨nm⟩) (.int .i64 10) (.int .i64 pw) (.int .i64 i4) (.int .i64 i5) (.int .i64 i6) (.int .i64 i7) (.int .i64 i8) (.bool dn)).mono (Nat.le_succ _)))
  have hW9 : ∃ W9, W9 = put10 W (w.heap.size + 1) (.int .i64 i0) (.string ⟨nm⟩) (.int .i64 10) (.int .i64 pw) (.int .i64 i4) (.int .i64 i5) (.int .i64 i6) (.int .i64 i7) (.int .i64 i8) (.bool dn) := ⟨_, rfl⟩
  obtain ⟨W9, hW9⟩ := hW9
  rw [← hW9] at hr hbb
  unfold put10 at hW9
  rw [← hW9]
  simp only [Exit.then]
  unfold Ten at hr
  clear hW9
  go_wp2_with fail
  refine bodyPost_ret (results_cell_row_tmp rfl _ W9.drew (w.heap.size + 1) 74 _ (0, 0) _ rfl (show W9.drew.heap[w.heap.size + 1]? = _ from hr) Tryz.underlying74 rfl size74 _ rfl) rfl ?_
  exact ⟨rfl, below_drew hbb.out⟩
set_option maxRecDepth 100000 in
set_option maxHeartbeats 1000000 in
theorem dbin_out (n : Int) (x : Nat) (w : World)
    (hi : ∀ W, Calls Tryz.prog 46 #[.int .i64 n] W (fun e w' => e = .returned (.tuple #[.agg #[.int .i64 0, .string ⟨#[]⟩, .int .i64 0, .int .i64 0, .int .i64 0, .int .i64 0, .int .i64 0, .int .i64 0, .int .i64 0, .bool false], .int .i64 1]) ∧ Below W.heap.size W w')) :
    Calls Tryz.prog 69 #[.int .i64 n, bv x] w (fun e w' => e = .returned (.tuple #[.agg #[.int .i64 0, .string ⟨#[]⟩, .int .i64 0, .int .i64 0, .int .i64 0, .int .i64 0, .int .i64 0, .int .i64 0, .int .i64 0, .bool false], .bool false]) ∧ Below w.heap.size w w') := by
  have C1 := Lib.hid hi
  have C2 : True := trivial
  clear hi
  unfold bv at *
  go_enter Tryz.func69, Tryz.ntmps69
  go_wp2_with fail
  (with_reducible refine (C1.out _).mono ?_); rintro e w1 ⟨rfl, hb1⟩
  have HS := Lib.hid (DB.start x (.int .i64 0) (.string ⟨#[]⟩) (.int .i64 0) (.int .i64 0) (.int .i64 0) (.int .i64 0) (.int .i64 0) (.int .i64 0) (.int .i64 0) (.bool false) hb1)
  clear hb1
  go_upto_region 2 with fail
  generalize (w1.alloc (.cells #[.int .i64 0, .string ⟨#[]⟩, .int .i64 0, .int .i64 0, .int .i64 0, .int .i64 0, .int .i64 0, .int .i64 0, .int .i64 0, .bool false] 74)) = W at *
  generalize w1.heap.size = g6 at *
  have HD := Lib.hid (HS.out.ext (below_drew (Below.refl W.heap.size W)))
  obtain ⟨fz, z0, z1, z2, z3, z4, z5, z6, z7, z8, z9⟩ := HS.out.z
  obtain ⟨x0, x1, x2, x3, y0, y1, y2, y3, y4, y5, y6, y7, y8, y9⟩ := HS.out.s
  go_region
  have hr := put10_at _ _ (.int .i64 0) (.string ⟨#[]⟩) (.int .i64 0) (.int .i64 0) (.int .i64 0) (.int .i64 0) (.int .i64 0) (.int .i64 0) (.int .i64 0) (.bool false) HS.out.r
  have hbb := Lib.hid (HS.out.b.trans ((put10_below W (w.heap.size + 1) (.int .i64 0) (.string ⟨#[]⟩) (.int .i64 0) (.int .i64 0) (.int .i64 0) (.int .i64 0) (.int .i64 0) (.int .i64 0) (.int .i64 0) (.bool false)).mono (Nat.le_succ _)))
  have hW9 : ∃ W9, W9 = put10 W (w.heap.size + 1) (.int .i64 0) (.string ⟨#[]⟩) (.int .i64 0) (.int .i64 0) (.int .i64 0) (.int .i64 0) (.int .i64 0) (.int .i64 0) (.int .i64 0) (.bool false) := ⟨_, rfl⟩
  obtain ⟨W9, hW9⟩ := hW9
  rw [← hW9] at hr hbb
  unfold put10 at hW9
  rw [← hW9]
  simp only [Exit.then]
  unfold Ten at hr
  clear hW9
  go_wp2_with fail
  refine bodyPost_ret (results_cell_row_tmp rfl _ W9.drew (w.heap.size + 1) 74 _ (0, 0) _ rfl (show W9.drew.heap[w.heap.size + 1]? = _ from hr) Tryz.underlying74 rfl size74 _ rfl) rfl ?_
  exact ⟨rfl, below_drew hbb.out⟩
theorem dinfo_bin {n : Nat} (h1 : 1 ≤ n) (h2 : n ≤ 6) : dinfo n = rinfo n := by
  rcases six h1 h2 with rfl | rfl | rfl | rfl | rfl | rfl <;> rfl
theorem dinfo_dec {n : Nat} (h1 : 7 ≤ n) (h2 : n ≤ 12) : ∃ (i0 : Int) (nm : Array UInt8) (pw : Nat) (i4 i5 i6 i7 i8 : Int) (dn : Bool), dinfo n = #[.int .i64 i0, .string ⟨nm⟩, .int .i64 10, .int .i64 pw, .int .i64 i4, .int .i64 i5, .int .i64 i6, .int .i64 i7, .int .i64 i8, .bool dn] := by
  have : n = 7 ∨ n = 8 ∨ n = 9 ∨ n = 10 ∨ n = 11 ∨ n = 12 := by omega
  rcases this with rfl | rfl | rfl | rfl | rfl | rfl
  · exact ⟨_, _, 32, _, _, _, _, _, _, rfl⟩
  · exact ⟨_, _, 64, _, _, _, _, _, _, rfl⟩
  · exact ⟨_, _, 128, _, _, _, _, _, _, rfl⟩
  · exact ⟨_, _, 32, _, _, _, _, _, _, rfl⟩
  · exact ⟨_, _, 64, _, _, _, _, _, _, rfl⟩
  · exact ⟨_, _, 128, _, _, _, _, _, _, rfl⟩
/-- What desc.Binary answers. -/
def dinfoI (n : Int) : Array Value := if 1 ≤ n ∧ n ≤ 12 then dinfo n.toNat else zero74
theorem dbinary_c (n : Int) (x : Nat) (w : World) (hx : x < 2 ^ 256) :
    Calls Tryz.prog 69 #[.int .i64 n, bv x] w (fun e w' => e = .returned (.tuple #[.agg (dinfoI n), .bool (good n x)]) ∧ Below w.heap.size w w') := by
  unfold dinfoI good
  by_cases h : 1 ≤ n ∧ n ≤ 12
  · rw [if_pos h]
    obtain ⟨m, rfl⟩ := Int.eq_ofNat_of_zero_le (show 0 ≤ n by omega)
    rw [Int.toNat_natCast]
    have hi := fun W => dof_in m (by omega) (by omega) W
    by_cases h6 : m ≤ 6
    · rw [dinfo_bin (by omega) h6] at hi ⊢
      have hd : decide (1 ≤ (m : Int) ∧ (m : Int) ≤ 6) = true := by simp; omega
      rw [hd, Bool.true_and]
      unfold rinfo at hi ⊢
      exact dbin_in m x (prec m + expo m) w _ _ _ _ _ _ _ _ hx hi
    · obtain ⟨i0, nm, pw, i4, i5, i6, i7, i8, dn, e⟩ := dinfo_dec (n := m) (by omega) (by omega)
      rw [e] at hi ⊢
      have hd : decide (1 ≤ (m : Int) ∧ (m : Int) ≤ 6) = false := by simp; omega
      rw [hd, Bool.false_and]
      exact dbin_dec m x pw w _ _ _ _ _ _ _ _ hi
  · rw [if_neg h]
    have hd : decide (1 ≤ n ∧ n ≤ 6) = false := by simp; omega
    rw [hd, Bool.false_and]
    exact dbin_out n x w (fun W => dof_out n (by omega) W)
end Go.Proofs.YtaepgdkpaffaaaaGreatDoor

/- '==' of patterns of four words. -/
namespace Go.Proofs.YtaepgdkpaffaaaaGreatDoor
open Go.RowKit Go.Proofs.YtaepgdkpaffaaaaGreatDoorW.PrintWords Cal

set_option maxHeartbeats 4000000 in
theorem eq4_24 (a0 a1 a2 a3 b0 b1 b2 b3 : Int) (w : World) :
    (Op.equalIn 10000 24 (.agg #[.int .u64 a0, .int .u64 a1, .int .u64 a2, .int .u64 a3]) (.agg #[.int .u64 b0, .int .u64 b1, .int .u64 b2, .int .u64 b3])).run Tryz.prog w = .ok ((a0 == b0) && ((a1 == b1) && ((a2 == b2) && (a3 == b3)))) w := by
  rw [show (10000 : Nat) = 9999 + 1 from rfl]
  unfold Op.equalIn
  have he : ∀ (a b : Int) (W : World), (Op.equalIn 9999 22 (.int .u64 a) (.int .u64 b)).run Tryz.prog W = .ok (a == b) W := fun a b W => run_equalIn_int W 9998 22 .u64 .u64 a b Tryz.underlying22
  have hl : List.range' 0 4 = [0, 1, 2, 3] := rfl
  rcases h0 : (a0 == b0) with _ | _ <;> rcases h1 : (a1 == b1) with _ | _ <;> rcases h2 : (a2 == b2) with _ | _ <;> rcases h3 : (a3 == b3) with _ | _ <;>
    simp [Tryz.underlying24, Tryz.isAgg22, go_sem, hl, List.forIn_cons, he, h0, h1, h2, h3]
set_option maxHeartbeats 4000000 in
theorem eq4_23 (a0 a1 a2 a3 b0 b1 b2 b3 : Int) (w : World) :
    (Op.equalIn 10000 23 (.agg #[.int .u64 a0, .int .u64 a1, .int .u64 a2, .int .u64 a3]) (.agg #[.int .u64 b0, .int .u64 b1, .int .u64 b2, .int .u64 b3])).run Tryz.prog w = .ok ((a0 == b0) && ((a1 == b1) && ((a2 == b2) && (a3 == b3)))) w := by
  rw [show (10000 : Nat) = 9999 + 1 from rfl]
  unfold Op.equalIn
  have he : ∀ (a b : Int) (W : World), (Op.equalIn 9999 22 (.int .u64 a) (.int .u64 b)).run Tryz.prog W = .ok (a == b) W := fun a b W => run_equalIn_int W 9998 22 .u64 .u64 a b Tryz.underlying22
  have hl : List.range' 0 4 = [0, 1, 2, 3] := rfl
  rcases h0 : (a0 == b0) with _ | _ <;> rcases h1 : (a1 == b1) with _ | _ <;> rcases h2 : (a2 == b2) with _ | _ <;> rcases h3 : (a3 == b3) with _ | _ <;>
    simp [Tryz.underlying23, Tryz.isAgg22, go_sem, hl, List.forIn_cons, he, h0, h1, h2, h3]
/-- As numbers. -/
theorem wds_inj {x y : Nat} (hx : x < 2 ^ 256) (hy : y < 2 ^ 256) (h : ((wd x 0 == wd y 0) && ((wd x 1 == wd y 1) && ((wd x 2 == wd y 2) && (wd x 3 == wd y 3)))) = true) : x = y := by
  simp only [Bool.and_eq_true, beq_iff_eq] at h
  rw [← blist_val hx, ← blist_val hy]
  unfold blist
  rw [h.1, h.2.1, h.2.2.1, h.2.2.2]
theorem wds_eq {x y : Nat} (hx : x < 2 ^ 256) (hy : y < 2 ^ 256) : ((wd x 0 == wd y 0) && ((wd x 1 == wd y 1) && ((wd x 2 == wd y 2) && (wd x 3 == wd y 3)))) = decide (x = y) := by
  by_cases h : x = y
  · subst h; simp
  · have : decide (x = y) = false := by simpa using h
    rw [this]
    rcases h2 : ((wd x 0 == wd y 0) && ((wd x 1 == wd y 1) && ((wd x 2 == wd y 2) && (wd x 3 == wd y 3)))) with _ | _
    · rfl
    · exact absurd (wds_inj hx hy h2) h
theorem wds_eq0 {x : Nat} (hx : x < 2 ^ 256) : ((wd x 0 == 0) && ((wd x 1 == 0) && ((wd x 2 == 0) && (wd x 3 == 0)))) = decide (x = 0) := by
  have h := wds_eq hx (show 0 < 2 ^ 256 from Nat.two_pow_pos _)
  rw [wd_zero, wd_zero, wd_zero, wd_zero] at h
  exact h
/-- A pattern against the empty one. -/
theorem eqz_24 (x : Nat) (hx : x < 2 ^ 256) (w : World) :
    (Op.equalIn 10000 24 (.agg #[.int .u64 (wd x 0), .int .u64 (wd x 1), .int .u64 (wd x 2), .int .u64 (wd x 3)]) (.agg #[.int .u64 0, .int .u64 0, .int .u64 0, .int .u64 0])).run Tryz.prog w = .ok (decide (x = 0)) w := by
  rw [eq4_24, wds_eq0 hx]
theorem eqz_23 (x : Nat) (hx : x < 2 ^ 256) (w : World) :
    (Op.equalIn 10000 23 (.agg #[.int .u64 (wd x 0), .int .u64 (wd x 1), .int .u64 (wd x 2), .int .u64 (wd x 3)]) (.agg #[.int .u64 0, .int .u64 0, .int .u64 0, .int .u64 0])).run Tryz.prog w = .ok (decide (x = 0)) w := by
  rw [eq4_23, wds_eq0 hx]
end Go.Proofs.YtaepgdkpaffaaaaGreatDoor
