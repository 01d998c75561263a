import Derived.Test.YtaepgdkpaffaaaaGreatDoorG10
import Derived.Deep.RegionHeld3
set_option linter.unusedVariables false
set_option linter.unusedSimpArgs false
/- limbs, at four words: Of, Len, Sub, Bit. package binary: and, or. -/
namespace Go.Proofs.YtaepgdkpaffaaaaGreatDoor
open Go.RowKit Go.Proofs.YtaepgdkpaffaaaaGreatDoorW.PrintWords Cal

theorem bv_one : bv 1 = .agg #[.int .u64 1, .int .u64 0, .int .u64 0, .int .u64 0] := by
  simp [bv, wd, B]
theorem bv_zero : bv 0 = .agg #[.int .u64 0, .int .u64 0, .int .u64 0, .int .u64 0] := by
  simp [bv, wd, B]
theorem lof_1 (w : World) : Calls Tryz.prog 190 #[.int .u64 1] w (fun e w' => e = .returned (bv 1) ∧ Below w.heap.size w w') := by
  rw [bv_one]
  go_enter Tryz.func190, Tryz.ntmps190
  go_wp2_with fail
  refine bodyPost_ret (results_cell_row rfl _ _ w.heap.size 23 #[.int .u64 1, .int .u64 0, .int .u64 0, .int .u64 0] (0, 0) _ rfl ((heap_alloc_old _ _ (by rw [size_alloc]; omega)).trans (heap_alloc_new _ _)) Tryz.underlying23 rfl size23) rfl ?_
  exact ⟨rfl, (((Below.refl _ _).alloc (Nat.le_refl _) _).alloc (by rw [size_alloc]; omega) _)⟩

theorem bl_step {x k : Nat} (hx : x < B ^ (k + 1)) (hz : wd x k ≠ 0) : bl x = 64 * k + bl (wd x k).toNat := by
  have e : (wd x k).toNat = x / 2 ^ (64 * k) := by
    rw [wd_nat, Nat.pow_mul, ← B_pow]
    rw [Nat.pow_succ, Nat.mul_comm] at hx
    exact Nat.mod_eq_of_lt (Nat.div_lt_of_lt_mul (by rwa [Nat.mul_comm]))
  have h0 : x / 2 ^ (64 * k) ≠ 0 := by
    intro h
    rw [h] at e
    have := wd_wf x k
    omega
  rw [bl_div h0, e]
set_option maxRecDepth 100000 in
theorem llen_c (x : Nat) (w : World) (hx : x < 2 ^ 256) :
    Calls Tryz.prog 35 #[bv x] w (fun e w' => e = .returned (.int .i64 (bl x)) ∧ Below w.heap.size w w') := by
  have ha := arr_new w x 23
  have hx4 := Lib.hid (show x < B ^ 4 by rw [← B4]; exact hx)
  have HB := Lib.hid ((Below.refl w.heap.size w).alloc (Nat.le_refl _) (.cells #[.int .u64 (wd x 0), .int .u64 (wd x 1), .int .u64 (wd x 2), .int .u64 (wd x 3)] 23))
  unfold bv
  go_enter Tryz.func35, Tryz.ntmps35
  go_wp2_with fail
  generalize (w.alloc (.cells #[.int .u64 (wd x 0), .int .u64 (wd x 1), .int .u64 (wd x 2), .int .u64 (wd x 3)] 23)) = W at *
  clear hx
  have hA := ha.cell
  have ha_0 := hA 0 (by omega)
  have ha_1 := hA 1 (by omega)
  have ha_2 := hA 2 (by omega)
  have ha_3 := hA 3 (by omega)
  go_loop [3] (fun t3 => ∃ k : Nat, k ≤ 4 ∧ t3 = .int .i64 ((k : Int) - 1) ∧ Hid (x < B ^ k)) (fun t3 => (intOf t3 + 1).toNat)
  case atStart => exact ⟨4, by omega, rfl, hx4⟩
  case round =>
    obtain ⟨k, hk, rfl, hv⟩ := hrel
    rcases Nat.eq_zero_or_pos k with rfl | hk0
    · go_wp2_with fail
      go_ret
      exact ⟨ret_int (by have := hv.out; rw [Nat.pow_zero] at this; have h0 : x = 0 := (by omega); rw [h0]; rfl), HB.out⟩
    · obtain ⟨k, rfl⟩ : ∃ j, k = j + 1 := ⟨k - 1, by omega⟩
      have eqk : ((k + 1 : Nat) : Int) - 1 = (k : Int) := by omega
      have hc := hA k (by omega)
      rw [eqk]
      clear eqk
      have k4 : (k : Int) < 4 := by omega
      have k0 : (0 : Int) ≤ (k : Int) := by omega
      have hw := wd_wf x k
      rcases hz : (wd x k != 0) with _ | _
      · have hv' : Hid (x < B ^ k) := by
          have h0 : wd x k = 0 := by simpa using hz
          have h1 := wd_nat x k
          rw [h0] at h1
          show _ < _
          have h2 := hv.out
          rw [Nat.pow_succ] at h2
          have h3 : x / B ^ k < B := Nat.div_lt_of_lt_mul h2
          rw [Nat.mod_eq_of_lt h3] at h1
          have h4 : 0 < B ^ k := Nat.pow_pos B_pos
          rcases Nat.lt_or_ge x (B ^ k) with h5 | h5
          · exact h5
          · have := Nat.div_pos h5 h4
            simp at h1
            omega
        clear hv hA hw
        go_wp2_with fail
        go_round
        case rel => exact ⟨k, by omega, by go_num, hv'⟩
        case measure => simp [intOf]
      · have C := Lib.hid (Tryz.bits_Len64 (wd x k) W hw.1 (by omega))
        have hres : Hid (bl x = 64 * k + bl (wd x k).toNat) := bl_step hv.out (by simpa using hz)
        have hb64 : bl (wd x k).toNat ≤ 64 := bl_le (by omega)
        rw [bitLen_eq (by omega)] at C
        generalize bl (wd x k).toNat = L at *
        clear hv hA hw
        go_wp2_with fail
        (with_reducible refine C.out.mono ?_); rintro e w' ⟨rfl, rfl⟩
        go_wp2_with fail
        go_ret
        exact ⟨ret_int (by rw [hres.out]; omega), HB.out⟩

structure PW (w : World) (f g : Nat → Int) (W : World) : Prop where
  a : Arr W w.heap.size 23 f
  c : Arr W (w.heap.size + 1) 23 g
  r : Arr W (w.heap.size + 1 + 1) 23 (fun _ => 0)
  b : Below w.heap.size w W
theorem PW.start (w : World) (x y : Nat) : PW w (wd x) (wd y) (((w.alloc (.cells #[.int .u64 (wd x 0), .int .u64 (wd x 1), .int .u64 (wd x 2), .int .u64 (wd x 3)] 23)).alloc (.cells #[.int .u64 (wd y 0), .int .u64 (wd y 1), .int .u64 (wd y 2), .int .u64 (wd y 3)] 23)).alloc (.cells #[.int .u64 0, .int .u64 0, .int .u64 0, .int .u64 0] 23)) := by
  have e1 := size_alloc w (.cells #[.int .u64 (wd x 0), .int .u64 (wd x 1), .int .u64 (wd x 2), .int .u64 (wd x 3)] 23)
  have e2 := size_alloc (w.alloc (.cells #[.int .u64 (wd x 0), .int .u64 (wd x 1), .int .u64 (wd x 2), .int .u64 (wd x 3)] 23)) (.cells #[.int .u64 (wd y 0), .int .u64 (wd y 1), .int .u64 (wd y 2), .int .u64 (wd y 3)] 23)
  have a2 := arr_new (w.alloc (.cells #[.int .u64 (wd x 0), .int .u64 (wd x 1), .int .u64 (wd x 2), .int .u64 (wd x 3)] 23)) y 23
  have a3 := arr_zero ((w.alloc (.cells #[.int .u64 (wd x 0), .int .u64 (wd x 1), .int .u64 (wd x 2), .int .u64 (wd x 3)] 23)).alloc (.cells #[.int .u64 (wd y 0), .int .u64 (wd y 1), .int .u64 (wd y 2), .int .u64 (wd y 3)] 23)) 23
  rw [e1] at a2
  rw [e2, e1] at a3
  exact ⟨((arr_new w x 23).alloc _).alloc _, a2.alloc _, a3, (((Below.refl _ _).alloc (Nat.le_refl _) _).alloc (by omega) _).alloc (by omega) _⟩
theorem PW.set {w : World} {f g : Nat → Int} {W : World} (h : PW w f g W) {k : Nat} (hk : k < 4) (v : Int) : PW w (fun j => if j = k then v else f j) g (W.setCell ⟨w.heap.size, k, none⟩ (.int .u64 v)) :=
  ⟨h.a.set hk v, ⟨(heap_setCell_other _ _ _ _ (show w.heap.size + 1 ≠ w.heap.size by omega)).trans h.c.out⟩, ⟨(heap_setCell_other _ _ _ _ (show w.heap.size + 1 + 1 ≠ w.heap.size by omega)).trans h.r.out⟩, h.b.setCell (Nat.le_refl _) _⟩
theorem PW.drew {w : World} {f g : Nat → Int} {W : World} (h : PW w f g W) : PW w f g W.drew := ⟨h.a.drew, h.c.drew, h.r.drew, below_drew h.b⟩
theorem PW.congr {w : World} {f f' g : Nat → Int} {W : World} (h : PW w f g W) (e : ∀ j, j < 4 → f j = f' j) : PW w f' g W := ⟨h.a.congr e, h.c, h.r, h.b⟩
structure QW (w : World) (f g : Nat → Int) (W : World) : Prop where
  a : Arr W w.heap.size 24 f
  c : Arr W (w.heap.size + 1) 24 g
  r : Arr W (w.heap.size + 1 + 1) 24 (fun _ => 0)
  b : Below w.heap.size w W
theorem QW.start (w : World) (x y : Nat) : QW w (wd x) (wd y) (((w.alloc (.cells #[.int .u64 (wd x 0), .int .u64 (wd x 1), .int .u64 (wd x 2), .int .u64 (wd x 3)] 24)).alloc (.cells #[.int .u64 (wd y 0), .int .u64 (wd y 1), .int .u64 (wd y 2), .int .u64 (wd y 3)] 24)).alloc (.cells #[.int .u64 0, .int .u64 0, .int .u64 0, .int .u64 0] 24)) := by
  have e1 := size_alloc w (.cells #[.int .u64 (wd x 0), .int .u64 (wd x 1), .int .u64 (wd x 2), .int .u64 (wd x 3)] 24)
  have e2 := size_alloc (w.alloc (.cells #[.int .u64 (wd x 0), .int .u64 (wd x 1), .int .u64 (wd x 2), .int .u64 (wd x 3)] 24)) (.cells #[.int .u64 (wd y 0), .int .u64 (wd y 1), .int .u64 (wd y 2), .int .u64 (wd y 3)] 24)
  have a2 := arr_new (w.alloc (.cells #[.int .u64 (wd x 0), .int .u64 (wd x 1), .int .u64 (wd x 2), .int .u64 (wd x 3)] 24)) y 24
  have a3 := arr_zero ((w.alloc (.cells #[.int .u64 (wd x 0), .int .u64 (wd x 1), .int .u64 (wd x 2), .int .u64 (wd x 3)] 24)).alloc (.cells #[.int .u64 (wd y 0), .int .u64 (wd y 1), .int .u64 (wd y 2), .int .u64 (wd y 3)] 24)) 24
  rw [e1] at a2
  rw [e2, e1] at a3
  exact ⟨((arr_new w x 24).alloc _).alloc _, a2.alloc _, a3, (((Below.refl _ _).alloc (Nat.le_refl _) _).alloc (by omega) _).alloc (by omega) _⟩
theorem QW.set {w : World} {f g : Nat → Int} {W : World} (h : QW w f g W) {k : Nat} (hk : k < 4) (v : Int) : QW w (fun j => if j = k then v else f j) g (W.setCell ⟨w.heap.size, k, none⟩ (.int .u64 v)) :=
  ⟨h.a.set hk v, ⟨(heap_setCell_other _ _ _ _ (show w.heap.size + 1 ≠ w.heap.size by omega)).trans h.c.out⟩, ⟨(heap_setCell_other _ _ _ _ (show w.heap.size + 1 + 1 ≠ w.heap.size by omega)).trans h.r.out⟩, h.b.setCell (Nat.le_refl _) _⟩
theorem QW.drew {w : World} {f g : Nat → Int} {W : World} (h : QW w f g W) : QW w f g W.drew := ⟨h.a.drew, h.c.drew, h.r.drew, below_drew h.b⟩
theorem QW.congr {w : World} {f f' g : Nat → Int} {W : World} (h : QW w f g W) (e : ∀ j, j < 4 → f j = f' j) : QW w f' g W := ⟨h.a.congr e, h.c, h.r, h.b⟩
theorem wd_and (x y i : Nat) : bits .and .u64 (wd x i) (wd y i) = wd (x &&& y) i := by
  have h1 := wd_wf x i
  have h2 := wd_wf y i
  have h := bits_and_nat (wd x i).toNat (wd y i).toNat (by omega) (by omega)
  rw [Int.toNat_of_nonneg h1.1, Int.toNat_of_nonneg h2.1, wd_nat, wd_nat] at h
  rw [h]
  unfold wd
  congr 1
  rw [B_pow, ← Nat.pow_mul, Nat.and_div_two_pow, Nat.and_mod_two_pow]
theorem wd_or (x y i : Nat) : bits .or .u64 (wd x i) (wd y i) = wd (x ||| y) i := by
  have h1 := wd_wf x i
  have h2 := wd_wf y i
  have h := bits_or_nat (wd x i).toNat (wd y i).toNat (by omega) (by omega)
  rw [Int.toNat_of_nonneg h1.1, Int.toNat_of_nonneg h2.1, wd_nat, wd_nat] at h
  rw [h]
  unfold wd
  congr 1
  rw [B_pow, ← Nat.pow_mul, Nat.or_div_two_pow, Nat.or_mod_two_pow]
set_option maxRecDepth 100000 in
theorem band_c (x y : Nat) (w : World) :
    Calls Tryz.prog 151 #[bv x, bv y] w (fun e w' => e = .returned (bv (x &&& y)) ∧ Below w.heap.size w w') := by
  have hst := Lib.hid (QW.start w x y)
  have L1 := Lib.hid (fun i => wd_and x y i)
  have eb : bv (x &&& y) = .agg (acells (wd (x &&& y))) := rfl
  rw [eb]
  generalize wd (x &&& y) = F at *
  clear eb
  unfold bv
  go_enter Tryz.func151, Tryz.ntmps151
  go_wp2_with fail
  go_loopw [6] (fun t6 wr => ∃ k : Nat, k ≤ 4 ∧ t6 = .int .i64 k ∧ QW w (fun j => if j < k then F j else wd x j) (wd y) wr) (fun t6 _ => 4 - (intOf t6).toNat)
  case atStart => exact ⟨0, by omega, rfl, hst.out.congr (fun j hj => by rw [if_neg (by omega)])⟩
  case round =>
    obtain ⟨i, hi, rfl, hs⟩ := hrel
    by_cases hi4 : i < 4
    · have i4 : (i : Int) < 4 := by omega
      have i0 : (0 : Int) ≤ (i : Int) := by omega
      have ha1 := hs.a.cell i hi4
      rw [if_neg (by omega)] at ha1
      have ha2 := hs.a.free i
      have hc1 := hs.c.cell i hi4
      have hor := L1.out i
      have hset := (hs.set (k := i) hi4 (F i)).drew
      have HS : Hid (QW w (fun m => if m < i + 1 then F m else wd x m) (wd y) _) := Lib.hid (hset.congr (fun m hm => by
        by_cases h : m = i
        · rw [if_pos h, if_pos (by omega), h]
        · rw [if_neg h]
          by_cases h2 : m < i
          · rw [if_pos h2, if_pos (by omega)]
          · rw [if_neg h2, if_neg (by omega)]))
      clear hset hs
      go_wp2_with fail
      generalize F i = z at *
      generalize wd x i = p at *
      generalize wd y i = p2 at *
      go_region
      go_wp2_with fail
      go_roundw
      case rel => exact ⟨i + 1, by omega, by go_num, HS.out⟩
      case measure => simp [intOf]; omega
    · replace hs := hs.congr (f' := F) (fun m hm => by rw [if_pos (by omega)])
      have ho := hs.a.out
      have hr := hs.r.out
      have hbb := hs.b
      clear hs
      go_wp2_with (first | (refine wpList_load_row rfl 24 (.tmp 2) rfl w.heap.size rfl 24 (acells F) (0, 0) _ ho Tryz.underlying24 rfl size24 ?_)
                         | (refine wpList_store_row rfl 24 (.tmp 4) (.tmp 18) rfl (w.heap.size + 1 + 1) (acells F) ?_ ?_ 24 _ hr size24 ?_ ?_ ?_; (· rfl); (· rfl); (· rfl); (· simp [acells, Value.oneCell'])))
      (try simp only [Exit.inBlock, Exit.then])
      refine bodyPost_ret (results_cell_row rfl _ _ (w.heap.size + 1 + 1) 24 (acells F) (0, 0) _ rfl (setRow_heap _ _ _ _ _ _ hr) Tryz.underlying24 rfl size24) rfl ?_
      exact ⟨rfl, below_row hbb (by omega) _⟩
set_option maxRecDepth 100000 in
theorem bor_c (x y : Nat) (w : World) :
    Calls Tryz.prog 154 #[bv x, bv y] w (fun e w' => e = .returned (bv (x ||| y)) ∧ Below w.heap.size w w') := by
  have hst := Lib.hid (QW.start w x y)
  have L1 := Lib.hid (fun i => wd_or x y i)
  have eb : bv (x ||| y) = .agg (acells (wd (x ||| y))) := rfl
  rw [eb]
  generalize wd (x ||| y) = F at *
  clear eb
  unfold bv
  go_enter Tryz.func154, Tryz.ntmps154
  go_wp2_with fail
  go_loopw [6] (fun t6 wr => ∃ k : Nat, k ≤ 4 ∧ t6 = .int .i64 k ∧ QW w (fun j => if j < k then F j else wd x j) (wd y) wr) (fun t6 _ => 4 - (intOf t6).toNat)
  case atStart => exact ⟨0, by omega, rfl, hst.out.congr (fun j hj => by rw [if_neg (by omega)])⟩
  case round =>
    obtain ⟨i, hi, rfl, hs⟩ := hrel
    by_cases hi4 : i < 4
    · have i4 : (i : Int) < 4 := by omega
      have i0 : (0 : Int) ≤ (i : Int) := by omega
      have ha1 := hs.a.cell i hi4
      rw [if_neg (by omega)] at ha1
      have ha2 := hs.a.free i
      have hc1 := hs.c.cell i hi4
      have hor := L1.out i
      have hset := (hs.set (k := i) hi4 (F i)).drew
      have HS : Hid (QW w (fun m => if m < i + 1 then F m else wd x m) (wd y) _) := Lib.hid (hset.congr (fun m hm => by
        by_cases h : m = i
        · rw [if_pos h, if_pos (by omega), h]
        · rw [if_neg h]
          by_cases h2 : m < i
          · rw [if_pos h2, if_pos (by omega)]
          · rw [if_neg h2, if_neg (by omega)]))
      clear hset hs
      go_wp2_with fail
      generalize F i = z at *
      generalize wd x i = p at *
      generalize wd y i = p2 at *
      go_region
      go_wp2_with fail
      go_roundw
      case rel => exact ⟨i + 1, by omega, by go_num, HS.out⟩
      case measure => simp [intOf]; omega
    · replace hs := hs.congr (f' := F) (fun m hm => by rw [if_pos (by omega)])
      have ho := hs.a.out
      have hr := hs.r.out
      have hbb := hs.b
      clear hs
      go_wp2_with (first | (refine wpList_load_row rfl 24 (.tmp 2) rfl w.heap.size rfl 24 (acells F) (0, 0) _ ho Tryz.underlying24 rfl size24 ?_)
                         | (refine wpList_store_row rfl 24 (.tmp 4) (.tmp 18) rfl (w.heap.size + 1 + 1) (acells F) ?_ ?_ 24 _ hr size24 ?_ ?_ ?_; (· rfl); (· rfl); (· rfl); (· simp [acells, Value.oneCell'])))
      (try simp only [Exit.inBlock, Exit.then])
      refine bodyPost_ret (results_cell_row rfl _ _ (w.heap.size + 1 + 1) 24 (acells F) (0, 0) _ rfl (setRow_heap _ _ _ _ _ _ hr) Tryz.underlying24 rfl size24) rfl ?_
      exact ⟨rfl, below_row hbb (by omega) _⟩

/-- Borrowing: word i of a difference. -/
def brw (x y i : Nat) : Int := if x % B ^ i < y % B ^ i then 1 else 0
theorem brw_01 (x y i : Nat) : 0 ≤ brw x y i ∧ brw x y i ≤ 1 := by unfold brw; split <;> omega
theorem brw_zero (x y : Nat) : brw x y 0 = 0 := by unfold brw; rw [Nat.pow_zero, Nat.mod_one, Nat.mod_one]; rfl
theorem brw_all {x y i : Nat} (h : y ≤ x) (hx : x < B ^ i) : brw x y i = 0 := by
  unfold brw
  rw [Nat.mod_eq_of_lt hx, Nat.mod_eq_of_lt (by omega), if_neg (by omega)]
theorem lexi {P a b X Y : Nat} (ha : a < P) (hb : b < P) : (a + P * X < b + P * Y) ↔ (X < Y ∨ (X = Y ∧ a < b)) := by
  rcases Nat.lt_trichotomy X Y with h | h | h
  · have := Nat.mul_le_mul_left P (show X + 1 ≤ Y from h)
    rw [Nat.mul_add, Nat.mul_one] at this
    constructor
    · exact fun _ => Or.inl h
    · intro _; omega
  · subst h
    constructor
    · intro h; exact Or.inr ⟨rfl, by omega⟩
    · rintro (h | ⟨_, h⟩)
      · omega
      · omega
  · have := Nat.mul_le_mul_left P (show Y + 1 ≤ X from h)
    rw [Nat.mul_add, Nat.mul_one] at this
    constructor
    · intro h2; omega
    · rintro (h2 | ⟨h2, _⟩) <;> omega
theorem brw_hi (x y i : Nat) : difHi (wd x i) (wd y i) (brw x y i) = brw x y (i + 1) := by
  unfold difHi brw
  rw [mod_succ_pow x, mod_succ_pow y, ← wd_nat, ← wd_nat]
  have h1 := wd_wf x i
  have h2 := wd_wf y i
  have hp : 0 < B ^ i := Nat.pow_pos B_pos
  have hl := lexi (X := (wd x i).toNat) (Y := (wd y i).toNat) (Nat.mod_lt x hp) (Nat.mod_lt y hp)
  by_cases h : x % B ^ i < y % B ^ i
  · simp only [if_pos h]
    by_cases h3 : (wd x i).toNat ≤ (wd y i).toNat
    · rw [if_pos (by omega), if_pos (hl.2 (by omega))]
    · rw [if_neg (by omega), if_neg (fun h4 => by have := hl.1 h4; omega)]
  · simp only [if_neg h]
    by_cases h3 : (wd x i).toNat < (wd y i).toNat
    · rw [if_pos (by omega), if_pos (hl.2 (by omega))]
    · rw [if_neg (by omega), if_neg (fun h4 => by have := hl.1 h4; omega)]
theorem sub_word {x y z i : Nat} (hz : z + y = x) : difLo (wd x i) (wd y i) (brw x y i) = wd z i := by
  have h1 := wd_wf x i
  have h2 := wd_wf y i
  have h3 := wd_wf z i
  have hb := brw_01 x y i
  have hp : 0 < B ^ i := Nat.pow_pos B_pos
  have hB : B = 18446744073709551616 := rfl
  -- (z + y) mod B^(i+1)
  have e1 : (z % B ^ (i + 1) + y % B ^ (i + 1)) % B ^ (i + 1) = x % B ^ (i + 1) := by rw [← hz, ← Nat.add_mod]
  have e0 : (z % B ^ i + y % B ^ i) % B ^ i = x % B ^ i := by rw [← hz, ← Nat.add_mod]
  have l1 := Nat.mod_lt z hp
  have l2 := Nat.mod_lt y hp
  have l3 := Nat.mod_lt x hp
  rw [mod_succ_pow z, mod_succ_pow y, mod_succ_pow x, ← wd_nat, ← wd_nat, ← wd_nat] at e1
  unfold brw at hb ⊢
  generalize z % B ^ i = a at *
  generalize y % B ^ i = b at *
  generalize x % B ^ i = c at *
  rw [Nat.pow_succ] at e1
  generalize B ^ i = P at *
  generalize wd x i = X at *
  generalize wd y i = Y at *
  generalize wd z i = Z at *
  obtain ⟨X, rfl⟩ := Int.eq_ofNat_of_zero_le h1.1
  obtain ⟨Y, rfl⟩ := Int.eq_ofNat_of_zero_le h2.1
  obtain ⟨Z, rfl⟩ := Int.eq_ofNat_of_zero_le h3.1
  simp only [Int.toNat_natCast] at e1
  have key : (Z + Y + (if c < b then 1 else 0)) % B = X := by
    have hab : a + b = c + P * (if c < b then 1 else 0) := by
      by_cases h : a + b < P
      · rw [Nat.mod_eq_of_lt h] at e0
        rw [if_neg (by omega)]; omega
      · have : (a + b) % P = a + b - P := by rw [Nat.mod_eq_sub_mod (by omega), Nat.mod_eq_of_lt (by omega)]
        rw [this] at e0
        rw [if_pos (by omega)]; omega
    generalize (if c < b then 1 else 0) = k at *
    have e2 : a + P * Z + (b + P * Y) = c + P * (Z + Y + k) := by
      have : P * (Z + Y + k) = P * Z + P * Y + P * k := by grind
      omega
    rw [e2] at e1
    have e3 := Nat.mod_mul (x := c + P * (Z + Y + k)) (a := P) (b := B)
    rw [Nat.add_mul_mod_self_left, Nat.add_mul_div_left _ _ hp, Nat.mod_eq_of_lt l3, Nat.div_eq_of_lt l3, Nat.zero_add] at e3
    rw [e3] at e1
    have e4 : P * ((Z + Y + k) % B) = P * X := by omega
    exact Nat.eq_of_mul_eq_mul_left hp e4
  unfold difLo
  rw [← key, hB]
  split <;> omega
set_option maxRecDepth 100000 in
theorem lsub_c (x y : Nat) (w : World) (hx : x < 2 ^ 256) (hyx : y ≤ x) :
    Calls Tryz.prog 189 #[bv x, bv y] w (fun e w' => e = .returned (.tuple #[bv (x - y), .int .u64 0]) ∧ Below w.heap.size w w') := by
  have hst := Lib.hid (PW.start w x y)
  have L1 := Lib.hid (fun i => sub_word (x := x) (y := y) (z := x - y) (i := i) (by omega))
  have L2 := Lib.hid (fun i => brw_hi x y i)
  have L3 := Lib.hid (brw_all (i := 4) hyx (by rw [← B4]; exact hx))
  have L4 := Lib.hid (brw_zero x y)
  have L5 := Lib.hid (fun i => brw_01 x y i)
  have eb : bv (x - y) = .agg (acells (wd (x - y))) := rfl
  rw [eb]
  generalize wd (x - y) = F at *
  generalize brw x y = G at *
  clear eb hx hyx
  unfold bv
  go_enter Tryz.func189, Tryz.ntmps189
  go_wp2_with fail
  go_loopw [6, 10] (fun t6 t10 wr => ∃ k : Nat, k ≤ 4 ∧ t10 = .int .i64 k ∧ t6 = .int .u64 (G k) ∧ PW w (fun j => if j < k then F j else wd x j) (wd y) wr) (fun _ t10 _ => 4 - (intOf t10).toNat)
  case atStart => exact ⟨0, by omega, rfl, by rw [L4.out], hst.out.congr (fun j hj => by rw [if_neg (by omega)])⟩
  case round =>
    obtain ⟨i, hi, rfl, rfl, hs⟩ := hrel
    by_cases hi4 : i < 4
    · have i4 : (i : Int) < 4 := by omega
      have i0 : (0 : Int) ≤ (i : Int) := by omega
      have ha1 := hs.a.cell i hi4
      rw [if_neg (by omega)] at ha1
      have ha2 := hs.a.free i
      have hc1 := hs.c.cell i hi4
      have hset := (hs.set (k := i) hi4 (F i)).drew
      have HS : Hid (PW w (fun m => if m < i + 1 then F m else wd x m) (wd y) _) := Lib.hid (hset.congr (fun m hm => by
        by_cases h : m = i
        · rw [if_pos h, if_pos (by omega), h]
        · rw [if_neg h]
          by_cases h2 : m < i
          · rw [if_pos h2, if_pos (by omega)]
          · rw [if_neg h2, if_neg (by omega)]))
      have kadd := sub64 (wd x i) (wd y i) (G i) (wd_wf x i).1 (wd_wf y i).1 (wd_wf y i).2 (L5.out i).1 (L5.out i).2
      rw [L1.out, L2.out] at kadd
      clear hset hs
      generalize F i = z at *
      generalize wd x i = p at *
      generalize wd y i = p2 at *
      generalize G i = c0 at *
      go_wp2_with fail
      go_region
      go_wp2_with fail
      go_roundw
      case rel => exact ⟨i + 1, by omega, by go_num, rfl, HS.out⟩
      case measure => simp [intOf]; omega
    · obtain rfl : i = 4 := by omega
      replace hs := hs.congr (f' := F) (fun m hm => by rw [if_pos (by omega)])
      rw [L3.out]
      have ho := hs.a.out
      have hr := hs.r.out
      have hbb := hs.b
      clear hs
      go_wp2_with (first | (refine wpList_load_row rfl 23 (.tmp 2) rfl w.heap.size rfl 23 (acells F) (0, 0) _ ho Tryz.underlying23 rfl size23 ?_)
                         | (refine wpList_store_row rfl 23 (.tmp 4) (.tmp 27) rfl (w.heap.size + 1 + 1) (acells F) ?_ ?_ 23 _ hr size23 ?_ ?_ ?_; (· rfl); (· rfl); (· rfl); (· simp [acells, Value.oneCell'])))
      (try simp only [Exit.inBlock, Exit.then])
      refine bodyPost_ret (results_cell_row_tmp rfl _ _ (w.heap.size + 1 + 1) 23 (acells F) (0, 0) _ rfl (setRow_heap _ _ _ _ _ _ hr) Tryz.underlying23 rfl size23 (.int .u64 0) rfl) rfl ?_
      exact ⟨rfl, below_row hbb (by omega) _⟩
end Go.Proofs.YtaepgdkpaffaaaaGreatDoor

/- limbs.Bit at four words; package binary: mask, Field, Lay, Of. -/
namespace Go.Proofs.YtaepgdkpaffaaaaGreatDoor
open Go.RowKit Go.Proofs.YtaepgdkpaffaaaaGreatDoorW.PrintWords Cal

theorem bit_word {x n q s : Nat} (hn : n = 64 * q + s) (hs : s < 64) : bits .and .u64 (wd x q / 2 ^ s) 1 = ((x / 2 ^ n % 2 : Nat) : Int) := by
  have h1 := shrW_wf (wd_wf x q) s
  have h := bits_and_nat (shrW (wd x q) s).toNat 1 (by omega) (by omega)
  rw [Int.toNat_of_nonneg h1.1, shrW_nat (wd_wf x q).1, wd_nat, Nat.and_one_is_mod] at h
  have e : x / B ^ q % B / 2 ^ s % 2 = x / 2 ^ n % 2 := by
    rw [← pow_splitN (show s ≤ 64 by omega), Nat.mod_mul_right_div_self, pow_splitN (by omega), hn, Nat.pow_add, Nat.pow_mul, ← B_pow, ← Nat.div_div_eq_div_mul]
    refine Nat.mod_mod_of_dvd _ ⟨2 ^ (63 - s), ?_⟩
    rw [← Nat.pow_succ', show (63 - s).succ = 64 - s by omega]
  rw [e] at h
  exact h
set_option maxRecDepth 100000 in
theorem lbit_c (x n : Nat) (w : World) (hn : n < 256) :
    Calls Tryz.prog 89 #[bv x, .int .i64 n] w (fun e w' => e = .returned (.int .u64 ((x / 2 ^ n % 2 : Nat) : Int)) ∧ Below w.heap.size w w') := by
  obtain ⟨q, hq⟩ : ∃ q, q = n / 64 := ⟨_, rfl⟩
  obtain ⟨s, hs⟩ : ∃ s, s = n % 64 := ⟨_, rfl⟩
  have hs64 : s < 64 := by omega
  have e1 : (n : Int) / 64 = (q : Int) := by omega
  have e2 : (n : Int) % 64 = (s : Int) := by omega
  have q4 : (q : Int) < 4 := by omega
  have q0 : (0 : Int) ≤ (q : Int) := by omega
  have hn2 : (n : Int) < 256 := by omega
  have hq4 : q < 4 := by omega
  have hb := bit_word (x := x) (show n = 64 * q + s by omega) hs64
  generalize ((x / 2 ^ n % 2 : Nat) : Int) = r at *
  have HA := Lib.hid (arr_new w x 23)
  have HB := Lib.hid ((Below.refl w.heap.size w).alloc (Nat.le_refl _) (.cells #[.int .u64 (wd x 0), .int .u64 (wd x 1), .int .u64 (wd x 2), .int .u64 (wd x 3)] 23))
  clear hq hs
  unfold bv
  go_enter Tryz.func89, Tryz.ntmps89
  go_upto_region 1 with fail
  generalize (w.alloc (.cells #[.int .u64 (wd x 0), .int .u64 (wd x 1), .int .u64 (wd x 2), .int .u64 (wd x 3)] 23)) = W at *
  have hA := HA.out.cell
  have ha_0 := hA 0 (by omega)
  have ha_1 := hA 1 (by omega)
  have ha_2 := hA 2 (by omega)
  have ha_3 := hA 3 (by omega)
  have hc := hA q hq4
  clear hA
  go_wp2_with fail
  go_ret
  exact ⟨rfl, HB.out⟩
theorem two_pow_lt {n : Nat} (h : n < 256) : 2 ^ n < 2 ^ 256 := Nat.pow_lt_pow_right (by omega) h
set_option maxRecDepth 100000 in
theorem mask_c (n : Nat) (w : World) (hn : n < 256) :
    Calls Tryz.prog 153 #[.int .i64 n] w (fun e w' => e = .returned (bv (2 ^ n - 1)) ∧ Below w.heap.size w w') := by
  have C1 := Lib.hid (fun W => lof_1 W)
  have C2 := Lib.hid (fun W => lshl_c 1 n W (by omega))
  rw [Nat.one_mul] at C2
  have C3 := Lib.hid (fun W => lsub_c (2 ^ n) 1 W (two_pow_lt hn) (Nat.one_le_two_pow))
  have eb : bv (2 ^ n - 1) = .agg (acells (wd (2 ^ n - 1))) := rfl
  rw [eb] at C3 ⊢
  generalize wd (2 ^ n - 1) = F at *
  generalize bv 1 = v1 at *
  generalize bv (2 ^ n) = v2 at *
  have hn2 : (n : Int) < 256 := by omega
  clear eb
  unfold acells at C3
  have h0 := Lib.hid (heap_alloc_new w (.cells #[.int .u64 0, .int .u64 0, .int .u64 0, .int .u64 0] 24))
  have hb0 := Lib.hid ((Below.refl w.heap.size w).alloc (Nat.le_refl _) (.cells #[.int .u64 0, .int .u64 0, .int .u64 0, .int .u64 0] 24))
  have hl0 := Lib.hid (show w.heap.size < (w.alloc (.cells #[.int .u64 0, .int .u64 0, .int .u64 0, .int .u64 0] 24)).heap.size by rw [size_alloc]; omega)
  go_enter Tryz.func153, Tryz.ntmps153
  go_wp2_with fail
  (with_reducible refine (C1.out _).mono ?_); rintro e w1 ⟨rfl, hb1⟩
  go_wp2_with fail
  (with_reducible refine (C2.out _).mono ?_); rintro e w2 ⟨rfl, hb2⟩
  go_wp2_with fail
  (with_reducible refine (C1.out _).mono ?_); rintro e w3 ⟨rfl, hb3⟩
  go_wp2_with fail
  (with_reducible refine (C3.out _).mono ?_); rintro e w4 ⟨rfl, hb4⟩
  have hB := btrans (btrans (btrans hb1 hb2) hb3) hb4
  have HB := Lib.hid (((btrans hb0.out hB)).alloc (btrans hb0.out hB).size (.cells #[.int .u64 (F 0), .int .u64 (F 1), .int .u64 (F 2), .int .u64 (F 3)] 23))
  have hr := (heap_alloc_old w4 (.cells #[.int .u64 (F 0), .int .u64 (F 1), .int .u64 (F 2), .int .u64 (F 3)] 23) (Nat.lt_of_lt_of_le hl0.out hB.size)).trans ((hB.block _ hl0.out).trans h0.out)
  have ho := heap_alloc_new w4 (.cells #[.int .u64 (F 0), .int .u64 (F 1), .int .u64 (F 2), .int .u64 (F 3)] 23)
  clear hb1 hb2 hb3 hb4 hB
  go_upto_region 2 with fail
  generalize (w4.alloc (.cells #[.int .u64 (F 0), .int .u64 (F 1), .int .u64 (F 2), .int .u64 (F 3)] 23)) = W at *
  generalize w4.heap.size = g4 at *
  go_wp2_with (first | (refine wpList_load_row rfl 23 (.tmp 3) rfl g4 rfl 23 (acells F) (0, 0) _ ho Tryz.underlying23 rfl size23 ?_)
                     | (refine wpList_store_row rfl 24 (.tmp 2) (.tmp 21) rfl w.heap.size (acells F) ?_ ?_ 24 _ hr size24 ?_ ?_ ?_; (· rfl); (· rfl); (· rfl); (· simp [acells, Value.oneCell'])))
  (try simp only [Exit.inBlock, Exit.then])
  refine bodyPost_ret (results_cell_row rfl _ _ w.heap.size 24 (acells F) (0, 0) _ rfl (setRow_heap _ _ _ _ _ _ hr) Tryz.underlying24 rfl size24) rfl ?_
  exact ⟨rfl, below_row HB.out (Nat.le_refl _) _⟩

theorem arr_at (W : World) (x t : Nat) (o : Obj) : Arr ((W.alloc (.cells #[.int .u64 (wd x 0), .int .u64 (wd x 1), .int .u64 (wd x 2), .int .u64 (wd x 3)] t)).alloc o) W.heap.size t (wd x) := (arr_new W x t).alloc o
/-- The and of a number and a mask. -/
theorem field_eq (x a n : Nat) : x / 2 ^ a &&& (2 ^ n - 1) = x / 2 ^ a % 2 ^ n := Nat.and_two_pow_sub_one_eq_mod _ _
set_option maxRecDepth 100000 in
theorem field_c (x a n : Nat) (w : World) (hx : x < 2 ^ 256) (ha : a ≤ 100000) (hn : n < 256) :
    Calls Tryz.prog 88 #[bv x, .int .i64 a, .int .i64 n] w (fun e w' => e = .returned (bv (x / 2 ^ a % 2 ^ n)) ∧ Below w.heap.size w w') := by
  have C1 := Lib.hid (fun W => lshr_c x a W hx ha)
  have C2 := Lib.hid (fun W => mask_c n W hn)
  have C3 := Lib.hid (fun W => band_c (x / 2 ^ a) (2 ^ n - 1) W)
  rw [field_eq] at C3
  have eb : bv (x / 2 ^ a % 2 ^ n) = .agg (acells (wd (x / 2 ^ a % 2 ^ n))) := rfl
  rw [eb] at C3 ⊢
  generalize wd (x / 2 ^ a % 2 ^ n) = F at *
  generalize bv (x / 2 ^ a) = v1 at *
  generalize bv (2 ^ n - 1) = v2 at *
  clear eb hx ha hn
  have e1 := size_alloc w (.cells #[.int .u64 (wd x 0), .int .u64 (wd x 1), .int .u64 (wd x 2), .int .u64 (wd x 3)] 24)
  have h0 := heap_alloc_new (w.alloc (.cells #[.int .u64 (wd x 0), .int .u64 (wd x 1), .int .u64 (wd x 2), .int .u64 (wd x 3)] 24)) (.cells #[.int .u64 0, .int .u64 0, .int .u64 0, .int .u64 0] 24)
  rw [e1] at h0
  have hb0 := Lib.hid (((Below.refl w.heap.size w).alloc (Nat.le_refl _) (.cells #[.int .u64 (wd x 0), .int .u64 (wd x 1), .int .u64 (wd x 2), .int .u64 (wd x 3)] 24)).alloc (by omega) (.cells #[.int .u64 0, .int .u64 0, .int .u64 0, .int .u64 0] 24))
  have hl0 := Lib.hid (show w.heap.size + 1 < ((w.alloc (.cells #[.int .u64 (wd x 0), .int .u64 (wd x 1), .int .u64 (wd x 2), .int .u64 (wd x 3)] 24)).alloc (.cells #[.int .u64 0, .int .u64 0, .int .u64 0, .int .u64 0] 24)).heap.size by rw [size_alloc]; omega)
  have H0 := Lib.hid h0
  clear h0 e1
  unfold bv at C1 ⊢
  go_enter Tryz.func88, Tryz.ntmps88
  go_wp2_with fail
  (with_reducible refine (C1.out _).mono ?_); rintro e w1 ⟨rfl, hb1⟩
  go_wp2_with fail
  (with_reducible refine (C2.out _).mono ?_); rintro e w2 ⟨rfl, hb2⟩
  go_wp2_with fail
  (with_reducible refine (C3.out _).mono ?_); rintro e w3 ⟨rfl, hb3⟩
  have hB := btrans (btrans hb1 hb2) hb3
  have hr := (hB.block _ hl0.out).trans H0.out
  have HB := Lib.hid (btrans hb0.out hB)
  clear hb1 hb2 hb3 hB
  go_wp2_with (refine wpList_store_row rfl 24 (.tmp 6) (.tmp 12) rfl (w.heap.size + 1) (acells F) ?_ ?_ 24 _ hr size24 ?_ ?_ ?_; (· rfl); (· rfl); (· rfl); (· simp [acells, Value.oneCell']))
  (try simp only [Exit.inBlock, Exit.then])
  refine bodyPost_ret (results_cell_row rfl _ _ (w.heap.size + 1) 24 (acells F) (0, 0) _ rfl (setRow_heap _ _ _ _ _ _ hr) Tryz.underlying24 rfl size24) rfl ?_
  exact ⟨rfl, below_row HB.out (by omega) _⟩
/-- Two patterns and a result's cell. -/
theorem QW.lt {w : World} {f g : Nat → Int} {W : World} (h : QW w f g W) : w.heap.size + 1 + 1 < W.heap.size := h.r.lt
theorem QW.ext {w : World} {f g : Nat → Int} {W W' : World} (h : QW w f g W) (hb : Below W.heap.size W W') : QW w f g W' := ⟨h.a.ext hb, h.c.ext hb, h.r.ext hb, btrans h.b hb⟩
theorem QW.s8 {w : World} {f g : Nat → Int} {W : World} (h : QW w f g W) :
    W.cell? ⟨w.heap.size, 0, none⟩ = some (.int .u64 (f 0)) ∧ W.cell? ⟨w.heap.size, 1, none⟩ = some (.int .u64 (f 1)) ∧ W.cell? ⟨w.heap.size, 2, none⟩ = some (.int .u64 (f 2)) ∧ W.cell? ⟨w.heap.size, 3, none⟩ = some (.int .u64 (f 3)) ∧
    W.cell? ⟨w.heap.size + 1, 0, none⟩ = some (.int .u64 (g 0)) ∧ W.cell? ⟨w.heap.size + 1, 1, none⟩ = some (.int .u64 (g 1)) ∧ W.cell? ⟨w.heap.size + 1, 2, none⟩ = some (.int .u64 (g 2)) ∧ W.cell? ⟨w.heap.size + 1, 3, none⟩ = some (.int .u64 (g 3)) :=
  ⟨h.a.cell 0 (by omega), h.a.cell 1 (by omega), h.a.cell 2 (by omega), h.a.cell 3 (by omega), h.c.cell 0 (by omega), h.c.cell 1 (by omega), h.c.cell 2 (by omega), h.c.cell 3 (by omega)⟩
theorem QW.s8st {w : World} {f g : Nat → Int} {W : World} (h : QW w f g W) (v0 v1 v2 v3 : Value) (W' : World) (e : W' = ((((W.setCell ⟨w.heap.size + 1 + 1, 0, none⟩ v0).setCell ⟨w.heap.size + 1 + 1, 1, none⟩ v1).setCell ⟨w.heap.size + 1 + 1, 2, none⟩ v2).setCell ⟨w.heap.size + 1 + 1, 3, none⟩ v3)) :
    W'.cell? ⟨w.heap.size, 0, none⟩ = some (.int .u64 (f 0)) ∧ W'.cell? ⟨w.heap.size, 1, none⟩ = some (.int .u64 (f 1)) ∧ W'.cell? ⟨w.heap.size, 2, none⟩ = some (.int .u64 (f 2)) ∧ W'.cell? ⟨w.heap.size, 3, none⟩ = some (.int .u64 (f 3)) ∧
    W'.cell? ⟨w.heap.size + 1, 0, none⟩ = some (.int .u64 (g 0)) ∧ W'.cell? ⟨w.heap.size + 1, 1, none⟩ = some (.int .u64 (g 1)) ∧ W'.cell? ⟨w.heap.size + 1, 2, none⟩ = some (.int .u64 (g 2)) ∧ W'.cell? ⟨w.heap.size + 1, 3, none⟩ = some (.int .u64 (g 3)) := by
  have a := ((((h.a.far (g' := w.heap.size + 1 + 1) (k := 0) (by omega) v0).far (g' := w.heap.size + 1 + 1) (k := 1) (by omega) v1).far (g' := w.heap.size + 1 + 1) (k := 2) (by omega) v2).far (g' := w.heap.size + 1 + 1) (k := 3) (by omega) v3)
  have c := ((((h.c.far (g' := w.heap.size + 1 + 1) (k := 0) (by omega) v0).far (g' := w.heap.size + 1 + 1) (k := 1) (by omega) v1).far (g' := w.heap.size + 1 + 1) (k := 2) (by omega) v2).far (g' := w.heap.size + 1 + 1) (k := 3) (by omega) v3)
  subst e
  exact ⟨a.cell 0 (by omega), a.cell 1 (by omega), a.cell 2 (by omega), a.cell 3 (by omega), c.cell 0 (by omega), c.cell 1 (by omega), c.cell 2 (by omega), c.cell 3 (by omega)⟩
theorem arr_put4 {W : World} {g t : Nat} {f : Nat → Int} (h : Arr W g t f) (v0 v1 v2 v3 : Value) :
    ((((W.setCell ⟨g, 0, none⟩ v0).setCell ⟨g, 1, none⟩ v1).setCell ⟨g, 2, none⟩ v2).setCell ⟨g, 3, none⟩ v3).heap[g]? = some (.cells #[v0, v1, v2, v3] t (0, 0)) :=
  heap_setCell_same _ g 3 _ t v3 (heap_setCell_same _ g 2 _ t v2 (heap_setCell_same _ g 1 _ t v1 (heap_setCell_same _ g 0 _ t v0 h.out)))
theorem below_put4 {w W : World} {B g : Nat} (h : Below B w W) (hg : B ≤ g) (v0 v1 v2 v3 : Value) :
    Below B w ((((W.setCell ⟨g, 0, none⟩ v0).setCell ⟨g, 1, none⟩ v1).setCell ⟨g, 2, none⟩ v2).setCell ⟨g, 3, none⟩ v3) :=
  (((h.setCell (p := ⟨g, 0, none⟩) hg v0).setCell (p := ⟨g, 1, none⟩) hg v1).setCell (p := ⟨g, 2, none⟩) hg v2).setCell (p := ⟨g, 3, none⟩) hg v3
set_option maxRecDepth 100000 in
theorem lay_c (x y a : Nat) (w : World) (ha : a ≤ 100000) :
    Calls Tryz.prog 90 #[bv x, bv y, .int .i64 a] w (fun e w' => e = .returned (bv (x ||| y * 2 ^ a)) ∧ Below w.heap.size w w') := by
  have C1 := Lib.hid (fun W => lshl_c y a W ha)
  have C2 := Lib.hid (fun W => bor_c x (y * 2 ^ a) W)
  have eb : bv (x ||| y * 2 ^ a) = .agg (acells (wd (x ||| y * 2 ^ a))) := rfl
  rw [eb] at C2 ⊢
  generalize wd (x ||| y * 2 ^ a) = F at *
  generalize bv (y * 2 ^ a) = v1 at *
  clear eb ha
  have HS0 := Lib.hid (QW.start w x y)
  unfold bv at C1 C2 ⊢
  unfold acells at C2
  generalize wd x = fx at *
  generalize wd y = fy at *
  go_enter Tryz.func90, Tryz.ntmps90
  go_upto_region 1 with fail
  generalize (((w.alloc (.cells #[.int .u64 (fx 0), .int .u64 (fx 1), .int .u64 (fx 2), .int .u64 (fx 3)] 24)).alloc (.cells #[.int .u64 (fy 0), .int .u64 (fy 1), .int .u64 (fy 2), .int .u64 (fy 3)] 24)).alloc (.cells #[.int .u64 0, .int .u64 0, .int .u64 0, .int .u64 0] 24)) = W at *
  have HSd := Lib.hid HS0.out.drew
  go_region_held (fun w' => w'.cell? ⟨w.heap.size, 0, none⟩ = some (.int .u64 (fx 0)) ∧ w'.cell? ⟨w.heap.size, 1, none⟩ = some (.int .u64 (fx 1)) ∧ w'.cell? ⟨w.heap.size, 2, none⟩ = some (.int .u64 (fx 2)) ∧ w'.cell? ⟨w.heap.size, 3, none⟩ = some (.int .u64 (fx 3)) ∧
    w'.cell? ⟨w.heap.size + 1, 0, none⟩ = some (.int .u64 (fy 0)) ∧ w'.cell? ⟨w.heap.size + 1, 1, none⟩ = some (.int .u64 (fy 1)) ∧ w'.cell? ⟨w.heap.size + 1, 2, none⟩ = some (.int .u64 (fy 2)) ∧ w'.cell? ⟨w.heap.size + 1, 3, none⟩ = some (.int .u64 (fy 3)))
    (first | (with_reducible exact QW.s8 HSd.out) | (with_reducible exact QW.s8 U1.out) | (with_reducible exact QW.s8 U2.out) | (with_reducible exact QW.s8st U2.out _ _ _ _ _ rfl))
    (first | (go_at_call 36; (with_reducible refine (C1.out _).mono ?_); rintro e w1 ⟨rfl, hb1⟩; have U1 := Lib.hid (HSd.out.ext hb1))
           | (go_at_call 154; (with_reducible refine (C2.out _).mono ?_); rintro e w2 ⟨rfl, hb2⟩; have U2 := Lib.hid (U1.out.ext hb2); have f2 := U2.out.r.free; have c0 := U2.out.r.cell 0 (by omega); have c1 := U2.out.r.cell 1 (by omega); have c2 := U2.out.r.cell 2 (by omega); have c3 := U2.out.r.cell 3 (by omega)))
  have hr := arr_put4 U2.out.r (.int .u64 (F 0)) (.int .u64 (F 1)) (.int .u64 (F 2)) (.int .u64 (F 3))
  have hbb := Lib.hid (below_put4 U2.out.b (g := w.heap.size + 1 + 1) (by omega) (.int .u64 (F 0)) (.int .u64 (F 1)) (.int .u64 (F 2)) (.int .u64 (F 3)))
  generalize ((((w2.setCell ⟨w.heap.size + 1 + 1, 0, none⟩ (.int .u64 (F 0))).setCell ⟨w.heap.size + 1 + 1, 1, none⟩ (.int .u64 (F 1))).setCell ⟨w.heap.size + 1 + 1, 2, none⟩ (.int .u64 (F 2))).setCell ⟨w.heap.size + 1 + 1, 3, none⟩ (.int .u64 (F 3))) = W9 at *
  clear f2 c0 c1 c2 c3
  simp only [Exit.then]
  go_wp2_with fail
  refine bodyPost_ret (results_cell_row rfl _ _ (w.heap.size + 1 + 1) 24 (acells F) (0, 0) _ rfl hr Tryz.underlying24 rfl size24) rfl ?_
  exact ⟨rfl, hbb.out⟩
theorem bv_small (k : Int) (h0 : 0 ≤ k) (h1 : k < 18446744073709551616) : bv k.toNat = .agg #[.int .u64 k, .int .u64 0, .int .u64 0, .int .u64 0] := by
  have h : ∀ i, k.toNat / B ^ (i + 1) = 0 := fun i => by
    refine Nat.div_eq_of_lt ?_
    have : B ^ 1 ≤ B ^ (i + 1) := Nat.pow_le_pow_right B_pos (by omega)
    have hB : B = 18446744073709551616 := rfl
    rw [Nat.pow_one] at this
    omega
  have h1 := h 0
  have h2 := h 1
  have h3 := h 2
  simp only [bv, wd, Nat.pow_zero, Nat.div_one, h1, h2, h3, Nat.zero_mod]
  have hB : B = 18446744073709551616 := rfl
  rw [Nat.mod_eq_of_lt (by omega), Int.toNat_of_nonneg h0]
  rfl
theorem bof_c (k : Int) (w : World) (h0 : 0 ≤ k) (h1 : k < 9223372036854775808) : Calls Tryz.prog 91 #[.int .i64 k] w (fun e w' => e = .returned (bv k.toNat) ∧ Below w.heap.size w w') := by
  rw [bv_small k h0 (by omega)]
  have hw : IntKind.u64.wrap k = k := IntWalk.u64_in _ (by omega)
  go_enter Tryz.func91, Tryz.ntmps91
  go_wp2_with fail
  refine bodyPost_ret (results_cell_row rfl _ _ w.heap.size 24 #[.int .u64 k, .int .u64 0, .int .u64 0, .int .u64 0] (0, 0) _ rfl (heap_alloc_new _ _) Tryz.underlying24 rfl size24) rfl ?_
  exact ⟨rfl, ((Below.refl _ _).alloc (Nat.le_refl _) _)⟩
end Go.Proofs.YtaepgdkpaffaaaaGreatDoor
