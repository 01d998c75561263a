import Derived.Test.YtaepgdkpaffaaaaGreatDoorG9
import Derived.IntWalk
set_option linter.unusedVariables false
set_option linter.unusedSimpArgs false
/- Arrays of four words in a block of their own; words of what is shifted. -/
namespace Go.Proofs.YtaepgdkpaffaaaaGreatDoor
open Go.RowKit Go.Proofs.YtaepgdkpaffaaaaGreatDoorW.PrintWords Cal

def acells (f : Nat → Int) : Array Value := #[.int .u64 (f 0), .int .u64 (f 1), .int .u64 (f 2), .int .u64 (f 3)]
/-- An array of four words that fills a block. -/
structure Arr (W : World) (g t : Nat) (f : Nat → Int) : Prop where
  out : W.heap[g]? = some (.cells (acells f) t (0, 0))
theorem Arr.lt {W : World} {g t : Nat} {f : Nat → Int} (h : Arr W g t f) : g < W.heap.size := by
  have := h.out
  rcases Nat.lt_or_ge g W.heap.size with h1 | h1
  · exact h1
  · rw [Array.getElem?_eq_none h1] at this; cases this
theorem Arr.cell {W : World} {g t : Nat} {f : Nat → Int} (h : Arr W g t f) (k : Nat) (hk : k < 4) : W.cell? ⟨g, k, none⟩ = some (.int .u64 (f k)) := by
  have : k = 0 ∨ k = 1 ∨ k = 2 ∨ k = 3 := by omega
  rcases this with rfl | rfl | rfl | rfl <;> exact cell_of_heap h.out rfl
theorem Arr.free {W : World} {g t : Nat} {f : Nat → Int} (h : Arr W g t f) (k : Nat) : W.frozen? ⟨g, k, none⟩ = false := frozen_of_heap h.out
theorem Arr.congr {W : World} {g t : Nat} {f f' : Nat → Int} (h : Arr W g t f) (e : ∀ j, j < 4 → f j = f' j) : Arr W g t f' := by
  refine ⟨h.out.trans ?_⟩
  unfold acells
  rw [e 0 (by omega), e 1 (by omega), e 2 (by omega), e 3 (by omega)]
theorem Arr.set {W : World} {g t : Nat} {f : Nat → Int} (h : Arr W g t f) {k : Nat} (hk : k < 4) (v : Int) : Arr (W.setCell ⟨g, k, none⟩ (.int .u64 v)) g t (fun j => if j = k then v else f j) := by
  refine ⟨(heap_setCell_same _ g k _ t (.int .u64 v) h.out).trans ?_⟩
  have : k = 0 ∨ k = 1 ∨ k = 2 ∨ k = 3 := by omega
  rcases this with rfl | rfl | rfl | rfl <;> rfl
theorem Arr.below {W W' : World} {g t : Nat} {f : Nat → Int} (h : Arr W g t f) {B : Nat} (hb : Below B W W') (hg : g < B) : Arr W' g t f := ⟨(hb.block _ hg).trans h.out⟩
theorem Arr.ext {W W' : World} {g t : Nat} {f : Nat → Int} (h : Arr W g t f) (hb : Below W.heap.size W W') : Arr W' g t f := h.below hb h.lt
theorem Arr.far {W : World} {g t : Nat} {f : Nat → Int} (h : Arr W g t f) {g' k : Nat} (hne : g < g') (v : Value) : Arr (W.setCell ⟨g', k, none⟩ v) g t f :=
  h.below (Below.setCell (Below.refl g' W) (p := ⟨g', k, none⟩) (Nat.le_refl _) v) hne
theorem Arr.drew {W : World} {g t : Nat} {f : Nat → Int} (h : Arr W g t f) : Arr W.drew g t f := ⟨h.out⟩
theorem Arr.alloc {W : World} {g t : Nat} {f : Nat → Int} (h : Arr W g t f) (o : Obj) : Arr (W.alloc o) g t f := h.ext ((Below.refl _ _).alloc (Nat.le_refl _) o)
theorem arr_new (W : World) (x t : Nat) : Arr (W.alloc (.cells #[.int .u64 (wd x 0), .int .u64 (wd x 1), .int .u64 (wd x 2), .int .u64 (wd x 3)] t)) W.heap.size t (wd x) := ⟨heap_alloc_new _ _⟩
theorem arr_zero (W : World) (t : Nat) : Arr (W.alloc (.cells #[.int .u64 0, .int .u64 0, .int .u64 0, .int .u64 0] t)) W.heap.size t (fun _ => 0) := ⟨heap_alloc_new _ _⟩
theorem size_alloc (W : World) (o : Obj) : (W.alloc o).heap.size = W.heap.size + 1 := by
  show (W.heap.push _).size = _
  rw [Array.size_push]
theorem size23 : (Tryz.prog.info? 23).map (·.size) = some 4 := by kernel_rfl

theorem left_lo {x n q s j : Nat} (hn : n = 64 * q + s) (hj : j < q) : wd (x * 2 ^ n) j = 0 := by
  unfold wd
  have : x * 2 ^ n / B ^ j % B = 0 := by
    obtain ⟨d, rfl⟩ : ∃ d, q = j + 1 + d := ⟨q - (j + 1), by omega⟩
    rw [hn, Nat.pow_add, Nat.pow_mul, ← B_pow, Nat.pow_add, Nat.pow_succ]
    have e : x * (B ^ j * B * B ^ d * 2 ^ s) = B ^ j * (B * (x * B ^ d * 2 ^ s)) := by grind
    rw [e, Nat.mul_div_cancel_left _ (Nat.pow_pos B_pos), Nat.mul_mod_right]
  rw [this]; rfl
theorem left_at {x n q s i : Nat} (hn : n = 64 * q + s) : x * 2 ^ n / B ^ (q + i) = x * 2 ^ s / B ^ i := by
  rw [hn, Nat.pow_add, Nat.pow_mul, ← B_pow, Nat.pow_add]
  have e : x * (B ^ q * 2 ^ s) = B ^ q * (x * 2 ^ s) := by grind
  rw [e, Nat.mul_div_mul_left _ _ (Nat.pow_pos B_pos)]
theorem left_first {x n q s : Nat} (hn : n = 64 * q + s) : wd (x * 2 ^ n) q = shlW (wd x 0) s := by
  have h := left_at (x := x) (i := 0) hn
  have e1 := shlW_nat (wd_wf x 0).1 s
  have e2 := (shlW_wf (wd x 0) s).1
  rw [Nat.add_zero, Nat.pow_zero, Nat.div_one] at h
  rw [wd_nat, Nat.pow_zero, Nat.div_one] at e1
  have e3 : x * 2 ^ n / B ^ q % B = x % B * 2 ^ s % B := by rw [h, Nat.mul_mod x, Nat.mul_mod (x % B) (2 ^ s), Nat.mod_mod]
  unfold wd at *
  omega
theorem left_next {x n q s i : Nat} (hn : n = 64 * q + s) (hs : s ≤ 64) : wd (x * 2 ^ n) (q + i + 1) = shlW (wd x (i + 1)) s + shrW (wd x i) (64 - s) := by
  have h := left_at (x := x) (i := i + 1) hn
  have e0 : x * 2 ^ s / B ^ (i + 1) = x / B ^ i / 2 ^ (64 - s) := by
    have e : B ^ (i + 1) = B ^ i * 2 ^ (64 - s) * 2 ^ s := by
      have := pow_splitN hs
      rw [Nat.pow_succ]
      generalize B ^ i = b at *
      generalize 2 ^ s = c at *
      generalize 2 ^ (64 - s) = d at *
      rw [← this]
      grind
    rw [Nat.div_div_eq_div_mul, e, Nat.mul_div_mul_right _ _ (Nat.two_pow_pos s)]
  have hw := shr_word (V := x / B ^ i) (p := x / B ^ i % B) (q := x / B ^ i / B % B) (s := 64 - s) (by omega) (Nat.mod_lt _ B_pos) rfl rfl
  rw [show 64 - (64 - s) = s by omega, Nat.div_div_eq_div_mul (x) (B ^ i) B, ← Nat.pow_succ] at hw
  have e1 := shlW_nat (wd_wf x (i + 1)).1 s
  have e2 := (shlW_wf (wd x (i + 1)) s).1
  have e3 := shrW_nat (wd_wf x i).1 (64 - s)
  have e4 := (shrW_wf (wd_wf x i) (64 - s)).1
  rw [wd_nat] at e1 e3
  have e5 : x * 2 ^ n / B ^ (q + i + 1) % B = x / B ^ i % B / 2 ^ (64 - s) + x / B ^ (i + 1) % B * 2 ^ s % B := by
    rw [Nat.add_assoc, h, e0, hw]
  unfold wd at *
  omega
end Go.Proofs.YtaepgdkpaffaaaaGreatDoor

/- limbs, at four words: Shl. -/
namespace Go.Proofs.YtaepgdkpaffaaaaGreatDoor
open Go.RowKit Go.Proofs.YtaepgdkpaffaaaaGreatDoorW.PrintWords Cal

/-- What lies in memory while Shl and Shr run: the number, the result's cell, the new words. -/
structure SW (w : World) (x : Nat) (f : Nat → Int) (W : World) : Prop where
  a : Arr W w.heap.size 23 (wd x)
  r : Arr W (w.heap.size + 1) 23 (fun _ => 0)
  o : Arr W (w.heap.size + 1 + 1) 23 f
  b : Below w.heap.size w W
theorem SW.start (w : World) (x : Nat) : SW w x (fun _ => 0) (((w.alloc (.cells #[.int .u64 (wd x 0), .int .u64 (wd x 1), .int .u64 (wd x 2), .int .u64 (wd x 3)] 23)).alloc (.cells #[.int .u64 0, .int .u64 0, .int .u64 0, .int .u64 0] 23)).alloc (.cells #[.int .u64 0, .int .u64 0, .int .u64 0, .int .u64 0] 23)) := by
  have e1 := size_alloc w (.cells #[.int .u64 (wd x 0), .int .u64 (wd x 1), .int .u64 (wd x 2), .int .u64 (wd x 3)] 23)
  have e2 := size_alloc (w.alloc (.cells #[.int .u64 (wd x 0), .int .u64 (wd x 1), .int .u64 (wd x 2), .int .u64 (wd x 3)] 23)) (.cells #[.int .u64 0, .int .u64 0, .int .u64 0, .int .u64 0] 23)
  have a2 := arr_zero (w.alloc (.cells #[.int .u64 (wd x 0), .int .u64 (wd x 1), .int .u64 (wd x 2), .int .u64 (wd x 3)] 23)) 23
  have a3 := arr_zero ((w.alloc (.cells #[.int .u64 (wd x 0), .int .u64 (wd x 1), .int .u64 (wd x 2), .int .u64 (wd x 3)] 23)).alloc (.cells #[.int .u64 0, .int .u64 0, .int .u64 0, .int .u64 0] 23)) 23
  rw [e1] at a2
  rw [e2, e1] at a3
  exact ⟨((arr_new w x 23).alloc _).alloc _, a2.alloc _, a3, (((Below.refl _ _).alloc (Nat.le_refl _) _).alloc (by omega) _).alloc (by omega) _⟩
theorem SW.set {w : World} {x : Nat} {f : Nat → Int} {W : World} (h : SW w x f W) {k : Nat} (hk : k < 4) (v : Int) : SW w x (fun j => if j = k then v else f j) (W.setCell ⟨w.heap.size + 1 + 1, k, none⟩ (.int .u64 v)) :=
  ⟨h.a.far (by omega) _, h.r.far (by omega) _, h.o.set hk v, h.b.setCell (show w.heap.size ≤ w.heap.size + 1 + 1 by omega) _⟩
theorem SW.drew {w : World} {x : Nat} {f : Nat → Int} {W : World} (h : SW w x f W) : SW w x f W.drew := ⟨h.a.drew, h.r.drew, h.o.drew, below_drew h.b⟩
theorem SW.congr {w : World} {x : Nat} {f f' : Nat → Int} {W : World} (h : SW w x f W) (e : ∀ j, j < 4 → f j = f' j) : SW w x f' W := ⟨h.a, h.r, h.o.congr e, h.b⟩
set_option maxRecDepth 100000 in
theorem lshl_c (x n : Nat) (w : World) (hn : n ≤ 100000) :
    Calls Tryz.prog 36 #[bv x, .int .i64 n] w (fun e w' => e = .returned (bv (x * 2 ^ n)) ∧ Below w.heap.size w w') := by
  rcases Nat.eq_zero_or_pos n with rfl | hn1
  · rw [Nat.pow_zero, Nat.mul_one]
    unfold bv
    go_enter Tryz.func36, Tryz.ntmps36
    go_wp2_with fail
    refine bodyPost_ret (results_cell_row rfl _ _ (w.heap.size + 1) 23 (bcells x) (0, 0) _ rfl (by rw [← size_alloc w]; exact heap_alloc_new _ _) Tryz.underlying23 rfl size23) rfl ?_
    exact ⟨rfl, (((Below.refl _ _).alloc (Nat.le_refl _) _).alloc (by rw [size_alloc]; omega) _)⟩
  · obtain ⟨q, hq⟩ : ∃ q, q = n / 64 := ⟨_, rfl⟩
    obtain ⟨s, hs⟩ : ∃ s, s = n % 64 := ⟨_, rfl⟩
    have hs64 : s < 64 := by omega
    have e1 : (n : Int) / 64 = (q : Int) := by omega
    have e2 : (n : Int) % 64 = (s : Int) := by omega
    have hq9 : q ≤ 10000 := by omega
    have HQ := Lib.hid (show n = 64 * q + s by omega)
    have eb : bv (x * 2 ^ n) = .agg (acells (wd (x * 2 ^ n))) := rfl
    rw [eb]
    have L0 := Lib.hid (fun i (hi : i < q) => left_lo (x := x) HQ.out hi)
    have L1 := Lib.hid (left_first (x := x) HQ.out)
    have L2 := Lib.hid (fun i => left_next (x := x) (i := i) HQ.out (show s ≤ 64 by omega))
    generalize wd (x * 2 ^ n) = F at *
    clear hq hs eb
    unfold bv
    go_enter Tryz.func36, Tryz.ntmps36
    go_wp2_with fail
    clear e1 e2
    go_loopw [8] (fun t8 wr => ∃ k : Nat, k ≤ 4 ∧ t8 = .int .i64 ((k : Int) - 1) ∧ SW w x (fun j => if k ≤ j then F j else 0) wr) (fun t8 _ => (intOf t8 + 1).toNat)
    case atStart => exact ⟨4, by omega, rfl, (SW.start w x).congr (fun j hj => by rw [if_neg (by omega)])⟩
    case round =>
      obtain ⟨k, hk, rfl, hs⟩ := hrel
      by_cases hkq : q < k
      · obtain ⟨i, rfl⟩ : ∃ i, k = i + 1 := ⟨k - 1, by omega⟩
        obtain ⟨j, hj⟩ : ∃ j, i = q + j := ⟨i - q, by omega⟩
        have HJ := Lib.hid hj
        have i4 : (i : Int) < 4 := by omega
        have i0 : (0 : Int) ≤ (i : Int) := by omega
        have j4 : (j : Int) < 4 := by omega
        have j0 : (0 : Int) ≤ (j : Int) := by omega
        have hqi : (q : Int) ≤ (i : Int) := by omega
        have eqi : ((i + 1 : Nat) : Int) - 1 = (i : Int) := by omega
        have eqj : (i : Int) - (q : Int) = (j : Int) := by omega
        have ha1 := hs.a.cell j (by omega)
        have ho1 := hs.o.cell i (by omega)
        have ho2 := hs.o.free i
        have hset := hs.set (k := i) (by omega) (shlW (wd x j) s)
        have HS := Lib.hid hset
        clear hset hs hj
        rw [eqi]
        clear eqi
        have kw : IntKind.u64.wrap (wd x j * 2 ^ s) = shlW (wd x j) s := by rw [IntKind.wrap_u64]; rfl
        go_upto_region 9 with fail
        clear ha1
        have hA := HS.out.a.cell
        have hb1 : (wr.setCell ⟨w.heap.size + 1 + 1, i, none⟩ (.int .u64 (shlW (wd x j) s))).cell? ⟨w.heap.size + 1 + 1, i, none⟩ = some (.int .u64 (shlW (wd x j) s)) := by
          have := HS.out.o.cell i (by omega)
          simpa using this
        have hb2 := HS.out.o.free i
        generalize (wr.setCell ⟨w.heap.size + 1 + 1, i, none⟩ (.int .u64 (shlW (wd x j) s))) = W1 at *
        clear kw ho1 ho2
        rcases Nat.eq_zero_or_pos s with hs0 | hs0
        · subst hs0
          have hrel : SW w x (fun m => if i ≤ m then F m else 0) W1 := HS.out.congr (fun m hm => by
            by_cases h : m = i
            · rw [if_pos h, if_pos (by omega), h, HJ.out]
              rcases Nat.eq_zero_or_pos j with rfl | hj0
              · exact L1.out.symm
              · obtain ⟨j, rfl⟩ : ∃ m, j = m + 1 := ⟨j - 1, by omega⟩
                have h9 := L2.out j
                have : shrW (wd x j) (64 - 0) = 0 := by
                  have := wd_wf x j
                  unfold shrW
                  exact Int.ediv_eq_zero_of_lt this.1 this.2
                rw [this, Int.add_zero] at h9
                exact h9.symm
            · rw [if_neg h]
              by_cases h2 : i + 1 ≤ m
              · rw [if_pos h2, if_pos (by omega)]
              · rw [if_neg h2, if_neg (by omega)])
          have HR := Lib.hid hrel
          clear hrel hA hb1 hb2
          go_wp2_with fail
          go_roundw
          case rel => exact ⟨i, by omega, by go_num, HR.out⟩
          case measure => simp [intOf]
        · have c1 : decide (0 < (s : Int)) = true := by simpa using hs0
          rcases Nat.eq_zero_or_pos j with rfl | hj0
          · have c2 : decide ((q : Int) < (i : Int)) = false := by have := HJ.out; simp; omega
            have hrel : SW w x (fun m => if i ≤ m then F m else 0) W1 := HS.out.congr (fun m hm => by
              by_cases h : m = i
              · rw [if_pos h, if_pos (by omega), h, HJ.out]
                exact L1.out.symm
              · rw [if_neg h]
                by_cases h2 : i + 1 ≤ m
                · rw [if_pos h2, if_pos (by omega)]
                · rw [if_neg h2, if_neg (by omega)])
            have HR := Lib.hid hrel
            clear hrel hA hb1 hb2
            go_wp2_with fail
            go_roundw
            case rel => exact ⟨i, by omega, by go_num, HR.out⟩
            case measure => simp [intOf]
          · obtain ⟨j, rfl⟩ : ∃ m, j = m + 1 := ⟨j - 1, by omega⟩
            have c2 : decide ((q : Int) < (i : Int)) = true := by have := HJ.out; simp; omega
            have hc1 := hA j (by omega)
            have r1 := wd_wf x (j + 1)
            have r2 := wd_wf x j
            have hor := or_shift r1 r2 (s := s) (by omega)
            have hnx := L2.out j
            rw [← hnx, Nat.add_assoc, ← HJ.out] at hor
            replace hor : bits .or .u64 (shlW (wd x (j + 1)) s) (wd x j / 2 ^ (64 - s)) = F i := hor
            have hset2 := (HS.out.set (k := i) (by omega) (F i)).drew
            have hrel : Hid (SW w x (fun m => if i ≤ m then F m else 0) _) := Lib.hid (hset2.congr (fun m hm => by
              by_cases h : m = i
              · rw [if_pos h, if_pos (by omega), h]
              · rw [if_neg h, if_neg h]
                by_cases h2 : i + 1 ≤ m
                · rw [if_pos h2, if_pos (by omega)]
                · rw [if_neg h2, if_neg (by omega)]))
            have ej1 : ((j + 1 : Nat) : Int) - 1 = (j : Int) := by omega
            have ej2 : ((j : Int) + 1) - 1 = (j : Int) := by omega
            have kw1 : IntKind.i64.wrap ((i : Int) - (q : Int)) = (j : Int) + 1 := by rw [eqj]; exact IntWalk.i64_in _ (by omega)
            have kw2 : IntKind.i64.wrap ((j : Int) + 1 - 1) = (j : Int) := by rw [ej2]; exact IntWalk.i64_in _ (by omega)
            have kw3 : IntKind.u64.wrap (64 - (s : Int)) = 64 - (s : Int) := by rw [IntKind.wrap_u64]; omega
            have kw4 : (64 - (s : Int)).toNat = 64 - s := by omega
            have jj4 : (j : Int) < 4 := by omega
            have jj0 : (0 : Int) ≤ (j : Int) := by omega
            clear hset2 hA hnx
            go_wp2_with fail
            generalize F i = y at *
            generalize shlW (wd x (j + 1)) s = z at *
            generalize wd x j = p at *
            go_region
            clear kw1 kw2 kw3 kw4
            go_wp2_with fail
            go_roundw
            case rel => exact ⟨i, by omega, by go_num, hrel.out⟩
            case measure => simp [intOf]
      · have hq2 : k ≤ q := by omega
        replace hs := hs.congr (f' := F) (fun i hi => by
          by_cases h : k ≤ i
          · rw [if_pos h]
          · rw [if_neg h, L0.out _ (by omega)])
        (try clear e1 e2)
        have ho := hs.o.out
        have hr := hs.r.out
        have hbb := hs.b
        clear hs
        go_wp2_with (first | (refine wpList_load_row rfl 23 (.tmp 5) rfl (w.heap.size + 1 + 1) rfl 23 (acells F) (0, 0) _ ho Tryz.underlying23 rfl size23 ?_)
                           | (refine wpList_store_row rfl 23 (.tmp 4) (.tmp 55) rfl (w.heap.size + 1) (acells F) ?_ ?_ 23 _ hr size23 ?_ ?_ ?_; (· rfl); (· rfl); (· rfl); (· simp [acells, Value.oneCell'])))
        (try simp only [Exit.inBlock, Exit.then])
        refine bodyPost_ret (results_cell_row rfl _ _ (w.heap.size + 1) 23 (acells F) (0, 0) _ rfl (setRow_heap _ _ _ _ _ _ hr) Tryz.underlying23 rfl size23) rfl ?_
        exact ⟨rfl, below_row hbb (Nat.le_succ _) _⟩
end Go.Proofs.YtaepgdkpaffaaaaGreatDoor

/- limbs, at four words: Shr. -/
namespace Go.Proofs.YtaepgdkpaffaaaaGreatDoor
open Go.RowKit Go.Proofs.YtaepgdkpaffaaaaGreatDoorW.PrintWords Cal

theorem wd_hi {x : Nat} (hx : x < 2 ^ 256) {j : Nat} (hj : 4 ≤ j) : wd x j = 0 := by
  unfold wd
  have : B ^ 4 ≤ B ^ j := Nat.pow_le_pow_right B_pos hj
  rw [B4] at hx
  rw [Nat.div_eq_of_lt (by omega)]
  rfl
theorem right_wd {x n q s : Nat} (hn : n = 64 * q + s) (hs : s ≤ 64) (i : Nat) : wd (x / 2 ^ n) i = shrW (wd x (q + i)) s + shlW (wd x (q + i + 1)) (64 - s) := by
  have h := right_word (x := x) (k := i) hn hs
  have e1 := shrW_nat (wd_wf x (q + i)).1 s
  have e2 := shlW_nat (wd_wf x (q + i + 1)).1 (64 - s)
  have e3 := (shrW_wf (wd_wf x (q + i)) s).1
  have e4 := (shlW_wf (wd x (q + i + 1)) (64 - s)).1
  rw [← e1, ← e2] at h
  have h0 : wd (x / 2 ^ n) i = ((x / 2 ^ n / B ^ i % B : Nat) : Int) := rfl
  rw [h0, h]
  omega
theorem shl_zero (s : Nat) : shlW 0 s = 0 := by unfold shlW; simp
theorem shl_all (p : Int) : shlW p (64 - 0) = 0 := by
  unfold shlW
  exact Int.mul_emod_left _ _
set_option maxRecDepth 100000 in
theorem lshr_c (x n : Nat) (w : World) (hx : x < 2 ^ 256) (hn : n ≤ 100000) :
    Calls Tryz.prog 152 #[bv x, .int .i64 n] w (fun e w' => e = .returned (bv (x / 2 ^ n)) ∧ Below w.heap.size w w') := by
  rcases Nat.eq_zero_or_pos n with rfl | hn1
  · rw [Nat.pow_zero, Nat.div_one]
    clear hx
    unfold bv
    go_enter Tryz.func152, Tryz.ntmps152
    go_wp2_with fail
    refine bodyPost_ret (results_cell_row rfl _ _ (w.heap.size + 1) 23 (bcells x) (0, 0) _ rfl (by rw [← size_alloc w]; exact heap_alloc_new _ _) Tryz.underlying23 rfl size23) rfl ?_
    exact ⟨rfl, (((Below.refl _ _).alloc (Nat.le_refl _) _).alloc (by rw [size_alloc]; omega) _)⟩
  · obtain ⟨q, hq⟩ : ∃ q, q = n / 64 := ⟨_, rfl⟩
    obtain ⟨s, hs⟩ : ∃ s, s = n % 64 := ⟨_, rfl⟩
    have hs64 : s < 64 := by omega
    have e1 : (n : Int) / 64 = (q : Int) := by omega
    have e2 : (n : Int) % 64 = (s : Int) := by omega
    have hq9 : q ≤ 10000 := by omega
    have HQ := show n = 64 * q + s by omega
    have eb : bv (x / 2 ^ n) = .agg (acells (wd (x / 2 ^ n))) := rfl
    rw [eb]
    have L1 := Lib.hid (fun i => right_wd (x := x) HQ (show s ≤ 64 by omega) i)
    have L2 := Lib.hid (fun j (hj : 4 ≤ j) => wd_hi hx hj)
    have L0 : Hid (∀ i, 4 ≤ q + i → wd (x / 2 ^ n) i = 0) := fun i hi => by
      rw [L1.out, L2.out _ hi, L2.out _ (by omega), shl_zero]
      unfold shrW; simp
    generalize wd (x / 2 ^ n) = F at *
    clear hq hs eb hx HQ
    unfold bv
    go_enter Tryz.func152, Tryz.ntmps152
    go_wp2_with fail
    clear e1 e2
    go_loopw [8] (fun t8 wr => ∃ k : Nat, k ≤ 4 ∧ t8 = .int .i64 k ∧ SW w x (fun j => if j < k then F j else 0) wr) (fun t8 _ => 4 - (intOf t8).toNat)
    case atStart => exact ⟨0, by omega, rfl, (SW.start w x).congr (fun j hj => by rw [if_neg (by omega)])⟩
    case round =>
      obtain ⟨i, hi, rfl, hs⟩ := hrel
      by_cases hkq : q + i < 4
      · obtain ⟨j, hj⟩ : ∃ j, j = i + q := ⟨_, rfl⟩
        have HJ := Lib.hid hj
        have hlt : decide ((i : Int) < 4 - (q : Int)) = true := by simp; omega
        have i4 : (i : Int) < 4 := by omega
        have i0 : (0 : Int) ≤ (i : Int) := by omega
        have j4 : (j : Int) < 4 := by omega
        have j0 : (0 : Int) ≤ (j : Int) := by omega
        have eqj : (i : Int) + (q : Int) = (j : Int) := by omega
        have hA1 := hs.a.cell
        have ha1 := hA1 j (by omega)
        have ha_0 := hA1 0 (by omega)
        have ha_1 := hA1 1 (by omega)
        have ha_2 := hA1 2 (by omega)
        have ha_3 := hA1 3 (by omega)
        have ho1 := hs.o.cell i (by omega)
        have ho2 := hs.o.free i
        have hset := hs.set (k := i) (by omega) (shrW (wd x j) s)
        have HS := Lib.hid hset
        clear hset hs hj hA1
        have kw : wd x j / 2 ^ s = shrW (wd x j) s := rfl
        go_upto_region 9 with fail
        clear ha1 ha_0 ha_1 ha_2 ha_3
        have hA := HS.out.a.cell
        have hb1 : (wr.setCell ⟨w.heap.size + 1 + 1, i, none⟩ (.int .u64 (shrW (wd x j) s))).cell? ⟨w.heap.size + 1 + 1, i, none⟩ = some (.int .u64 (shrW (wd x j) s)) := by
          have := HS.out.o.cell i (by omega)
          simpa using this
        have hb2 := HS.out.o.free i
        generalize (wr.setCell ⟨w.heap.size + 1 + 1, i, none⟩ (.int .u64 (shrW (wd x j) s))) = W1 at *
        clear kw ho1 ho2
        have hA_0 := hA 0 (by omega)
        have hA_1 := hA 1 (by omega)
        have hA_2 := hA 2 (by omega)
        have hA_3 := hA 3 (by omega)
        rcases Nat.eq_zero_or_pos s with hs0 | hs0
        · subst hs0
          have hrel : SW w x (fun m => if m < i + 1 then F m else 0) W1 := HS.out.congr (fun m hm => by
            by_cases h : m = i
            · rw [if_pos h, if_pos (by omega), h, L1.out, shl_all, Int.add_zero, HJ.out, Nat.add_comm i q]
            · rw [if_neg h]
              by_cases h2 : m < i
              · rw [if_pos h2, if_pos (by omega)]
              · rw [if_neg h2, if_neg (by omega)])
          have HR := Lib.hid hrel
          clear hrel hA hb1 hb2
          go_wp2_with fail
          go_roundw
          case rel => exact ⟨i + 1, by omega, by go_num, HR.out⟩
          case measure => simp [intOf]; omega
        · have c1 : decide (0 < (s : Int)) = true := by simpa using hs0
          by_cases hj3 : j < 3
          · have hc1 := hA (j + 1) (by omega)
            have r1 := wd_wf x (j + 1)
            have r2 := wd_wf x j
            have hor := or_shift' r1 r2 (s := 64 - s) (by omega)
            have hnx := L1.out i
            rw [show 64 - (64 - s) = s by omega] at hor
            rw [show q + i = j by have := HJ.out; omega, Int.add_comm] at hnx
            rw [← hnx] at hor
            have hset2 := (HS.out.set (k := i) (by omega) (F i)).drew
            have hrel : Hid (SW w x (fun m => if m < i + 1 then F m else 0) _) := Lib.hid (hset2.congr (fun m hm => by
              by_cases h : m = i
              · rw [if_pos h, if_pos (by omega), h]
              · rw [if_neg h, if_neg h]
                by_cases h2 : m < i
                · rw [if_pos h2, if_pos (by omega)]
                · rw [if_neg h2, if_neg (by omega)]))
            have c2 : decide ((j : Int) + 1 < 4) = true := by simp; omega
            have kw1 : IntKind.i64.wrap ((i : Int) + (q : Int)) = (j : Int) := by rw [eqj]; exact IntWalk.i64_in _ (by omega)
            have kw2 : IntKind.i64.wrap ((j : Int) + 1) = (j : Int) + 1 := IntWalk.i64_in _ (by omega)
            have kw3 : IntKind.u64.wrap (64 - (s : Int)) = 64 - (s : Int) := by rw [IntKind.wrap_u64]; omega
            have kw4 : (64 - (s : Int)).toNat = 64 - s := by omega
            have kw5 : IntKind.u64.wrap (wd x (j + 1) * 2 ^ (64 - s)) = shlW (wd x (j + 1)) (64 - s) := by rw [IntKind.wrap_u64]; rfl
            have jj4 : (j : Int) + 1 < 4 := by omega
            have jj0 : (0 : Int) ≤ (j : Int) + 1 := by omega
            have jj5 : ((j : Int) + 1).toNat = j + 1 := by omega
            clear hset2 hA hnx
            go_wp2_with fail
            clear hA_0 hA_1 hA_2 hA_3
            generalize F i = y at *
            generalize shlW (wd x (j + 1)) (64 - s) = z at *
            generalize shrW (wd x j) s = z2 at *
            generalize wd x (j + 1) = p at *
            go_region
            clear kw1 kw2 kw3 kw4 kw5
            go_wp2_with fail
            go_roundw
            case rel => exact ⟨i + 1, by omega, by go_num, hrel.out⟩
            case measure => simp [intOf]; omega
          · have c2 : decide ((j : Int) + 1 < 4) = false := by simp; omega
            have hrel : SW w x (fun m => if m < i + 1 then F m else 0) W1 := HS.out.congr (fun m hm => by
              by_cases h : m = i
              · rw [if_pos h, if_pos (by omega), h, L1.out, L2.out (q + i + 1) (by have := HJ.out; omega), shl_zero, Int.add_zero, HJ.out, Nat.add_comm i q]
              · rw [if_neg h]
                by_cases h2 : m < i
                · rw [if_pos h2, if_pos (by omega)]
                · rw [if_neg h2, if_neg (by omega)])
            have HR := Lib.hid hrel
            clear hrel hA hb1 hb2
            go_wp2_with fail
            go_roundw
            case rel => exact ⟨i + 1, by omega, by go_num, HR.out⟩
            case measure => simp [intOf]; omega
      · have hlt : decide ((i : Int) < 4 - (q : Int)) = false := by simp; omega
        have hA1 := hs.a.cell
        have ha_0 := hA1 0 (by omega)
        have ha_1 := hA1 1 (by omega)
        have ha_2 := hA1 2 (by omega)
        have ha_3 := hA1 3 (by omega)
        clear hA1
        replace hs := hs.congr (f' := F) (fun m hm => by
          by_cases h : m < i
          · rw [if_pos h]
          · rw [if_neg h, L0.out _ (by omega)])
        have ho := hs.o.out
        have hr := hs.r.out
        have hbb := hs.b
        clear hs
        go_wp2_with (first | (refine wpList_load_row rfl 23 (.tmp 5) rfl (w.heap.size + 1 + 1) rfl 23 (acells F) (0, 0) _ ho Tryz.underlying23 rfl size23 ?_)
                           | (refine wpList_store_row rfl 23 (.tmp 4) (.tmp 59) rfl (w.heap.size + 1) (acells F) ?_ ?_ 23 _ hr size23 ?_ ?_ ?_; (· rfl); (· rfl); (· rfl); (· simp [acells, Value.oneCell'])))
        (try simp only [Exit.inBlock, Exit.then])
        refine bodyPost_ret (results_cell_row rfl _ _ (w.heap.size + 1) 23 (acells F) (0, 0) _ rfl (setRow_heap _ _ _ _ _ _ hr) Tryz.underlying23 rfl size23) rfl ?_
        exact ⟨rfl, below_row hbb (Nat.le_succ _) _⟩
end Go.Proofs.YtaepgdkpaffaaaaGreatDoor
