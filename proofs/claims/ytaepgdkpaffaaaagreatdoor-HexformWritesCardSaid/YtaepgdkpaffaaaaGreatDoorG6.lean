import Derived.Test.YtaepgdkpaffaaaaGreatDoorG5
import Derived.BigRegion
set_option linter.unusedVariables false
set_option linter.unusedSimpArgs false
/- caliperref02: Add, Less, Cmp. -/
namespace Go.Proofs.YtaepgdkpaffaaaaGreatDoor
open Go.RowKit Go.Proofs.YtaepgdkpaffaaaaGreatDoorW.PrintWords Cal

theorem radd_round {out : List Int} {x y k : Nat} {c lo hi : Int} (ho : k < out.length) (hc : 0 ≤ c) (hlo : 0 ≤ lo) (hhi : 0 ≤ hi)
    (hinv : val (out.take k) + B ^ k * c.toNat = x % B ^ k + y % B ^ k) (he : lo + 18446744073709551616 * hi = wd x k + wd y k + c) :
    val ((out.set k lo).take (k + 1)) + B ^ (k + 1) * hi.toNat = x % B ^ (k + 1) + y % B ^ (k + 1) := by
  rw [val_take_succ _ k (by rw [List.length_set]; exact ho), List.take_set_of_le (Nat.le_refl _), Cal.getD_set_eq ho, mod_succ_pow, mod_succ_pow, Nat.pow_succ, ← wd_nat, ← wd_nat]
  have w1 := wd_wf x k
  have w2 := wd_wf y k
  have e3 : lo.toNat + B * hi.toNat = (wd x k).toNat + (wd y k).toNat + c.toNat := by rw [B_eq]; omega
  have e4 : B ^ k * (lo.toNat + B * hi.toNat) = B ^ k * ((wd x k).toNat + (wd y k).toNat + c.toNat) := by rw [e3]
  rw [Nat.mul_add, Nat.mul_add, Nat.mul_add, ← Nat.mul_assoc] at e4
  omega
theorem rsub_round {out : List Int} {x y k : Nat} {c lo hi : Int} (ho : k < out.length) (hc : 0 ≤ c) (hlo : 0 ≤ lo) (hhi : 0 ≤ hi)
    (hinv : val (out.take k) + y % B ^ k = x % B ^ k + B ^ k * c.toNat) (he : lo + wd y k + c = wd x k + 18446744073709551616 * hi) :
    val ((out.set k lo).take (k + 1)) + y % B ^ (k + 1) = x % B ^ (k + 1) + B ^ (k + 1) * hi.toNat := by
  rw [val_take_succ _ k (by rw [List.length_set]; exact ho), List.take_set_of_le (Nat.le_refl _), Cal.getD_set_eq ho, mod_succ_pow, mod_succ_pow, Nat.pow_succ, ← wd_nat, ← wd_nat]
  have w1 := wd_wf x k
  have w2 := wd_wf y k
  have e3 : lo.toNat + (wd y k).toNat + c.toNat = (wd x k).toNat + B * hi.toNat := by rw [B_eq]; omega
  have e4 : B ^ k * (lo.toNat + (wd y k).toNat + c.toNat) = B ^ k * ((wd x k).toNat + B * hi.toNat) := by rw [e3]
  rw [Nat.mul_add, Nat.mul_add, Nat.mul_add, ← Nat.mul_assoc] at e4
  omega
/-- What the walk is told of a slice that reads as a number: its shape, and its value's bound. -/
theorem NS.raw {w : World} {v : Value} {x : Nat} (h : NS w v x) : ∃ A n c, v = .slice A n c ∧ n ≤ 1000000 ∧ wl x ≤ n ∧ NS w (.slice A n c) x := by
  have h0 := h
  obtain ⟨A, n, c, xs, rfl, h1, h2, h3, h4, rfl⟩ := h.out
  have hl : xs.length = n := h3.1
  have hw := wl_val_le h4
  exact ⟨A, n, c, rfl, h2, by omega, h0⟩

set_option maxHeartbeats 1000000 in
set_option maxRecDepth 100000 in
theorem radd_core (A A' : Option Addr) (n n' c c' x y N : Nat) (w : World) (a2 : wl x + 1 ≤ N) (b2 : wl y + 1 ≤ N) (hN9 : N ≤ 1000000) (h1 : NS w (.slice A n c) x) (h2 : NS w (.slice A' n' c') y)
    (hN : N = max n n' + 1) :
    Calls Tryz.prog 61 #[.slice A n c, .slice A' n' c'] w (fun e w' => ∃ v, e = .returned v ∧ NT w' v (x + y) ∧ Below w.heap.size w w') := by
  have H1 := Lib.hid h1
  have H2 := Lib.hid h2
  have HX := Lib.hid (show wl x ≤ N by omega)
  have HY := Lib.hid (show wl y ≤ N by omega)
  have HS : Hid (x + y < B ^ N) := by
    show _ < _
    have e1 := lt_of_wl (x := x) (m := N - 1) (by omega)
    have e2 := lt_of_wl (x := y) (m := N - 1) (by omega)
    have e3 : B ^ N = B ^ (N - 1) * B := by rw [← Nat.pow_succ, show (N - 1).succ = N by omega]
    have e4 : B ^ (N - 1) * 2 ≤ B ^ (N - 1) * B := Nat.mul_le_mul_left _ (by decide)
    omega
  clear h1 h2 a2 b2
  have kmk := make22 N (wrap64 (max (n : Int) (n' : Int) + 1)) (by unfold wrap64; omega) (by omega)
  clear hN
  go_enter Tryz.func61, Tryz.ntmps61
  go_wp2_with fail
  go_loopw [6, 17] (fun t6 t17 wr => ∃ (k : Nat) (cy : Int) (out : List Int), k ≤ N ∧ t17 = .int .i64 k ∧ t6 = .int .u64 cy ∧ 0 ≤ cy ∧ cy ≤ 1 ∧ Own wr w.heap.size (.slice (some ⟨w.heap.size, 0, none⟩) N N) out ∧
      Hid (out.length = N) ∧ Below w.heap.size w wr ∧ Hid (val (out.take k) + B ^ k * cy.toNat = x % B ^ k + y % B ^ k)) (fun _ t17 _ => N - (intOf t17).toNat)
  case atStart => exact ⟨0, 0, _, Nat.zero_le _, rfl, rfl, by omega, by omega, own_make w N (by omega) w.heap.size (Nat.le_refl _), List.length_replicate, (Below.refl _ _).alloc (Nat.le_refl _) _, by
    show _ = _
    simp [Nat.mod_one]⟩
  case round =>
    obtain ⟨k, cy, out, hk, rfl, rfl, c0, c1, ho, hlen, hb, hs⟩ := hrel
    by_cases hkm : k < N
    · have C1 := Lib.hid (rword_c _ x k wr (H1.out.ext hb))
      have C2 := Lib.hid (rword_c _ y k wr (H2.out.ext hb))
      have rng := wd_wf x k
      have rng' := wd_wf y k
      have slo := sumLo_wf (wd x k) (wd y k) cy
      have shi := sumHi_01 rng rng' ⟨c0, c1⟩
      have seq_ := Lib.hid (sum_eq (wd x k) (wd y k) cy)
      obtain ⟨hf1, hf2⟩ := ho.at_ k (by have := hlen.out; omega)
      have hnew := ho.set_ k slo
      have hrel := Lib.hid (radd_round (x := x) (y := y) (k := k) (c := cy) (by have := hlen.out; omega) c0 slo.1 shi.1 hs.out seq_.out)
      clear hs ho
      obtain ⟨lo, hlo⟩ : ∃ lo, lo = sumLo (wd x k) (wd y k) cy := ⟨_, rfl⟩
      obtain ⟨hi, hhi⟩ : ∃ hi, hi = sumHi (wd x k) (wd y k) cy := ⟨_, rfl⟩
      have kadd := add64 (wd x k) (wd y k) cy rng.1 rng'.1 c0 c1
      rw [← hlo, ← hhi] at kadd
      rw [← hlo] at hnew slo
      rw [← hhi] at shi
      rw [← hlo, ← hhi] at hrel
      clear hlo hhi seq_
      obtain ⟨p, hp⟩ : ∃ p, p = wd x k := ⟨_, rfl⟩
      obtain ⟨q, hq⟩ : ∃ q, q = wd y k := ⟨_, rfl⟩
      rw [← hp] at C1 kadd rng
      rw [← hq] at C2 kadd rng'
      clear hp hq
      go_wp2_with fail
      (with_reducible refine C1.out.mono ?_); rintro e w' ⟨rfl, rfl⟩
      go_wp2_with fail
      (with_reducible refine C2.out.mono ?_); rintro e w' ⟨rfl, rfl⟩
      go_wp2_with fail
      go_roundw
      case rel => exact ⟨k + 1, hi, _, by omega, by go_num, rfl, shi.1, shi.2, hnew, by show _ = _; rw [List.length_set]; exact hlen.out, below_set hb (Nat.le_refl _) _, hrel⟩
      case measure => simp [intOf]; omega
    · obtain rfl : k = N := by omega
      have hv : val out = x + y := by
        have h1 := hs.out
        have h2 := val_lt ho.wf
        rw [hlen.out] at h2
        rw [List.take_of_length_le (by have := hlen.out; omega), Nat.mod_eq_of_lt (lt_of_wl HX.out), Nat.mod_eq_of_lt (lt_of_wl HY.out)] at h1
        have h3 := HS.out
        rcases (show cy = 0 ∨ cy = 1 by omega) with rfl | rfl
        · simp at h1; omega
        · simp at h1; omega
      obtain ⟨hcap, hwl, hns, hnt⟩ := ho.end_ hlen.out (by omega) hv
      have C3 := Lib.hid (rtrim_c _ _ _ hns)
      clear hns hnt hv hs ho hwl
      go_wp2_with fail
      (with_reducible refine C3.out.mono ?_); rintro e w' ⟨v', rfl, hv', hb'⟩
      go_wp2_with fail
      go_ret
      exact ⟨_, rfl, hv', btrans hb hb'⟩
set_option maxRecDepth 100000 in
theorem rsub_core (A A' : Option Addr) (n n' c c' x y N : Nat) (w : World) (a2 : wl x ≤ N) (b2 : wl y ≤ N) (hN9 : N ≤ 1000000) (h1 : NS w (.slice A n c) x) (h2 : NS w (.slice A' n' c') y)
    (hN : N = max n n') (HS : Hid (y ≤ x)) :
    Calls Tryz.prog 59 #[.slice A n c, .slice A' n' c'] w (fun e w' => ∃ v, e = .returned v ∧ NT w' v (x - y) ∧ Below w.heap.size w w') := by
  have H1 := Lib.hid h1
  have H2 := Lib.hid h2
  have HX := Lib.hid a2
  have HY := Lib.hid b2
  clear h1 h2 a2 b2
  have kmk := make22 N (max (n : Int) (n' : Int)) (by omega) (by omega)
  clear hN
  go_enter Tryz.func59, Tryz.ntmps59
  go_wp2_with fail
  go_loopw [6, 16] (fun t6 t17 wr => ∃ (k : Nat) (cy : Int) (out : List Int), k ≤ N ∧ t17 = .int .i64 k ∧ t6 = .int .u64 cy ∧ 0 ≤ cy ∧ cy ≤ 1 ∧ Own wr w.heap.size (.slice (some ⟨w.heap.size, 0, none⟩) N N) out ∧
      Hid (out.length = N) ∧ Below w.heap.size w wr ∧ Hid (val (out.take k) + y % B ^ k = x % B ^ k + B ^ k * cy.toNat)) (fun _ t17 _ => N - (intOf t17).toNat)
  case atStart => exact ⟨0, 0, _, Nat.zero_le _, rfl, rfl, by omega, by omega, own_make w N (by omega) w.heap.size (Nat.le_refl _), List.length_replicate, (Below.refl _ _).alloc (Nat.le_refl _) _, by
    show _ = _
    simp [Nat.mod_one]⟩
  case round =>
    obtain ⟨k, cy, out, hk, rfl, rfl, c0, c1, ho, hlen, hb, hs⟩ := hrel
    by_cases hkm : k < N
    · have C1 := Lib.hid (rword_c _ x k wr (H1.out.ext hb))
      have C2 := Lib.hid (rword_c _ y k wr (H2.out.ext hb))
      have rng := wd_wf x k
      have rng' := wd_wf y k
      have slo := difLo_wf (wd x k) (wd y k) cy
      have shi := difHi_01 (wd x k) (wd y k) cy
      have seq_ := Lib.hid (dif_eq rng rng' ⟨c0, c1⟩)
      obtain ⟨hf1, hf2⟩ := ho.at_ k (by have := hlen.out; omega)
      have hnew := ho.set_ k slo
      have hrel := Lib.hid (rsub_round (x := x) (y := y) (k := k) (c := cy) (by have := hlen.out; omega) c0 slo.1 shi.1 hs.out seq_.out)
      clear hs ho
      obtain ⟨lo, hlo⟩ : ∃ lo, lo = difLo (wd x k) (wd y k) cy := ⟨_, rfl⟩
      obtain ⟨hi, hhi⟩ : ∃ hi, hi = difHi (wd x k) (wd y k) cy := ⟨_, rfl⟩
      have kadd := sub64 (wd x k) (wd y k) cy rng.1 rng'.1 rng'.2 c0 c1
      rw [← hlo, ← hhi] at kadd
      rw [← hlo] at hnew slo
      rw [← hhi] at shi
      rw [← hlo, ← hhi] at hrel
      clear hlo hhi seq_
      obtain ⟨p, hp⟩ : ∃ p, p = wd x k := ⟨_, rfl⟩
      obtain ⟨q, hq⟩ : ∃ q, q = wd y k := ⟨_, rfl⟩
      rw [← hp] at C1 kadd rng
      rw [← hq] at C2 kadd rng'
      clear hp hq
      go_wp2_with fail
      (with_reducible refine C1.out.mono ?_); rintro e w' ⟨rfl, rfl⟩
      go_wp2_with fail
      (with_reducible refine C2.out.mono ?_); rintro e w' ⟨rfl, rfl⟩
      go_wp2_with fail
      go_roundw
      case rel => exact ⟨k + 1, hi, _, by omega, by go_num, rfl, shi.1, shi.2, hnew, by show _ = _; rw [List.length_set]; exact hlen.out, below_set hb (Nat.le_refl _) _, hrel⟩
      case measure => simp [intOf]; omega
    · obtain rfl : k = N := by omega
      have hv : val out = x - y := by
        have h1 := hs.out
        have h2 := val_lt ho.wf
        rw [hlen.out] at h2
        rw [List.take_of_length_le (by have := hlen.out; omega), Nat.mod_eq_of_lt (lt_of_wl HX.out), Nat.mod_eq_of_lt (lt_of_wl HY.out)] at h1
        have h3 := HS.out
        rcases (show cy = 0 ∨ cy = 1 by omega) with rfl | rfl
        · simp at h1; omega
        · simp at h1; omega
      obtain ⟨hcap, hwl, hns, hnt⟩ := ho.end_ hlen.out (by omega) hv
      have C3 := Lib.hid (rtrim_c _ _ _ hns)
      clear hns hnt hv hs ho hwl
      go_wp2_with fail
      (with_reducible refine C3.out.mono ?_); rintro e w' ⟨v', rfl, hv', hb'⟩
      go_wp2_with fail
      go_ret
      exact ⟨_, rfl, hv', btrans hb hb'⟩
/-- A number whose words are at most M. -/
def NB (M : Nat) (w : World) (v : Value) (x : Nat) : Prop := ∃ A n c, v = .slice A n c ∧ n ≤ M ∧ NS w (.slice A n c) x
theorem NB.ns {M w v x} (h : NB M w v x) : NS w v x := by obtain ⟨A, n, c, rfl, _, h⟩ := h; exact h
theorem NT.nb {w v x} (h : NT w v x) {M : Nat} (hM : wl x ≤ M) : NB M w v x := by
  have h0 := h
  obtain ⟨A, c, rfl, h1, h2, h3⟩ := h.out
  exact ⟨A, wl x, c, rfl, hM, h0.ns⟩
theorem NB.ext {M w w1 v x} (h : NB M w v x) (hb : Below w.heap.size w w1) : NB M w1 v x := by
  obtain ⟨A, n, c, rfl, hn, h⟩ := h
  exact ⟨A, n, c, rfl, hn, h.ext hb⟩
theorem NB.wl {M w v x} (h : NB M w v x) : wl x ≤ M := by
  obtain ⟨A, n, c, rfl, hn, h⟩ := h
  obtain ⟨A, n', c, he, _, h2, _⟩ := h.raw
  injection he with _ h3
  omega
theorem radd_c {M : Nat} (v1 v2 : Value) (x y : Nat) (w : World) (h1 : NB M w v1 x) (h2 : NB M w v2 y) (hM : M ≤ 999999) : Calls Tryz.prog 61 #[v1, v2] w (fun e w' => ∃ v, e = .returned v ∧ NT w' v (x + y) ∧ Below w.heap.size w w') := by
  have a1 := h1
  have a2 := h2
  obtain ⟨A, n, c, rfl, hn, H1⟩ := h1
  obtain ⟨A', n', c', rfl, hn', H2⟩ := h2
  obtain ⟨_, _, _, e1, _, k1, _⟩ := H1.raw
  obtain ⟨_, _, _, e2, _, k2, _⟩ := H2.raw
  injection e1 with _ e1
  injection e2 with _ e2
  exact radd_core A A' n n' c c' x y (max n n' + 1) w (by omega) (by omega) (by omega) H1 H2 rfl
theorem rsub_c (v1 v2 : Value) (x y : Nat) (w : World) (h1 : NS w v1 x) (h2 : NS w v2 y) (hle : y ≤ x) : Calls Tryz.prog 59 #[v1, v2] w (fun e w' => ∃ v, e = .returned v ∧ NT w' v (x - y) ∧ Below w.heap.size w w') := by
  obtain ⟨A, n, c, rfl, hn, k1, H1⟩ := h1.raw
  obtain ⟨A', n', c', rfl, hn', k2, H2⟩ := h2.raw
  exact rsub_core A A' n n' c c' x y (max n n') w (by omega) (by omega) (by omega) H1 H2 rfl hle
end Go.Proofs.YtaepgdkpaffaaaaGreatDoor

/- caliperref02: Cmp. -/
namespace Go.Proofs.YtaepgdkpaffaaaaGreatDoor
open Go.RowKit Go.Proofs.YtaepgdkpaffaaaaGreatDoorW.PrintWords Cal

theorem div_succ_pow (x k : Nat) : x / B ^ k = x / B ^ (k + 1) * B + x / B ^ k % B := by
  have h := Nat.div_add_mod (x / B ^ k) B
  rw [Nat.div_div_eq_div_mul, ← Nat.pow_succ, Nat.mul_comm] at h
  exact h.symm
theorem div_eq_step {x y k : Nat} (h : x / B ^ (k + 1) = y / B ^ (k + 1)) (he : wd x k = wd y k) : x / B ^ k = y / B ^ k := by
  rw [div_succ_pow x k, div_succ_pow y k, h, ← wd_nat, ← wd_nat, he]
theorem div_lt_step {x y k : Nat} (h : x / B ^ (k + 1) = y / B ^ (k + 1)) (he : wd x k < wd y k) : x < y := by
  have h1 : x / B ^ k < y / B ^ k := by
    rw [div_succ_pow x k, div_succ_pow y k, h, ← wd_nat, ← wd_nat]
    have := wd_wf x k
    omega
  rcases Nat.lt_or_ge x y with h2 | h2
  · exact h2
  · exact absurd (Nat.div_le_div_right (c := B ^ k) h2) (by omega)

set_option maxHeartbeats 800000 in
theorem rcmp_c (v1 v2 : Value) (x y : Nat) (w : World) (h1 : NS w v1 x) (h2 : NS w v2 y) : Calls Tryz.prog 60 #[v1, v2] w (fun e w' => e = .returned (.int .i64 (cmpI x y)) ∧ w' = w) := by
  obtain ⟨A, n, c, rfl, hn, k1, H1⟩ := h1.raw
  obtain ⟨A', n', c', rfl, hn', k2, H2⟩ := h2.raw
  have C1 := Lib.hid (fun k => rword_c _ x k w H1)
  have C2 := Lib.hid (fun k => rword_c _ y k w H2)
  clear h1 h2 H1 H2
  obtain ⟨N, hN⟩ : ∃ N : Nat, N = max n n' := ⟨_, rfl⟩
  have e1 : (max (n : Int) (n' : Int)) = (N : Int) := by omega
  have k1 := Lib.hid (show wl x ≤ N by omega)
  have k2 := Lib.hid (show wl y ≤ N by omega)
  have hN9 : N ≤ 1000000 := by omega
  go_enter Tryz.func60, Tryz.ntmps60
  go_wp2_with fail
  go_loopw [5, 6, 7] (fun t5 t6 t7 wr => ∃ (k : Nat), k ≤ N ∧ t5 = .int .i64 ((k : Int) - 1) ∧ wr = w ∧ Hid (x / B ^ k = y / B ^ k)) (fun t5 _ _ _ => (intOf t5 + 1).toNat)
  case atStart => exact ⟨N, Nat.le_refl _, by rw [hN], rfl, by
    show _ = _
    rw [Nat.div_eq_of_lt (lt_of_wl k1.out), Nat.div_eq_of_lt (lt_of_wl k2.out)]⟩
  case round =>
    obtain ⟨k, hk, rfl, rfl, hs⟩ := hrel
    rcases Nat.eq_zero_or_pos k with rfl | hk0
    · go_wp2_with fail
      go_ret
      exact ⟨ret_int (by have := hs.out; simp only [Nat.pow_zero, Nat.div_one] at this; rw [cmpI_eq this]), rfl⟩
    · obtain ⟨k, rfl⟩ : ∃ j, k = j + 1 := ⟨k - 1, by omega⟩
      have d1 := C1.out k
      have d2 := C2.out k
      have rng := wd_wf x k
      have rng' := wd_wf y k
      have hlt := fun h => div_lt_step (x := x) (y := y) (k := k) hs.out h
      have hgt := fun h => div_lt_step (x := y) (y := x) (k := k) hs.out.symm h
      have heq := fun h => div_eq_step (x := x) (y := y) (k := k) hs.out h
      clear hs
      generalize wd x k = p at *
      generalize wd y k = q at *
      have d1 := Lib.hid d1
      have d2 := Lib.hid d2
      have H3 := Lib.hid hlt
      have H4 := Lib.hid hgt
      have H5 := Lib.hid heq
      clear hlt hgt heq
      have ek : ((k : Int) + 1 - 1) = k := by omega
      go_wp2_with fail
      (with_reducible refine d1.out.mono ?_); rintro e w' ⟨rfl, rfl⟩
      go_wp2_with fail
      (with_reducible refine d2.out.mono ?_); rintro e w' ⟨rfl, rfl⟩
      rcases Int.lt_trichotomy p q with hlt | heq | hgt
      · have t3 : decide (p < q) = true := by simpa using hlt
        go_wp2_with fail
        go_ret
        exact ⟨ret_int (by rw [cmpI_lt (H3.out hlt)]), rfl⟩
      · subst heq
        go_wp2_with fail
        go_roundw
        case rel => exact ⟨k, by omega, by go_num, by first | rfl | trivial, by first | exact H5.out rfl | exact H5.out trivial⟩
        case measure => simp [intOf]
      · have t3 : decide (p < q) = false := by simp; omega
        have t4 : decide (q < p) = true := by simpa using hgt
        go_wp2_with fail
        go_ret
        exact ⟨ret_int (by rw [cmpI_gt (H4.out hgt)]), rfl⟩
end Go.Proofs.YtaepgdkpaffaaaaGreatDoor

/- caliperref02: Times, Pow. -/
namespace Go.Proofs.YtaepgdkpaffaaaaGreatDoor
open Go.RowKit Go.Proofs.YtaepgdkpaffaaaaGreatDoorW.PrintWords Cal

set_option maxHeartbeats 2000000 in
theorem rtimes_raw (xs ys : List Int) (A A' : Option Addr) (n n' c c' : Nat) (w : World) (R1 : ReadsInt w .u64 A n xs) (R2 : ReadsInt w .u64 A' n' ys) (W1 : Wf xs) (W2 : Wf ys) (hn : n + n' + 1 ≤ 1000000) :
    Calls Tryz.prog 29 #[.slice A n c, .slice A' n' c'] w (fun e w' => ∃ v, e = .returned v ∧ NT w' v (val xs * val ys) ∧ Below w.heap.size w w') := by
  have l1 : Hid (xs.length = n) := R1.1
  have l2 : Hid (ys.length = n') := R2.1
  have HR1 := Lib.hid R1
  have HR2 := Lib.hid R2
  have HW1 := Lib.hid W1
  have HW2 := Lib.hid W2
  clear R1 R2 W1 W2
  have kmk := make22 (n + n' + 1) ((n : Int) + (n' : Int) + 1) (by omega) (by omega)
  go_enter Tryz.func29, Tryz.ntmps29
  go_wp2_with fail
  go_loopw [22] (fun t22 wr => ∃ (i : Nat) (out : List Int), i ≤ n ∧ t22 = .int .i64 i ∧ Own wr w.heap.size (.slice (some ⟨w.heap.size, 0, none⟩) (n + n' + 1) (n + n' + 1)) out ∧
      Hid (out.length = n + n' + 1) ∧ Below w.heap.size w wr ∧ Hid (val out = val (xs.take i) * val ys) ∧ Hid (∀ j, i + n' ≤ j → out.getD j 0 = 0)) (fun t22 _ => n - (intOf t22).toNat)
  case atStart => exact ⟨0, _, Nat.zero_le _, rfl, own_make w (n + n' + 1) (by omega) w.heap.size (Nat.le_refl _), List.length_replicate, (Below.refl _ _).alloc (Nat.le_refl _) _, by
      show _ = _
      rw [val_replicate]; simp, by
      intro j hj
      rw [List.getD_eq_getElem?_getD, List.getElem?_replicate]; split <;> rfl⟩
  case round =>
    obtain ⟨wo, rfl⟩ : ∃ wo : World, wo = wr := ⟨_, rfl⟩
    obtain ⟨i, out, hi, rfl, ho, hlen, hb, hs, hz⟩ := hrel
    by_cases hin : i < n
    · obtain ⟨ad, rfl, hc⟩ := (HR1.out.below hb).2.2 (by omega)
      have hc0 := hc i (by omega)
      clear hc
      have rng := HW1.out.getD i
      obtain ⟨p, hp⟩ : ∃ p, p = xs.getD i 0 := ⟨_, rfl⟩
      rw [← hp] at hc0 rng
      have HP := Lib.hid hp
      clear hp
      obtain ⟨S, hS⟩ : ∃ S, S = val out := ⟨_, rfl⟩
      have HS := Lib.hid hS
      clear hS
      go_wp2_with fail
      go_loopw [7, 27] (fun t8 t29 wi => ∃ (k : Nat) (cy : Int) (oi : List Int), k ≤ n' ∧ t29 = .int .i64 k ∧ t8 = .int .u64 cy ∧ 0 ≤ cy ∧ cy < 18446744073709551616 ∧ Own wi w.heap.size (.slice (some ⟨w.heap.size, 0, none⟩) (n + n' + 1) (n + n' + 1)) oi ∧
        Hid (oi.length = n + n' + 1) ∧ Below w.heap.size w wi ∧ Hid (val oi + B ^ (i + k) * cy.toNat = S + B ^ i * (p.toNat * val (ys.take k))) ∧ Hid (∀ j, i + n' ≤ j → oi.getD j 0 = 0)) (fun _ t29 _ => n' - (intOf t29).toNat)
      case atStart => exact ⟨0, 0, out, Nat.zero_le _, rfl, rfl, by omega, by omega, ho, hlen.out, hb, by
        show _ = _
        rw [HS.out]; simp, hz.out⟩
      case round =>
        obtain ⟨k, cy, oi, hk, rfl, rfl, cy0, cy1, hoi, hleni, hbi, hsi, hzi⟩ := hrel
        by_cases hkn : k < n'
        · obtain ⟨ad', rfl, hc'⟩ := (HR2.out.below hbi).2.2 (by omega)
          have hc0' := hc' k (by omega)
          clear hc'
          obtain ⟨_, he, hcI⟩ := (HR1.out.below hbi).2.2 (by omega)
          injection he with he
          subst he
          have hcI0 := hcI i (by omega)
          rw [← HP.out] at hcI0
          clear hcI hc0
          have rng' := HW2.out.getD k
          obtain ⟨hf1, hf2⟩ := hoi.at_ (i + k) (by have := hleni.out; omega)
          have rngo := hoi.wf.getD (i + k)
          obtain ⟨q, hq⟩ : ∃ q, q = ys.getD k 0 := ⟨_, rfl⟩
          obtain ⟨o, hO⟩ : ∃ o, o = oi.getD (i + k) 0 := ⟨_, rfl⟩
          rw [← hq] at hc0' rng'
          rw [← hO] at hf1 rngo
          obtain ⟨h, hh⟩ : ∃ h, h = mulHi p q := ⟨_, rfl⟩
          obtain ⟨l, hl⟩ : ∃ l, l = mulLo p q := ⟨_, rfl⟩
          have hml := mul_hi rng rng' (h := h) (l := l) hh hl
          obtain ⟨h0, h1, l0, l1', _⟩ := hml
          obtain ⟨s1, hs1⟩ : ∃ s, s = sumLo l o 0 := ⟨_, rfl⟩
          obtain ⟨c1, hc1⟩ : ∃ s, s = sumHi l o 0 := ⟨_, rfl⟩
          obtain ⟨s2, hs2⟩ : ∃ s, s = sumLo s1 cy 0 := ⟨_, rfl⟩
          obtain ⟨c2, hc2⟩ : ∃ s, s = sumHi s1 cy 0 := ⟨_, rfl⟩
          have w1 := sumLo_wf l o 0
          have w2 := sumLo_wf s1 cy 0
          have q1 := sum_eq l o 0
          have q2 := sum_eq s1 cy 0
          rw [← hs1] at w1 q1
          rw [← hc1] at q1
          rw [← hs2] at w2 q2
          rw [← hc2] at q2
          obtain ⟨b1, b2, b3, b4, b5, b6⟩ := mul_round (c1 := c1) (c2 := c2) rng rng' ⟨cy0, cy1⟩ rngo hh hl w1 (by omega) w2 (by omega)
          have C84 := Lib.hid (fun W => mul64 p q rng rng' W)
          rw [← hh, ← hl] at C84
          have k1 := add64_0 l o l0 rngo.1
          have k2 := add64_0 s1 cy w1.1 cy0
          rw [← hs1, ← hc1] at k1
          rw [← hs2, ← hc2] at k2
          have hnew := fun q => (hoi.drewN q).set_ (i + k) w2
          have hrel : Hid (val (oi.set (i + k) s2) + B ^ (i + (k + 1)) * (h + c1 + c2).toNat = S + B ^ i * (p.toNat * val (ys.take (k + 1)))) :=
            prod_round (by have := hleni.out; omega) (by have := l2.out; omega) w2.1 (by omega) cy0 rng.1 rng'.1 (by rw [← hO]; exact rngo.1) hq.symm hsi.out (by rw [b6, ← hO]; omega)
          have hz' : Hid (∀ j, i + n' ≤ j → (oi.set (i + k) s2).getD j 0 = 0) := fun j hj => by
            rw [Cal.getD_set_ne (by omega)]; exact hzi.out j hj
          clear hq hO hh hl hs1 hc1 hs2 hc2 q1 q2 b6 hsi hzi hoi
          have C84q := Lib.hid (fun W => (C84.out W).mono (fun e w' h => (⟨h.1, h.2.symm⟩ : _ ∧ w' = W)))
          clear C84
          go_wp2_with fail
          go_quiet ((go_at_call 84; with_reducible exact Calls.quiet_of_same (C84q.out _)))
          go_wp2_with fail
          go_roundw
          case rel => exact ⟨k + 1, h + c1 + c2, _, by omega, by go_num, rfl, by omega, by omega, hnew _, by show _ = _; rw [List.length_set]; exact hleni.out, below_set (pw_below_drewN hbi _) (Nat.le_refl _) _, hrel, hz'⟩
          case measure => simp [intOf]; omega
        · obtain rfl : k = n' := by omega
          obtain ⟨hf1, hf2⟩ := hoi.at_ (i + k) (by have := hleni.out; omega)
          have hzz := hzi.out (i + k) (Nat.le_refl _)
          have hnew := hoi.set_ (i + k) ⟨cy0, cy1⟩
          have hval : Hid (val (oi.set (i + k) cy) = val (xs.take (i + 1)) * val ys) := by
            have e1 := val_set oi (i + k) (by have := hleni.out; omega) cy
            have e2 := hsi.out
            have e3 := prod_step (xs := xs) (V := val ys) (by have := l1.out; omega) ((HS.out).trans hs.out)
            rw [hzz] at e1
            rw [List.take_of_length_le (by have := l2.out; omega), HP.out] at e2
            show _ = _
            simp at e1
            omega
          have hz' : Hid (∀ j, i + 1 + k ≤ j → (oi.set (i + k) cy).getD j 0 = 0) := fun j hj => by
            rw [Cal.getD_set_ne (by omega)]; exact hzi.out j (by omega)
          clear hzz hsi hzi hoi
          go_wp2_with fail
          go_roundw
          case rel => exact ⟨i + 1, _, by omega, by go_num, hnew, by show _ = _; rw [List.length_set]; exact hleni.out, below_set hbi (Nat.le_refl _) _, hval, hz'⟩
          case measure => simp [intOf]; omega
    · obtain rfl : i = n := by omega
      have hv : val out = val xs * val ys := by
        have := hs.out
        rwa [List.take_of_length_le (by have := l1.out; omega)] at this
      obtain ⟨hcap, hwl, hns, hnt⟩ := ho.end_ hlen.out (by omega) hv
      have C3 := Lib.hid (rtrim_c _ _ _ hns)
      clear hns hnt hv hs hz ho hlen hwl hcap
      go_wp2_with (go_at_call 83; go_must ((with_reducible refine C3.out.mono ?_); rintro e w' ⟨v', rfl, hv', hb'⟩))
      go_ret
      exact ⟨_, rfl, hv', btrans hb hb'⟩

theorem rtimes_c {M M' : Nat} (v1 v2 : Value) (x y : Nat) (w : World) (h1 : NB M w v1 x) (h2 : NB M' w v2 y) (hM : M + M' ≤ 999999) : Calls Tryz.prog 29 #[v1, v2] w (fun e w' => ∃ v, e = .returned v ∧ NT w' v (x * y) ∧ Below w.heap.size w w') := by
  obtain ⟨A, n, c, rfl, hn, H1⟩ := h1
  obtain ⟨A', n', c', rfl, hn', H2⟩ := h2
  obtain ⟨_, _, _, xs, e1, _, _, r1, w1, rfl⟩ := H1.out
  obtain ⟨_, _, _, ys, e2, _, _, r2, w2, rfl⟩ := H2.out
  injection e1 with e1 e3 e4
  injection e2 with e2 e5 e6
  subst e1 e2 e3 e4 e5 e6
  exact rtimes_raw xs ys _ _ _ _ _ _ w r1 r2 w1 w2 (by omega)
end Go.Proofs.YtaepgdkpaffaaaaGreatDoor

/- caliperref02: Pow. -/
namespace Go.Proofs.YtaepgdkpaffaaaaGreatDoor
open Go.RowKit Go.Proofs.YtaepgdkpaffaaaaGreatDoorW.PrintWords Cal

theorem nb_lit (w : World) (z : Int) (hz : 0 ≤ z ∧ z < 18446744073709551616) {M : Nat} (hM : 1 ≤ M) : NB M (w.alloc (.cells #[.int .u64 z] 22)) (.slice (some ⟨w.heap.size, 0, none⟩) 1 1) z.toNat :=
  ⟨_, 1, 1, rfl, hM, ns_lit w z hz⟩
theorem pow_odd {o s m R : Nat} (h : o * s ^ m = R) (hm : m % 2 = 1) : o * s * (s * s) ^ (m / 2) = R := by
  have e : m = 2 * (m / 2) + 1 := by omega
  rw [← h]
  generalize m / 2 = j at *
  subst e
  rw [Nat.pow_succ, Nat.pow_mul, Nat.pow_two, Nat.mul_comm ((s * s) ^ _) s, Nat.mul_assoc]
theorem pow_even {o s m R : Nat} (h : o * s ^ m = R) (hm : m % 2 = 0) : o * (s * s) ^ (m / 2) = R := by
  have e : m = 2 * (m / 2) := by omega
  rw [← h]
  generalize m / 2 = j at *
  subst e
  rw [Nat.pow_mul, Nat.pow_two]
theorem pow_le1 {o s m R : Nat} (h : o * s ^ m = R) (hm : 0 < m) (hs : 0 < s) : o * s ≤ R := by
  rw [← h]
  exact Nat.mul_le_mul_left _ (Nat.le_self_pow (by omega) s)
theorem pow_le2 {o s m R : Nat} (h : o * s ^ m = R) (hm : 2 ≤ m) (hs : 0 < s) (ho : 0 < o) : s * s ≤ R := by
  rw [← h]
  calc s * s = s ^ 2 := (Nat.pow_two s).symm
    _ ≤ s ^ m := Nat.pow_le_pow_right hs hm
    _ ≤ o * s ^ m := Nat.le_mul_of_pos_left _ ho

theorem nt_one {w : World} {A : Option Addr} {c : Nat} (h : NS w (.slice A 1 c) 1) : NT w (.slice A 1 c) 1 := by
  have e : wl 1 = 1 := by decide +kernel
  obtain ⟨A', n', c', he, h1, h2, h3, h4, h5, h6⟩ := h.shape
  injection he with e1 e2 e3
  subst e1 e2 e3
  exact ⟨⟨_, _, by rw [e], h1, by omega, h5⟩⟩
set_option maxRecDepth 100000 in
set_option maxHeartbeats 1000000 in
theorem rpow_c (b : Int) (n K : Nat) (w : World) (hb0 : 0 < b) (hb : b < 18446744073709551616) (hn : n ≤ 1000000000) (hK : 1 ≤ K) (hK2 : K ≤ 400000) (hR : b.toNat ^ n < B ^ K) :
    Calls Tryz.prog 30 #[.int .u64 b, .int .i64 n] w (fun e w' => ∃ v, e = .returned v ∧ NT w' v (b.toNat ^ n) ∧ Below w.heap.size w w') := by
  have H1 := Lib.hid ((nb_lit w 1 (by omega) hK).ext (((Below.refl (w.alloc (.cells #[.int .u64 1] 22)).heap.size _).alloc (Nat.le_refl _) (.cells #[.int .u64 b] 22))))
  have h2 := nb_lit (w.alloc (.cells #[.int .u64 1] 22)) b ⟨by omega, hb⟩ hK
  rw [show (w.alloc (.cells #[.int .u64 1] 22)).heap.size = w.heap.size + 1 from Array.size_push _] at h2
  have H2 := Lib.hid h2
  clear h2
  have hwk := Lib.hid (fun x (hx : x ≤ b.toNat ^ n) => wl_le (Nat.lt_of_le_of_lt hx hR))
  have hbp : 0 < b.toNat := by omega
  clear hR
  have Hb := ((Below.refl w.heap.size w).alloc (Nat.le_refl _) (.cells #[.int .u64 1] 22)).alloc (by show _ ≤ (w.heap.push _).size; rw [Array.size_push]; omega) (.cells #[.int .u64 b] 22)
  go_enter Tryz.func30, Tryz.ntmps30
  go_wp2_with fail
  go_loopw [1, 5, 6] (fun t1 t5 t6 wr => ∃ (m o s : Nat), m ≤ n ∧ t1 = .int .i64 m ∧ 0 < o ∧ 0 < s ∧ NB K wr t5 o ∧ NB K wr t6 s ∧ Hid (m = 0 → NT wr t5 o) ∧ Below w.heap.size w wr ∧ Hid (o * s ^ m = b.toNat ^ n)) (fun t1 _ _ _ => (intOf t1).toNat)
  case atStart =>
    refine ⟨n, 1, b.toNat, Nat.le_refl _, rfl, by omega, hbp, H1.out, H2.out, fun h => ?_, Hb, by show _ = _; rw [Nat.one_mul]⟩
    exact nt_one H1.out.ns
  case round =>
    obtain ⟨m, o, s, hmn, rfl, ho, hs, N1, N2, N3, hbl, hp⟩ := hrel
    rcases Nat.eq_zero_or_pos m with rfl | hm0
    · go_wp2_with fail
      go_ret
      have := hp.out
      rw [Nat.pow_zero, Nat.mul_one] at this
      rw [← this]
      exact ⟨_, rfl, N3.out trivial, hbl⟩
    · have hm9 : m ≤ 1000000000 := by omega
      have k1 := Lib.hid (pow_le1 hp.out hm0 hs)
      have k2 := Lib.hid (fun h => pow_le2 hp.out h hs ho)
      obtain ⟨j, hj⟩ : ∃ j, j = m / 2 := ⟨_, rfl⟩
      have em2 : IntKind.i64.wrap ((m : Int).tdiv 2) = (j : Int) := by
        rw [IntWalk.i64_quo _ _ (by omega)]
        omega
      rcases Nat.mod_two_eq_zero_or_one m with hm | hm
      · have HP := Lib.hid (by rw [hj]; exact pow_even hp.out hm : o * (s * s) ^ j = b.toNat ^ n)
        have em : ((m : Int) % 2 == 1) = false := by rw [beq_eq_false_iff_ne]; omega
        rcases Nat.eq_zero_or_pos j with hz | hz
        · omega
        · have hz' := hz
          have C2 := Lib.hid (rtimes_c _ _ _ _ _ N2 N2 (by omega))
          go_wp2_with fail
          (with_reducible refine C2.out.mono ?_); rintro e w' ⟨v2, rfl, hv2, hb2⟩
          go_wp2_with fail
          go_roundw
          case rel => exact ⟨j, o, s * s, by omega, by go_num, ho, Nat.mul_pos hs hs, N1.ext hb2, hv2.nb (hwk.out _ (k2.out (by omega))), (fun h => by omega), btrans hbl hb2, HP.out⟩
          case measure => simp [intOf]; omega
      · have HP := Lib.hid (by rw [hj]; exact pow_odd hp.out hm : o * s * (s * s) ^ j = b.toNat ^ n)
        have em : ((m : Int) % 2 == 1) = true := by rw [beq_iff_eq]; omega
        have C1 := Lib.hid (rtimes_c _ _ _ _ _ N1 N2 (by omega))
        rcases Nat.eq_zero_or_pos j with hz | hz
        · have HP' : Hid (o * s * s ^ j = b.toNat ^ n) := by
            show _ = _
            have := HP.out
            rw [hz] at this ⊢
            exact this
          go_wp2_with fail
          (with_reducible refine C1.out.mono ?_); rintro e w' ⟨v1, rfl, hv1, hb1⟩
          go_wp2_with fail
          go_roundw
          case rel => exact ⟨j, o * s, s, by omega, by go_num, Nat.mul_pos ho hs, hs, hv1.nb (hwk.out _ k1.out), N2.ext hb1, (fun h => hv1), btrans hbl hb1, HP'.out⟩
          case measure => simp [intOf]; omega
        · have C2 := Lib.hid (fun w' h => rtimes_c _ _ _ _ w' (N2.ext h) (N2.ext h) (by omega))
          go_wp2_with fail
          (with_reducible refine C1.out.mono ?_); rintro e w' ⟨v1, rfl, hv1, hb1⟩
          go_wp2_with fail
          (with_reducible refine (C2.out _ hb1).mono ?_); rintro e w'' ⟨v2, rfl, hv2, hb2⟩
          go_wp2_with fail
          go_roundw
          case rel => exact ⟨j, o * s, s * s, by omega, by go_num, Nat.mul_pos ho hs, Nat.mul_pos hs hs, (hv1.nb (hwk.out _ k1.out)).ext hb2, hv2.nb (hwk.out _ (k2.out (by omega))), (fun h => by omega), btrans (btrans hbl hb1) hb2, HP.out⟩
          case measure => simp [intOf]; omega
end Go.Proofs.YtaepgdkpaffaaaaGreatDoor

/- caliperref02: Left. -/
namespace Go.Proofs.YtaepgdkpaffaaaaGreatDoor
open Go.RowKit Go.Proofs.YtaepgdkpaffaaaaGreatDoorW.PrintWords Cal

theorem or_low {p o : Int} {s : Nat} (hp : 0 ≤ p ∧ p < 18446744073709551616) (ho : 0 ≤ o) (ho2 : o.toNat < 2 ^ s) (hs : s ≤ 64) :
    bits .or .u64 o (IntKind.u64.wrap (p * 2 ^ s)) = o + shlW p s ∧ o + shlW p s < 18446744073709551616 := by
  rw [IntKind.wrap_u64]
  show bits .or .u64 o (shlW p s) = _ ∧ _
  have e1 := shlW_wf p s
  have n1 := shlW_nat hp.1 s
  have k1 := shl_mod (p := p.toNat) hs
  rw [← n1] at k1
  have h2 : 2 ^ s ≤ B := by rw [B_pow]; exact Nat.pow_le_pow_right (by omega) hs
  rw [B_eq] at h2
  have h := or_disjoint k1 ho2
  have h9 : (shlW p s).toNat ||| o.toNat < 2 ^ 64 := Nat.or_lt_two_pow (by omega) (by omega)
  have h' := bits_or_nat o.toNat (shlW p s).toNat (by omega) (by omega)
  rw [Int.toNat_of_nonneg ho, Int.toNat_of_nonneg e1.1, Nat.or_comm, h] at h'
  refine ⟨by rw [h']; omega, by omega⟩
/-- One word, shifted: both halves. -/
theorem shl_halves {p : Int} {s : Nat} (hp : 0 ≤ p ∧ p < 18446744073709551616) (hs : s ≤ 64) : (shlW p s).toNat + B * (shrW p (64 - s)).toNat = p.toNat * 2 ^ s := by
  rw [shlW_nat hp.1, shrW_nat hp.1]
  have e2 : p.toNat / 2 ^ (64 - s) = p.toNat * 2 ^ s / B := by
    rw [← pow_splitN hs, Nat.mul_comm (2 ^ s), Nat.mul_div_mul_right _ _ (Nat.two_pow_pos s)]
  rw [e2]
  have := Nat.div_add_mod (p.toNat * 2 ^ s) B
  omega
/-- A round of Left, of a shift within the words. -/
theorem left_join {R O1 O u v o a b P : Nat} (h1 : R + v * 0 = O1 + v * b) (h2 : O1 + u * o = O + u * (o + a)) (h3 : u * a + v * b = u * P) : R = O + u * P := by
  rw [Nat.mul_zero, Nat.add_zero] at h1
  rw [Nat.mul_add] at h2
  omega
theorem left_round {out : List Int} {j s : Nat} {o p : Int} (hj : j + 1 < out.length) (hp : 0 ≤ p ∧ p < 18446744073709551616) (ho0 : 0 ≤ o) (hs : s ≤ 64) (ho : out.getD j 0 = o) (h1 : out.getD (j + 1) 0 = 0) :
    val ((out.set j (o + shlW p s)).set (j + 1) (shrW p (64 - s))) = val out + B ^ j * (p.toNat * 2 ^ s) := by
  have e1 := val_set (out.set j (o + shlW p s)) (j + 1) (by rw [List.length_set]; exact hj) (shrW p (64 - s))
  have e2 := val_set out j (Nat.lt_of_succ_lt hj) (o + shlW p s)
  rw [Cal.getD_set_ne (Nat.ne_of_lt (Nat.lt_succ_self j)), h1, Int.toNat_zero] at e1
  rw [ho, Int.toNat_add ho0 (shlW_wf p s).1] at e2
  refine left_join e1 e2 ?_
  rw [← shl_halves hp hs, Nat.mul_add, ← Nat.mul_assoc, Nat.pow_succ]
theorem left_round0 {out : List Int} {j : Nat} {p : Int} (hj : j + 1 < out.length) (hp : 0 ≤ p ∧ p < 18446744073709551616) (ho : out.getD j 0 = 0) :
    val (out.set j (0 + shlW p 0)) = val out + B ^ j * (p.toNat * 2 ^ 0) := by
  have e2 := val_set out j (by omega) (0 + shlW p 0)
  rw [ho] at e2
  have : shlW p 0 = p := by unfold shlW; rw [Int.pow_zero, Int.mul_one]; omega
  rw [this] at e2 ⊢
  simp only [Int.toNat_zero, Nat.mul_zero, Nat.add_zero] at e2
  rw [e2]
  simp
set_option maxRecDepth 100000 in
set_option maxHeartbeats 2000000 in
theorem rleft_raw (xs : List Int) (A : Option Addr) (n0 c n : Nat) (w : World) (R1 : ReadsInt w .u64 A n0 xs) (W1 : Wf xs) (hn : n0 + n / 64 + 1 ≤ 1000000) :
    Calls Tryz.prog 28 #[.slice A n0 c, .int .i64 n] w (fun e w' => ∃ v, e = .returned v ∧ NT w' v (val xs * 2 ^ n) ∧ Below w.heap.size w w') := by
  have l1 : Hid (xs.length = n0) := R1.1
  have HR1 := Lib.hid R1
  have HW1 := Lib.hid W1
  clear R1 W1
  obtain ⟨q, hq⟩ : ∃ q, q = n / 64 := ⟨_, rfl⟩
  obtain ⟨s, hs⟩ : ∃ s, s = n % 64 := ⟨_, rfl⟩
  have hs64 : s < 64 := by omega
  have e1 : (n : Int) / 64 = (q : Int) := by omega
  have e2 : (n : Int) % 64 = (s : Int) := by omega
  have HQ := Lib.hid (show n = 64 * q + s by omega)
  have hn9 : n ≤ 64000000 := by omega
  rw [← hq] at hn
  clear hq hs
  have kmk := make22 (n0 + q + 1) ((n0 : Int) + (q : Int) + 1) (by omega) (by omega)
  go_enter Tryz.func28, Tryz.ntmps28
  go_wp2_with fail
  go_loopw [16] (fun t16 wr => ∃ (k : Nat) (out : List Int), k ≤ n0 ∧ t16 = .int .i64 k ∧ Own wr w.heap.size (.slice (some ⟨w.heap.size, 0, none⟩) (n0 + q + 1) (n0 + q + 1)) out ∧
      Hid (out.length = n0 + q + 1) ∧ Below w.heap.size w wr ∧ Hid (val out = val (xs.take k) * 2 ^ n) ∧ Hid (∀ j, k + q < j → out.getD j 0 = 0) ∧ Hid ((out.getD (k + q) 0).toNat < 2 ^ s)) (fun t16 _ => n0 - (intOf t16).toNat)
  case atStart => exact ⟨0, _, Nat.zero_le _, rfl, own_make w (n0 + q + 1) (by omega) w.heap.size (Nat.le_refl _), List.length_replicate, (Below.refl _ _).alloc (Nat.le_refl _) _, by
      show _ = _
      rw [val_replicate]; simp, by
      intro j hj
      rw [List.getD_eq_getElem?_getD, List.getElem?_replicate]; split <;> rfl, by
      show _ < _
      rw [List.getD_eq_getElem?_getD, List.getElem?_replicate]; split <;> exact Nat.two_pow_pos _⟩
  case round =>
    obtain ⟨k, out, hk, rfl, ho, hlen, hb, hv, hz, hlo⟩ := hrel
    by_cases hkn : k < n0
    · obtain ⟨ad, rfl, hc⟩ := (HR1.out.below hb).2.2 (by omega)
      have hc0 := hc k (by omega)
      clear hc
      have rng := HW1.out.getD k
      obtain ⟨p, hp⟩ : ∃ p, p = xs.getD k 0 := ⟨_, rfl⟩
      rw [← hp] at hc0 rng
      have HP := Lib.hid hp
      clear hp
      obtain ⟨hf1, hf2⟩ := ho.at_ (k + q) (by have := hlen.out; omega)
      have rngo := ho.wf.getD (k + q)
      have ht := val_take_succ xs k (by have := l1.out; omega)
      have hlo' := hlo.out
      obtain ⟨o, hO⟩ : ∃ o, o = out.getD (k + q) 0 := ⟨_, rfl⟩
      rw [← hO] at hf1 rngo hlo'
      obtain ⟨keq, klt⟩ := or_low (s := s) rng rngo.1 hlo' (by omega)
      have hnew := (ho.set_ (k + q) (x := o + shlW p s) ⟨by have := shlW_wf p s; omega, klt⟩).drew
      have hbd := below_drew (below_set hb (Nat.le_refl _) (k := k + q) (.int .u64 (o + shlW p s)))
      obtain ⟨_, he, hcd⟩ := (HR1.out.below hbd).2.2 (by omega)
      injection he with he
      subst he
      have hcd0 := hcd k (by omega)
      rw [← HP.out] at hcd0
      clear hcd
      rcases Nat.eq_zero_or_pos s with hs0 | hs0
      · have ho0 : o = 0 := by have := rngo.1; rw [hs0] at hlo'; simp at hlo'; omega
        have hz' : Hid (∀ j, k + 1 + q < j → (out.set (k + q) (o + shlW p s)).getD j 0 = 0) := fun j hj => by
          rw [Cal.getD_set_ne (by omega)]; exact hz.out j (by omega)
        have hval : Hid (val (out.set (k + q) (o + shlW p s)) = val (xs.take (k + 1)) * 2 ^ n) := by
          show _ = _
          rw [hs0, ho0, left_round0 (by have := hlen.out; omega) rng (by rw [← hO]; exact ho0), hv.out, ht, ← HP.out, HQ.out, hs0, Nat.add_zero, Nat.pow_mul, Nat.pow_add B, show (2 : Nat) ^ 64 = B from B_pow.symm]
          grind
        have hlo2 : Hid (((out.set (k + q) (o + shlW p s)).getD (k + 1 + q) 0).toNat < 2 ^ s) := by
          show _ < _
          rw [Cal.getD_set_ne (by omega), hz.out _ (by omega)]; exact Nat.two_pow_pos _
        have HS0 := Lib.hid hs0
        clear hO ht hlo hz hv ho hlo' klt hcd0 hs0 ho0
        go_wp2_with fail
        go_region
        have hs0 := HS0.out
        have e3 : (n : Int) % 64 = 0 := by omega
        generalize (wr.setCell ⟨w.heap.size, k + q, none⟩ (.int .u64 (o + shlW p s))).drew = W1 at *
        clear hf1 hf2 hc0
        go_wp2_with fail
        go_roundw
        case rel => exact ⟨k + 1, _, by omega, by go_num, hnew, by show _ = _; rw [List.length_set]; exact hlen.out, hbd, hval, hz', hlo2⟩
        case measure => simp [intOf]; omega
      · obtain ⟨hg1, hg2⟩ := hnew.at_ (k + q + 1) (by rw [List.length_set]; have := hlen.out; omega)
        have hnew2 := hnew.set_ (k + q + 1) (x := shrW p (64 - s)) (shrW_wf rng _)
        have hz' : Hid (∀ j, k + 1 + q < j → ((out.set (k + q) (o + shlW p s)).set (k + q + 1) (shrW p (64 - s))).getD j 0 = 0) := fun j hj => by
          rw [Cal.getD_set_ne (by omega), Cal.getD_set_ne (by omega)]; exact hz.out j (by omega)
        have hval : Hid (val ((out.set (k + q) (o + shlW p s)).set (k + q + 1) (shrW p (64 - s))) = val (xs.take (k + 1)) * 2 ^ n) := by
          show _ = _
          rw [left_round (by have := hlen.out; omega) rng rngo.1 (by omega) hO.symm (hz.out _ (by omega)), hv.out, ht, ← HP.out, HQ.out, Nat.pow_add, Nat.pow_mul, Nat.pow_add B, show (2 : Nat) ^ 64 = B from B_pow.symm]
          grind
        have hlo2 : Hid ((((out.set (k + q) (o + shlW p s)).set (k + q + 1) (shrW p (64 - s))).getD (k + 1 + q) 0).toNat < 2 ^ s) := by
          show _ < _
          rw [show k + 1 + q = k + q + 1 by omega, Cal.getD_set_eq (by rw [List.length_set]; have := hlen.out; omega), shrW_nat rng.1]
          exact shr_lt (by omega) (by rw [B_eq]; omega)
        have hbd2 := below_set hbd (Nat.le_refl _) (k := k + q + 1) (.int .u64 (shrW p (64 - s)))
        clear hO ht hlo hz hv ho hlo' klt
        go_wp2_with fail
        go_region
        generalize (wr.setCell ⟨w.heap.size, k + q, none⟩ (.int .u64 (o + shlW p s))).drew = W1 at *
        clear hnew hf1 hf2 hc0
        go_wp2_with fail
        go_roundw
        case rel => exact ⟨k + 1, _, by omega, by go_num, hnew2, by show _ = _; rw [List.length_set, List.length_set]; exact hlen.out, hbd2, hval, hz', hlo2⟩
        case measure => simp [intOf]; omega
    · obtain rfl : k = n0 := by omega
      have hv' : val out = val xs * 2 ^ n := by
        have := hv.out
        rwa [List.take_of_length_le (by have := l1.out; omega)] at this
      obtain ⟨hcap, hwl, hns, hnt⟩ := ho.end_ hlen.out (by omega) hv'
      have C3 := Lib.hid (rtrim_c _ _ _ hns)
      clear hns hnt hv' hv hz hlo ho hlen hwl hcap
      go_wp2_with fail
      (with_reducible refine C3.out.mono ?_); rintro e w' ⟨v', rfl, hv', hb'⟩
      go_wp2_with fail
      go_ret
      exact ⟨_, rfl, hv', btrans hb hb'⟩
theorem rleft_c {M : Nat} (v : Value) (x n : Nat) (w : World) (h : NB M w v x) (hM : M + n / 64 + 1 ≤ 1000000) : Calls Tryz.prog 28 #[v, .int .i64 n] w (fun e w' => ∃ v, e = .returned v ∧ NT w' v (x * 2 ^ n) ∧ Below w.heap.size w w') := by
  obtain ⟨A, n0, c, rfl, hn, H1⟩ := h
  obtain ⟨_, _, _, xs, e1, _, _, r1, w1, rfl⟩ := H1.out
  injection e1 with e1 e3 e4
  subst e1 e3 e4
  exact rleft_raw xs _ _ _ n w r1 w1 (by omega)
end Go.Proofs.YtaepgdkpaffaaaaGreatDoor
