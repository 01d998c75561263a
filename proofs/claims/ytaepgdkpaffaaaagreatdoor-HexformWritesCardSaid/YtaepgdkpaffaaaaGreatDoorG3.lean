import Derived.Test.YtaepgdkpaffaaaaGreatDoorG2
import Derived.Test.YtaepgdkpaffaaaaGreatDoorG1
import Derived.Laws.Entries
import Derived.Laws.Bits64
set_option linter.unusedVariables false
set_option linter.unusedSimpArgs false
/- Package nat: Add, Sub. -/
namespace Go.Proofs.YtaepgdkpaffaaaaGreatDoor
open Go.RowKit Go.Proofs.YtaepgdkpaffaaaaGreatDoorW.PrintWords Cal

/-- make([]uint64, n), the walk's spelling of n left open. -/
theorem make22 (n : Nat) (z : Int) (hz : z = n) (hn : n ≤ 4000000) : ∀ W : World, (Instr.makeSlice 50 (.int .i64 z) (.int .i64 z)).run Tryz.prog W = .ok (.slice (some ⟨W.heap.size, 0, none⟩) n n) (W.alloc (.cells (madeCells #[.int .u64 0] n) 22)) := by
  subst hz
  exact print_make (P := Tryz.prog) 50 22 .u64 8 Tryz.underlying50 info22 (by omega) n (by omega)
theorem own_make (W : World) (n : Nat) (hn : n ≤ 4000000) (base : Nat) (hb : base ≤ W.heap.size) : Own (W.alloc (.cells (madeCells #[.int .u64 0] n) 22)) base (.slice (some ⟨W.heap.size, 0, none⟩) n n) (List.replicate n 0) :=
  ⟨by have := own_made W base 22 .u64 n hb (by omega); rwa [List.length_replicate], Wf.replicate n⟩
/-- A word of an owned row: read, and written. -/
theorem Own.at_ {w : World} {base g n cap : Nat} {xs : List Int} (h : Own w base (.slice (some ⟨g, 0, none⟩) n cap) xs) (k : Nat) (hk : k < xs.length) :
    w.cell? ⟨g, k, none⟩ = some (.int .u64 (xs.getD k 0)) ∧ w.frozen? ⟨g, k, none⟩ = false := by
  have hr := h.row
  have hn : n = xs.length := by
    rcases hr.2 with ⟨he, h0⟩ | ⟨g', cap', cur, he, _⟩
    · cases he
    · injection he
  subst hn
  have := own_at hr (k : Int) (by omega) (by omega)
  simpa [rd] using this
theorem Own.set_ {w : World} {base g n cap : Nat} {xs : List Int} (h : Own w base (.slice (some ⟨g, 0, none⟩) n cap) xs) (k : Nat) {x : Int} (hx : 0 ≤ x ∧ x < 18446744073709551616) :
    Own (w.setCell ⟨g, k, none⟩ (.int .u64 x)) base (.slice (some ⟨g, 0, none⟩) n cap) (xs.set k x) := by
  have hr := h.row
  have hn : n = xs.length := by
    rcases hr.2 with ⟨he, h0⟩ | ⟨g', cap', cur, he, _⟩
    · cases he
    · injection he
  subst hn
  have := (own_store hr (k : Int) x).1
  refine ⟨?_, h.wf.set k hx⟩
  rw [List.length_set]
  simpa using this
theorem Own.base_ {w : World} {base g n cap : Nat} {xs : List Int} (h : Own w base (.slice (some ⟨g, 0, none⟩) n cap) xs) : base ≤ g := own_base h.row g rfl
theorem below_set {w W : World} (h : Below w.heap.size w W) {g k : Nat} (hg : w.heap.size ≤ g) (u : Value) : Below w.heap.size w (W.setCell ⟨g, k, none⟩ u) := h.setCell hg u

set_option maxHeartbeats 1000000 in
theorem add_c1 (v1 v2 : Value) (x y : Nat) (w : World) (h1 : NS w v1 x) (h2 : NS w v2 y) (hle : wl y ≤ wl x) (hx9 : wl x ≤ 900000) : Calls Tryz.prog 106 #[v1, v2] w (fun e w' => ∃ v, e = .returned v ∧ NT w' v (x + y) ∧ Below w.heap.size w w') := by
  obtain ⟨A, n, c, rfl, a1, a2, a3, a4, a5, H1⟩ := h1.shape
  obtain ⟨A', n', c', rfl, b1, b2, b3, b4, b5, H2⟩ := h2.shape
  clear h1 h2
  have R1 := Lib.hid a5
  have R2 := Lib.hid b5
  clear a5 b5
  obtain ⟨m, hm⟩ : ∃ m, m = wl x := ⟨_, rfl⟩
  obtain ⟨m', hm'⟩ : ∃ m', m' = wl y := ⟨_, rfl⟩
  rw [← hm] at a1 a2 R1 hle hx9
  rw [← hm'] at b1 b2 R2 hle
  have HM := Lib.hid hm
  have HM' := Lib.hid hm'
  clear hm hm' a2 b2 a3 b3 a4 b4
  have hnl : decide (m < m') = false := by simp; omega
  have hnl' : decide ((m : Int) < m') = false := by simp; omega
  have kmk := make22 (m + 1) ((m : Int) + 1) (by omega) (by omega)
  have C1 := Lib.hid (fun k => (size_q _ _ _ (H1.drewN k)).mono (fun e w' h => (⟨h.1.trans (ret_int (by rw [← HM.out])), h.2⟩ : e = .returned (.int .i64 (m : Int)) ∧ w' = w.drewN k)))
  have C2 := Lib.hid (fun k => (size_q _ _ _ (H2.drewN k)).mono (fun e w' h => (⟨h.1.trans (ret_int (by rw [← HM'.out])), h.2⟩ : e = .returned (.int .i64 (m' : Int)) ∧ w' = w.drewN k)))
  clear H1 H2
  go_enter Tryz.func106, Tryz.ntmps106
  go_wp2_with fail
  go_quiet ((go_at_call 157; first | with_reducible exact Calls.quiet_of_same (C1.out _) | with_reducible exact Calls.quiet_of_same (C2.out _)))
  go_wp2_with fail
  go_loopw [6, 31] (fun t6 t31 wr => ∃ (k : Nat) (cy : Int) (out : List Int), k ≤ m ∧ t31 = .int .i64 k ∧ t6 = .int .u64 cy ∧ 0 ≤ cy ∧ cy ≤ 1 ∧ Own wr w.heap.size (.slice (some ⟨w.heap.size, 0, none⟩) (m + 1) (m + 1)) out ∧
      Hid (out.length = m + 1) ∧ Below w.heap.size w wr ∧ Hid (val (out.take k) + B ^ k * cy.toNat = val ((limbs x).take k) + val ((limbs y).take k))) (fun _ t31 _ => m - (intOf t31).toNat)
  case atStart => exact ⟨0, 0, _, Nat.zero_le _, rfl, rfl, by omega, by omega, own_make (w.drewN nq) (m + 1) (by omega) w.heap.size (Nat.le_refl _), List.length_replicate, (pw_below_drewN (Below.refl _ _) nq).alloc (Nat.le_refl _) _, by
    show _ = _
    simp⟩
  case round =>
    obtain ⟨k, cy, out, hk, rfl, rfl, c0, c1, ho, hlen, hb, hs⟩ := hrel
    by_cases hkm : k < m
    · obtain ⟨ad, rfl, hc⟩ := (R1.out.below hb).2.2 (by omega)
      have hc0 := hc k (by omega)
      clear hc
      have rng := (limbs_wf x).getD k
      have rng' := (limbs_wf y).getD k
      obtain ⟨p, hp⟩ : ∃ p, p = (limbs x).getD k 0 := ⟨_, rfl⟩
      obtain ⟨p', hp'⟩ : ∃ p', p' = (limbs y).getD k 0 := ⟨_, rfl⟩
      rw [← hp] at hc0 rng
      rw [← hp'] at rng'
      have HP := Lib.hid hp
      have HP' := Lib.hid hp'
      clear hp hp'
      have hf := (ho.at_ k (by have := hlen.out; omega))
      obtain ⟨hf1, hf2⟩ := hf
      have slo := sumLo_wf p p' cy
      have shi := sumHi_01 (x := p) (y := p') (c := cy) rng rng' ⟨c0, c1⟩
      have seq_ := Lib.hid (sum_eq p p' cy)
      have hnew : Own (wr.setCell ⟨w.heap.size, k, none⟩ (.int .u64 (sumLo p p' cy))) w.heap.size (.slice (some ⟨w.heap.size, 0, none⟩) (m + 1) (m + 1)) (out.set k (sumLo p p' cy)) := ho.set_ k slo
      have hrel : Hid (val ((out.set k (sumLo p p' cy)).take (k + 1)) + B ^ (k + 1) * (sumHi p p' cy).toNat = val ((limbs x).take (k + 1)) + val ((limbs y).take (k + 1))) :=
        add_round (c := cy) (y := p') (by have := R1.out.1; omega) (by have := hlen.out; omega) c0 slo.1 shi.1 rng'.1 ((limbs_wf x).getD k).1 hs.out (by rw [seq_.out, HP.out]) (by rw [val_take_succ' (limbs y) k, HP'.out])
      clear hs ho
      obtain ⟨lo, hlo⟩ : ∃ lo, lo = sumLo p p' cy := ⟨_, rfl⟩
      obtain ⟨hi, hhi⟩ : ∃ hi, hi = sumHi p p' cy := ⟨_, rfl⟩
      have kadd := add64 p p' cy rng.1 rng'.1 c0 c1
      rw [← hlo, ← hhi] at kadd
      rw [← hlo] at hnew slo
      rw [← hhi] at shi
      rw [← hlo, ← hhi] at hrel
      clear hlo hhi seq_
      by_cases hkm' : k < m'
      · obtain ⟨ad', rfl, hc'⟩ := (R2.out.below hb).2.2 (by omega)
        have hc0' := hc' k (by omega)
        clear hc'
        rw [← HP'.out] at hc0'
        go_wp2_with fail
        go_roundw
        case rel => exact ⟨k + 1, hi, _, by omega, by go_num, rfl, shi.1, shi.2, hnew, by show _ = _; rw [List.length_set]; exact hlen.out, below_set hb (Nat.le_refl _) _, hrel⟩
        case measure => simp [intOf]; omega
      · obtain rfl : p' = 0 := by
          rw [HP'.out, List.getD_eq_getElem?_getD, List.getElem?_eq_none (by have := R2.out.1; omega)]; rfl
        go_wp2_with fail
        go_roundw
        case rel => exact ⟨k + 1, hi, _, by omega, by go_num, rfl, shi.1, shi.2, hnew, by show _ = _; rw [List.length_set]; exact hlen.out, below_set hb (Nat.le_refl _) _, hrel⟩
        case measure => simp [intOf]; omega
    · obtain rfl : k = m := by omega
      have hf := (ho.at_ k (by have := hlen.out; omega))
      obtain ⟨hf1, hf2⟩ := hf
      have hnew := ho.set_ k (x := cy) ⟨c0, by omega⟩
      have hv : Hid (val (out.set k cy) = x + y) := by
        show _ = _
        have e1 := val_take_succ (out.set k cy) k (by rw [List.length_set]; have := hlen.out; omega)
        rw [List.take_of_length_le (by rw [List.length_set]; have := hlen.out; omega), List.take_set_of_le (Nat.le_refl _), List.getD_eq_getElem?_getD, List.getElem?_set_self (by have := hlen.out; omega)] at e1
        simp only [Option.getD_some] at e1
        rw [e1, hs.out, List.take_of_length_le (by have := R1.out.1; omega), List.take_of_length_le (by have := R2.out.1; omega), val_limbs, val_limbs]
      obtain ⟨out', ho'⟩ : ∃ out', out' = out.set k cy := ⟨_, rfl⟩
      have hl' : Hid (out'.length = k + 1) := by show _ = _; rw [ho', List.length_set]; exact hlen.out
      rw [← ho'] at hnew hv
      clear ho' ho hs hlen
      obtain ⟨A2, c2, he, _, _, hnt⟩ := hnew.cut (by have := hl'.out; omega)
      rw [hl'.out] at he
      injection he with he1 _ he3
      subst he1; subst he3
      rw [hv.out] at hnt
      have hns : NS (wr.setCell ⟨w.heap.size, k, none⟩ (.int .u64 cy)) (.slice (some ⟨w.heap.size, 0, none⟩) (k + 1) (k + 1)) (x + y) := by
        obtain ⟨A3, c3, he, h3, h4, _⟩ := hnew.cut (by have := hl'.out; omega)
        rw [hl'.out] at he h3 h4
        injection he with he1 _ he3
        subst he1; subst he3
        exact ⟨⟨_, _, _, _, rfl, Nat.le_refl _, by omega, h4, hnew.wf, hv.out⟩⟩
      have hwl : wl (x + y) ≤ k + 1 := by
        have := wl_val_le hnew.wf
        rw [hv.out, hl'.out] at this
        exact this
      have hb' := below_set hb (Nat.le_refl _) (k := k) (Value.int .u64 cy)
      clear hb hl' hv hnew
      have C3 := Lib.hid (size_c _ _ _ hns)
      have HN := Lib.hid hnt
      clear hns hnt
      obtain ⟨s, hs⟩ : ∃ s, s = wl (x + y) := ⟨_, rfl⟩
      rw [← hs] at C3 HN hwl
      clear hs
      go_wp2_with (go_at_call 157; go_must ((with_reducible refine C3.out.mono ?_); rintro e w' ⟨rfl, rfl⟩))
      go_ret
      exact ⟨_, rfl, HN.out, hb'⟩

set_option maxHeartbeats 1000000 in
theorem add_c2 (v1 v2 : Value) (x y : Nat) (w : World) (h1 : NS w v1 x) (h2 : NS w v2 y) (hle : wl y < wl x) (hx9 : wl x ≤ 900000) : Calls Tryz.prog 106 #[v2, v1] w (fun e w' => ∃ v, e = .returned v ∧ NT w' v (x + y) ∧ Below w.heap.size w w') := by
  obtain ⟨A, n, c, rfl, a1, a2, a3, a4, a5, H1⟩ := h1.shape
  obtain ⟨A', n', c', rfl, b1, b2, b3, b4, b5, H2⟩ := h2.shape
  clear h1 h2
  have R1 := Lib.hid a5
  have R2 := Lib.hid b5
  clear a5 b5
  obtain ⟨m, hm⟩ : ∃ m, m = wl x := ⟨_, rfl⟩
  obtain ⟨m', hm'⟩ : ∃ m', m' = wl y := ⟨_, rfl⟩
  rw [← hm] at a1 a2 R1 hle hx9
  rw [← hm'] at b1 b2 R2 hle
  have HM := Lib.hid hm
  have HM' := Lib.hid hm'
  clear hm hm' a2 b2 a3 b3 a4 b4
  have hnl : decide (m' < m) = true := by simp; omega
  have hnl' : decide ((m' : Int) < m) = true := by simp; omega
  have kmk := make22 (m + 1) ((m : Int) + 1) (by omega) (by omega)
  have C1 := Lib.hid (fun k => (size_q _ _ _ (H1.drewN k)).mono (fun e w' h => (⟨h.1.trans (ret_int (by rw [← HM.out])), h.2⟩ : e = .returned (.int .i64 (m : Int)) ∧ w' = w.drewN k)))
  have C2 := Lib.hid (fun k => (size_q _ _ _ (H2.drewN k)).mono (fun e w' h => (⟨h.1.trans (ret_int (by rw [← HM'.out])), h.2⟩ : e = .returned (.int .i64 (m' : Int)) ∧ w' = w.drewN k)))
  clear H1 H2
  go_enter Tryz.func106, Tryz.ntmps106
  go_wp2_with fail
  go_quiet ((go_at_call 157; first | with_reducible exact Calls.quiet_of_same (C1.out _) | with_reducible exact Calls.quiet_of_same (C2.out _)))
  go_wp2_with fail
  go_loopw [6, 31] (fun t6 t31 wr => ∃ (k : Nat) (cy : Int) (out : List Int), k ≤ m ∧ t31 = .int .i64 k ∧ t6 = .int .u64 cy ∧ 0 ≤ cy ∧ cy ≤ 1 ∧ Own wr w.heap.size (.slice (some ⟨w.heap.size, 0, none⟩) (m + 1) (m + 1)) out ∧
      Hid (out.length = m + 1) ∧ Below w.heap.size w wr ∧ Hid (val (out.take k) + B ^ k * cy.toNat = val ((limbs x).take k) + val ((limbs y).take k))) (fun _ t31 _ => m - (intOf t31).toNat)
  case atStart => exact ⟨0, 0, _, Nat.zero_le _, rfl, rfl, by omega, by omega, own_make (w.drewN nq) (m + 1) (by omega) w.heap.size (Nat.le_refl _), List.length_replicate, (pw_below_drewN (Below.refl _ _) nq).alloc (Nat.le_refl _) _, by
    show _ = _
    simp⟩
  case round =>
    obtain ⟨k, cy, out, hk, rfl, rfl, c0, c1, ho, hlen, hb, hs⟩ := hrel
    by_cases hkm : k < m
    · obtain ⟨ad, rfl, hc⟩ := (R1.out.below hb).2.2 (by omega)
      have hc0 := hc k (by omega)
      clear hc
      have rng := (limbs_wf x).getD k
      have rng' := (limbs_wf y).getD k
      obtain ⟨p, hp⟩ : ∃ p, p = (limbs x).getD k 0 := ⟨_, rfl⟩
      obtain ⟨p', hp'⟩ : ∃ p', p' = (limbs y).getD k 0 := ⟨_, rfl⟩
      rw [← hp] at hc0 rng
      rw [← hp'] at rng'
      have HP := Lib.hid hp
      have HP' := Lib.hid hp'
      clear hp hp'
      have hf := (ho.at_ k (by have := hlen.out; omega))
      obtain ⟨hf1, hf2⟩ := hf
      have slo := sumLo_wf p p' cy
      have shi := sumHi_01 (x := p) (y := p') (c := cy) rng rng' ⟨c0, c1⟩
      have seq_ := Lib.hid (sum_eq p p' cy)
      have hnew : Own (wr.setCell ⟨w.heap.size, k, none⟩ (.int .u64 (sumLo p p' cy))) w.heap.size (.slice (some ⟨w.heap.size, 0, none⟩) (m + 1) (m + 1)) (out.set k (sumLo p p' cy)) := ho.set_ k slo
      have hrel : Hid (val ((out.set k (sumLo p p' cy)).take (k + 1)) + B ^ (k + 1) * (sumHi p p' cy).toNat = val ((limbs x).take (k + 1)) + val ((limbs y).take (k + 1))) :=
        add_round (c := cy) (y := p') (by have := R1.out.1; omega) (by have := hlen.out; omega) c0 slo.1 shi.1 rng'.1 ((limbs_wf x).getD k).1 hs.out (by rw [seq_.out, HP.out]) (by rw [val_take_succ' (limbs y) k, HP'.out])
      clear hs ho
      obtain ⟨lo, hlo⟩ : ∃ lo, lo = sumLo p p' cy := ⟨_, rfl⟩
      obtain ⟨hi, hhi⟩ : ∃ hi, hi = sumHi p p' cy := ⟨_, rfl⟩
      have kadd := add64 p p' cy rng.1 rng'.1 c0 c1
      rw [← hlo, ← hhi] at kadd
      rw [← hlo] at hnew slo
      rw [← hhi] at shi
      rw [← hlo, ← hhi] at hrel
      clear hlo hhi seq_
      by_cases hkm' : k < m'
      · obtain ⟨ad', rfl, hc'⟩ := (R2.out.below hb).2.2 (by omega)
        have hc0' := hc' k (by omega)
        clear hc'
        rw [← HP'.out] at hc0'
        go_wp2_with fail
        go_roundw
        case rel => exact ⟨k + 1, hi, _, by omega, by go_num, rfl, shi.1, shi.2, hnew, by show _ = _; rw [List.length_set]; exact hlen.out, below_set hb (Nat.le_refl _) _, hrel⟩
        case measure => simp [intOf]; omega
      · obtain rfl : p' = 0 := by
          rw [HP'.out, List.getD_eq_getElem?_getD, List.getElem?_eq_none (by have := R2.out.1; omega)]; rfl
        go_wp2_with fail
        go_roundw
        case rel => exact ⟨k + 1, hi, _, by omega, by go_num, rfl, shi.1, shi.2, hnew, by show _ = _; rw [List.length_set]; exact hlen.out, below_set hb (Nat.le_refl _) _, hrel⟩
        case measure => simp [intOf]; omega
    · obtain rfl : k = m := by omega
      have hf := (ho.at_ k (by have := hlen.out; omega))
      obtain ⟨hf1, hf2⟩ := hf
      have hnew := ho.set_ k (x := cy) ⟨c0, by omega⟩
      have hv : Hid (val (out.set k cy) = x + y) := by
        show _ = _
        have e1 := val_take_succ (out.set k cy) k (by rw [List.length_set]; have := hlen.out; omega)
        rw [List.take_of_length_le (by rw [List.length_set]; have := hlen.out; omega), List.take_set_of_le (Nat.le_refl _), List.getD_eq_getElem?_getD, List.getElem?_set_self (by have := hlen.out; omega)] at e1
        simp only [Option.getD_some] at e1
        rw [e1, hs.out, List.take_of_length_le (by have := R1.out.1; omega), List.take_of_length_le (by have := R2.out.1; omega), val_limbs, val_limbs]
      obtain ⟨out', ho'⟩ : ∃ out', out' = out.set k cy := ⟨_, rfl⟩
      have hl' : Hid (out'.length = k + 1) := by show _ = _; rw [ho', List.length_set]; exact hlen.out
      rw [← ho'] at hnew hv
      clear ho' ho hs hlen
      obtain ⟨A2, c2, he, _, _, hnt⟩ := hnew.cut (by have := hl'.out; omega)
      rw [hl'.out] at he
      injection he with he1 _ he3
      subst he1; subst he3
      rw [hv.out] at hnt
      have hns : NS (wr.setCell ⟨w.heap.size, k, none⟩ (.int .u64 cy)) (.slice (some ⟨w.heap.size, 0, none⟩) (k + 1) (k + 1)) (x + y) := by
        obtain ⟨A3, c3, he, h3, h4, _⟩ := hnew.cut (by have := hl'.out; omega)
        rw [hl'.out] at he h3 h4
        injection he with he1 _ he3
        subst he1; subst he3
        exact ⟨⟨_, _, _, _, rfl, Nat.le_refl _, by omega, h4, hnew.wf, hv.out⟩⟩
      have hwl : wl (x + y) ≤ k + 1 := by
        have := wl_val_le hnew.wf
        rw [hv.out, hl'.out] at this
        exact this
      have hb' := below_set hb (Nat.le_refl _) (k := k) (Value.int .u64 cy)
      clear hb hl' hv hnew
      have C3 := Lib.hid (size_c _ _ _ hns)
      have HN := Lib.hid hnt
      clear hns hnt
      obtain ⟨s, hs⟩ : ∃ s, s = wl (x + y) := ⟨_, rfl⟩
      rw [← hs] at C3 HN hwl
      clear hs
      go_wp2_with (go_at_call 157; go_must ((with_reducible refine C3.out.mono ?_); rintro e w' ⟨rfl, rfl⟩))
      go_ret
      exact ⟨_, rfl, HN.out, hb'⟩
theorem add_c (v1 v2 : Value) (x y : Nat) (w : World) (h1 : NS w v1 x) (h2 : NS w v2 y) (hx9 : wl x ≤ 900000) (hy9 : wl y ≤ 900000) : Calls Tryz.prog 106 #[v1, v2] w (fun e w' => ∃ v, e = .returned v ∧ NT w' v (x + y) ∧ Below w.heap.size w w') := by
  rcases Nat.lt_or_ge (wl x) (wl y) with h | h
  · rw [Nat.add_comm]
    exact add_c2 v2 v1 y x w h2 h1 h hy9
  · exact add_c1 v1 v2 x y w h1 h2 h hx9
#print axioms add_c

theorem sub_lt (v1 v2 : Value) (x y : Nat) (w : World) (h1 : NS w v1 x) (h2 : NS w v2 y) (hlt : x < y) : Calls Tryz.prog 105 #[v1, v2] w (fun e w' => e = .returned (.tuple #[.slice none 0 0, .int .i64 3]) ∧ Below w.heap.size w w') := by
  have C1 := Lib.hid ((cmp_d v1 v2 x y w h1 h2).mono (fun e w' h => (⟨h.1.trans (ret_int (cmpI_lt hlt)), h.2⟩ : e = .returned (.int .i64 (-1)) ∧ ∃ n, w' = w.drewN n)))
  clear h1 h2 hlt
  go_enter Tryz.func105, Tryz.ntmps105
  go_wp2_with (go_at_call 108; go_must ((with_reducible refine C1.out.mono ?_); rintro e w' ⟨rfl, q, rfl⟩))
  go_ret2
  exact ⟨rfl, pw_below_drewN (Below.refl _ _) q⟩

set_option maxHeartbeats 1000000 in
theorem sub_c (v1 v2 : Value) (x y : Nat) (w : World) (h1 : NS w v1 x) (h2 : NS w v2 y) (hge : y ≤ x) : Calls Tryz.prog 105 #[v1, v2] w (fun e w' => ∃ v, e = .returned (.tuple #[v, .int .i64 0]) ∧ NT w' v (x - y) ∧ Below w.heap.size w w') := by
  obtain ⟨z, hz, hz0⟩ : ∃ z : Int, z = cmpI x y ∧ 0 ≤ z := ⟨_, rfl, by have := cmpI_neg (x := x) (y := y); omega⟩
  have C1 := Lib.hid ((cmp_d v1 v2 x y w h1 h2).mono (fun e w' h => (⟨h.1.trans (ret_int hz.symm), h.2⟩ : e = .returned (.int .i64 z) ∧ ∃ n, w' = w.drewN n)))
  have T1 := Lib.hid (fun k => trim_own v1 x (w.drewN k) (h1.drewN k))
  obtain ⟨A', n', c', ys, rfl, b1, b2, R2, hwf, hy⟩ := h2.out
  have hyl : Hid (ys.length = n') := R2.1
  have HY := Lib.hid hy
  have HZ := Lib.hid hz
  have HW := Lib.hid hwf
  have HR2 := Lib.hid R2
  have hwx : wl x ≤ 1000000 := by obtain ⟨_, _, _, _, _, h, _, h', _⟩ := h1.shape; omega
  clear h1 h2 hy hz hwf R2
  go_enter Tryz.func105, Tryz.ntmps105
  go_wp2_with fail
  (with_reducible refine C1.out.mono ?_); rintro e w' ⟨rfl, q, rfl⟩
  go_wp2_with fail
  (with_reducible refine (T1.out _).mono ?_); rintro e w1 ⟨v', rfl, ho, hb⟩
  have hlx : (limbs x).length = wl x := rfl
  rcases Nat.eq_zero_or_pos (wl x) with h0 | hpos
  · obtain ⟨A1, c1, hv', _, _, hnt⟩ := ho.cut hwx
    have hx0 : x = 0 := wl_eq_zero.1 h0
    subst hx0
    obtain rfl : y = 0 := by omega
    rw [limbs_zero] at hv' hnt
    simp only [val_nil, wl_zero] at hnt
    simp only [List.length_nil] at hv'
    subst hv'
    have HN := Lib.hid hnt
    have C3 := Lib.hid (size_c _ _ _ hnt.ns)
    rw [wl_zero] at C3
    clear hnt ho hlx
    have hb' : Below w.heap.size w w1 := btrans (pw_below_drewN (Below.refl _ _) q) hb
    go_wp2_with fail
    go_loop [18] (fun t => t = .int .i64 0) (fun t => 0)
    case atStart => rfl
    case round =>
      obtain rfl := hrel
      go_wp2_with (go_at_call 157; go_must ((with_reducible refine C3.out.mono ?_); rintro e w' ⟨rfl, rfl⟩))
      go_ret2
      exact ⟨_, rfl, HN.out, hb'⟩
  · obtain ⟨g, cap, hv', hgb, hgl⟩ := ho.row.form (by rw [hlx]; exact hpos)
    have hb' : Below w.heap.size w w1 := btrans (pw_below_drewN (Below.refl _ _) q) hb
    obtain ⟨m, hm⟩ : ∃ m, m = wl x := ⟨_, rfl⟩
    rw [hlx, ← hm] at hv'
    subst hv'
    have HM := Lib.hid hm
    have hlx' : Hid ((limbs x).length = m) := by show _ = _; rw [hlx, hm]
    rw [← hm] at hpos hwx
    clear hlx hm
    have hgb' : w.heap.size ≤ g := by simpa using hgb
    go_wp2_with fail
    go_loopw [7, 18] (fun t7 t18 wr => ∃ (k : Nat) (cy : Int) (out : List Int), k ≤ m ∧ t18 = .int .i64 k ∧ t7 = .int .u64 cy ∧ 0 ≤ cy ∧ cy ≤ 1 ∧ Own wr w.heap.size (.slice (some ⟨g, 0, none⟩) m cap) out ∧
        Hid (out.length = m) ∧ Below w.heap.size w wr ∧ Hid (val (out.take k) + val (ys.take k) = val ((limbs x).take k) + B ^ k * cy.toNat) ∧ Hid (out.drop k = (limbs x).drop k)) (fun _ t18 _ => m - (intOf t18).toNat)
    case atStart => exact ⟨0, 0, _, Nat.zero_le _, rfl, rfl, by omega, by omega, ho.low (by simp), hlx'.out, hb', by show _ = _; simp, rfl⟩
    case round =>
      obtain ⟨k, cy, out, hk, rfl, rfl, c0, c1, ho, hlen, hb, hs, hd⟩ := hrel
      by_cases hkm : k < m
      · have rng := (limbs_wf x).getD k
        have rng' := HW.out.getD k
        have hpe : out.getD k 0 = (limbs x).getD k 0 := by
          have := congrArg (fun l => l.getD 0 0) hd.out
          simpa using this
        obtain ⟨hf1, hf2⟩ := (ho.at_ k (by have := hlen.out; omega))
        rw [hpe] at hf1
        clear hpe
        obtain ⟨p, hp⟩ : ∃ p, p = (limbs x).getD k 0 := ⟨_, rfl⟩
        obtain ⟨p', hp'⟩ : ∃ p', p' = ys.getD k 0 := ⟨_, rfl⟩
        rw [← hp] at hf1 rng
        rw [← hp'] at rng'
        have HP := Lib.hid hp
        have HP' := Lib.hid hp'
        clear hp hp'
        have slo := difLo_wf p p' cy
        have shi := difHi_01 p p' cy
        have seq_ := Lib.hid (dif_eq (x := p) (y := p') (c := cy) rng rng' ⟨c0, c1⟩)
        have hnew := ho.set_ k slo
        have hrel : Hid (val ((out.set k (difLo p p' cy)).take (k + 1)) + val (ys.take (k + 1)) = val ((limbs x).take (k + 1)) + B ^ (k + 1) * (difHi p p' cy).toNat) :=
          sub_round (c := cy) (y := p') (by have := hlx'.out; omega) (by have := hlen.out; omega) c0 slo.1 shi.1 rng'.1 ((limbs_wf x).getD k).1 hs.out (by rw [seq_.out, HP.out]) (by rw [val_take_succ' ys k, HP'.out])
        have hdrop : Hid ((out.set k (difLo p p' cy)).drop (k + 1) = (limbs x).drop (k + 1)) := by
          show _ = _
          rw [List.drop_set_of_lt (by omega)]
          have := congrArg (List.drop 1) hd.out
          simpa [List.drop_drop] using this
        clear hs ho hd
        obtain ⟨lo, hlo⟩ : ∃ lo, lo = difLo p p' cy := ⟨_, rfl⟩
        obtain ⟨hi, hhi⟩ : ∃ hi, hi = difHi p p' cy := ⟨_, rfl⟩
        have kadd := sub64 p p' cy rng.1 rng'.1 rng'.2 c0 c1
        rw [← hlo, ← hhi] at kadd
        rw [← hlo] at hnew slo hdrop
        rw [← hhi] at shi
        rw [← hlo, ← hhi] at hrel
        clear hlo hhi seq_
        by_cases hkm' : k < n'
        · obtain ⟨ad', rfl, hc'⟩ := (HR2.out.below hb).2.2 (by omega)
          have hc0' := hc' k (by omega)
          clear hc'
          rw [← HP'.out] at hc0'
          go_wp2_with fail
          go_roundw
          case rel => exact ⟨k + 1, hi, _, by omega, by go_num, rfl, shi.1, shi.2, hnew, by show _ = _; rw [List.length_set]; exact hlen.out, below_set hb hgb' _, hrel, hdrop⟩
          case measure => simp [intOf]; omega
        · obtain rfl : p' = 0 := by
            rw [HP'.out, List.getD_eq_getElem?_getD, List.getElem?_eq_none (by have := hyl.out; omega)]; rfl
          go_wp2_with fail
          go_roundw
          case rel => exact ⟨k + 1, hi, _, by omega, by go_num, rfl, shi.1, shi.2, hnew, by show _ = _; rw [List.length_set]; exact hlen.out, below_set hb hgb' _, hrel, hdrop⟩
          case measure => simp [intOf]; omega
      · obtain rfl : k = m := by omega
        have hv : val out = x - y := by
          have := sub_end ho.wf hlen.out HW.out hlx'.out (limbs_wf x) hs.out (by rw [HY.out, val_limbs]; exact hge)
          rwa [val_limbs, HY.out] at this
        obtain ⟨A2, c2, he, _, hr, hnt⟩ := ho.cut (by have := hlen.out; omega)
        rw [hlen.out] at he hr
        injection he with he1 _ he3
        subst he1; subst he3
        rw [hv] at hnt
        have hwl : wl (x - y) ≤ k := by
          have := wl_val_le ho.wf
          rw [hv, hlen.out] at this
          exact this
        have hkc : k ≤ cap := by
          rcases ho.row.2 with ⟨he, h0⟩ | ⟨g', cap', cur, he, _, _, h1, _⟩
          · cases he
          · injection he with _ _ h3
            rw [hlen.out] at h1
            omega
        have C3 := Lib.hid (size_c _ _ _ (⟨⟨_, _, _, _, rfl, hkc, by omega, hr, ho.wf, hv⟩⟩ : NS wr (.slice (some ⟨g, 0, none⟩) k cap) (x - y)))
        have HN := Lib.hid hnt
        clear hnt hr hv hs hd ho hlen
        obtain ⟨s, hs⟩ : ∃ s, s = wl (x - y) := ⟨_, rfl⟩
        rw [← hs] at C3 HN hwl
        clear hs
        go_wp2_with (go_at_call 157; go_must ((with_reducible refine C3.out.mono ?_); rintro e w' ⟨rfl, rfl⟩))
        go_ret2
        exact ⟨_, rfl, HN.out, hb⟩
#print axioms sub_c
end Go.Proofs.YtaepgdkpaffaaaaGreatDoor

/- Plain facts on lists of words: products. -/
namespace Go.Proofs.YtaepgdkpaffaaaaGreatDoor
namespace Cal
theorem val_set (xs : List Int) (k : Nat) (hk : k < xs.length) (x : Int) : val (xs.set k x) + B ^ k * (xs.getD k 0).toNat = val xs + B ^ k * x.toNat := by
  have e1 := val_take_add (xs.set k x) (k + 1)
  have e2 := val_take_add xs (k + 1)
  have e3 := val_take_succ (xs.set k x) k (by rw [List.length_set]; exact hk)
  have e4 := val_take_succ xs k hk
  rw [List.drop_set_of_lt (by omega), e3, List.take_set_of_le (Nat.le_refl _), List.getD_eq_getElem?_getD, List.getElem?_set_self hk, Option.getD_some] at e1
  rw [e4] at e2
  omega
theorem getD_set_ne {xs : List Int} {k j : Nat} (h : k ≠ j) (x : Int) : (xs.set k x).getD j 0 = xs.getD j 0 := by
  rw [List.getD_eq_getElem?_getD, List.getElem?_set_ne h, ← List.getD_eq_getElem?_getD]
theorem getD_set_eq {xs : List Int} {k : Nat} (h : k < xs.length) (x : Int) : (xs.set k x).getD k 0 = x := by
  rw [List.getD_eq_getElem?_getD, List.getElem?_set_self h, Option.getD_some]
/-- One word times one word, and two words more. -/
theorem mul_bound {x y : Int} (hx : 0 ≤ x ∧ x < 18446744073709551616) (hy : 0 ≤ y ∧ y < 18446744073709551616) : 0 ≤ x * y ∧ x * y ≤ 18446744073709551615 * 18446744073709551615 :=
  ⟨Int.mul_nonneg hx.1 hy.1, Int.mul_le_mul (by omega) (by omega) hy.1 (by omega)⟩
theorem mul_hi {x y h l : Int} (hx : 0 ≤ x ∧ x < 18446744073709551616) (hy : 0 ≤ y ∧ y < 18446744073709551616) (hh : h = x * y / 18446744073709551616) (hl : l = x * y % 18446744073709551616) :
    0 ≤ h ∧ h ≤ 18446744073709551614 ∧ 0 ≤ l ∧ l < 18446744073709551616 ∧ 18446744073709551616 * h + l = x * y := by
  have := mul_bound hx hy
  generalize x * y = z at *
  omega
/-- The two sums behind it. -/
theorem mul_round {x y o c h l : Int} (hx : 0 ≤ x ∧ x < 18446744073709551616) (hy : 0 ≤ y ∧ y < 18446744073709551616) (ho : 0 ≤ o ∧ o < 18446744073709551616) (hc : 0 ≤ c ∧ c < 18446744073709551616)
    (hh : h = x * y / 18446744073709551616) (hl : l = x * y % 18446744073709551616) {l1 c1 l2 c2 : Int} (e1 : 0 ≤ l1 ∧ l1 < 18446744073709551616) (e1' : l1 + 18446744073709551616 * c1 = l + c)
    (e2 : 0 ≤ l2 ∧ l2 < 18446744073709551616) (e2' : l2 + 18446744073709551616 * c2 = o + l1) :
    0 ≤ c1 ∧ c1 ≤ 1 ∧ 0 ≤ c2 ∧ c2 ≤ 1 ∧ h + c1 + c2 ≤ 18446744073709551615 ∧ l2 + 18446744073709551616 * (h + c1 + c2) = o + x * y + c := by
  have := mul_bound hx hy
  generalize x * y = z at *
  omega
theorem prod_round {out bs : List Int} {i k S : Nat} {x c l2 c' y : Int} (hik : i + k < out.length) (hk : k < bs.length) (hl2 : 0 ≤ l2) (hc' : 0 ≤ c') (hc : 0 ≤ c) (hx : 0 ≤ x) (hy : 0 ≤ y) (ho : 0 ≤ out.getD (i + k) 0)
    (hyk : bs.getD k 0 = y)
    (hinv : val out + B ^ (i + k) * c.toNat = S + B ^ i * (x.toNat * val (bs.take k)))
    (he : l2 + 18446744073709551616 * c' = out.getD (i + k) 0 + x * y + c) :
    val (out.set (i + k) l2) + B ^ (i + (k + 1)) * c'.toNat = S + B ^ i * (x.toNat * val (bs.take (k + 1))) := by
  have e1 := val_set out (i + k) hik l2
  rw [val_take_succ bs k hk, hyk]
  have e3 : l2.toNat + B * c'.toNat = (out.getD (i + k) 0).toNat + x.toNat * y.toNat + c.toNat := by
    rw [B_eq]
    have : ((x.toNat * y.toNat : Nat) : Int) = x * y := by rw [Int.natCast_mul, Int.toNat_of_nonneg hx, Int.toNat_of_nonneg hy]
    omega
  have e4 : B ^ (i + k) * (l2.toNat + B * c'.toNat) = B ^ (i + k) * ((out.getD (i + k) 0).toNat + x.toNat * y.toNat + c.toNat) := by rw [e3]
  have e5 : B ^ (i + (k + 1)) = B ^ (i + k) * B := by rw [← Nat.add_assoc, Nat.pow_succ]
  have e6 : B ^ i * (x.toNat * (B ^ k * y.toNat)) = B ^ (i + k) * (x.toNat * y.toNat) := by
    rw [Nat.pow_add]; grind
  rw [e5, Nat.mul_add x.toNat, Nat.mul_add (B ^ i), e6]
  rw [Nat.mul_add, Nat.mul_add, Nat.mul_add, ← Nat.mul_assoc] at e4
  omega
theorem prod_step {xs : List Int} {i S V : Nat} (hi : i < xs.length) (hS : S = val (xs.take i) * V) : S + B ^ i * ((xs.getD i 0).toNat * V) = val (xs.take (i + 1)) * V := by
  rw [val_take_succ xs i hi, hS, Nat.add_mul, Nat.mul_assoc]
end Cal
end Go.Proofs.YtaepgdkpaffaaaaGreatDoor

/- Package nat: product, Mul. -/
namespace Go.Proofs.YtaepgdkpaffaaaaGreatDoor
open Go.RowKit Go.Proofs.YtaepgdkpaffaaaaGreatDoorW.PrintWords Cal

def mulHi (x y : Int) : Int := x * y / 18446744073709551616
def mulLo (x y : Int) : Int := x * y % 18446744073709551616
theorem mul64 (x y : Int) (hx : 0 ≤ x ∧ x < 18446744073709551616) (hy : 0 ≤ y ∧ y < 18446744073709551616) (w : World) :
    Calls Tryz.prog 84 #[.int .u64 x, .int .u64 y] w fun e w' => e = .returned (.tuple #[.int .u64 (mulHi x y), .int .u64 (mulLo x y)]) ∧ w = w' := by
  obtain ⟨x, rfl⟩ := Int.eq_ofNat_of_zero_le hx.1
  obtain ⟨y, rfl⟩ := Int.eq_ofNat_of_zero_le hy.1
  refine (Tryz.bits_Mul64 x y (by omega) (by omega) w).mono ?_
  rintro e w' ⟨rfl, rfl⟩
  exact ⟨by simp [mulHi, mulLo], rfl⟩
theorem add64_0 (x y : Int) (hx : 0 ≤ x) (hy : 0 ≤ y) (w : World) : (callFunc 85 #[.int .u64 x, .int .u64 y, .int .u64 0]).run Tryz.prog w =
    .ok (.value (.tuple #[.int .u64 (sumLo x y 0), .int .u64 (sumHi x y 0)])) w := add64 x y 0 hx hy (by omega) (by omega) w

/-- What the walk is told at the end: 'size(out)', 'out[:size(out)]' of an owned row. -/
theorem Own.end_ {w : World} {base g m cap : Nat} {out : List Int} {x : Nat} (h : Own w base (.slice (some ⟨g, 0, none⟩) m cap) out) (hl : out.length = m) (hm : m ≤ 1000000) (hv : val out = x) :
    m ≤ cap ∧ wl x ≤ m ∧ NS w (.slice (some ⟨g, 0, none⟩) m cap) x ∧ NT w (.slice (some ⟨g, 0, none⟩) (wl x) cap) x := by
  obtain ⟨A2, c2, he, hc, hr, hnt⟩ := h.cut (by omega)
  rw [hl] at he hr hc
  injection he with he1 _ he3
  subst he1; subst he3
  rw [hv] at hnt
  have hw := wl_val_le h.wf
  rw [hv, hl] at hw
  exact ⟨hc, hw, ⟨⟨_, _, _, _, rfl, hc, hm, hr, h.wf, hv⟩⟩, hnt⟩

set_option maxHeartbeats 2000000 in
theorem product_raw (xs ys : List Int) (A A' : Option Addr) (n n' c c' : Nat) (w : World) (R1 : ReadsInt w .u64 A n xs) (R2 : ReadsInt w .u64 A' n' ys) (W1 : Wf xs) (W2 : Wf ys) (hn : n + n' ≤ 1000000) :
    Calls Tryz.prog 136 #[.slice A n c, .slice A' n' c'] w (fun e w' => ∃ v, e = .returned v ∧ NT w' v (val xs * val ys) ∧ Below w.heap.size w w') := by
  have l1 : Hid (xs.length = n) := R1.1
  have l2 : Hid (ys.length = n') := R2.1
  have HR1 := Lib.hid R1
  have HR2 := Lib.hid R2
  have HW1 := Lib.hid W1
  have HW2 := Lib.hid W2
  clear R1 R2 W1 W2
  have kmk := make22 (n + n') ((n : Int) + (n' : Int)) (by omega) (by omega)
  go_enter Tryz.func136, Tryz.ntmps136
  go_wp2_with fail
  go_loopw [22] (fun t22 wr => ∃ (i : Nat) (out : List Int), i ≤ n ∧ t22 = .int .i64 i ∧ Own wr w.heap.size (.slice (some ⟨w.heap.size, 0, none⟩) (n + n') (n + n')) out ∧
      Hid (out.length = n + n') ∧ Below w.heap.size w wr ∧ Hid (val out = val (xs.take i) * val ys) ∧ Hid (∀ j, i + n' ≤ j → out.getD j 0 = 0)) (fun t22 _ => n - (intOf t22).toNat)
  case atStart => exact ⟨0, _, Nat.zero_le _, rfl, own_make w (n + n') (by omega) w.heap.size (Nat.le_refl _), List.length_replicate, (Below.refl _ _).alloc (Nat.le_refl _) _, by
      show _ = _
      rw [val_replicate]; simp, by
      intro j hj
      rw [List.getD_eq_getElem?_getD, List.getElem?_replicate]; split <;> rfl⟩
  case round =>
    obtain ⟨wo, rfl⟩ : ∃ wo : World, wo = wr := ⟨_, rfl⟩
    obtain ⟨i, out, hi, rfl, ho, hlen, hb, hs, hz⟩ := hrel
    by_cases hin : i < n
    · obtain ⟨ad, rfl, hc⟩ := (HR1.out.below hb).2.2 (by omega)
      have hc0 := hc i (by omega)
      clear hc
      have rng := HW1.out.getD i
      obtain ⟨p, hp⟩ : ∃ p, p = xs.getD i 0 := ⟨_, rfl⟩
      rw [← hp] at hc0 rng
      have HP := Lib.hid hp
      clear hp
      obtain ⟨S, hS⟩ : ∃ S, S = val out := ⟨_, rfl⟩
      have HS := Lib.hid hS
      clear hS
      go_wp2_with fail
      go_loopw [8, 29] (fun t8 t29 wi => ∃ (k : Nat) (cy : Int) (oi : List Int), k ≤ n' ∧ t29 = .int .i64 k ∧ t8 = .int .u64 cy ∧ 0 ≤ cy ∧ cy < 18446744073709551616 ∧ Own wi w.heap.size (.slice (some ⟨w.heap.size, 0, none⟩) (n + n') (n + n')) oi ∧
        Hid (oi.length = n + n') ∧ Below w.heap.size w wi ∧ Hid (val oi + B ^ (i + k) * cy.toNat = S + B ^ i * (p.toNat * val (ys.take k))) ∧ Hid (∀ j, i + n' ≤ j → oi.getD j 0 = 0)) (fun _ t29 _ => n' - (intOf t29).toNat)
      case atStart => exact ⟨0, 0, out, Nat.zero_le _, rfl, rfl, by omega, by omega, ho, hlen.out, hb, by
        show _ = _
        rw [HS.out]; simp, hz.out⟩
      case round =>
        obtain ⟨k, cy, oi, hk, rfl, rfl, cy0, cy1, hoi, hleni, hbi, hsi, hzi⟩ := hrel
        by_cases hkn : k < n'
        · obtain ⟨ad', rfl, hc'⟩ := (HR2.out.below hbi).2.2 (by omega)
          have hc0' := hc' k (by omega)
          clear hc'
          have rng' := HW2.out.getD k
          obtain ⟨hf1, hf2⟩ := hoi.at_ (i + k) (by have := hleni.out; omega)
          have rngo := hoi.wf.getD (i + k)
          obtain ⟨q, hq⟩ : ∃ q, q = ys.getD k 0 := ⟨_, rfl⟩
          obtain ⟨o, hO⟩ : ∃ o, o = oi.getD (i + k) 0 := ⟨_, rfl⟩
          rw [← hq] at hc0' rng'
          rw [← hO] at hf1 rngo
          obtain ⟨h, hh⟩ : ∃ h, h = mulHi p q := ⟨_, rfl⟩
          obtain ⟨l, hl⟩ : ∃ l, l = mulLo p q := ⟨_, rfl⟩
          have hml := mul_hi rng rng' (h := h) (l := l) hh hl
          obtain ⟨h0, h1, l0, l1', _⟩ := hml
          obtain ⟨s1, hs1⟩ : ∃ s, s = sumLo l cy 0 := ⟨_, rfl⟩
          obtain ⟨c1, hc1⟩ : ∃ s, s = sumHi l cy 0 := ⟨_, rfl⟩
          obtain ⟨s2, hs2⟩ : ∃ s, s = sumLo o s1 0 := ⟨_, rfl⟩
          obtain ⟨c2, hc2⟩ : ∃ s, s = sumHi o s1 0 := ⟨_, rfl⟩
          have w1 := sumLo_wf l cy 0
          have w2 := sumLo_wf o s1 0
          have q1 := sum_eq l cy 0
          have q2 := sum_eq o s1 0
          rw [← hs1] at w1 q1
          rw [← hc1] at q1
          rw [← hs2] at w2 q2
          rw [← hc2] at q2
          obtain ⟨b1, b2, b3, b4, b5, b6⟩ := mul_round (c1 := c1) (c2 := c2) rng rng' rngo ⟨cy0, cy1⟩ hh hl w1 (by omega) w2 (by omega)
          have C84 := Lib.hid (fun W => mul64 p q rng rng' W)
          rw [← hh, ← hl] at C84
          have k1 := add64_0 l cy l0 cy0
          have k2 := add64_0 o s1 rngo.1 w1.1
          rw [← hs1, ← hc1] at k1
          rw [← hs2, ← hc2] at k2
          have hnew := hoi.set_ (i + k) w2
          have hrel : Hid (val (oi.set (i + k) s2) + B ^ (i + (k + 1)) * (h + c1 + c2).toNat = S + B ^ i * (p.toNat * val (ys.take (k + 1)))) :=
            prod_round (by have := hleni.out; omega) (by have := l2.out; omega) w2.1 (by omega) cy0 rng.1 rng'.1 (by rw [← hO]; exact rngo.1) hq.symm hsi.out (by rw [b6, ← hO])
          have hz' : Hid (∀ j, i + n' ≤ j → (oi.set (i + k) s2).getD j 0 = 0) := fun j hj => by
            rw [Cal.getD_set_ne (by omega)]; exact hzi.out j hj
          clear hq hO hh hl hs1 hc1 hs2 hc2 q1 q2 b6 hsi hzi hoi
          go_wp2_with (go_at_call 84; go_must ((with_reducible refine (C84.out _).mono ?_); rintro e w' ⟨rfl, rfl⟩))
          go_roundw
          case rel => exact ⟨k + 1, h + c1 + c2, _, by omega, by go_num, rfl, by omega, by omega, hnew, by show _ = _; rw [List.length_set]; exact hleni.out, below_set hbi (Nat.le_refl _) _, hrel, hz'⟩
          case measure => simp [intOf]; omega
        · obtain rfl : k = n' := by omega
          obtain ⟨hf1, hf2⟩ := hoi.at_ (i + k) (by have := hleni.out; omega)
          have hzz := hzi.out (i + k) (Nat.le_refl _)
          have hnew := hoi.set_ (i + k) ⟨cy0, cy1⟩
          have hval : Hid (val (oi.set (i + k) cy) = val (xs.take (i + 1)) * val ys) := by
            have e1 := val_set oi (i + k) (by have := hleni.out; omega) cy
            have e2 := hsi.out
            have e3 := prod_step (xs := xs) (V := val ys) (by have := l1.out; omega) ((HS.out).trans hs.out)
            rw [hzz] at e1
            rw [List.take_of_length_le (by have := l2.out; omega), HP.out] at e2
            show _ = _
            simp at e1
            omega
          have hz' : Hid (∀ j, i + 1 + k ≤ j → (oi.set (i + k) cy).getD j 0 = 0) := fun j hj => by
            rw [Cal.getD_set_ne (by omega)]; exact hzi.out j (by omega)
          clear hzz hsi hzi hoi
          go_wp2_with fail
          go_roundw
          case rel => exact ⟨i + 1, _, by omega, by go_num, hnew, by show _ = _; rw [List.length_set]; exact hleni.out, below_set hbi (Nat.le_refl _) _, hval, hz'⟩
          case measure => simp [intOf]; omega
    · obtain rfl : i = n := by omega
      have hv : val out = val xs * val ys := by
        have := hs.out
        rwa [List.take_of_length_le (by have := l1.out; omega)] at this
      obtain ⟨hcap, hwl, hns, hnt⟩ := ho.end_ hlen.out (by omega) hv
      have C3 := Lib.hid (size_c _ _ _ hns)
      have HN := Lib.hid hnt
      clear hns hnt hv hs hz ho hlen
      obtain ⟨s, hs⟩ : ∃ s, s = wl (val xs * val ys) := ⟨_, rfl⟩
      rw [← hs] at C3 HN hwl
      clear hs
      go_wp2_with (go_at_call 157; go_must ((with_reducible refine C3.out.mono ?_); rintro e w' ⟨rfl, rfl⟩))
      go_ret
      exact ⟨_, rfl, HN.out, hb⟩

set_option maxHeartbeats 1000000 in
theorem mul_c (v1 v2 : Value) (x y : Nat) (w : World) (h1 : NS w v1 x) (h2 : NS w v2 y) (hl : wl x + wl y ≤ 2000) : Calls Tryz.prog 137 #[v1, v2] w (fun e w' => ∃ v, e = .returned (.tuple #[v, .int .i64 0]) ∧ NT w' v (x * y) ∧ Below w.heap.size w w') := by
  obtain ⟨A, n, c, rfl, a1, a2, a3, a4, a5, H1⟩ := h1.shape
  obtain ⟨A', n', c', rfl, b1, b2, b3, b4, b5, H2⟩ := h2.shape
  clear h1 h2
  have R1 := Lib.hid a5
  have R2 := Lib.hid b5
  clear a5 b5
  obtain ⟨m, hm⟩ : ∃ m, m = wl x := ⟨_, rfl⟩
  obtain ⟨m', hm'⟩ : ∃ m', m' = wl y := ⟨_, rfl⟩
  rw [← hm] at a1 a2 R1 hl
  rw [← hm'] at b1 b2 R2 hl
  have HM := Lib.hid hm
  have HM' := Lib.hid hm'
  clear hm hm' a2 b2 a3 b3 a4 b4
  have C1 := Lib.hid (fun k => (size_q _ _ _ (H1.drewN k)).mono (fun e w' h => (⟨h.1.trans (ret_int (by rw [← HM.out])), h.2⟩ : e = .returned (.int .i64 (m : Int)) ∧ w' = w.drewN k)))
  have C2 := Lib.hid (fun k => (size_q _ _ _ (H2.drewN k)).mono (fun e w' h => (⟨h.1.trans (ret_int (by rw [← HM'.out])), h.2⟩ : e = .returned (.int .i64 (m' : Int)) ∧ w' = w.drewN k)))
  have P1 := Lib.hid (fun k => (product_raw (limbs x) (limbs y) A A' m m' c c' (w.drewN k) (R1.out.below (pw_below_drewN (Below.refl _ _) k)) (R2.out.below (pw_below_drewN (Below.refl _ _) k)) (limbs_wf x) (limbs_wf y) (by omega)).mono
    (fun e w' h => (by rw [val_limbs, val_limbs] at h; exact h : ∃ v, e = .returned v ∧ NT w' v (x * y) ∧ Below (w.drewN k).heap.size (w.drewN k) w')))
  clear H1 H2
  go_enter Tryz.func137, Tryz.ntmps137
  go_wp2_with fail
  go_quiet ((go_at_call 157; first | with_reducible exact Calls.quiet_of_same (C1.out _) | with_reducible exact Calls.quiet_of_same (C2.out _)))
  go_wp2_with (go_at_call 136; go_must ((with_reducible refine (P1.out _).mono ?_); rintro e w' ⟨v, rfl, hv, hb⟩))
  go_ret2
  exact ⟨_, rfl, hv, btrans (pw_below_drewN (Below.refl _ _) nq) hb⟩
#print axioms mul_c
end Go.Proofs.YtaepgdkpaffaaaaGreatDoor

/- Plain facts on words: shifts. -/
namespace Go.Proofs.YtaepgdkpaffaaaaGreatDoor
namespace Cal
/-- a << s, of a word. -/
def shlW (p : Int) (s : Nat) : Int := p * 2 ^ s % 18446744073709551616
/-- a >> s, of a word. -/
def shrW (p : Int) (s : Nat) : Int := p / 2 ^ s
theorem pow_split {s : Nat} (hs : s ≤ 64) : (2 : Int) ^ s * 2 ^ (64 - s) = 18446744073709551616 := by
  rw [← Int.pow_add, show s + (64 - s) = 64 by omega]; decide
theorem pow_splitN {s : Nat} (hs : s ≤ 64) : (2 : Nat) ^ s * 2 ^ (64 - s) = B := by
  rw [← Nat.pow_add, show s + (64 - s) = 64 by omega]; decide
theorem two_pow_pos (s : Nat) : (0 : Int) < 2 ^ s := Int.pow_pos (by omega)
theorem shlW_wf (p : Int) (s : Nat) : 0 ≤ shlW p s ∧ shlW p s < 18446744073709551616 := by unfold shlW; omega
theorem shrW_wf {p : Int} (hp : 0 ≤ p ∧ p < 18446744073709551616) (s : Nat) : 0 ≤ shrW p s ∧ shrW p s < 18446744073709551616 := by
  unfold shrW
  have h1 : 0 ≤ p / 2 ^ s := Int.ediv_nonneg hp.1 (Int.le_of_lt (two_pow_pos s))
  have h2 : p / 2 ^ s ≤ p := Int.ediv_le_self _ hp.1
  omega
theorem shlW_nat {p : Int} (hp : 0 ≤ p) (s : Nat) : (shlW p s).toNat = p.toNat * 2 ^ s % B := by
  obtain ⟨p, rfl⟩ := Int.eq_ofNat_of_zero_le hp
  unfold shlW
  have : ((p : Int) * 2 ^ s % 18446744073709551616) = ((p * 2 ^ s % B : Nat) : Int) := by simp [B]
  rw [this, Int.toNat_natCast, Int.toNat_natCast]
theorem shrW_nat {p : Int} (hp : 0 ≤ p) (s : Nat) : (shrW p s).toNat = p.toNat / 2 ^ s := by
  obtain ⟨p, rfl⟩ := Int.eq_ofNat_of_zero_le hp
  unfold shrW
  have : ((p : Int) / 2 ^ s) = ((p / 2 ^ s : Nat) : Int) := by simp
  rw [this, Int.toNat_natCast, Int.toNat_natCast]
/-- p << s bears only multiples of 2^s. -/
theorem shl_mod {p s : Nat} (hs : s ≤ 64) : p * 2 ^ s % B % 2 ^ s = 0 := by
  have h : 2 ^ s ∣ B := ⟨2 ^ (64 - s), (pow_splitN hs).symm⟩
  rw [Nat.mod_mod_of_dvd _ h, Nat.mul_mod_left]
theorem shr_lt {p s : Nat} (hs : s ≤ 64) (hp : p < B) : p / 2 ^ (64 - s) < 2 ^ s := by
  rw [Nat.div_lt_iff_lt_mul (Nat.two_pow_pos _)]
  rw [pow_splitN hs]; exact hp
theorem or_disjoint {a b s : Nat} (ha : a % 2 ^ s = 0) (hb : b < 2 ^ s) : a ||| b = a + b := by
  have h : a = 2 ^ s * (a / 2 ^ s) := by have := Nat.div_add_mod a (2 ^ s); omega
  rw [h]
  exact (Nat.two_pow_add_eq_or_of_lt hb _).symm
theorem bits_or_nat (a b : Nat) (ha : a < 18446744073709551616) (hb : b < 18446744073709551616) : bits .or .u64 (a : Int) (b : Int) = ((a ||| b : Nat) : Int) := by
  have ha' : a < 2 ^ 64 := ha
  have hb' : b < 2 ^ 64 := hb
  show IntKind.u64.wrap (((BitVec.ofInt 64 (a : Int) ||| BitVec.ofInt 64 (b : Int)).toNat : Nat) : Int) = _
  rw [IntKind.wrap_u64]
  have h1 : ((BitVec.ofInt 64 (a : Int) ||| BitVec.ofInt 64 (b : Int)).toNat) = a ||| b := by
    rw [BitVec.toNat_or]
    simp [Nat.mod_eq_of_lt ha', Nat.mod_eq_of_lt hb']
  rw [h1]
  have : a ||| b < 2 ^ 64 := Nat.or_lt_two_pow ha' hb'
  omega
theorem bits_and_nat (a b : Nat) (ha : a < 18446744073709551616) (hb : b < 18446744073709551616) : bits .and .u64 (a : Int) (b : Int) = ((a &&& b : Nat) : Int) := by
  have ha' : a < 2 ^ 64 := ha
  have hb' : b < 2 ^ 64 := hb
  show IntKind.u64.wrap (((BitVec.ofInt 64 (a : Int) &&& BitVec.ofInt 64 (b : Int)).toNat : Nat) : Int) = _
  rw [IntKind.wrap_u64]
  have h1 : ((BitVec.ofInt 64 (a : Int) &&& BitVec.ofInt 64 (b : Int)).toNat) = a &&& b := by
    rw [BitVec.toNat_and]
    simp [Nat.mod_eq_of_lt ha', Nat.mod_eq_of_lt hb']
  rw [h1]
  have : a &&& b < 2 ^ 64 := Nat.and_lt_two_pow _ hb'
  omega
/-- a << s | b >> (64 - s). -/
theorem or_shift {p q : Int} {s : Nat} (hp : 0 ≤ p ∧ p < 18446744073709551616) (hq : 0 ≤ q ∧ q < 18446744073709551616) (hs : s ≤ 64) :
    bits .or .u64 (shlW p s) (shrW q (64 - s)) = shlW p s + shrW q (64 - s) := by
  have e1 := shlW_wf p s
  have e2 := shrW_wf hq (64 - s)
  have n1 := shlW_nat hp.1 s
  have n2 := shrW_nat hq.1 (64 - s)
  have h := bits_or_nat (shlW p s).toNat (shrW q (64 - s)).toNat (by omega) (by omega)
  rw [Int.toNat_of_nonneg e1.1, Int.toNat_of_nonneg e2.1] at h
  rw [h, or_disjoint (s := s) (by rw [n1]; exact shl_mod hs) (by rw [n2]; exact shr_lt hs (by have : B = 18446744073709551616 := rfl; omega))]
  omega
theorem or_shift' {p q : Int} {s : Nat} (hp : 0 ≤ p ∧ p < 18446744073709551616) (hq : 0 ≤ q ∧ q < 18446744073709551616) (hs : s ≤ 64) :
    bits .or .u64 (shrW q (64 - s)) (shlW p s) = shlW p s + shrW q (64 - s) := by
  have e1 := shlW_wf p s
  have e2 := shrW_wf hq (64 - s)
  have h := bits_or_nat (shrW q (64 - s)).toNat (shlW p s).toNat (by omega) (by omega)
  have h' := bits_or_nat (shlW p s).toNat (shrW q (64 - s)).toNat (by omega) (by omega)
  rw [Nat.or_comm, ← h', Int.toNat_of_nonneg e1.1, Int.toNat_of_nonneg e2.1, or_shift hp hq hs] at h
  exact h
/-- Sum of both stays a word. -/
theorem shift_sum_wf {p q : Int} {s : Nat} (hp : 0 ≤ p ∧ p < 18446744073709551616) (hq : 0 ≤ q ∧ q < 18446744073709551616) (hs : s ≤ 64) :
    0 ≤ shlW p s + shrW q (64 - s) ∧ shlW p s + shrW q (64 - s) < 18446744073709551616 := by
  have e1 := shlW_wf p s
  have e2 := shrW_wf hq (64 - s)
  have n1 := shlW_nat hp.1 s
  have n2 := shrW_nat hq.1 (64 - s)
  have hB : B = 18446744073709551616 := rfl
  have k1 := shl_mod (p := p.toNat) hs
  have k2 := shr_lt (s := s) hs (p := q.toNat) (by omega)
  rw [← n1] at k1
  rw [← n2] at k2
  have h := or_disjoint k1 k2
  have : (shlW p s).toNat ||| (shrW q (64 - s)).toNat < 2 ^ 64 := Nat.or_lt_two_pow (by omega) (by omega)
  omega
/-- One step of a shift to the left, from the top down: V: what lies from place i on. -/
theorem shl_step {V p q s : Nat} (hs : s ≤ 64) (hV : V % B = p) :
    (p * 2 ^ s % B + q / 2 ^ (64 - s)) + B * (V * 2 ^ s / B) = (q + B * V) * 2 ^ s / B := by
  have e1 : (q + B * V) * 2 ^ s = q * 2 ^ s + B * (V * 2 ^ s) := by grind
  rw [e1, Nat.add_mul_div_left _ _ B_pos]
  have e2 : q * 2 ^ s / B = q / 2 ^ (64 - s) := by
    rw [← pow_splitN hs, Nat.mul_comm (2 ^ s), Nat.mul_div_mul_right _ _ (Nat.two_pow_pos s)]
  rw [e2]
  have e3 : V * 2 ^ s % B = p * 2 ^ s % B := by rw [Nat.mul_mod, hV, ← Nat.mul_mod_mod, Nat.mod_mod, Nat.mul_mod_mod]
  have := Nat.div_add_mod (V * 2 ^ s) B
  rw [e3] at this
  omega
end Cal
end Go.Proofs.YtaepgdkpaffaaaaGreatDoor
