import Derived.Test.YtaepgdkpaffaaaaGreatDoorG3
import Derived.Laws.CopyOwn
import Derived.BigRegion
import Derived.RegionTactic
import Derived.Lib.BitFns
set_option linter.unusedVariables false
set_option linter.unusedSimpArgs false
/- Package nat: Shl. -/
namespace Go.Proofs.YtaepgdkpaffaaaaGreatDoor
open Go.RowKit Go.Proofs.YtaepgdkpaffaaaaGreatDoorW.PrintWords Cal

theorem made_list (n : Nat) : (madeCells #[Value.int .u64 0] n).toList = nums .u64 (List.replicate n 0) := by
  apply List.ext_getElem
  · simp [nums, madeCells]
  · intro i h1 h2
    simp [nums, madeCells, Nat.mod_one]
theorem heap_made (w : World) (n : Nat) : (w.alloc (.cells (madeCells #[.int .u64 0] n) 22)).heap[w.heap.size]? = some (.cells (nums .u64 (List.replicate n 0)).toArray 22 (0, 0)) := by
  rw [heap_alloc_new, ← made_list]

theorem copy22 {B : Nat} {w0 W : World} (g off dLen dCap m c : Nat) (A : Option Addr) (cur ys : List Int) (hg : W.heap[g]? = some (.cells (nums .u64 cur).toArray 22 (0, 0))) (R : ReadsInt W .u64 A m ys)
    (hfit : off + m ≤ cur.length) (hm : 0 < m) (hd : m ≤ dLen) (hb : Below B w0 W) (hB : B ≤ g) :
    ∃ W', (Builtin.copy_ #[50, 50] 3 #[.slice (some ⟨g, off, none⟩) dLen dCap, .slice A m c]).run Tryz.prog W = .ok (.int .i64 m) W' ∧
      W'.heap[g]? = some (.cells (nums .u64 (cur.take off ++ ys ++ cur.drop (off + m))).toArray 22 (0, 0)) ∧ Below B w0 W' := by
  obtain ⟨ad, rfl, hc⟩ := R.2.2 hm
  have hl : ys.length = m := R.1
  have hrun := run_copy_row (P := Tryz.prog) W 50 50 3 22 g off dLen dCap ad m c (nums .u64 cur).toArray 22 (nums .u64 ys) Tryz.underlying50 (by kernel_rfl) hg (by rw [nums_length, hl]; exact (Nat.min_eq_left hd).symm)
    (fun j u hu => by
      have hj : j < ys.length := by
        rcases Nat.lt_or_ge j ys.length with h | h
        · exact h
        · simp [nums, List.getElem?_eq_none h] at hu
      have := hc j (by omega)
      simp [nums, List.getElem?_eq_getElem hj] at hu
      subst hu
      rw [this]
      simp [List.getD_eq_getElem?_getD, List.getElem?_eq_getElem hj])
    (by simp [nums_length, hl]; omega) (by intro u hu; simp only [nums, List.mem_map] at hu; obtain ⟨q, _, rfl⟩ := hu; rfl)
  refine ⟨_, by rw [hrun, nums_length, hl]; rfl, ?_, below_setRow hb hB _⟩
  rw [setRow_heap W g _ _ 22 _ hg]
  simp [nums, hl, List.map_take, List.map_drop]
theorem own_of_heap {W : World} {base g : Nat} {xs : List Int} (hg : W.heap[g]? = some (.cells (nums .u64 xs).toArray 22 (0, 0))) (hb : base ≤ g) (hn : xs.length ≤ 4000000) (hw : Wf xs) :
    Own W base (.slice (some ⟨g, 0, none⟩) xs.length xs.length) xs :=
  ⟨⟨by simp [nums_length], .inr ⟨g, xs.length, _, rfl, hb, hg, Nat.le_refl _, by simp only [maxLen]; omega, by simp [nums_length], by rw [Nat.mul_one]; exact List.take_of_length_le (by rw [nums_length]; exact Nat.le_refl _)⟩⟩, hw⟩

theorem or_shift_w {p q : Int} {s : Nat} (hp : 0 ≤ p ∧ p < 18446744073709551616) (hq : 0 ≤ q ∧ q < 18446744073709551616) (hs : s ≤ 64) :
    bits .or .u64 (IntKind.u64.wrap (p * 2 ^ s)) (q / 2 ^ (64 - s)) = shlW p s + shrW q (64 - s) := by
  rw [IntKind.wrap_u64]
  exact or_shift hp hq hs
theorem Own.drew {w : World} {base : Nat} {v : Value} {xs : List Int} (h : Own w base v xs) : Own w.drew base v xs := h.ext (below_drew (Below.refl _ _))

set_option maxRecDepth 100000 in
set_option maxHeartbeats 2000000 in
theorem shl_c (v : Value) (x n : Nat) (w : World) (h : NS w v x) (hx : 0 < x) (hn : wl x + (n + 63) / 64 ≤ 2000) : Calls Tryz.prog 99 #[v, .int .i64 n] w (fun e w' => ∃ v', e = .returned (.tuple #[v', .int .i64 0]) ∧ NT w' v' (x * 2 ^ n) ∧ Below w.heap.size w w') := by
  obtain ⟨A, n0, c, rfl, a1, a2, a3, a4, a5, H1⟩ := h.shape
  clear h
  have hpos : 0 < wl x := by have := wl_pos (x := x) (by omega); omega
  have R1 := Lib.hid a5
  clear a5
  obtain ⟨m, hm⟩ : ∃ m, m = wl x := ⟨_, rfl⟩
  rw [← hm] at a1 a2 R1 hn hpos
  have HM := Lib.hid hm
  obtain ⟨q, hq⟩ : ∃ q, q = n / 64 := ⟨_, rfl⟩
  obtain ⟨s, hs⟩ : ∃ s, s = n % 64 := ⟨_, rfl⟩
  obtain ⟨r, hr⟩ : ∃ r, r = (n + 63) / 64 := ⟨_, rfl⟩
  have hs64 : s < 64 := by omega
  have e1 : (n : Int) / 64 = (q : Int) := by omega
  have HE2 := Lib.hid (show (n : Int) % 64 = (s : Int) by omega)
  have e3 : ((n : Int) + 63) / 64 = (r : Int) := by omega
  have hq2 : q ≤ 2000 := by omega
  have hr2 : m + r ≤ 2000 := by omega
  have hn2 : n ≤ 128000 := by omega
  have HQ := Lib.hid (show n = 64 * q + s by omega)
  have C1 := Lib.hid ((size_c _ _ _ H1).mono (fun e w' h => (⟨h.1.trans (ret_int (by rw [← HM.out])), h.2⟩ : e = .returned (.int .i64 (m : Int)) ∧ w = w')))
  clear H1 hm a2 a3 a4 hq hs hr hn
  have kmk := make22 (m + q + 1) ((m : Int) + (q : Int) + 1) (by omega) (by omega)
  go_enter Tryz.func99, Tryz.ntmps99
  go_wp2_with fail
  (with_reducible refine C1.out.mono ?_); rintro e w' ⟨rfl, rfl⟩
  have hk : q < m + q + 1 := by omega
  have hb0 : Below w.heap.size w (w.alloc (.cells (madeCells #[.int .u64 0] (m + q + 1)) 22)) := (Below.refl _ _).alloc (Nat.le_refl _) _
  obtain ⟨W', kcp, hW', hbW⟩ := copy22 (w0 := w) (B := w.heap.size) w.heap.size q (m + q + 1 - q) (m + q + 1 - q) m c A (List.replicate (m + q + 1) 0) (limbs x) (heap_made w (m + q + 1)) (R1.out.below hb0) (by simp; omega) hpos (by omega) hb0 (Nat.le_refl _)
  obtain ⟨L, hL⟩ : ∃ L, L = (List.replicate (m + q + 1) (0 : Int)).take q ++ limbs x ++ (List.replicate (m + q + 1) (0 : Int)).drop (q + m) := ⟨_, rfl⟩
  rw [← hL] at hW'
  have hLl : L.length = m + q + 1 := by rw [hL]; simp; have : (limbs x).length = m := R1.out.1; omega
  have hLw : Wf L := by rw [hL]; exact (((Wf.replicate _).take _).append (limbs_wf x)).append ((Wf.replicate _).drop _)
  have hLt : val (L.take q) = 0 := by
    rw [hL, List.append_assoc, List.take_append_of_le_length (by simp; omega), List.take_take]
    simp [List.take_replicate, val_replicate]
  have hLd : val (L.drop q) = x := by
    rw [hL, List.append_assoc, List.drop_append_of_le_length (by simp; omega), List.drop_take]
    simp [val_append, List.drop_replicate, val_replicate, val_limbs]
  have ho := own_of_heap (base := w.heap.size) hW' (Nat.le_refl _) (by omega) hLw
  rw [hLl] at ho
  have HO := Lib.hid ho
  have HLl := Lib.hid hLl
  have HLw := Lib.hid hLw
  have HLt := Lib.hid hLt
  have HLd := Lib.hid hLd
  clear ho hLl hLw hLt hLd hL hW' hb0
  rcases Nat.eq_zero_or_pos s with hs0 | hs0
  · subst hs0
    have hz0 : ((n : Int) % 64) = 0 := by have := HE2.out; omega
    have hv : val L = x * 2 ^ n := by
      have := val_take_add L q
      rw [HLt.out, HLd.out] at this
      rw [← this, HQ.out, Nat.add_zero, Nat.pow_mul, Nat.zero_add, Nat.mul_comm, B_pow]
    obtain ⟨hcap, hwl, hns, hnt⟩ := HO.out.end_ HLl.out (by omega) hv
    have C3 := Lib.hid (size_c _ _ _ hns)
    have HN := Lib.hid hnt
    clear hns hnt hv HO
    obtain ⟨z, hz⟩ : ∃ z, z = wl (x * 2 ^ n) := ⟨_, rfl⟩
    rw [← hz] at C3 HN hwl
    clear hz
    go_wp2_with fail
    (with_reducible refine C3.out.mono ?_); rintro e w' ⟨rfl, rfl⟩
    go_wp2_with fail
    go_ret2
    exact ⟨_, rfl, HN.out, hbW⟩
  · have hz0 : 0 < ((n : Int) % 64) := by have := HE2.out; omega
    go_wp2_with fail
    rw [HE2.out]
    go_loopw [8] (fun t8 wr => ∃ (k : Nat) (out : List Int), q ≤ k ∧ k ≤ m + q ∧ t8 = .int .i64 k ∧ Own wr w.heap.size (.slice (some ⟨w.heap.size, 0, none⟩) (m + q + 1) (m + q + 1)) out ∧
      Hid (out.length = m + q + 1) ∧ Below w.heap.size w wr ∧ Hid (out.take (k + 1) = L.take (k + 1)) ∧ Hid (val (out.drop (k + 1)) = val (L.drop k) * 2 ^ s / B)) (fun t8 _ => (intOf t8).toNat)
    case atStart => exact ⟨m + q, L, by omega, by omega, by go_num, HO.out, HLl.out, hbW, rfl, by
      show _ = _
      rw [List.drop_eq_nil_of_le (by rw [HLl.out]; omega)]
      have e1 := val_div (L.drop q) (HLw.out.drop q) m
      rw [HLd.out, List.drop_drop, Nat.div_eq_of_lt (lt_of_wl (by rw [← HM.out]; exact Nat.le_refl _)), Nat.add_comm] at e1
      rw [← e1]; simp⟩
    case round =>
      obtain ⟨k, out, hk1, hk2, rfl, ho, hlen, hb, ht, hd⟩ := hrel
      by_cases hkq : q < k
      · obtain ⟨k, rfl⟩ : ∃ j, k = j + 1 := ⟨k - 1, by omega⟩
        obtain ⟨hf1, hf2⟩ := ho.at_ (k + 1) (by have := hlen.out; omega)
        obtain ⟨hg1, hg2⟩ := ho.at_ k (by have := hlen.out; omega)
        have r1 := ho.wf.getD (k + 1)
        have r2 := ho.wf.getD k
        obtain ⟨p1, hp1⟩ : ∃ p, p = out.getD (k + 1) 0 := ⟨_, rfl⟩
        obtain ⟨p2, hp2⟩ : ∃ p, p = out.getD k 0 := ⟨_, rfl⟩
        rw [← hp1] at hf1 r1
        rw [← hp2] at hg1 r2
        have HP1 := Lib.hid hp1
        have HP2 := Lib.hid hp2
        clear hp1 hp2
        have hw2 := shift_sum_wf r1 r2 (s := s) (by omega)
        have heq := or_shift_w r1 r2 (s := s) (by omega)
        have hnew := ho.set_ (k + 1) hw2
        have htk : Hid ((out.set (k + 1) (shlW p1 s + shrW p2 (64 - s))).take (k + 1) = L.take (k + 1)) := by
          show _ = _
          rw [List.take_set_of_le (Nat.le_refl _)]
          have := congrArg (List.take (k + 1)) ht.out
          simpa [List.take_take, Nat.min_eq_left (show k + 1 ≤ k + 1 + 1 by omega)] using this
        have hLk : L.getD (k + 1) 0 = p1 ∧ L.getD k 0 = p2 := by
          have h1 := congrArg (fun l => l.getD (k + 1) 0) ht.out
          have h2 := congrArg (fun l => l.getD k 0) ht.out
          simp only [List.getD_eq_getElem?_getD, List.getElem?_take] at h1 h2
          rw [if_pos (by omega), if_pos (by omega)] at h1 h2
          rw [List.getD_eq_getElem?_getD, List.getD_eq_getElem?_getD, ← h1, ← h2, ← List.getD_eq_getElem?_getD, ← List.getD_eq_getElem?_getD]
          exact ⟨HP1.out.symm, HP2.out.symm⟩
        have hdk : Hid (val ((out.set (k + 1) (shlW p1 s + shrW p2 (64 - s))).drop (k + 1)) = val (L.drop k) * 2 ^ s / B) := by
          show _ = _
          rw [val_drop_getD _ _ (by rw [List.length_set]; have := hlen.out; omega), Cal.getD_set_eq (by have := hlen.out; omega), List.drop_set_of_lt (by omega), hd.out,
            val_drop_getD L k (by have := HLl.out; omega), hLk.2]
          have e1 := shlW_nat r1.1 s
          have e2 := shrW_nat r2.1 (64 - s)
          have e3 := shlW_wf p1 s
          have e4 := shrW_wf r2 (64 - s)
          rw [Int.toNat_add e3.1 e4.1, e1, e2]
          refine shl_step (by omega) ?_
          rw [val_drop_getD L (k + 1) (by have := HLl.out; omega), hLk.1, Nat.add_mul_mod_self_left]
          have hB : B = 18446744073709551616 := rfl
          exact Nat.mod_eq_of_lt (by omega)
        clear hLk ho ht hd
        go_wp2_with fail
        go_region
        go_wp2_with fail
        go_roundw
        case rel => exact ⟨k, _, by omega, by omega, by go_num, hnew.drew, by show _ = _; rw [List.length_set]; exact hlen.out, below_drew (below_set hb (Nat.le_refl _) _), htk, hdk⟩
        case measure => simp [intOf]
      · obtain rfl : k = q := by omega
        obtain ⟨hf1, hf2⟩ := ho.at_ k (by have := hlen.out; omega)
        have r1 := ho.wf.getD k
        obtain ⟨p1, hp1⟩ : ∃ p, p = out.getD k 0 := ⟨_, rfl⟩
        rw [← hp1] at hf1 r1
        have hnew := ho.set_ k (shlW_wf p1 s)
        have heq : IntKind.u64.wrap (p1 * 2 ^ s) = shlW p1 s := by rw [IntKind.wrap_u64]; rfl
        have hLk : L.getD k 0 = p1 := by
          have h2 := congrArg (fun l => l.getD k 0) ht.out
          simp only [List.getD_eq_getElem?_getD, List.getElem?_take] at h2
          rw [if_pos (by omega), if_pos (by omega)] at h2
          rw [List.getD_eq_getElem?_getD, ← h2, ← List.getD_eq_getElem?_getD]
          exact hp1.symm
        have hv : val (out.set k (shlW p1 s)) = x * 2 ^ n := by
          have e0 := val_take_add (out.set k (shlW p1 s)) k
          rw [List.take_set_of_le (Nat.le_refl _)] at e0
          have h2 := congrArg (List.take k) ht.out
          rw [List.take_take, List.take_take, Nat.min_eq_left (by omega)] at h2
          rw [h2, HLt.out, val_drop_getD _ _ (by rw [List.length_set]; have := hlen.out; omega), Cal.getD_set_eq (by have := hlen.out; omega), List.drop_set_of_lt (by omega), hd.out, HLd.out, shlW_nat r1.1 s] at e0
          have e1 : x % B = p1.toNat := by
            rw [← HLd.out, val_drop_getD L k (by have := HLl.out; omega), hLk, Nat.add_mul_mod_self_left]
            have hB : B = 18446744073709551616 := rfl
            exact Nat.mod_eq_of_lt (by omega)
          have e2 : p1.toNat * 2 ^ s % B = x * 2 ^ s % B := by rw [← e1, Nat.mul_mod, Nat.mod_mod, ← Nat.mul_mod]
          rw [e2, Nat.mod_add_div] at e0
          rw [← e0, HQ.out, Nat.pow_add, Nat.pow_mul, ← B_pow]
          grind
        clear hp1 hLk
        obtain ⟨hcap, hwl, hns, hnt⟩ := hnew.end_ (by rw [List.length_set]; exact hlen.out) (by omega) hv
        have C3 := Lib.hid (size_c _ _ _ hns)
        have HN := Lib.hid hnt
        have hb' := below_set hb (Nat.le_refl _) (k := k) (Value.int .u64 (shlW p1 s))
        clear hns hnt hv ht hd ho hb hnew
        obtain ⟨z, hz⟩ : ∃ z, z = wl (x * 2 ^ n) := ⟨_, rfl⟩
        rw [← hz] at C3 HN hwl
        clear hz
        go_wp2_with fail
        (with_reducible refine C3.out.mono ?_); rintro e w' ⟨rfl, rfl⟩
        go_wp2_with fail
        go_ret2
        exact ⟨_, rfl, HN.out, hb'⟩
#print axioms shl_c
end Go.Proofs.YtaepgdkpaffaaaaGreatDoor

/- Plain facts on words: shifts to the right; how many bits. -/
namespace Go.Proofs.YtaepgdkpaffaaaaGreatDoor
namespace Cal
theorem shr_word {V p q s : Nat} (hs : s ≤ 64) (hp : p < B) (hV : V % B = p) (hq : V / B % B = q) : V / 2 ^ s % B = p / 2 ^ s + q * 2 ^ (64 - s) % B := by
  have h1 := Nat.div_add_mod V B
  rw [hV] at h1
  have e1 : V / 2 ^ s = p / 2 ^ s + 2 ^ (64 - s) * (V / B) := by
    conv => lhs; rw [← h1, ← pow_splitN hs]
    rw [Nat.mul_assoc, Nat.add_comm, Nat.add_mul_div_left _ _ (Nat.two_pow_pos s), pow_splitN hs]
  have e2 : 2 ^ (64 - s) * (V / B) % B = q * 2 ^ (64 - s) % B := by
    rw [Nat.mul_mod, hq, Nat.mul_comm, ← Nat.mul_mod_mod, Nat.mod_mod, Nat.mul_mod_mod]
  have l1 : p / 2 ^ s < 2 ^ (64 - s) := by
    rw [Nat.div_lt_iff_lt_mul (Nat.two_pow_pos s), Nat.mul_comm, pow_splitN hs]; exact hp
  have l2 : q * 2 ^ (64 - s) % B % 2 ^ (64 - s) = 0 := shl_mod (by omega)
  have l3 := Nat.mod_lt (q * 2 ^ (64 - s)) B_pos
  have l4 : p / 2 ^ s + q * 2 ^ (64 - s) % B < B := by
    have h := or_disjoint l2 l1
    have h2 : q * 2 ^ (64 - s) % B ||| p / 2 ^ s < 2 ^ 64 := Nat.or_lt_two_pow (by rw [← B_pow]; exact l3) (by
      have := Nat.div_le_self p (2 ^ s)
      rw [← B_pow]; omega)
    rw [← B_pow] at h2
    omega
  rw [e1, Nat.add_mod, e2, Nat.mod_eq_of_lt (Nat.lt_of_le_of_lt (Nat.div_le_self p (2 ^ s)) hp), Nat.mod_eq_of_lt l4]
/-- The words of x / 2^s. -/
theorem limbs_shr {x k s : Nat} (hs : s ≤ 64) : (x / 2 ^ s) / B ^ k % B = ((limbs x).getD k 0).toNat / 2 ^ s + ((limbs x).getD (k + 1) 0).toNat * 2 ^ (64 - s) % B := by
  rw [Nat.div_div_eq_div_mul, Nat.mul_comm, ← Nat.div_div_eq_div_mul]
  refine shr_word hs ?_ (limbs_getD x k).symm ?_
  · rw [limbs_getD]; exact Nat.mod_lt _ B_pos
  · rw [limbs_getD, Nat.div_div_eq_div_mul, ← Nat.pow_succ]
theorem mod_succ_pow (y k : Nat) : y % B ^ (k + 1) = y % B ^ k + B ^ k * (y / B ^ k % B) := by
  rw [Nat.pow_succ, Nat.mod_mul]
/-- How many bits. -/
def bl (x : Nat) : Nat := if x = 0 then 0 else Nat.log2 x + 1
theorem bl_zero : bl 0 = 0 := rfl
theorem bl_pos {x : Nat} (h : x ≠ 0) : 0 < bl x := by unfold bl; rw [if_neg h]; omega
theorem lt_bl (x : Nat) : x < 2 ^ bl x := by
  unfold bl; split
  · omega
  · exact Nat.lt_log2_self
theorem le_of_bl {x : Nat} (h : x ≠ 0) : 2 ^ (bl x - 1) ≤ x := by
  unfold bl; rw [if_neg h]; exact Nat.log2_self_le h
theorem bl_le {x m : Nat} (h : x < 2 ^ m) : bl x ≤ m := by
  by_cases h0 : x = 0
  · subst h0; simp [bl_zero]
  · have h1 := le_of_bl h0
    have h2 := bl_pos h0
    rcases Nat.lt_or_ge m (bl x) with h3 | h3
    · have := Nat.pow_le_pow_right (n := 2) (by omega) (show m ≤ bl x - 1 by omega)
      omega
    · exact h3
theorem bl_ge {x m : Nat} (h : 2 ^ m ≤ x) : m + 1 ≤ bl x := by
  have h1 := lt_bl x
  rcases Nat.lt_or_ge (bl x) (m + 1) with h3 | h3
  · have := Nat.pow_le_pow_right (n := 2) (by omega) (show bl x ≤ m by omega)
    omega
  · exact h3
theorem bl_eq {x m : Nat} (h1 : 2 ^ m ≤ x) (h2 : x < 2 ^ (m + 1)) : bl x = m + 1 := by
  have := bl_le h2
  have := bl_ge h1
  omega
theorem bitLenAux_eq (f x : Nat) (h : x < 2 ^ f) : Lib.bitLenAux f x = bl x := by
  induction f generalizing x with
  | zero =>
    have : x = 0 := by simpa using h
    subst this; rfl
  | succ f ih =>
    unfold Lib.bitLenAux
    by_cases h0 : x = 0
    · subst h0; simp [bl_zero]
    · rw [if_neg h0, ih (x / 2) (by rw [Nat.div_lt_iff_lt_mul (by omega), ← Nat.pow_succ]; exact h)]
      by_cases h1 : x / 2 = 0
      · have : x = 1 := by omega
        subst this; rfl
      · have a1 := le_of_bl h1
        have a2 := lt_bl (x / 2)
        have a3 := bl_pos h1
        have e : bl x = bl (x / 2) - 1 + 1 + 1 := by
          refine bl_eq ?_ ?_
          · rw [Nat.pow_succ]; omega
          · rw [show bl (x / 2) - 1 + 1 + 1 = bl (x / 2) + 1 by omega, Nat.pow_succ]; omega
        omega
theorem bitLen_eq {x : Nat} (h : x < 18446744073709551616) : Lib.bitLen x = bl x := bitLenAux_eq 64 x (by simpa using h)
theorem bl_div {x e : Nat} (h : x / 2 ^ e ≠ 0) : bl x = e + bl (x / 2 ^ e) := by
  have a1 := le_of_bl h
  have a2 := lt_bl (x / 2 ^ e)
  have a3 := bl_pos h
  rw [Nat.le_div_iff_mul_le (Nat.two_pow_pos e), ← Nat.pow_add] at a1
  rw [Nat.div_lt_iff_lt_mul (Nat.two_pow_pos e), ← Nat.pow_add] at a2
  have := bl_eq (x := x) (m := bl (x / 2 ^ e) - 1 + e) a1 (by rwa [show bl (x / 2 ^ e) - 1 + e + 1 = bl (x / 2 ^ e) + e by omega])
  omega
/-- Bits by words. -/
theorem bl_words {x : Nat} (h : x ≠ 0) : bl x = 64 * (wl x - 1) + bl ((limbs x).getD (wl x - 1) 0).toNat := by
  have hw : 0 < wl x := by have := wl_eq_zero (x := x); omega
  have h1 := le_of_wl h
  have hp : 0 < B ^ (wl x - 1) := Nat.pow_pos B_pos
  have ht : x / B ^ (wl x - 1) ≠ 0 := by have := Nat.div_pos h1 hp; omega
  have e : B ^ (wl x - 1) = 2 ^ (64 * (wl x - 1)) := by rw [B_pow, ← Nat.pow_mul]
  have h4 : x / B ^ (wl x - 1) < B := by
    rw [Nat.div_lt_iff_lt_mul hp, Nat.mul_comm, ← Nat.pow_succ]
    have := lt_wl x
    rwa [show (wl x - 1).succ = wl x by omega]
  rw [limbs_getD, Nat.mod_eq_of_lt h4]
  rw [e] at ht ⊢
  exact bl_div ht
theorem bl_wl (x : Nat) : bl x ≤ 64 * wl x := by
  refine bl_le ?_
  have := lt_wl x
  rwa [B_pow, ← Nat.pow_mul] at this
theorem wl_bl (x : Nat) : 64 * (wl x - 1) ≤ bl x := by
  by_cases h : x = 0
  · subst h; simp [wl_zero]
  · rw [bl_words h]; omega
end Cal
end Go.Proofs.YtaepgdkpaffaaaaGreatDoor

/- Package nat: Of, Len, Shr. -/
namespace Go.Proofs.YtaepgdkpaffaaaaGreatDoor
open Go.RowKit Go.Proofs.YtaepgdkpaffaaaaGreatDoorW.PrintWords Cal

theorem ns_lit (w : World) (z : Int) (hz : 0 ≤ z ∧ z < 18446744073709551616) : NS (w.alloc (.cells #[.int .u64 z] 22)) (.slice (some ⟨w.heap.size, 0, none⟩) 1 1) z.toNat := by
  refine ⟨⟨_, 1, 1, [z], rfl, Nat.le_refl _, by omega, ?_, Wf.mk hz Wf.nil, by simp⟩⟩
  have h := own_lit w w.heap.size 22 .u64 [z] (Nat.le_refl _) (by simp)
  obtain ⟨A, c, he, hr⟩ := own_reads h
  injection he with e1 e2 e3
  subst e1
  simpa [nums] using hr
theorem of_c (z : Int) (hz : 0 ≤ z ∧ z < 18446744073709551616) (w : World) : Calls Tryz.prog 75 #[.int .u64 z] w (fun e w' => ∃ v, e = .returned v ∧ NT w' v z.toNat ∧ Below w.heap.size w w') := by
  have hns := ns_lit w z hz
  have C := Lib.hid (trim_c _ _ _ hns)
  clear hns hz
  go_enter Tryz.func75, Tryz.ntmps75
  go_wp2_with fail
  (with_reducible refine C.out.mono ?_); rintro e w' ⟨v, rfl, hv, hb⟩
  go_wp2_with fail
  go_ret
  exact ⟨_, rfl, hv, btrans ((Below.refl _ _).alloc (Nat.le_refl _) _) hb⟩

theorem len64 (z : Int) (hz : 0 ≤ z ∧ z < 18446744073709551616) (w : World) : Calls Tryz.prog 93 #[.int .u64 z] w fun e w' => e = .returned (.int .i64 (bl z.toNat)) ∧ w = w' := by
  refine (Tryz.bits_Len64 z w hz.1 (by omega)).mono ?_
  rintro e w' ⟨rfl, rfl⟩
  exact ⟨by rw [bitLen_eq (by omega)], rfl⟩

set_option maxHeartbeats 1000000 in
theorem len_c (v : Value) (x : Nat) (w : World) (h : NS w v x) : Calls Tryz.prog 100 #[v] w (fun e w' => e = .returned (.int .i64 (bl x)) ∧ w = w') := by
  obtain ⟨A, n0, c, rfl, a1, a2, a3, a4, a5, H1⟩ := h.shape
  clear h
  have R1 := Lib.hid a5
  clear a5
  by_cases hx : x = 0
  · subst hx
    have C1 := Lib.hid (size_c _ _ _ H1)
    rw [wl_zero] at C1
    clear H1 R1 a1 a2
    go_enter Tryz.func100, Tryz.ntmps100
    go_wp2_with fail
    (with_reducible refine C1.out.mono ?_); rintro e w' ⟨rfl, rfl⟩
    go_wp2_with fail
    go_ret
    exact ⟨rfl, rfl⟩
  · have hpos : 0 < wl x := by have := wl_eq_zero (x := x); omega
    have HB := Lib.hid (bl_words hx)
    obtain ⟨m, hm⟩ : ∃ m, m = wl x := ⟨_, rfl⟩
    rw [← hm] at a1 a2 R1 hpos HB
    have C1 := Lib.hid ((size_c _ _ _ H1).mono (fun e w' h => (⟨h.1.trans (ret_int (by rw [← hm])), h.2⟩ : e = .returned (.int .i64 (m : Int)) ∧ w = w')))
    clear H1 hm
    obtain ⟨m, rfl⟩ : ∃ j, m = j + 1 := ⟨m - 1, by omega⟩
    obtain ⟨ad, rfl, hc⟩ := R1.out.2.2 (by omega)
    have hc0 := hc m (by omega)
    have r1 := (limbs_wf x).getD m
    rw [Nat.add_sub_cancel] at HB
    obtain ⟨p, hp⟩ : ∃ p, p = (limbs x).getD m 0 := ⟨_, rfl⟩
    rw [← hp] at hc0 r1 HB
    have hbp : bl p.toNat ≤ 64 := bl_le (by omega)
    have CL := Lib.hid (len64 p r1 w)
    obtain ⟨b, hb⟩ : ∃ b, b = bl p.toNat := ⟨_, rfl⟩
    rw [← hb] at CL HB hbp
    have hne : ((m : Int) + 1 == 0) = false := by rw [beq_eq_false_iff_ne]; omega
    clear hp hb hc R1
    go_enter Tryz.func100, Tryz.ntmps100
    go_wp2_with fail
    (with_reducible refine C1.out.mono ?_); rintro e w' ⟨rfl, rfl⟩
    go_wp2_with fail
    (with_reducible refine CL.out.mono ?_); rintro e w' ⟨rfl, rfl⟩
    go_wp2_with fail
    go_ret
    exact ⟨ret_int (by rw [HB.out]; omega), rfl⟩
#print axioms len_c
end Go.Proofs.YtaepgdkpaffaaaaGreatDoor

/- Package nat: Shr by less than a word. -/
namespace Go.Proofs.YtaepgdkpaffaaaaGreatDoor
open Go.RowKit Go.Proofs.YtaepgdkpaffaaaaGreatDoorW.PrintWords Cal

theorem or_shift_w' {p q : Int} {s : Nat} (hp : 0 ≤ p ∧ p < 18446744073709551616) (hq : 0 ≤ q ∧ q < 18446744073709551616) (hs : s ≤ 64) :
    bits .or .u64 (q / 2 ^ s) (IntKind.u64.wrap (p * 2 ^ (64 - s))) = shlW p (64 - s) + shrW q s := by
  rw [IntKind.wrap_u64]
  have := or_shift' (p := p) (q := q) hp hq (s := 64 - s) (by omega)
  rwa [show 64 - (64 - s) = s by omega] at this

set_option maxRecDepth 100000 in
set_option maxHeartbeats 2000000 in
theorem shr_pos (v : Value) (x s : Nat) (w : World) (h : NS w v x) (hx : 0 < x) (hs1 : 1 ≤ s) (hs : s < 64) : Calls Tryz.prog 141 #[v, .int .i64 s] w (fun e w' => ∃ v' b, e = .returned (.tuple #[v', .bool b]) ∧ NT w' v' (x / 2 ^ s) ∧ Below w.heap.size w w') := by
  obtain ⟨A, n0, c, rfl, a1, a2, a3, a4, a5, H1⟩ := h.shape
  clear h
  have hpos : 0 < wl x := by have := wl_pos (x := x) (by omega); omega
  have R1 := Lib.hid a5
  clear a5
  obtain ⟨m, hm⟩ : ∃ m, m = wl x := ⟨_, rfl⟩
  rw [← hm] at a1 a2 R1 hpos
  have HM := Lib.hid hm
  have hm6 : m ≤ 1000000 := by omega
  have e1 : (s : Int) / 64 = 0 := by omega
  have HE2 := Lib.hid (show (s : Int) % 64 = (s : Int) by omega)
  have C1 := Lib.hid ((size_c _ _ _ H1).mono (fun e w' h => (⟨h.1.trans (ret_int (by rw [← HM.out])), h.2⟩ : e = .returned (.int .i64 (m : Int)) ∧ w = w')))
  clear H1 hm a2 a3 a4
  obtain ⟨ad, rfl, hc⟩ := R1.out.2.2 hpos
  have hc0 := hc 0 hpos
  rw [show ad.add 0 = ad from rfl] at hc0
  have r0 := (limbs_wf x).getD 0
  obtain ⟨p0, hp0⟩ : ∃ p, p = (limbs x).getD 0 0 := ⟨_, rfl⟩
  rw [← hp0] at hc0 r0
  clear hc hp0
  have C0 := Lib.hid (fun k => (size_any [] (some ad) 0 c (w.drewN k) ⟨rfl, by omega, fun h => absurd h (by omega)⟩).mono (fun e w' h => (⟨h.1, h.2.symm⟩ : e = .returned (.int .i64 0) ∧ w' = w.drewN k)))
  have CC := Lib.hid (fun W (R : ReadsInt W .u64 (some ad) m (limbs x)) => clone_any (limbs x) (some ad) m c W R (by omega))
  rcases hT : (bits BinOp.and IntKind.u64 p0 (IntKind.u64.wrap (IntKind.u64.wrap (2 ^ s) - 1)) != 0) with _ | _
  all_goals
    go_enter Tryz.func141, Tryz.ntmps141
    go_wp2_with fail
    (with_reducible refine C1.out.mono ?_); rintro e w' ⟨rfl, rfl⟩
    go_wp2_with fail
    rw [HE2.out]
    go_quiet ((go_at_call 157; with_reducible exact Calls.quiet_of_same (C0.out _)))
    go_wp2_with fail
    (with_reducible refine (CC.out _ (R1.out.below (pw_below_drewN (Below.refl _ _) nq))).mono ?_); rintro e w1 ⟨v1, rfl, hown, hb⟩
    have hl : (limbs x).length = m := R1.out.1
    rw [hl] at hown
    obtain ⟨g, cap, hv1, hgb, hgl⟩ := hown.form hpos
    subst hv1
    have ho : Own w1 w.heap.size (.slice (some ⟨g, 0, none⟩) m cap) (limbs x) := ⟨by rw [hl]; exact own_weaken hown (by simp), limbs_wf x⟩
    have HO := Lib.hid ho
    have HL := Lib.hid hl
    have hb' : Below w.heap.size w w1 := btrans (pw_below_drewN (Below.refl _ _) nq) hb
    have hgb' : w.heap.size ≤ g := by simpa using hgb
    clear ho hl hown hb hgb
    go_wp2_with fail
    go_loopw [54] (fun t54 wr => ∃ (k : Nat) (out : List Int), k ≤ m ∧ t54 = .int .i64 k ∧ Own wr w.heap.size (.slice (some ⟨g, 0, none⟩) m cap) out ∧
      Hid (out.length = m) ∧ Below w.heap.size w wr ∧ Hid (out.drop k = (limbs x).drop k) ∧ Hid (val (out.take k) = (x / 2 ^ s) % B ^ k)) (fun t54 _ => m - (intOf t54).toNat)
    case atStart => exact ⟨0, _, by omega, rfl, HO.out, HL.out, hb', rfl, by
      show _ = _
      rw [List.take_zero, Nat.pow_zero, Nat.mod_one]; rfl⟩
    case round =>
      obtain ⟨k, out, hk, rfl, ho, hlen, hb, hd, ht⟩ := hrel
      by_cases hkm : k < m
      · obtain ⟨hf1, hf2⟩ := ho.at_ k (by have := hlen.out; omega)
        have hpe : out.getD k 0 = (limbs x).getD k 0 := by
          have := congrArg (fun l => l.getD 0 0) hd.out
          simpa using this
        rw [hpe] at hf1
        have r1 := (limbs_wf x).getD k
        have r2 := (limbs_wf x).getD (k + 1)
        have HW := Lib.hid (mod_succ_pow (x / 2 ^ s) k)
        have HS := Lib.hid (limbs_shr (x := x) (k := k) (s := s) (by omega))
        obtain ⟨p1, hp1⟩ : ∃ p, p = (limbs x).getD k 0 := ⟨_, rfl⟩
        obtain ⟨p2, hp2⟩ : ∃ p, p = (limbs x).getD (k + 1) 0 := ⟨_, rfl⟩
        rw [← hp1] at hf1 r1 HS
        rw [← hp2] at r2 HS
        have HP2 := Lib.hid hp2
        clear hp1 hp2 hpe
        have hw2 := shift_sum_wf r2 r1 (s := 64 - s) (by omega)
        rw [show 64 - (64 - s) = s by omega] at hw2
        have heq := or_shift_w' r2 r1 (s := s) (by omega)
        have hval : Hid (∀ z : Int, 0 ≤ z → z.toNat = p1.toNat / 2 ^ s + p2.toNat * 2 ^ (64 - s) % B → val ((out.set k z).take (k + 1)) = (x / 2 ^ s) % B ^ (k + 1)) := by
          intro z hz hze
          rw [val_take_succ _ k (by rw [List.length_set]; have := hlen.out; omega), List.take_set_of_le (Nat.le_refl _), Cal.getD_set_eq (by have := hlen.out; omega), ht.out, hze, HW.out, HS.out]
        have hdk : Hid (∀ z, (out.set k z).drop (k + 1) = (limbs x).drop (k + 1)) := by
          intro z
          rw [List.drop_set_of_lt (by omega)]
          have := congrArg (List.drop 1) hd.out
          simpa [List.drop_drop] using this
        have e3 := shlW_wf p2 (64 - s)
        have e4 := shrW_wf r1 s
        by_cases hkm' : k + 1 < m
        · have hcl := (R1.out.below hb).2.2 (by omega)
          obtain ⟨ad', he, hc'⟩ := hcl
          injection he with he
          subst he
          have hc1 := hc' (k + 1) (by omega)
          rw [← HP2.out] at hc1
          clear hc'
          have ho1 : Own (wr.setCell ⟨g, k, none⟩ (.int .u64 (p1 / 2 ^ s))) w.heap.size (.slice (some ⟨g, 0, none⟩) m cap) (out.set k (p1 / 2 ^ s)) := ho.set_ k e4
          obtain ⟨hf3, hf4⟩ := ho1.at_ k (by rw [List.length_set]; have := hlen.out; omega)
          rw [Cal.getD_set_eq (by have := hlen.out; omega)] at hf3
          have hnew := ho1.set_ k hw2
          have hbs := below_set hb hgb' (k := k) (Value.int .u64 (p1 / 2 ^ s))
          have hc2 : (wr.setCell ⟨g, k, none⟩ (.int .u64 (p1 / 2 ^ s))).cell? (ad.add (k + 1)) = some (.int .u64 p2) := by
            have := (R1.out.below hbs).2.2 (by omega)
            obtain ⟨ad', he, hc'⟩ := this
            injection he with he
            subst he
            have := hc' (k + 1) (by omega)
            rwa [← HP2.out] at this
          rw [show ad.add (k + 1) = ⟨ad.block, ad.off + (k + 1), none⟩ from by unfold Addr.add; rw [if_neg (by omega)]] at hc2
          rw [List.set_set] at hnew
          have HN := Lib.hid hnew
          have HVal := Lib.hid (hval.out (shlW p2 (64 - s) + shrW p1 s) hw2.1 (by rw [Int.toNat_add e3.1 e4.1, shlW_nat r2.1, shrW_nat r1.1]; omega))
          have HB3 := Lib.hid (below_drew (below_set hbs hgb' (k := k) (Value.int .u64 (shlW p2 (64 - s) + shrW p1 s))))
          clear ho1 ho hd ht hval hnew hbs
          go_wp2_with fail
          obtain ⟨W1, hW1⟩ : ∃ W1, W1 = wr.setCell ⟨g, k, none⟩ (.int .u64 (p1 / 2 ^ s)) := ⟨_, rfl⟩
          rw [← hW1] at hf3 hf4 hc2 HN HB3 ⊢
          clear hW1 hf1 hc1
          go_region
          go_wp2_with fail
          go_roundw
          case rel => exact ⟨k + 1, _, by omega, by go_num, HN.out.drew, by show _ = _; rw [List.length_set]; exact hlen.out, HB3.out, hdk.out _, HVal.out⟩
          case measure => simp [intOf]; omega
        · have hp20 : p2 = 0 := by
            rw [HP2.out, List.getD_eq_getElem?_getD, List.getElem?_eq_none (by have : (limbs x).length = m := R1.out.1; omega)]; rfl
          have hnew : Own (wr.setCell ⟨g, k, none⟩ (.int .u64 (p1 / 2 ^ s))) w.heap.size (.slice (some ⟨g, 0, none⟩) m cap) (out.set k (p1 / 2 ^ s)) := ho.set_ k e4
          have HN := Lib.hid hnew
          have HVal := Lib.hid (hval.out (p1 / 2 ^ s) e4.1 (by rw [hp20]; have := shrW_nat r1.1 s; unfold shrW at this; rw [this]; simp))
          have HB3 := Lib.hid (below_set hb hgb' (k := k) (Value.int .u64 (p1 / 2 ^ s)))
          clear hp20 ho hd ht hval hnew
          go_wp2_with fail
          go_roundw
          case rel => exact ⟨k + 1, _, by omega, by go_num, HN.out, by show _ = _; rw [List.length_set]; exact hlen.out, HB3.out, hdk.out _, HVal.out⟩
          case measure => simp [intOf]; omega
      · obtain rfl : k = m := by omega
        have hv : val out = x / 2 ^ s := by
          have h1 := ht.out
          rw [List.take_of_length_le (by have := hlen.out; omega)] at h1
          rw [h1]
          refine Nat.mod_eq_of_lt ?_
          exact Nat.lt_of_le_of_lt (Nat.div_le_self _ _) (lt_of_wl (by rw [← HM.out]; exact Nat.le_refl _))
        obtain ⟨hcap, hwl, hns, hnt⟩ := ho.end_ hlen.out (by omega) hv
        have C3 := Lib.hid (size_c _ _ _ hns)
        have HN := Lib.hid hnt
        clear hns hnt hv hd ht ho
        obtain ⟨z, hz⟩ : ∃ z, z = wl (x / 2 ^ s) := ⟨_, rfl⟩
        rw [← hz] at C3 HN hwl
        clear hz
        go_wp2_with fail
        (with_reducible refine C3.out.mono ?_); rintro e w' ⟨rfl, rfl⟩
        go_wp2_with fail
        go_ret2
        exact ⟨_, _, rfl, HN.out, hb⟩
theorem shr_zero (v : Value) (s : Nat) (w : World) (h : NS w v 0) (hs : s < 64) (hs1 : 1 ≤ s) : Calls Tryz.prog 141 #[v, .int .i64 s] w (fun e w' => ∃ v' b, e = .returned (.tuple #[v', .bool b]) ∧ NT w' v' 0 ∧ Below w.heap.size w w') := by
  obtain ⟨A, n0, c, rfl, a1, a2, a3, a4, a5, H1⟩ := h.shape
  have C1 := Lib.hid (size_c _ _ _ H1)
  rw [wl_zero] at C1
  have e1 : (s : Int) / 64 = 0 := by omega
  clear h H1 a1 a2 a5
  go_enter Tryz.func141, Tryz.ntmps141
  go_wp2_with fail
  (with_reducible refine C1.out.mono ?_); rintro e w' ⟨rfl, rfl⟩
  go_wp2_with fail
  go_ret2
  exact ⟨_, _, rfl, NT.nil _, Below.refl _ _⟩
theorem shr_none (v : Value) (x : Nat) (w : World) (h : NS w v x) : Calls Tryz.prog 141 #[v, .int .i64 0] w (fun e w' => ∃ v' b, e = .returned (.tuple #[v', .bool b]) ∧ NT w' v' x ∧ Below w.heap.size w w') := by
  obtain ⟨A, n0, c, rfl, a1, a2, a3, a4, a5, H1⟩ := h.shape
  have C1 := Lib.hid (size_c _ _ _ H1)
  have hn : NT w (.slice A (wl x) c) x := ⟨⟨A, c, rfl, a1, by omega, a5⟩⟩
  have C2 := Lib.hid (trim_c _ _ _ hn.ns)
  obtain ⟨m, hm⟩ : ∃ m, m = wl x := ⟨_, rfl⟩
  rw [← hm] at C1 C2 a1
  clear h H1 a2 a5 hn hm a3 a4
  go_enter Tryz.func141, Tryz.ntmps141
  go_wp2_with fail
  (with_reducible refine C1.out.mono ?_); rintro e w' ⟨rfl, rfl⟩
  go_wp2_with fail
  (with_reducible refine C2.out.mono ?_); rintro e w' ⟨v', rfl, hv, hb⟩
  go_wp2_with fail
  go_ret2
  exact ⟨_, _, rfl, hv, hb⟩
theorem shr_c (v : Value) (x s : Nat) (w : World) (h : NS w v x) (hs : s < 64) : Calls Tryz.prog 141 #[v, .int .i64 s] w (fun e w' => ∃ v' b, e = .returned (.tuple #[v', .bool b]) ∧ NT w' v' (x / 2 ^ s) ∧ Below w.heap.size w w') := by
  rcases Nat.eq_zero_or_pos s with rfl | h1
  · have := shr_none v x w h
    simpa using this
  · rcases Nat.eq_zero_or_pos x with rfl | hx
    · have := shr_zero v s w h hs h1
      simpa using this
    · exact shr_pos v x s w h hx h1 hs
#print axioms shr_c
end Go.Proofs.YtaepgdkpaffaaaaGreatDoor

/- Plain facts for math/bits.Div64: one digit of 32 bits of a quotient. -/
namespace Go.Proofs.YtaepgdkpaffaaaaGreatDoor
namespace Cal
/-- The parts of a divisor that has its highest bit set. -/
structure Dv (y y1 y0 : Int) : Prop where
  eq : y = y1 * 4294967296 + y0
  lo : 0 ≤ y0
  hi : y0 < 4294967296
  h1 : 2147483648 ≤ y1
  h2 : y1 < 4294967296
/-- A guess q for N / y, N = U 2^32 + d, and what is left. -/
structure Gs (y y1 y0 U d q r : Int) : Prop where
  sum : q * y1 + r = U
  r0 : 0 ≤ r
  rb : r < 4294967296
  qb : q ≤ 4294967297
  q0 : 0 ≤ q
  ge : (U * 4294967296 + d) / y ≤ q
variable {y y1 y0 U d q r : Int}
theorem Dv.pos (h : Dv y y1 y0) : 0 < y := by have := h.eq; have := h.lo; have := h.h1; omega
theorem gs_start (h : Dv y y1 y0) (hU : 0 ≤ U) (hUy : U < y) (hd0 : 0 ≤ d) (hd : d < 4294967296) : Gs y y1 y0 U d (U / y1) (U - U / y1 * y1) := by
  have hy := h.pos
  have h1 := h.h1
  have e := Int.mul_ediv_add_emod U y1
  have m0 := Int.emod_nonneg U (show y1 ≠ 0 by omega)
  have m1 := Int.emod_lt_of_pos U (show 0 < y1 by omega)
  rw [Int.mul_comm] at e
  have hq0 : 0 ≤ U / y1 := Int.ediv_nonneg hU (by omega)
  have hq1 : U / y1 < 4294967298 := by
    refine Int.ediv_lt_of_lt_mul (by omega) ?_
    have := h.eq; have := h.hi; omega
  refine ⟨by omega, by omega, by have := h.h2; omega, by omega, hq0, ?_⟩
  have hlt : U * 4294967296 + d < (U / y1 + 1) * y := by
    have e1 : (U / y1 + 1) * y = (U / y1 + 1) * y1 * 4294967296 + (U / y1 + 1) * y0 := by rw [h.eq, Int.mul_add, Int.mul_assoc]
    have e2 : (U / y1 + 1) * y1 = U / y1 * y1 + y1 := by rw [Int.add_mul, Int.one_mul]
    have e3 : 0 ≤ (U / y1 + 1) * y0 := Int.mul_nonneg (by omega) h.lo
    omega
  have := Int.ediv_lt_of_lt_mul hy hlt
  omega
theorem gs_eq (h : Dv y y1 y0) (g : Gs y y1 y0 U d q r) : U * 4294967296 + d - q * y = r * 4294967296 + d - q * y0 := by
  have e1 : q * y = q * y1 * 4294967296 + q * y0 := by rw [h.eq, Int.mul_add, Int.mul_assoc]
  have := g.sum
  omega
/-- The test says no: the guess is the digit. -/
theorem gs_stop (h : Dv y y1 y0) (g : Gs y y1 y0 U d q r) (ht : q * y0 ≤ 4294967296 * r + d) : q = (U * 4294967296 + d) / y := by
  have e := gs_eq h g
  have : q ≤ (U * 4294967296 + d) / y := Int.le_ediv_of_mul_le h.pos (by omega)
  have := g.ge
  omega
/-- The digit is below 2^32. -/
theorem dig_lt (h : Dv y y1 y0) (hU : 0 ≤ U) (hUy : U < y) (hd0 : 0 ≤ d) (hd : d < 4294967296) : 0 ≤ (U * 4294967296 + d) / y ∧ (U * 4294967296 + d) / y < 4294967296 :=
  ⟨Int.ediv_nonneg (by omega) (by have := h.pos; omega), Int.ediv_lt_of_lt_mul h.pos (by omega)⟩
theorem gs_less (h : Dv y y1 y0) (g : Gs y y1 y0 U d q r) (hU : 0 ≤ U) (hUy : U < y) (hd0 : 0 ≤ d) (hd : d < 4294967296) (ht : 4294967296 ≤ q ∨ 4294967296 * r + d < q * y0) : (U * 4294967296 + d) / y ≤ q - 1 := by
  rcases ht with ht | ht
  · have := (dig_lt h hU hUy hd0 hd).2; omega
  · have e := gs_eq h g
    have := Int.ediv_lt_of_lt_mul h.pos (show U * 4294967296 + d < q * y by omega)
    omega
theorem sub_one_mul (q z : Int) : (q - 1) * z = q * z - z := by rw [Int.sub_mul, Int.one_mul]
theorem gs_next (h : Dv y y1 y0) (g : Gs y y1 y0 U d q r) (hU : 0 ≤ U) (hUy : U < y) (hd0 : 0 ≤ d) (hd : d < 4294967296) (ht : 4294967296 ≤ q ∨ 4294967296 * r + d < q * y0) (hr : r + y1 < 4294967296) :
    Gs y y1 y0 U d (q - 1) (r + y1) := by
  have hl := gs_less h g hU hUy hd0 hd ht
  have h0 := (dig_lt h hU hUy hd0 hd).1
  have := g.sum; have := g.r0; have := g.qb; have := h.h1
  refine ⟨by rw [sub_one_mul]; omega, by omega, hr, by omega, by omega, hl⟩
theorem gs_break (h : Dv y y1 y0) (g : Gs y y1 y0 U d q r) (hU : 0 ≤ U) (hUy : U < y) (hd0 : 0 ≤ d) (hd : d < 4294967296) (ht : 4294967296 ≤ q ∨ 4294967296 * r + d < q * y0) (hr : 4294967296 ≤ r + y1) :
    q - 1 = (U * 4294967296 + d) / y := by
  have hl := gs_less h g hU hUy hd0 hd ht
  have h0 := (dig_lt h hU hUy hd0 hd).1
  have e := gs_eq h g
  have e1 := sub_one_mul q y
  have e2 := sub_one_mul q y0
  have hb : (q - 1) * y0 ≤ 4294967296 * 4294967295 := by
    have := g.qb
    exact Int.mul_le_mul (by omega) (by have := h.hi; omega) h.lo (by omega)
  have hy := h.eq
  have : q - 1 ≤ (U * 4294967296 + d) / y := Int.le_ediv_of_mul_le h.pos (by omega)
  omega
/-- Products stay words. -/
theorem gs_small (h : Dv y y1 y0) (g : Gs y y1 y0 U d q r) : 0 ≤ q * y0 ∧ q * y0 < 18446744073709551616 ∧ 0 ≤ q * y1 ∧ q * y1 ≤ U := by
  have := g.qb; have := g.q0; have := h.lo; have := h.hi; have := h.h1
  refine ⟨Int.mul_nonneg g.q0 h.lo, ?_, Int.mul_nonneg g.q0 (by omega), by have := g.sum; have := g.r0; omega⟩
  have := Int.mul_le_mul (show q ≤ 4294967297 by omega) (show y0 ≤ 4294967295 by omega) h.lo (by omega)
  omega
/-- The parts put together. -/
theorem div_join {N y p Y U V d1 d0 Q1 R1 Q0 R0 : Int} (hp : 0 < p) (hy : 0 < y) (hY : Y = y * p) (hN : N * p = U * 18446744073709551616 + V) (hV : V = d1 * 4294967296 + d0)
    (h1 : Q1 = (U * 4294967296 + d1) / Y) (h2 : R1 = (U * 4294967296 + d1) % Y) (h3 : Q0 = (R1 * 4294967296 + d0) / Y) (h4 : R0 = (R1 * 4294967296 + d0) % Y) :
    Q1 * 4294967296 + Q0 = N / y ∧ R0 / p = N % y := by
  have hYp : 0 < Y := by rw [hY]; exact Int.mul_pos hy hp
  have e1 := Int.mul_ediv_add_emod (U * 4294967296 + d1) Y
  have e2 := Int.mul_ediv_add_emod (R1 * 4294967296 + d0) Y
  have l1 := Int.emod_nonneg (R1 * 4294967296 + d0) (show Y ≠ 0 by omega)
  have l2 := Int.emod_lt_of_pos (R1 * 4294967296 + d0) hYp
  rw [← h1, ← h2] at e1
  rw [← h3, ← h4] at e2
  rw [← h4] at l1 l2
  have e3 : (N - (Q1 * 4294967296 + Q0) * y) * p = R0 := by
    have : (N - (Q1 * 4294967296 + Q0) * y) * p = N * p - (Q1 * 4294967296 + Q0) * Y := by rw [hY]; grind
    rw [this, hN, hV]
    have : (Q1 * 4294967296 + Q0) * Y = Y * Q1 * 4294967296 + Y * Q0 := by grind
    rw [this]; omega
  have e4 : R0 / p = N - (Q1 * 4294967296 + Q0) * y := by rw [← e3, Int.mul_ediv_cancel _ (by omega)]
  have l3 : 0 ≤ R0 / p := Int.ediv_nonneg l1 (by omega)
  have l4 : R0 / p < y := Int.ediv_lt_of_lt_mul hp (by rw [← hY]; exact l2)
  have e5 : N = R0 / p + (Q1 * 4294967296 + Q0) * y := by omega
  constructor
  · rw [e5, Int.add_mul_ediv_right _ _ (by omega), Int.ediv_eq_zero_of_lt l3 l4]; omega
  · conv => rhs; rw [e5, Int.add_mul_emod_self_right, Int.emod_eq_of_lt l3 l4]
theorem bits_mask32 {Y : Int} (h : 0 ≤ Y ∧ Y < 18446744073709551616) : bits .and .u64 Y 4294967295 = Y % 4294967296 := by
  obtain ⟨Y, rfl⟩ := Int.eq_ofNat_of_zero_le h.1
  have := bits_and_nat Y 4294967295 (by omega) (by omega)
  rw [show ((4294967295 : Nat) : Int) = 4294967295 from rfl] at this
  rw [this, show (4294967295 : Nat) = 2 ^ 32 - 1 from rfl, Nat.and_two_pow_sub_one_eq_mod]
  rfl
theorem dv_norm {y : Int} {s : Nat} (hy : 0 < y) (hy2 : y < 18446744073709551616) (hs : s = 64 - bl y.toNat) : y * 2 ^ s < 18446744073709551616 ∧ 9223372036854775808 ≤ y * 2 ^ s := by
  obtain ⟨y, rfl⟩ := Int.eq_ofNat_of_zero_le (show 0 ≤ y by omega)
  rw [Int.toNat_natCast] at hs
  have hb : bl y ≤ 64 := bl_le (by omega)
  have hp := bl_pos (show y ≠ 0 by omega)
  have h1 := lt_bl y
  have h2 := le_of_bl (show y ≠ 0 by omega)
  have e1 : 2 ^ bl y * 2 ^ s = (18446744073709551616 : Nat) := by rw [← Nat.pow_add, show bl y + s = 64 by omega]
  have e2 : 2 ^ (bl y - 1) * 2 ^ s = (9223372036854775808 : Nat) := by rw [← Nat.pow_add, show bl y - 1 + s = 63 by omega]
  have l1 : y * 2 ^ s < 2 ^ bl y * 2 ^ s := Nat.mul_lt_mul_of_pos_right h1 (Nat.two_pow_pos s)
  have l2 : 2 ^ (bl y - 1) * 2 ^ s ≤ y * 2 ^ s := Nat.mul_le_mul_right _ h2
  have e3 : ((y : Int) * 2 ^ s) = ((y * 2 ^ s : Nat) : Int) := by simp
  rw [e3]
  omega
/-- The dividend, shifted. -/
theorem dividend {hi lo y : Int} {s : Nat} (hs : s ≤ 64) (h0 : 0 ≤ hi) (h1 : hi < y) (hl : 0 ≤ lo ∧ lo < 18446744073709551616) (hY : y * 2 ^ s < 18446744073709551616) :
    (hi * 18446744073709551616 + lo) * 2 ^ s = (shlW hi s + shrW lo (64 - s)) * 18446744073709551616 + lo * 2 ^ s % 18446744073709551616 ∧ 0 ≤ shlW hi s + shrW lo (64 - s) ∧ shlW hi s + shrW lo (64 - s) < y * 2 ^ s := by
  have hp := two_pow_pos s
  have e0 : shlW hi s = hi * 2 ^ s := by
    unfold shlW
    have := Int.mul_lt_mul_of_pos_right h1 hp
    exact Int.emod_eq_of_lt (Int.mul_nonneg h0 (by omega)) (by omega)
  have e1 : lo * 2 ^ s / 18446744073709551616 = shrW lo (64 - s) := by
    unfold shrW
    rw [← pow_split hs, Int.mul_comm lo, Int.mul_ediv_mul_of_pos _ _ hp]
  have e2 := Int.mul_ediv_add_emod (lo * 2 ^ s) 18446744073709551616
  rw [e1] at e2
  have e3 := shrW_wf hl (64 - s)
  have e4 : (hi * 18446744073709551616 + lo) * 2 ^ s = hi * 2 ^ s * 18446744073709551616 + lo * 2 ^ s := by grind
  have l1 := Int.emod_nonneg (lo * 2 ^ s) (show (18446744073709551616 : Int) ≠ 0 by omega)
  have l2 : (hi * 18446744073709551616 + lo) * 2 ^ s < y * 18446744073709551616 * 2 ^ s := Int.mul_lt_mul_of_pos_right (by omega) hp
  have e5 : y * 18446744073709551616 * 2 ^ s = y * 2 ^ s * 18446744073709551616 := by grind
  have l3 : 0 ≤ hi * 2 ^ s := Int.mul_nonneg h0 (by omega)
  rw [e0]
  omega
/-- What wraps comes out right. -/
theorem wrap_rem {U d Y Q : Int} (hY : 0 < Y) (hY2 : Y < 18446744073709551616) (hQ : Q = (U * 4294967296 + d) / Y) :
    IntKind.u64.wrap (IntKind.u64.wrap (IntKind.u64.wrap (U * 4294967296) + d) - IntKind.u64.wrap (Q * Y)) = (U * 4294967296 + d) % Y := by
  have e1 := Int.mul_ediv_add_emod (U * 4294967296 + d) Y
  rw [← hQ, Int.mul_comm] at e1
  have l1 := Int.emod_nonneg (U * 4294967296 + d) (show Y ≠ 0 by omega)
  have l2 := Int.emod_lt_of_pos (U * 4294967296 + d) hY
  rw [IntKind.wrap_u64, IntKind.wrap_u64, IntKind.wrap_u64, IntKind.wrap_u64]
  generalize Q * Y = z at *
  generalize (U * 4294967296 + d) % Y = r at *
  omega
end Cal
end Go.Proofs.YtaepgdkpaffaaaaGreatDoor
