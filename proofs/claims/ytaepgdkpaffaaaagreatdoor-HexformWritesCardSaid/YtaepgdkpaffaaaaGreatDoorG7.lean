import Derived.Test.YtaepgdkpaffaaaaGreatDoorG6
set_option linter.unusedVariables false
set_option linter.unusedSimpArgs false
/- caliperref02: Right. -/
namespace Go.Proofs.YtaepgdkpaffaaaaGreatDoor
open Go.RowKit Go.Proofs.YtaepgdkpaffaaaaGreatDoorW.PrintWords Cal

/-- A word of what is shifted to the right by 64 q + s. -/
theorem right_word {x q s k n : Nat} (hn : n = 64 * q + s) (hs : s ≤ 64) :
    x / 2 ^ n / B ^ k % B = (wd x (q + k)).toNat / 2 ^ s + (wd x (q + k + 1)).toNat * 2 ^ (64 - s) % B := by
  have e1 : x / 2 ^ n / B ^ k = x / B ^ (q + k) / 2 ^ s := by
    rw [hn, Nat.pow_add, Nat.pow_mul, ← B_pow, Nat.div_div_eq_div_mul, Nat.div_div_eq_div_mul, Nat.pow_add]
    congr 1
    rw [Nat.mul_assoc, Nat.mul_comm (2 ^ s), Nat.mul_assoc]
  rw [e1]
  have h1 := wd_nat x (q + k)
  have h2 := wd_nat x (q + k + 1)
  refine shr_word hs (by rw [h1]; exact Nat.mod_lt _ B_pos) h1.symm ?_
  rw [h2, Nat.div_div_eq_div_mul, ← Nat.pow_succ]
theorem right_snoc {out : List Int} {y k : Nat} {X : Int} (hl : out.length = k) (hv : val out = y % B ^ k) (hX : y / B ^ k % B = X.toNat) : val (out ++ [X]) = y % B ^ (k + 1) := by
  rw [val_snoc, hl, hv, mod_succ_pow, hX]

theorem Own.ns {w : World} {base : Nat} {v : Value} {xs : List Int} (h : Own w base v xs) (hn : xs.length ≤ 1000000) : NS w v (val xs) := by
  have h0 := h
  obtain ⟨A, c, rfl, hc, hr, _⟩ := h.cut hn
  exact ⟨⟨A, _, c, xs, rfl, hc, hn, hr, h0.wf, rfl⟩⟩
set_option maxRecDepth 100000 in
set_option maxHeartbeats 2000000 in
theorem rright_c (v : Value) (x n : Nat) (w : World) (h : NS w v x) (hn9 : n ≤ 64000000) :
    Calls Tryz.prog 41 #[v, .int .i64 n] w (fun e w' => ∃ v' b, e = .returned (.tuple #[v', .bool b]) ∧ NT w' v' (x / 2 ^ n) ∧ Below w.heap.size w w') := by
  obtain ⟨A, n0, c, xs, rfl, h1, h2, h3, h4, h5⟩ := h.out
  have l1 : Hid (xs.length = n0) := h3.1
  have HR1 := Lib.hid h3
  have HW1 := Lib.hid h4
  have HV := Lib.hid h5
  have HX := Lib.hid (show x < B ^ n0 by rw [← h5, ← h3.1]; exact val_lt h4)
  have HN := Lib.hid h
  clear h h1 h3 h4 h5
  obtain ⟨q, hq⟩ : ∃ q, q = n / 64 := ⟨_, rfl⟩
  obtain ⟨s, hs⟩ : ∃ s, s = n % 64 := ⟨_, rfl⟩
  have hs64 : s < 64 := by omega
  have hq9 : q ≤ 1000000 := by omega
  have e1 : (n : Int) / 64 = (q : Int) := by omega
  have e2 : (n : Int) % 64 = (s : Int) := by omega
  have HQ := Lib.hid (show n = 64 * q + s by omega)
  clear hq hs
  go_enter Tryz.func41, Tryz.ntmps41
  go_wp2_with fail
  go_loopw [6, 13] (fun t6 t13 wr => ∃ (k : Nat) (b : Bool), k ≤ n0 ∧ t13 = .int .i64 k ∧ t6 = .bool b ∧ w = wr) (fun _ t13 _ => n0 - (intOf t13).toNat)
  case atStart => exact ⟨0, _, Nat.zero_le _, rfl, rfl, rfl⟩
  case round =>
    obtain ⟨k, b, hk, rfl, rfl, rfl⟩ := hrel
    by_cases hkn : k < n0
    · obtain ⟨ad, rfl, hc⟩ := HR1.out.2.2 (by omega)
      have hc0 := hc k (by omega)
      clear hc
      have rng := HW1.out.getD k
      generalize xs.getD k 0 = p at *
      rcases Nat.lt_trichotomy k q with hlt | heq | hgt
      · have c1 : decide ((k : Int) < (q : Int)) = true := by simp; omega
        have c2 : ((k : Int) == (q : Int)) = false := by rw [beq_eq_false_iff_ne]; omega
        rcases hb : (p != 0) with _ | _
        all_goals
          go_wp2_with fail
          go_roundw
          case rel => exact ⟨k + 1, _, by omega, by go_num, rfl, by first | rfl | trivial⟩
          case measure => simp [intOf]; omega
      · subst heq
        have c2 : ((k : Int) == (k : Int)) = true := by simp
        rcases hb : (bits BinOp.and IntKind.u64 p (IntKind.u64.wrap (IntKind.u64.wrap (2 ^ s) - 1)) != 0) with _ | _
        all_goals
          go_wp2_with fail
          go_roundw
          case rel => exact ⟨k + 1, _, by omega, by go_num, rfl, by first | rfl | trivial⟩
          case measure => simp [intOf]; omega
      · have c1 : decide ((k : Int) < (q : Int)) = false := by simp; omega
        have c2 : ((k : Int) == (q : Int)) = false := by rw [beq_eq_false_iff_ne]; omega
        go_wp2_with fail
        go_roundw
        case rel => exact ⟨k + 1, _, by omega, by go_num, rfl, by first | rfl | trivial⟩
        case measure => simp [intOf]; omega
    · obtain rfl : k = n0 := by omega
      go_wp2_with fail
      go_loopw [8, 9] (fun t8 t9 wr => ∃ (i : Nat) (out : List Int), q ≤ i ∧ i ≤ q + k ∧ t9 = .int .i64 i ∧ Own wr w.heap.size t8 out ∧ Hid (out.length = i - q) ∧ Below w.heap.size w wr ∧ Hid (val out = x / 2 ^ n % B ^ (i - q))) (fun _ t9 _ => q + k - (intOf t9).toNat)
      case atStart => exact ⟨q, [], Nat.le_refl _, by omega, by go_num, ⟨own_nil _ _ _ _, Wf.nil⟩, by show _ = _; simp, Below.refl _ _, by show _ = _; rw [Nat.sub_self, Nat.pow_zero, Nat.mod_one]; rfl⟩
      case round =>
        obtain ⟨wl, rfl⟩ : ∃ wl : World, wl = wr := ⟨_, rfl⟩
        obtain ⟨i, out, hi, hi2, rfl, ho, hlen, hbl, hv⟩ := hrel
        by_cases hin : i < k
        · obtain ⟨ad, rfl, hc⟩ := (HR1.out.below hbl).2.2 (by omega)
          have HO := Lib.hid ho
          clear ho
          have hc0 := hc i hin
          clear hc
          have C := Lib.hid (rword_c _ x (i + 1) wl (HN.out.ext hbl))
          have hrw := right_word (x := x) (k := i - q) HQ.out (by omega)
          rw [show q + (i - q) = i by omega] at hrw
          have hp : xs.getD i 0 = wd x i := by rw [← HV.out, wd_raw HW1.out]
          rw [hp] at hc0
          have rng := wd_wf x i
          have rng2 := wd_wf x (i + 1)
          clear hp
          obtain ⟨p, hp⟩ : ∃ p, p = wd x i := ⟨_, rfl⟩
          obtain ⟨p2, hp2⟩ : ∃ p, p = wd x (i + 1) := ⟨_, rfl⟩
          rw [← hp] at hc0 rng hrw
          rw [← hp2] at rng2 hrw C
          clear hp hp2
          have ec : ((i + 1 : Nat) : Int) = (i : Int) + 1 := by omega
          rw [ec] at C
          clear ec
          have hl2 := hlen
          have ei : (i - q) + 1 = i + 1 - q := by omega
          have hb1 := fun z => (Below.alloc hbl hbl.size (.cells #[.int .u64 z] 22))
          rcases Nat.eq_zero_or_pos s with hs0 | hs0
          · subst hs0
            have hval : Hid (val (out ++ [p]) = x / 2 ^ n % B ^ (i + 1 - q)) := by
              rw [← ei]
              refine right_snoc hl2.out hv.out ?_
              rw [hrw]
              have : p2.toNat * 2 ^ (64 - 0) % B = 0 := by rw [show (2 : Nat) ^ (64 - 0) = B from B_pow.symm, Nat.mul_mod_left]
              rw [this]
              simp
            clear hrw hv ei C
            go_wp2_with (at_builtin
                         go_must (refine print_append_num (w0 := w) w.heap.size rfl (.tmp 77) (.tmp 79) 50 22 .u64 8 rfl Tryz.underlying50 info22 (by omega) u8 out p rfl rfl HO.out.row hbl hbl.size (by have := hlen.out; omega) ?_)
                         intro v1 w1 ho1 hb1 _ _)
            go_roundw
            case rel => exact ⟨i + 1, out ++ [p], by omega, by omega, by go_num, ⟨ho1, HO.out.wf.append (Wf.mk rng Wf.nil)⟩, by show _ = _; rw [List.length_append, hlen.out]; simp; omega, hb1, hval⟩
            case measure => simp [intOf]; omega
          · have e3 : decide (0 < (s : Int)) = true := by simpa using hs0
            have hor := or_shift_w' (p := p2) (q := p) rng2 rng (s := s) (by omega)
            have hwf : 0 ≤ shlW p2 (64 - s) + shrW p s ∧ shlW p2 (64 - s) + shrW p s < 18446744073709551616 := by
              have := shift_sum_wf (p := p2) (q := p) rng2 rng (s := 64 - s) (by omega)
              rwa [show 64 - (64 - s) = s by omega] at this
            have hval : Hid (val (out ++ [shlW p2 (64 - s) + shrW p s]) = x / 2 ^ n % B ^ (i + 1 - q)) := by
              rw [← ei]
              refine right_snoc hl2.out hv.out ?_
              rw [hrw]
              have := shlW_wf p2 (64 - s)
              have := shrW_wf rng s
              rw [Int.toNat_add (by omega) (by omega), shlW_nat rng2.1, shrW_nat rng.1, Nat.add_comm]
            clear hrw hv ei
            go_wp2_with fail
            (with_reducible refine C.out.mono ?_); rintro e w' ⟨rfl, rfl⟩
            obtain ⟨z, hz⟩ : ∃ z, z = shlW p2 (64 - s) + shrW p s := ⟨_, rfl⟩
            rw [← hz] at hor hwf hval
            clear hz
            go_wp2_with (at_builtin
                         go_must (refine print_append_num (w0 := w) w.heap.size rfl (.tmp 77) (.tmp 79) 50 22 .u64 8 rfl Tryz.underlying50 info22 (by omega) u8 out z rfl rfl HO.out.row hbl hbl.size (by have := hlen.out; omega) ?_)
                         intro v1 w1 ho1 hb1 _ _)
            go_roundw
            case rel => exact ⟨i + 1, out ++ [z], by omega, by omega, by go_num, ⟨ho1, HO.out.wf.append (Wf.mk hwf Wf.nil)⟩, by show _ = _; rw [List.length_append, hlen.out]; simp; omega, hb1, hval⟩
            case measure => simp [intOf]; omega
        · have hv' : val out = x / 2 ^ n := by
            rw [hv.out]
            refine Nat.mod_eq_of_lt ?_
            rw [Nat.div_lt_iff_lt_mul (Nat.two_pow_pos _)]
            refine Nat.lt_of_lt_of_le HX.out ?_
            rw [HQ.out, Nat.pow_add, Nat.pow_mul, ← B_pow, ← Nat.mul_assoc, ← Nat.pow_add]
            exact Nat.le_trans (Nat.pow_le_pow_right B_pos (by omega)) (Nat.le_mul_of_pos_right _ (Nat.two_pow_pos _))
          have hns := ho.ns (by have := hlen.out; omega)
          rw [hv'] at hns
          have C3 := Lib.hid (rtrim_c _ _ _ hns)
          clear hns hv' hv hlen ho
          go_wp2_with fail
          (with_reducible refine C3.out.mono ?_); rintro e w' ⟨v', rfl, hv', hb'⟩
          go_wp2_with fail
          go_ret2
          exact ⟨_, _, rfl, hv', btrans hbl hb'⟩
end Go.Proofs.YtaepgdkpaffaaaaGreatDoor

/- Arrays of four words: ref02's Bits and Nat; what reads as a number behind b[:]. -/
namespace Go.Proofs.YtaepgdkpaffaaaaGreatDoor
open Go.RowKit Go.Proofs.YtaepgdkpaffaaaaGreatDoorW.PrintWords Cal

def bcells (x : Nat) : Array Value := #[.int .u64 (wd x 0), .int .u64 (wd x 1), .int .u64 (wd x 2), .int .u64 (wd x 3)]
/-- A pattern of 256 bits as a value. -/
def bv (x : Nat) : Value := .agg #[.int .u64 (wd x 0), .int .u64 (wd x 1), .int .u64 (wd x 2), .int .u64 (wd x 3)]
def blist (x : Nat) : List Int := [wd x 0, wd x 1, wd x 2, wd x 3]
theorem val_range (x n : Nat) : val ((List.range n).map (wd x)) = x % B ^ n := by
  induction n with
  | zero => rw [Nat.pow_zero, Nat.mod_one]; rfl
  | succ n ih => rw [List.range_succ, List.map_append, List.map_singleton, val_snoc, ih, mod_succ_pow, wd_nat, List.length_map, List.length_range]
theorem B4 : (2 : Nat) ^ 256 = B ^ 4 := by rw [B_pow, ← Nat.pow_mul]
theorem blist_val {x : Nat} (h : x < 2 ^ 256) : val (blist x) = x := by
  have := val_range x 4
  rw [B4] at h
  rw [Nat.mod_eq_of_lt h] at this
  exact this
theorem blist_wf (x : Nat) : Wf (blist x) := fun y hy => by
  simp only [blist, List.mem_cons, List.not_mem_nil, or_false] at hy
  rcases hy with rfl | rfl | rfl | rfl <;> exact wd_wf _ _
/-- b[:] of a pattern that lies in a block of its own. -/
theorem ns_bits (w : World) {x : Nat} (h : x < 2 ^ 256) : NS (w.alloc (.cells #[.int .u64 (wd x 0), .int .u64 (wd x 1), .int .u64 (wd x 2), .int .u64 (wd x 3)] 24)) (.slice (some ⟨w.heap.size, 0, none⟩) 4 4) x := by
  have h1 := own_lit w w.heap.size 24 .u64 (blist x) (Nat.le_refl _) (by simp [blist])
  obtain ⟨A, c, he, hr⟩ := own_reads h1
  injection he with e1 e2 e3
  subst e1
  exact ⟨⟨_, 4, 4, blist x, rfl, by omega, by omega, hr, blist_wf x, blist_val h⟩⟩
theorem nb_bits (w : World) {x : Nat} (h : x < 2 ^ 256) {M : Nat} (hM : 4 ≤ M) : NB M (w.alloc (.cells #[.int .u64 (wd x 0), .int .u64 (wd x 1), .int .u64 (wd x 2), .int .u64 (wd x 3)] 24)) (.slice (some ⟨w.heap.size, 0, none⟩) 4 4) x :=
  ⟨_, 4, 4, rfl, hM, ns_bits w h⟩
theorem size24 : (Tryz.prog.info? 24).map (·.size) = some 4 := by kernel_rfl
def pcells (x k : Nat) : Array Value := #[.int .u64 (if 0 < k then wd x 0 else 0), .int .u64 (if 1 < k then wd x 1 else 0), .int .u64 (if 2 < k then wd x 2 else 0), .int .u64 (if 3 < k then wd x 3 else 0)]
set_option maxRecDepth 100000 in
theorem rbits_c (v : Value) (x : Nat) (w : World) (h : NS w v x) :
    Calls Tryz.prog 65 #[v] w (fun e w' => e = .returned (bv x) ∧ Below w.heap.size w w') := by
  have H := Lib.hid h
  clear h
  go_enter Tryz.func65, Tryz.ntmps65
  go_wp2_with fail
  have hb : ∀ o1 o, Below w.heap.size w ((w.alloc o1).alloc o) := fun o1 o => ((Below.refl _ _).alloc (Nat.le_refl _) _).alloc (by show _ ≤ (w.heap.push _).size; rw [Array.size_push]; omega) _
  go_loopw [5] (fun t5 wr => ∃ (k : Nat), k ≤ 4 ∧ t5 = .int .i64 k ∧ wr = (w.alloc (Obj.cells #[Value.int IntKind.u64 0, Value.int IntKind.u64 0, Value.int IntKind.u64 0, Value.int IntKind.u64 0] 24)).alloc (.cells (pcells x k) 24)) (fun t5 _ => 4 - (intOf t5).toNat)
  case atStart => exact ⟨0, by omega, rfl, rfl⟩
  case round =>
    obtain ⟨k, hk, rfl, rfl⟩ := hrel
    have : k = 0 ∨ k = 1 ∨ k = 2 ∨ k = 3 ∨ k = 4 := by omega
    rcases this with rfl | rfl | rfl | rfl | rfl
    · have C : Hid (∀ W, Below w.heap.size w W → Calls Tryz.prog 87 #[v, .int .i64 0] W (fun e w' => e = .returned (.int .u64 (wd x 0)) ∧ w' = W)) := fun W hW => rword_c v x 0 W (H.out.ext hW)
      simp only [pcells]
      go_wp2_with fail
      (with_reducible refine (C.out _ (hb _ _)).mono ?_); rintro e w' ⟨rfl, rfl⟩
      go_wp2_with fail
      go_roundw
      case rel => exact ⟨1, by omega, by go_num, by simp [pcells]⟩
      case measure => simp [intOf]
    · have C : Hid (∀ W, Below w.heap.size w W → Calls Tryz.prog 87 #[v, .int .i64 1] W (fun e w' => e = .returned (.int .u64 (wd x 1)) ∧ w' = W)) := fun W hW => rword_c v x 1 W (H.out.ext hW)
      simp only [pcells]
      go_wp2_with fail
      (with_reducible refine (C.out _ (hb _ _)).mono ?_); rintro e w' ⟨rfl, rfl⟩
      go_wp2_with fail
      go_roundw
      case rel => exact ⟨2, by omega, by go_num, by simp [pcells]⟩
      case measure => simp [intOf]
    · have C : Hid (∀ W, Below w.heap.size w W → Calls Tryz.prog 87 #[v, .int .i64 2] W (fun e w' => e = .returned (.int .u64 (wd x 2)) ∧ w' = W)) := fun W hW => rword_c v x 2 W (H.out.ext hW)
      simp only [pcells]
      go_wp2_with fail
      (with_reducible refine (C.out _ (hb _ _)).mono ?_); rintro e w' ⟨rfl, rfl⟩
      go_wp2_with fail
      go_roundw
      case rel => exact ⟨3, by omega, by go_num, by simp [pcells]⟩
      case measure => simp [intOf]
    · have C : Hid (∀ W, Below w.heap.size w W → Calls Tryz.prog 87 #[v, .int .i64 3] W (fun e w' => e = .returned (.int .u64 (wd x 3)) ∧ w' = W)) := fun W hW => rword_c v x 3 W (H.out.ext hW)
      simp only [pcells]
      go_wp2_with fail
      (with_reducible refine (C.out _ (hb _ _)).mono ?_); rintro e w' ⟨rfl, rfl⟩
      go_wp2_with fail
      go_roundw
      case rel => exact ⟨4, by omega, by go_num, by simp [pcells]⟩
      case measure => simp [intOf]
    · simp only [pcells]
      go_wp2_with fail
      refine bodyPost_ret (results_cell_row rfl _ _ w.heap.size 24 (bcells x) (0, 0) _ rfl ((heap_alloc_old _ _ (by show _ < (w.heap.push _).size; rw [Array.size_push]; omega)).trans (heap_alloc_new _ _)) Tryz.underlying24 rfl size24) rfl ?_
      exact ⟨rfl, hb _ _⟩
/-- rnat: what a pattern says. -/
theorem rnat_c (x : Nat) (hx : x < 2 ^ 256) (w : World) : Calls Tryz.prog 27 #[bv x] w (fun e w' => ∃ v, e = .returned v ∧ NT w' v x ∧ Below w.heap.size w w') := by
  have C := Lib.hid (rtrim_c _ _ _ (ns_bits w hx))
  clear hx
  unfold bv
  go_enter Tryz.func27, Tryz.ntmps27
  go_wp2_with fail
  (with_reducible refine C.out.mono ?_); rintro e w' ⟨v, rfl, hv, hb⟩
  go_wp2_with fail
  go_ret
  exact ⟨_, rfl, hv, btrans ((Below.refl _ _).alloc (Nat.le_refl _) _) hb⟩
end Go.Proofs.YtaepgdkpaffaaaaGreatDoor

/- caliperref04: Binary, Of. caliperref05: Field, Number. -/
namespace Go.Proofs.YtaepgdkpaffaaaaGreatDoor
open Go.RowKit Go.Proofs.YtaepgdkpaffaaaaGreatDoorW.PrintWords Cal

set_option maxRecDepth 100000 in
theorem rfield_c (x at_ n : Nat) (w : World) (hx : x < 2 ^ 256) (ha : at_ ≤ 100000) (hn : n ≤ 100000) :
    Calls Tryz.prog 40 #[bv x, .int .i64 at_, .int .i64 n] w (fun e w' => ∃ v, e = .returned v ∧ NT w' v (x / 2 ^ at_ % 2 ^ n) ∧ Below w.heap.size w w') := by
  have C1 := Lib.hid (rright_c _ _ at_ _ (ns_bits w hx) (by omega))
  have C2 := Lib.hid (fun v w' (h : NT w' v (x / 2 ^ at_)) => rright_c v _ n w' h.ns (by omega))
  have hw : wl (x / 2 ^ at_ / 2 ^ n) ≤ 4 := wl_le (by rw [← B4]; exact Nat.lt_of_le_of_lt (Nat.le_trans (Nat.div_le_self _ _) (Nat.div_le_self _ _)) hx)
  have C3 := Lib.hid (fun v w' (h : NT w' v (x / 2 ^ at_ / 2 ^ n)) => rleft_c v _ n w' (h.nb hw) (by omega))
  have C4 := Lib.hid (fun v1 v2 w' (h1 : NT w' v1 (x / 2 ^ at_)) (h2 : NT w' v2 (x / 2 ^ at_ / 2 ^ n * 2 ^ n)) => rsub_c v1 v2 _ _ w' h1.ns h2.ns (Nat.div_mul_le_self _ _))
  have HE : Hid (x / 2 ^ at_ - x / 2 ^ at_ / 2 ^ n * 2 ^ n = x / 2 ^ at_ % 2 ^ n) := by
    show _ = _
    have := Nat.div_add_mod (x / 2 ^ at_) (2 ^ n)
    rw [Nat.mul_comm] at this
    omega
  clear hx hw ha hn
  unfold bv
  go_enter Tryz.func40, Tryz.ntmps40
  go_wp2_with fail
  (with_reducible refine C1.out.mono ?_); rintro e w1 ⟨v1, b1, rfl, h1, hb1⟩
  go_wp2_with fail
  (with_reducible refine (C2.out _ _ h1).mono ?_); rintro e w2 ⟨v2, b2, rfl, h2, hb2⟩
  go_wp2_with fail
  (with_reducible refine (C3.out _ _ h2).mono ?_); rintro e w3 ⟨v3, rfl, h3, hb3⟩
  go_wp2_with fail
  (with_reducible refine (C4.out _ _ _ ((h1.ext hb2).ext hb3) h3).mono ?_); rintro e w4 ⟨v4, rfl, h4, hb4⟩
  go_wp2_with fail
  go_ret
  exact ⟨_, rfl, by rw [← HE.out]; exact h4, btrans (btrans (btrans (btrans ((Below.refl _ _).alloc (Nat.le_refl _) _) hb1) hb2) hb3) hb4⟩

set_option maxRecDepth 100000 in
theorem rnumber_c (v : Value) (x : Nat) (w : World) (h : NT w v x) (hx : x < 9223372036854775808) :
    Calls Tryz.prog 57 #[v] w (fun e w' => e = .returned (.int .i64 x) ∧ w' = w) := by
  obtain ⟨A, c, rfl, h1, h2, h3⟩ := h.out
  clear h
  have H3 := Lib.hid h3
  clear h3
  rcases Nat.eq_zero_or_pos x with hx0 | hx0
  · have e : wl x = 0 := by rw [hx0, wl_zero]
    rw [e]
    rw [hx0]
    clear H3 h1 h2 e hx hx0
    go_enter Tryz.func57, Tryz.ntmps57
    go_wp2_with fail
    go_ret
    exact ⟨rfl, rfl⟩
  · have e : wl x = 1 := by
      rw [wl_pos (by omega), Nat.div_eq_of_lt (by rw [B_eq]; omega), wl_zero]
    rw [e] at h1 h2 H3 ⊢
    obtain ⟨ad, rfl, hc⟩ := H3.out.2.2 (by omega)
    have hc0 := hc 0 (by omega)
    rw [limbs_getD', Nat.pow_zero, Nat.div_one, Nat.mod_eq_of_lt (by rw [B_eq]; omega), show ad.add 0 = ad from rfl] at hc0
    clear hc H3 e
    go_enter Tryz.func57, Tryz.ntmps57
    go_wp2_with fail
    go_ret
    exact ⟨rfl, rfl⟩
theorem rbinary_c (n : Int) (w : World) : Calls Tryz.prog 66 #[.int .i64 n] w (fun e w' => e = .returned (.bool (decide (1 ≤ n ∧ n ≤ 6))) ∧ w' = w) := by
  rcases h1 : decide (1 ≤ n) with _ | _ <;> rcases h2 : decide (n ≤ 6) with _ | _
  all_goals
    have e1 : decide (1 ≤ n ∧ n ≤ 6) = (decide (1 ≤ n) && decide (n ≤ 6)) := by simp
    rw [e1, h1, h2]
    clear e1
    go_enter Tryz.func66, Tryz.ntmps66
    go_wp2_with fail
    go_ret
    exact ⟨rfl, rfl⟩
theorem results_cell_row_tmp {P : Program} {fn : Func} {p u : Tmp} {ty : TypeId} (h : fn.results = #[.cell p ty, .tmp u]) (tmps : Array Value) (w : World) (g : Nat) (t : TypeId) (cs : Array Value) (fr : Nat × Nat) (d : TypeDesc)
    (hp : tmps.getD p undef = .pointer (some ⟨g, 0, none⟩)) (hg : w.heap[g]? = some (.cells cs t fr))
    (hu : P.underlying ty = some d) (hd : (match d with | .struct _ | .array _ _ => true | _ => false) = true) (hi : (P.info? ty).map (·.size) = some cs.size) (z : Value) (hz : tmps.getD u undef = z) :
    (results fn tmps).run P w = .ok (.tuple #[.agg cs, z]) w := by
  rw [results_cell_tmp h, hp, hz]
  simp [asAddr, run_loadVar_row w g t ty cs fr d hg hu hd hi, Result.andThen]

/-! ### The binary formats -/
def prec : Nat → Nat | 1 => 11 | 2 => 8 | 3 => 24 | 4 => 53 | 5 => 113 | 6 => 241 | _ => 2
def expo : Nat → Nat | 1 => 5 | 2 => 8 | 3 => 8 | 4 => 11 | 5 => 15 | 6 => 15 | _ => 1
def least (n : Nat) : Int := 2 - (2 ^ (expo n - 1) - 1) - prec n
def most (n : Nat) : Int := (2 ^ (expo n - 1) - 1) + 1 - prec n
def fname : Nat → Array UInt8 | 1 => #[72, 97, 108, 102] | 2 => #[66, 114, 97, 105, 110] | 3 => #[83, 105, 110, 103, 108, 101] | 4 => #[68, 111, 117, 98, 108, 101] | 5 => #[81, 117, 97, 100] | 6 => #[79, 99, 116, 111] | _ => #[]
def rinfo (n : Nat) : Array Value := #[.int .i64 n, .string ⟨fname n⟩, .int .i64 2, .int .i64 ((prec n + expo n : Nat) : Int), .int .i64 (prec n), .int .i64 (expo n), .int .i64 (least n), .int .i64 (most n), .int .i64 ((prec n - 2 : Nat) : Int), .bool false]
theorem six {n : Nat} (h1 : 1 ≤ n) (h2 : n ≤ 6) : n = 1 ∨ n = 2 ∨ n = 3 ∨ n = 4 ∨ n = 5 ∨ n = 6 := by omega
theorem size81 : (Tryz.prog.info? 81).map (·.size) = some 10 := by kernel_rfl
set_option maxRecDepth 100000 in
theorem rof4_1 (w : World) : Calls Tryz.prog 50 #[.int .i64 ((1 : Nat) : Int)] w (fun e w' => e = .returned (.tuple #[.agg (rinfo 1), .int .i64 0]) ∧ Below w.heap.size w w') := by
  have hb : ∀ o1 o, Below w.heap.size w ((w.alloc o1).alloc o) := fun o1 o => ((Below.refl _ _).alloc (Nat.le_refl _) _).alloc (by show _ ≤ (w.heap.push _).size; rw [Array.size_push]; omega) _
  go_enter Tryz.func50, Tryz.ntmps50
  go_wp2_with fail
  refine bodyPost_ret (results_cell_row_tmp rfl _ _ w.heap.size 81 (rinfo 1) (0, 0) _ rfl ((heap_alloc_old _ _ (by show _ < (w.heap.push _).size; rw [Array.size_push]; omega)).trans (heap_alloc_new _ _)) Tryz.underlying81 rfl size81 (.int .i64 0) rfl) rfl ?_
  exact ⟨rfl, hb _ _⟩
set_option maxRecDepth 100000 in
theorem rof4_2 (w : World) : Calls Tryz.prog 50 #[.int .i64 ((2 : Nat) : Int)] w (fun e w' => e = .returned (.tuple #[.agg (rinfo 2), .int .i64 0]) ∧ Below w.heap.size w w') := by
  have hb : ∀ o1 o, Below w.heap.size w ((w.alloc o1).alloc o) := fun o1 o => ((Below.refl _ _).alloc (Nat.le_refl _) _).alloc (by show _ ≤ (w.heap.push _).size; rw [Array.size_push]; omega) _
  go_enter Tryz.func50, Tryz.ntmps50
  go_wp2_with fail
  refine bodyPost_ret (results_cell_row_tmp rfl _ _ w.heap.size 81 (rinfo 2) (0, 0) _ rfl ((heap_alloc_old _ _ (by show _ < (w.heap.push _).size; rw [Array.size_push]; omega)).trans (heap_alloc_new _ _)) Tryz.underlying81 rfl size81 (.int .i64 0) rfl) rfl ?_
  exact ⟨rfl, hb _ _⟩
set_option maxRecDepth 100000 in
theorem rof4_3 (w : World) : Calls Tryz.prog 50 #[.int .i64 ((3 : Nat) : Int)] w (fun e w' => e = .returned (.tuple #[.agg (rinfo 3), .int .i64 0]) ∧ Below w.heap.size w w') := by
  have hb : ∀ o1 o, Below w.heap.size w ((w.alloc o1).alloc o) := fun o1 o => ((Below.refl _ _).alloc (Nat.le_refl _) _).alloc (by show _ ≤ (w.heap.push _).size; rw [Array.size_push]; omega) _
  go_enter Tryz.func50, Tryz.ntmps50
  go_wp2_with fail
  refine bodyPost_ret (results_cell_row_tmp rfl _ _ w.heap.size 81 (rinfo 3) (0, 0) _ rfl ((heap_alloc_old _ _ (by show _ < (w.heap.push _).size; rw [Array.size_push]; omega)).trans (heap_alloc_new _ _)) Tryz.underlying81 rfl size81 (.int .i64 0) rfl) rfl ?_
  exact ⟨rfl, hb _ _⟩
set_option maxRecDepth 100000 in
theorem rof4_4 (w : World) : Calls Tryz.prog 50 #[.int .i64 ((4 : Nat) : Int)] w (fun e w' => e = .returned (.tuple #[.agg (rinfo 4), .int .i64 0]) ∧ Below w.heap.size w w') := by
  have hb : ∀ o1 o, Below w.heap.size w ((w.alloc o1).alloc o) := fun o1 o => ((Below.refl _ _).alloc (Nat.le_refl _) _).alloc (by show _ ≤ (w.heap.push _).size; rw [Array.size_push]; omega) _
  go_enter Tryz.func50, Tryz.ntmps50
  go_wp2_with fail
  refine bodyPost_ret (results_cell_row_tmp rfl _ _ w.heap.size 81 (rinfo 4) (0, 0) _ rfl ((heap_alloc_old _ _ (by show _ < (w.heap.push _).size; rw [Array.size_push]; omega)).trans (heap_alloc_new _ _)) Tryz.underlying81 rfl size81 (.int .i64 0) rfl) rfl ?_
  exact ⟨rfl, hb _ _⟩
set_option maxRecDepth 100000 in
theorem rof4_5 (w : World) : Calls Tryz.prog 50 #[.int .i64 ((5 : Nat) : Int)] w (fun e w' => e = .returned (.tuple #[.agg (rinfo 5), .int .i64 0]) ∧ Below w.heap.size w w') := by
  have hb : ∀ o1 o, Below w.heap.size w ((w.alloc o1).alloc o) := fun o1 o => ((Below.refl _ _).alloc (Nat.le_refl _) _).alloc (by show _ ≤ (w.heap.push _).size; rw [Array.size_push]; omega) _
  go_enter Tryz.func50, Tryz.ntmps50
  go_wp2_with fail
  refine bodyPost_ret (results_cell_row_tmp rfl _ _ w.heap.size 81 (rinfo 5) (0, 0) _ rfl ((heap_alloc_old _ _ (by show _ < (w.heap.push _).size; rw [Array.size_push]; omega)).trans (heap_alloc_new _ _)) Tryz.underlying81 rfl size81 (.int .i64 0) rfl) rfl ?_
  exact ⟨rfl, hb _ _⟩
set_option maxRecDepth 100000 in
theorem rof4_6 (w : World) : Calls Tryz.prog 50 #[.int .i64 ((6 : Nat) : Int)] w (fun e w' => e = .returned (.tuple #[.agg (rinfo 6), .int .i64 0]) ∧ Below w.heap.size w w') := by
  have hb : ∀ o1 o, Below w.heap.size w ((w.alloc o1).alloc o) := fun o1 o => ((Below.refl _ _).alloc (Nat.le_refl _) _).alloc (by show _ ≤ (w.heap.push _).size; rw [Array.size_push]; omega) _
  go_enter Tryz.func50, Tryz.ntmps50
  go_wp2_with fail
  refine bodyPost_ret (results_cell_row_tmp rfl _ _ w.heap.size 81 (rinfo 6) (0, 0) _ rfl ((heap_alloc_old _ _ (by show _ < (w.heap.push _).size; rw [Array.size_push]; omega)).trans (heap_alloc_new _ _)) Tryz.underlying81 rfl size81 (.int .i64 0) rfl) rfl ?_
  exact ⟨rfl, hb _ _⟩
theorem rof4_c (n : Nat) (w : World) (h1 : 1 ≤ n) (h2 : n ≤ 6) : Calls Tryz.prog 50 #[.int .i64 n] w (fun e w' => e = .returned (.tuple #[.agg (rinfo n), .int .i64 0]) ∧ Below w.heap.size w w') := by
  rcases six h1 h2 with rfl | rfl | rfl | rfl | rfl | rfl
  · exact rof4_1 w
  · exact rof4_2 w
  · exact rof4_3 w
  · exact rof4_4 w
  · exact rof4_5 w
  · exact rof4_6 w
end Go.Proofs.YtaepgdkpaffaaaaGreatDoor

/- caliperref04: Fits. caliperref05: Good. -/
namespace Go.Proofs.YtaepgdkpaffaaaaGreatDoor
open Go.RowKit Go.Proofs.YtaepgdkpaffaaaaGreatDoorW.PrintWords Cal

set_option maxRecDepth 100000 in
theorem rfits_c (n x : Nat) (w : World) (h1 : 1 ≤ n) (h2 : n ≤ 6) (hx : x < 2 ^ 256) :
    Calls Tryz.prog 121 #[.int .i64 n, bv x] w (fun e w' => e = .returned (.bool (decide (bl x ≤ prec n + expo n))) ∧ Below w.heap.size w w') := by
  have C1 := fun W => rof4_c n W h1 h2
  unfold rinfo at C1
  have C1 := Lib.hid C1
  have C2 := Lib.hid (fun W (hb : Below (w.alloc (.cells #[.int .u64 (wd x 0), .int .u64 (wd x 1), .int .u64 (wd x 2), .int .u64 (wd x 3)] 24)).heap.size (w.alloc (.cells #[.int .u64 (wd x 0), .int .u64 (wd x 1), .int .u64 (wd x 2), .int .u64 (wd x 3)] 24)) W) => rlen_c _ _ W ((ns_bits w hx).ext hb))
  obtain ⟨pw, hpw⟩ : ∃ pw, pw = prec n + expo n := ⟨_, rfl⟩
  rw [← hpw] at C1 ⊢
  clear hx h1 h2 hpw
  unfold bv
  generalize prec n = p1 at *
  generalize expo n = p2 at *
  go_enter Tryz.func121, Tryz.ntmps121
  go_wp2_with fail
  (with_reducible refine (C1.out _).mono ?_); rintro e w1 ⟨rfl, hb1⟩
  go_wp2_with fail
  go_quiet ((go_at_call 39; with_reducible exact Calls.quiet_of_same (C2.out _ (pw_below_drewN (hb1.alloc hb1.size _) _))))
  go_wp2_with fail
  go_ret
  exact ⟨rfl, pw_below_drewN (Below.alloc (btrans ((Below.refl _ _).alloc (Nat.le_refl _) _) hb1) (btrans ((Below.refl _ _).alloc (Nat.le_refl _) _) hb1).size _) _⟩
def good (n : Int) (x : Nat) : Bool := decide (1 ≤ n ∧ n ≤ 6) && decide (bl x ≤ prec n.toNat + expo n.toNat)
set_option maxRecDepth 100000 in
theorem rgood_c (n : Int) (x : Nat) (w : World) (hx : x < 2 ^ 256) :
    Calls Tryz.prog 64 #[.int .i64 n, bv x] w (fun e w' => e = .returned (.bool (good n x)) ∧ Below w.heap.size w w') := by
  have C1 := Lib.hid (fun W => rbinary_c n W)
  unfold good
  by_cases h : 1 ≤ n ∧ n ≤ 6
  · have C2 := Lib.hid (fun W => rfits_c n.toNat x W (by omega) (by omega) hx)
    rw [Int.toNat_of_nonneg (show 0 ≤ n by omega)] at C2
    have hd : decide (1 ≤ n ∧ n ≤ 6) = true := by simpa using h
    rw [hd] at C1 ⊢
    simp only [Bool.true_and, Bool.false_and]
    clear hd h hx
    unfold bv at C2 ⊢
    go_enter Tryz.func64, Tryz.ntmps64
    go_wp2_with fail
    (with_reducible refine (C1.out _).mono ?_); rintro e w1 ⟨rfl, rfl⟩
    go_wp2_with fail
    (with_reducible refine (C2.out _).mono ?_); rintro e w2 ⟨rfl, hb⟩
    go_wp2_with fail
    go_ret
    exact ⟨rfl, btrans ((Below.refl _ _).alloc (Nat.le_refl _) _) hb⟩
  · have hd : decide (1 ≤ n ∧ n ≤ 6) = false := by simpa using h
    rw [hd] at C1 ⊢
    simp only [Bool.true_and, Bool.false_and]
    clear hd h hx
    unfold bv
    go_enter Tryz.func64, Tryz.ntmps64
    go_wp2_with fail
    (with_reducible refine (C1.out _).mono ?_); rintro e w1 ⟨rfl, rfl⟩
    go_wp2_with fail
    go_ret
    exact ⟨rfl, (Below.refl _ _).alloc (Nat.le_refl _) _⟩
end Go.Proofs.YtaepgdkpaffaaaaGreatDoor
