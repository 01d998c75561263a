import Derived.Test.YtaepgdkpaffaaaaGreatDoorG4
import Derived.Deep.DeepCutAuto
set_option linter.unusedVariables false
set_option linter.unusedSimpArgs false
/- math/bits.Div64: two words divided by one. -/
namespace Go.Proofs.YtaepgdkpaffaaaaGreatDoor
open Go.RowKit Go.Proofs.YtaepgdkpaffaaaaGreatDoorW.PrintWords Cal

def quo2 (hi lo y : Int) : Int := (hi * 18446744073709551616 + lo) / y
def rem2 (hi lo y : Int) : Int := (hi * 18446744073709551616 + lo) % y


set_option maxRecDepth 100000 in
set_option maxHeartbeats 2000000 in
theorem div64_pos (hi lo y : Int) (w : World) (h0 : 0 < hi) (h1 : hi < y) (hy : y < 18446744073709551616) (hl : 0 ≤ lo ∧ lo < 18446744073709551616) :
    Calls Tryz.prog 149 #[.int .u64 hi, .int .u64 lo, .int .u64 y] w (fun e w' => e = .returned (.tuple #[.int .u64 (quo2 hi lo y), .int .u64 (rem2 hi lo y)]) ∧ w' = w) := by
  have hbl : bl y.toNat ≤ 64 := bl_le (by omega)
  have hbp : 0 < bl y.toNat := bl_pos (by omega)
  obtain ⟨s, hs⟩ : ∃ s, s = 64 - bl y.toNat := ⟨_, rfl⟩
  have hs63 : s ≤ 63 := by omega
  have LZ := Lib.hid ((Tryz.bits_LeadingZeros64 y w (by omega) (by omega)).mono (fun e w' h => (⟨h.1.trans (ret_int (by rw [bitLen_eq (by omega)]; omega)), h.2.symm⟩ : e = .returned (.int .i64 (s : Int)) ∧ w = w')))
  have HS := Lib.hid hs
  clear hs hbl hbp
  obtain ⟨Y, hY⟩ : ∃ Y, IntKind.u64.wrap (y * 2 ^ s) = Y := ⟨_, rfl⟩
  obtain ⟨V, hV⟩ : ∃ V, IntKind.u64.wrap (lo * 2 ^ s) = V := ⟨_, rfl⟩
  obtain ⟨U, hU⟩ : ∃ U, bits .or .u64 (IntKind.u64.wrap (hi * 2 ^ s)) (lo / 2 ^ (64 - s)) = U := ⟨_, rfl⟩
  obtain ⟨y1, hy1⟩ : ∃ z, Y / 4294967296 = z := ⟨_, rfl⟩
  obtain ⟨d1, hd1⟩ : ∃ z, V / 4294967296 = z := ⟨_, rfl⟩
  obtain ⟨y0, hy0⟩ : ∃ z, bits .and .u64 Y 4294967295 = z := ⟨_, rfl⟩
  obtain ⟨d0, hd0⟩ : ∃ z, bits .and .u64 V 4294967295 = z := ⟨_, rfl⟩
  have hno := dv_norm (by omega) hy HS.out
  have hYe : Y = y * 2 ^ s := by rw [← hY, IntKind.wrap_u64, Int.emod_eq_of_lt (by omega) hno.1]
  have hdv := dividend (s := s) (by omega) (show 0 ≤ hi by omega) h1 hl hno.1
  have hUe : U = shlW hi s + shrW lo (64 - s) := by rw [← hU]; exact or_shift_w ⟨by omega, by omega⟩ hl (by omega)
  have hVe : V = lo * 2 ^ s % 18446744073709551616 := by rw [← hV, IntKind.wrap_u64]
  rw [← hUe, ← hYe, ← hVe] at hdv
  rw [← hYe] at hno
  have bV : 0 ≤ V ∧ V < 18446744073709551616 := by rw [hVe]; omega
  have hy0e : y0 = Y % 4294967296 := by rw [← hy0]; exact bits_mask32 ⟨by omega, by omega⟩
  have hd0e : d0 = V % 4294967296 := by rw [← hd0]; exact bits_mask32 bV
  have HD : Dv Y y1 y0 := ⟨by omega, by omega, by omega, by omega, by omega⟩
  have bY : Y < 18446744073709551616 := hno.1
  have bU : 0 ≤ U ∧ U < Y := hdv.2
  have bd1 : 0 ≤ d1 ∧ d1 < 4294967296 := by omega
  have bd0 : 0 ≤ d0 ∧ d0 < 4294967296 := by omega
  have HYe := Lib.hid hYe
  have HN := Lib.hid hdv.1
  have HVd := Lib.hid (show V = d1 * 4294967296 + d0 by omega)
  have hY0 : 0 < Y := by omega
  clear hno hYe hdv hUe hVe hy0e hd0e bV
  have G0 := gs_start HD bU.1 bU.2 bd1.1 bd1.2
  obtain ⟨q, hq⟩ : ∃ q, U / y1 = q := ⟨_, rfl⟩
  rw [hq] at G0
  have g1 := gs_small HD G0
  have by1 := HD.h1
  have by2 := HD.h2
  have HG0 := Lib.hid G0
  have HDD := Lib.hid HD
  clear HD G0
  go_enter Tryz.func149, Tryz.ntmps149
  go_wp2_with fail
  (with_reducible refine LZ.out.mono ?_); rintro e w' ⟨rfl, rfl⟩
  go_upto_block 0 with fail
  rw [hq]
  obtain ⟨Q1, hQ1⟩ : ∃ z, z = (U * 4294967296 + d1) / Y := ⟨_, rfl⟩
  obtain ⟨R1, hR1⟩ : ∃ z, z = (U * 4294967296 + d1) % Y := ⟨_, rfl⟩
  obtain ⟨Q0, hQ0⟩ : ∃ z, z = (R1 * 4294967296 + d0) / Y := ⟨_, rfl⟩
  obtain ⟨R0, hR0⟩ : ∃ z, z = (R1 * 4294967296 + d0) % Y := ⟨_, rfl⟩
  have w1 := wrap_rem hY0 bY hQ1
  have w0 := wrap_rem hY0 bY hQ0
  rw [← hR1] at w1
  rw [← hR0] at w0
  have bR1 : 0 ≤ R1 ∧ R1 < Y := by rw [hR1]; exact ⟨Int.emod_nonneg _ (by omega), Int.emod_lt_of_pos _ hY0⟩
  have bQ1 := dig_lt HDD.out bU.1 bU.2 bd1.1 bd1.2
  have bQ0 := dig_lt HDD.out bR1.1 bR1.2 bd0.1 bd0.2
  rw [← hQ1] at bQ1
  rw [← hQ0] at bQ0
  have bR0 : 0 ≤ R0 ∧ R0 < Y := by rw [hR0]; exact ⟨Int.emod_nonneg _ (by omega), Int.emod_lt_of_pos _ hY0⟩
  have HJ := Lib.hid (div_join (two_pow_pos s) (show 0 < y by omega) HYe.out HN.out HVd.out hQ1 hR1 hQ0 hR0)
  have HQ1 := Lib.hid hQ1
  have HQ0 := Lib.hid hQ0
  have G1 := gs_start HDD.out bR1.1 bR1.2 bd0.1 bd0.2
  obtain ⟨q2, hq2⟩ : ∃ q, R1 / y1 = q := ⟨_, rfl⟩
  rw [hq2] at G1
  have g2 := gs_small HDD.out G1
  have HG1 := Lib.hid G1
  clear hQ1 hR1 hQ0 hR0 G1
  go_cut [15] (fun t15 w' => t15 = .int .u64 Q1 ∧ w = w')
  case first =>
    go_wp2_with fail
    go_loop [15, 16] (fun ta tb => ∃ q r : Int, ta = .int .u64 q ∧ tb = .int .u64 r ∧ Hid (Gs Y y1 y0 U d1 q r) ∧ 0 ≤ q ∧ q ≤ 4294967297 ∧ 0 ≤ r ∧ r < 4294967296) (fun ta _ => (intOf ta).toNat)
    case atStart => exact ⟨_, _, rfl, rfl, HG0.out, by have := HG0.out.q0; omega, by have := HG0.out.qb; omega, by have := HG0.out.r0; omega, by have := HG0.out.rb; omega⟩
    case round =>
      obtain ⟨q, r, rfl, rfl, hg, q0, q1, r0, r1⟩ := hrel
      have gs := gs_small HDD.out hg.out
      by_cases ht : 4294967296 ≤ q ∨ 4294967296 * r + d1 < q * y0
      · have hq1 : 1 ≤ q := by
          have := gs_less HDD.out hg.out bU.1 bU.2 bd1.1 bd1.2 ht
          have := (dig_lt HDD.out bU.1 bU.2 bd1.1 bd1.2).1
          omega
        by_cases hr : r + y1 < 4294967296
        · have hn : Hid (Gs Y y1 y0 U d1 (q - 1) (r + y1)) := gs_next HDD.out hg.out bU.1 bU.2 bd1.1 bd1.2 ht hr
          have HT := Lib.hid ht
          clear ht hg
          by_cases hqb : 4294967296 ≤ q
          · go_wp2_with fail
            go_round
            case rel => exact ⟨_, _, rfl, rfl, hn, by omega, by omega, by omega, hr⟩
            case measure => simp [intOf]; omega
          · have ht2 : 4294967296 * r + d1 < q * y0 := by have := HT.out; omega
            go_wp2_with fail
            go_round
            case rel => exact ⟨_, _, rfl, rfl, hn, by omega, by omega, by omega, hr⟩
            case measure => simp [intOf]; omega
        · have hn := Lib.hid (gs_break HDD.out hg.out bU.1 bU.2 bd1.1 bd1.2 ht (by omega))
          have HT := Lib.hid ht
          have hr' : 4294967296 ≤ r + y1 := by omega
          clear ht hg hr
          by_cases hqb : 4294967296 ≤ q
          · go_wp2_with fail
            go_meet
            exact ⟨by rw [hn.out]; exact congrArg _ HQ1.out.symm, rfl⟩
          · have ht2 : 4294967296 * r + d1 < q * y0 := by have := HT.out; omega
            go_wp2_with fail
            go_meet
            exact ⟨by rw [hn.out]; exact congrArg _ HQ1.out.symm, rfl⟩
      · have hn := Lib.hid (gs_stop HDD.out hg.out (by omega))
        have hqb : q < 4294967296 := by omega
        have ht2 : q * y0 ≤ 4294967296 * r + d1 := by omega
        clear ht hg
        go_wp2_with fail
        go_meet
        exact ⟨by rw [hn.out]; exact congrArg _ HQ1.out.symm, rfl⟩
  case rest =>
    obtain ⟨rfl, rfl⟩ := hcut
    go_upto_block 2 with fail
    rw [hq2]
    go_cut [18] (fun t18 w' => t18 = .int .u64 Q0 ∧ w = w')
    case first =>
      go_wp2_with fail
      go_loop [18, 16] (fun ta tb => ∃ q r : Int, ta = .int .u64 q ∧ tb = .int .u64 r ∧ Hid (Gs Y y1 y0 R1 d0 q r) ∧ 0 ≤ q ∧ q ≤ 4294967297 ∧ 0 ≤ r ∧ r < 4294967296) (fun ta _ => (intOf ta).toNat)
      case atStart => exact ⟨_, _, rfl, rfl, HG1.out, by have := HG1.out.q0; omega, by have := HG1.out.qb; omega, by have := HG1.out.r0; omega, by have := HG1.out.rb; omega⟩
      case round =>
        obtain ⟨q, r, rfl, rfl, hg, q0, q1, r0, r1⟩ := hrel
        have gs := gs_small HDD.out hg.out
        by_cases ht : 4294967296 ≤ q ∨ 4294967296 * r + d0 < q * y0
        · have hq1 : 1 ≤ q := by
            have := gs_less HDD.out hg.out bR1.1 bR1.2 bd0.1 bd0.2 ht
            have := (dig_lt HDD.out bR1.1 bR1.2 bd0.1 bd0.2).1
            omega
          by_cases hr : r + y1 < 4294967296
          · have hn : Hid (Gs Y y1 y0 R1 d0 (q - 1) (r + y1)) := gs_next HDD.out hg.out bR1.1 bR1.2 bd0.1 bd0.2 ht hr
            have HT := Lib.hid ht
            clear ht hg
            by_cases hqb : 4294967296 ≤ q
            · go_wp2_with fail
              go_round
              case rel => exact ⟨_, _, rfl, rfl, hn, by omega, by omega, by omega, hr⟩
              case measure => simp [intOf]; omega
            · have ht2 : 4294967296 * r + d0 < q * y0 := by have := HT.out; omega
              go_wp2_with fail
              go_round
              case rel => exact ⟨_, _, rfl, rfl, hn, by omega, by omega, by omega, hr⟩
              case measure => simp [intOf]; omega
          · have hn := Lib.hid (gs_break HDD.out hg.out bR1.1 bR1.2 bd0.1 bd0.2 ht (by omega))
            have HT := Lib.hid ht
            have hr' : 4294967296 ≤ r + y1 := by omega
            clear ht hg hr
            by_cases hqb : 4294967296 ≤ q
            · go_wp2_with fail
              go_meet
              exact ⟨by rw [hn.out]; exact congrArg _ HQ0.out.symm, rfl⟩
            · have ht2 : 4294967296 * r + d0 < q * y0 := by have := HT.out; omega
              go_wp2_with fail
              go_meet
              exact ⟨by rw [hn.out]; exact congrArg _ HQ0.out.symm, rfl⟩
        · have hn := Lib.hid (gs_stop HDD.out hg.out (by omega))
          have hqb : q < 4294967296 := by omega
          have ht2 : q * y0 ≤ 4294967296 * r + d0 := by omega
          clear ht hg
          go_wp2_with fail
          go_meet
          exact ⟨by rw [hn.out]; exact congrArg _ HQ0.out.symm, rfl⟩
    case rest =>
      obtain ⟨rfl, rfl⟩ := hcut
      go_wp2_with fail
      go_ret2
      exact ⟨by unfold quo2 rem2; rw [← HJ.out.1, ← HJ.out.2]; rfl, rfl⟩

set_option maxRecDepth 100000 in
set_option maxHeartbeats 1000000 in
theorem div64_zero (lo y : Int) (w : World) (h1 : 0 < y) (hy : y < 18446744073709551616) (hl : 0 ≤ lo ∧ lo < 18446744073709551616) :
    Calls Tryz.prog 149 #[.int .u64 0, .int .u64 lo, .int .u64 y] w (fun e w' => e = .returned (.tuple #[.int .u64 (quo2 0 lo y), .int .u64 (rem2 0 lo y)]) ∧ ∃ n, w' = w.drewN n) := by
  have hq : lo / y < 18446744073709551616 := by have := Int.ediv_le_self y hl.1; omega
  go_enter Tryz.func149, Tryz.ntmps149
  go_wp2_with fail
  go_quiet (fail)
  go_wp2_with fail
  go_ret2
  exact ⟨by unfold quo2 rem2; rw [Int.zero_mul, Int.zero_add]; rfl, _, rfl⟩
theorem div64 (hi lo y : Int) (w : World) (h0 : 0 ≤ hi) (h1 : hi < y) (hy : y < 18446744073709551616) (hl : 0 ≤ lo ∧ lo < 18446744073709551616) :
    Calls Tryz.prog 149 #[.int .u64 hi, .int .u64 lo, .int .u64 y] w (fun e w' => e = .returned (.tuple #[.int .u64 (quo2 hi lo y), .int .u64 (rem2 hi lo y)]) ∧ ∃ n, w' = w.drewN n) := by
  by_cases h : hi = 0
  · subst h
    exact div64_zero lo y w h1 hy hl
  · refine (div64_pos hi lo y w (by omega) h1 hy hl).mono ?_
    rintro e w' ⟨rfl, rfl⟩
    exact ⟨rfl, 0, rfl⟩
theorem quo2_wf {hi lo y : Int} (h0 : 0 ≤ hi) (h1 : hi < y) (hl : 0 ≤ lo ∧ lo < 18446744073709551616) : 0 ≤ quo2 hi lo y ∧ quo2 hi lo y < 18446744073709551616 := by
  unfold quo2
  have hN : 0 ≤ hi * 18446744073709551616 + lo := by omega
  exact ⟨Int.ediv_nonneg hN (by omega), Int.ediv_lt_of_lt_mul (by omega) (by omega)⟩
theorem rem2_wf {hi lo y : Int} (h1 : 0 < y) : 0 ≤ rem2 hi lo y ∧ rem2 hi lo y < y := by
  unfold rem2
  exact ⟨Int.emod_nonneg _ (by omega), Int.emod_lt_of_pos _ h1⟩
theorem quo2_eq (hi lo y : Int) : quo2 hi lo y * y + rem2 hi lo y = hi * 18446744073709551616 + lo := by
  unfold quo2 rem2
  rw [Int.mul_comm]
  exact Int.mul_ediv_add_emod _ _
#print axioms div64
end Go.Proofs.YtaepgdkpaffaaaaGreatDoor

/- nat.word; caliperref02: Trim, Size, word, small, Of, Len. -/
namespace Go.Proofs.YtaepgdkpaffaaaaGreatDoor
open Go.RowKit Go.Proofs.YtaepgdkpaffaaaaGreatDoorW.PrintWords Cal

theorem word_step {xs : List Int} {k : Nat} {d q r : Int} {Q : Nat} (hk : k < xs.length) (hx : 0 ≤ xs.getD k 0) (hd : 0 < d) (hr : 0 ≤ r)
    (hQ : Q = val (xs.drop (k + 1)) / d.toNat) (hR : r.toNat = val (xs.drop (k + 1)) % d.toNat) (hq : q = quo2 r (xs.getD k 0) d) :
    q.toNat + B * Q = val (xs.drop k) / d.toNat ∧ (rem2 r (xs.getD k 0) d).toNat = val (xs.drop k) % d.toNat := by
  rw [val_drop_getD xs k hk]
  obtain ⟨d, rfl⟩ := Int.eq_ofNat_of_zero_le (show 0 ≤ d by omega)
  obtain ⟨r, rfl⟩ := Int.eq_ofNat_of_zero_le hr
  obtain ⟨x, hx'⟩ := Int.eq_ofNat_of_zero_le hx
  rw [hx'] at hq ⊢
  simp only [Int.toNat_natCast] at *
  generalize val (xs.drop (k + 1)) = V at *
  have e0 := Nat.div_add_mod V d
  rw [← hQ, ← hR] at e0
  have e1 : x + B * V = (r * B + x) + d * (B * Q) := by rw [← e0]; grind
  have e2 : quo2 (r : Int) (x : Int) (d : Int) = (((r * B + x) / d : Nat) : Int) := by unfold quo2; simp [B]
  have e3 : rem2 (r : Int) (x : Int) (d : Int) = (((r * B + x) % d : Nat) : Int) := by unfold rem2; simp [B]
  have hd' : 0 < d := by omega
  constructor
  · rw [hq, e2, Int.toNat_natCast, e1, Nat.add_mul_div_left _ _ hd']
  · rw [e3, Int.toNat_natCast, e1, Nat.add_mul_mod_self_left]

theorem Own.drewN {w : World} {base : Nat} {v : Value} {xs : List Int} (h : Own w base v xs) (n : Nat) : Own (w.drewN n) base v xs := h.ext (pw_below_drewN (Below.refl _ _) n)

set_option maxHeartbeats 1000000 in
theorem word_raw (xs : List Int) (A : Option Addr) (n c : Nat) (d : Int) (w : World) (R1 : ReadsInt w .u64 A n xs) (W1 : Wf xs) (hn : n ≤ 1000000) (hd0 : 0 < d) (hd : d < 18446744073709551616) :
    Calls Tryz.prog 109 #[.slice A n c, .int .u64 d] w (fun e w' => ∃ v r, e = .returned (.tuple #[v, .int .u64 r]) ∧ NT w' v (val xs / d.toNat) ∧ r.toNat = val xs % d.toNat ∧ 0 ≤ r ∧ Below w.heap.size w w') := by
  have l1 : Hid (xs.length = n) := R1.1
  have HR1 := Lib.hid R1
  have HW1 := Lib.hid W1
  clear R1 W1
  have kmk := make22 n (n : Int) rfl (by omega)
  go_enter Tryz.func109, Tryz.ntmps109
  go_wp2_with fail
  go_loopw [7, 8] (fun t7 t8 wr => ∃ (k : Nat) (r : Int) (out : List Int), k ≤ n ∧ t8 = .int .i64 ((k : Int) - 1) ∧ t7 = .int .u64 r ∧ 0 ≤ r ∧ r < d ∧ Own wr w.heap.size (.slice (some ⟨w.heap.size, 0, none⟩) n n) out ∧
      Hid (out.length = n) ∧ Below w.heap.size w wr ∧ Hid (val (out.drop k) = val (xs.drop k) / d.toNat) ∧ Hid (r.toNat = val (xs.drop k) % d.toNat)) (fun _ t8 _ => (intOf t8 + 1).toNat)
  case atStart => exact ⟨n, 0, _, Nat.le_refl _, rfl, rfl, by omega, by omega, own_make w n (by omega) w.heap.size (Nat.le_refl _), List.length_replicate, (Below.refl _ _).alloc (Nat.le_refl _) _, by
      show _ = _
      rw [List.drop_eq_nil_of_le (by simp), List.drop_eq_nil_of_le (by rw [l1.out]; omega)]; simp, by
      show _ = _
      rw [List.drop_eq_nil_of_le (by rw [l1.out]; omega)]; simp⟩
  case round =>
    obtain ⟨k, r, out, hk, rfl, rfl, r0, r1, ho, hlen, hb, hq, hm⟩ := hrel
    rcases Nat.eq_zero_or_pos k with rfl | hk0
    case inr =>
      obtain ⟨k, rfl⟩ : ∃ j, k = j + 1 := ⟨k - 1, by omega⟩
      obtain ⟨ad, rfl, hc⟩ := (HR1.out.below hb).2.2 (by omega)
      have hc0 := hc k (by omega)
      clear hc
      have rng := HW1.out.getD k
      obtain ⟨hf1, hf2⟩ := ho.at_ k (by have := hlen.out; omega)
      have hst := word_step (q := quo2 r (xs.getD k 0) d) (by have := l1.out; omega) rng.1 hd0 r0 hq.out hm.out rfl
      obtain ⟨p, hp⟩ : ∃ p, p = xs.getD k 0 := ⟨_, rfl⟩
      rw [← hp] at hc0 rng hst
      have wq := quo2_wf r0 r1 rng
      have wr_ := rem2_wf (hi := r) (lo := p) hd0
      have C := Lib.hid (fun W => div64 r p d W r0 r1 hd rng)
      have hnew := ho.set_ k wq
      have hv : Hid (val ((out.set k (quo2 r p d)).drop k) = val (xs.drop k) / d.toNat) := by
        show _ = _
        rw [val_drop_getD _ _ (by rw [List.length_set]; have := hlen.out; omega), Cal.getD_set_eq (by have := hlen.out; omega), List.drop_set_of_lt (by omega), ← hst.1]
      have hrm := Lib.hid hst.2
      obtain ⟨q, hqq⟩ : ∃ q, q = quo2 r p d := ⟨_, rfl⟩
      obtain ⟨s, hss⟩ : ∃ s, s = rem2 r p d := ⟨_, rfl⟩
      rw [← hqq] at C hnew hv wq
      rw [← hss] at C wr_ hrm
      have hN := Lib.hid hnew
      clear hp hst hq hm hqq hss hnew
      go_wp2_with fail
      (with_reducible refine (C.out _).mono ?_); rintro e w' ⟨rfl, nq, rfl⟩
      go_wp2_with fail
      go_roundw
      case rel => exact ⟨k, s, _, by omega, by go_num, rfl, wr_.1, wr_.2, hN.out.drewN _, by show _ = _; rw [List.length_set]; exact hlen.out, pw_below_drewN (below_set hb (Nat.le_refl _) _) _, hv, hrm⟩
      case measure => simp [intOf]
    have hv : val out = val xs / d.toNat := hq.out
    obtain ⟨hcap, hwl, hns, hnt⟩ := ho.end_ hlen.out hn hv
    have C3 := Lib.hid (size_c _ _ _ hns)
    have HN := Lib.hid hnt
    have HM := Lib.hid hm.out
    clear hns hnt hv hq hm ho
    obtain ⟨z, hz⟩ : ∃ z, z = wl (val xs / d.toNat) := ⟨_, rfl⟩
    rw [← hz] at C3 HN hwl
    clear hz
    go_wp2_with fail
    (with_reducible refine C3.out.mono ?_); rintro e w' ⟨rfl, rfl⟩
    go_wp2_with fail
    go_ret2
    exact ⟨_, _, rfl, HN.out, HM.out, r0, hb⟩
theorem word_c (v : Value) (x : Nat) (d : Int) (w : World) (h : NS w v x) (hd0 : 0 < d) (hd : d < 18446744073709551616) :
    Calls Tryz.prog 109 #[v, .int .u64 d] w (fun e w' => ∃ v r, e = .returned (.tuple #[v, .int .u64 r]) ∧ NT w' v (x / d.toNat) ∧ r.toNat = x % d.toNat ∧ 0 ≤ r ∧ Below w.heap.size w w') := by
  obtain ⟨A, n, c, xs, rfl, h1, h2, h3, h4, rfl⟩ := h.out
  exact word_raw xs A n c d w h3 h4 h2 hd0 hd
#print axioms word_c

/-! ### caliperref02 -/
set_option maxHeartbeats 400000 in
theorem rsize_any (xs : List Int) (A : Option Addr) (n c : Nat) (w : World) (h : ReadsInt w .u64 A n xs) : Calls Tryz.prog 96 #[.slice A n c] w (fun e w' => e = .returned (.int .i64 (szTo xs n)) ∧ w' = w) := by
  have hn := h.2.1
  go_enter Tryz.func96, Tryz.ntmps96
  go_wp2
  go_loop [3] (fun t => ∃ k : Nat, k ≤ n ∧ t = .int .i64 k ∧ Hid (szTo xs k = szTo xs n)) (fun t => (intOf t).toNat)
  case atStart => exact ⟨n, Nat.le_refl _, rfl, rfl⟩
  case round =>
    obtain ⟨k, hk, rfl, hs⟩ := hrel
    rcases Nat.eq_zero_or_pos k with rfl | hk0
    case inr =>
      obtain ⟨k, rfl⟩ : ∃ m, k = m + 1 := ⟨k - 1, by omega⟩
      obtain ⟨ad, rfl, hc⟩ := h.2.2 (by omega)
      have hc0 := hc k (by omega)
      clear hc
      obtain ⟨x, hx⟩ : ∃ x, x = xs.getD k 0 := ⟨_, rfl⟩
      rw [← hx] at hc0
      have hs1 := hs.out
      simp only [szTo] at hs1
      rw [← hx] at hs1
      clear hx hs
      by_cases hz : x = 0
      · subst hz
        rw [if_pos rfl] at hs1
        have hs' : Hid (szTo xs k = szTo xs n) := hs1
        have H := Lib.hid h
        clear hs1 h
        go_wp2
        go_round
        case rel => exact ⟨k, by omega, by go_num, hs'⟩
        case measure => simp [intOf]
      · rw [if_neg hz] at hs1
        have hs : Hid (k + 1 = szTo xs n) := hs1
        have hz' : (x == 0) = false := by simpa using hz
        have H := Lib.hid h
        clear hs1 hz h
        (go_wp2; go_ret; exact ⟨ret_int (by have := hs.out; omega), rfl⟩)
    case inl =>
      have hs' : Hid (0 = szTo xs n) := by show _ = _; have := hs.out; simpa [szTo] using this
      clear hs
      have hs := hs'
      clear hs'
      have H := Lib.hid h
      clear h
      (go_wp2; go_ret; exact ⟨ret_int (by have := hs.out; omega), rfl⟩)
theorem rsize_c (v : Value) (x : Nat) (w : World) (h : NS w v x) : Calls Tryz.prog 96 #[v] w (fun e w' => e = .returned (.int .i64 (wl x)) ∧ w' = w) := by
  obtain ⟨A, n, c, xs, rfl, _, _, h3, h4, rfl⟩ := h.out
  have hl : xs.length = n := h3.1
  subst hl
  refine (rsize_any xs A _ c w h3).mono ?_
  rintro e w' ⟨rfl, rfl⟩
  exact ⟨ret_int (by rw [szTo_wl h4]), rfl⟩
theorem trim_eq {xs : List Int} {A : Option Addr} {n : Nat} {w : World} (h : ReadsInt w .u64 A n xs) (W1 : Wf xs) : xs.take (szTo xs n) = limbs (val xs) := by
  have hl : xs.length = n := h.1
  subst hl
  exact limbs_take W1
set_option maxHeartbeats 400000 in
theorem rtrim_any (xs : List Int) (A : Option Addr) (n c : Nat) (w : World) (h : ReadsInt w .u64 A n xs) (W1 : Wf xs) (hnc : n ≤ c) (hn9 : n ≤ 4000000) : Calls Tryz.prog 83 #[.slice A n c] w (fun e w' => ∃ v, e = .returned v ∧ w'.ownsRow w.heap.size 22 1 v (limbs (val xs)).length (nums .u64 (limbs (val xs))) ∧ Below w.heap.size w w') := by
  have hn := h.2.1
  go_enter Tryz.func83, Tryz.ntmps83
  go_wp2
  go_loop [3] (fun t => ∃ k : Nat, k ≤ n ∧ t = .int .i64 k ∧ Hid (szTo xs k = szTo xs n)) (fun t => (intOf t).toNat)
  case atStart => exact ⟨n, Nat.le_refl _, rfl, rfl⟩
  case round =>
    obtain ⟨k, hk, rfl, hs⟩ := hrel
    rcases Nat.eq_zero_or_pos k with rfl | hk0
    case inr =>
      obtain ⟨k, rfl⟩ : ∃ m, k = m + 1 := ⟨k - 1, by omega⟩
      obtain ⟨ad, rfl, hc⟩ := h.2.2 (by omega)
      have hc0 := hc k (by omega)
      clear hc
      obtain ⟨x, hx⟩ : ∃ x, x = xs.getD k 0 := ⟨_, rfl⟩
      rw [← hx] at hc0
      have hs1 := hs.out
      simp only [szTo] at hs1
      rw [← hx] at hs1
      clear hx hs
      by_cases hz : x = 0
      · subst hz
        rw [if_pos rfl] at hs1
        have hs' : Hid (szTo xs k = szTo xs n) := hs1
        have H := Lib.hid h
        clear hs1 h
        go_wp2
        go_round
        case rel => exact ⟨k, by omega, by go_num, hs'⟩
        case measure => simp [intOf]
      · rw [if_neg hz] at hs1
        have hs : Hid (k + 1 = szTo xs n) := hs1
        have hz' : (x == 0) = false := by simpa using hz
        have H := Lib.hid h
        clear hs1 hz h
        (have hcut := fun (k : Nat) (hk : k ≤ n) => H.out.take_ k hk; have hb : Below w.heap.size w (w.alloc (.cells #[] 22)) := (Below.refl _ _).alloc (Nat.le_refl _) _; have ho := own_lit w w.heap.size 22 .u64 [] (Nat.le_refl _) (by simp); have HC := Lib.hid hcut; clear hcut; go_wp2_with (at_builtin; go_must (refine print_append_row (w0 := w) w.heap.size rfl _ _ 50 22 .u64 8 rfl Tryz.underlying50 info22 (by omega) _ [] (xs.take _) _ _ _ rfl rfl ho ((HC.out _ (by omega)).below hb) hb hb.size (by simp only [List.length_nil]; omega) ?_); intro v1 w1 ho1 hb1 _ _); go_ret; exact ⟨v1, rfl, by rw [← trim_eq H.out W1, ← hs.out]; simpa using ho1, hb1⟩)
    case inl =>
      have hs' : Hid (0 = szTo xs n) := by show _ = _; have := hs.out; simpa [szTo] using this
      clear hs
      have hs := hs'
      clear hs'
      have H := Lib.hid h
      clear h
      (have hcut := fun (k : Nat) (hk : k ≤ n) => H.out.take_ k hk; have hb : Below w.heap.size w (w.alloc (.cells #[] 22)) := (Below.refl _ _).alloc (Nat.le_refl _) _; have ho := own_lit w w.heap.size 22 .u64 [] (Nat.le_refl _) (by simp); have HC := Lib.hid hcut; clear hcut; go_wp2_with (at_builtin; go_must (refine print_append_row (w0 := w) w.heap.size rfl _ _ 50 22 .u64 8 rfl Tryz.underlying50 info22 (by omega) _ [] (xs.take _) _ _ _ rfl rfl ho ((HC.out _ (by omega)).below hb) hb hb.size (by simp only [List.length_nil]; omega) ?_); intro v1 w1 ho1 hb1 _ _); go_ret; exact ⟨v1, rfl, by rw [← trim_eq H.out W1, ← hs.out]; simpa using ho1, hb1⟩)
theorem rtrim_c (v : Value) (x : Nat) (w : World) (h : NS w v x) : Calls Tryz.prog 83 #[v] w (fun e w' => ∃ v', e = .returned v' ∧ NT w' v' x ∧ Below w.heap.size w w') := by
  obtain ⟨A, n, c, xs, rfl, h1, h2, h3, h4, rfl⟩ := h.out
  have hl : xs.length = n := h3.1
  have hw := wl_val_le h4
  refine (rtrim_any xs A n c w h3 h4 h1 (by omega)).mono ?_
  rintro e w' ⟨v', rfl, ho, hb⟩
  exact ⟨v', rfl, (⟨ho, limbs_wf _⟩ : Own w' w.heap.size v' (limbs (val xs))).nt (by omega), hb⟩
#print axioms rtrim_c
end Go.Proofs.YtaepgdkpaffaaaaGreatDoor

/- caliperref02: word, Of, Len, small. -/
namespace Go.Proofs.YtaepgdkpaffaaaaGreatDoor
open Go.RowKit Go.Proofs.YtaepgdkpaffaaaaGreatDoorW.PrintWords Cal

/-- Word i of a number. -/
def wd (x i : Nat) : Int := ((x / B ^ i % B : Nat) : Int)
theorem wd_wf (x i : Nat) : 0 ≤ wd x i ∧ wd x i < 18446744073709551616 := by
  unfold wd
  have := Nat.mod_lt (x / B ^ i) B_pos
  have hB : B = 18446744073709551616 := rfl
  omega
theorem wd_nat (x i : Nat) : (wd x i).toNat = x / B ^ i % B := by unfold wd; exact Int.toNat_natCast _
theorem wd_raw {xs : List Int} (h : Wf xs) (i : Nat) : wd (val xs) i = xs.getD i 0 := by
  unfold wd
  rw [word_eq xs h i, Int.toNat_of_nonneg (h.getD i).1]
theorem wd_beyond {x i : Nat} (h : wl x ≤ i) : wd x i = 0 := by
  unfold wd
  rw [Nat.div_eq_of_lt (lt_of_wl h)]; simp
theorem wd_limbs (x i : Nat) : (limbs x).getD i 0 = wd x i := limbs_getD' x i

theorem rword_c (v : Value) (x i : Nat) (w : World) (h : NS w v x) : Calls Tryz.prog 87 #[v, .int .i64 i] w (fun e w' => e = .returned (.int .u64 (wd x i)) ∧ w' = w) := by
  obtain ⟨A, n, c, xs, rfl, h1, h2, h3, h4, rfl⟩ := h.out
  have HE := Lib.hid (wd_raw h4 i)
  have HR := Lib.hid h3
  clear h h3
  by_cases hi : i < n
  · obtain ⟨ad, rfl, hc⟩ := HR.out.2.2 (by omega)
    have hc0 := hc i hi
    rw [← HE.out] at hc0
    clear hc
    generalize wd (val xs) i = z at *
    go_enter Tryz.func87, Tryz.ntmps87
    go_wp2_with fail
    go_ret
    exact ⟨rfl, rfl⟩
  · have h0 : wd (val xs) i = 0 := by rw [HE.out, List.getD_eq_getElem?_getD, List.getElem?_eq_none (by have := HR.out.1; omega)]; rfl
    rw [h0]
    clear h0 HE
    go_enter Tryz.func87, Tryz.ntmps87
    go_wp2_with fail
    go_ret
    exact ⟨rfl, rfl⟩
theorem rof_c (z : Int) (hz : 0 ≤ z ∧ z < 18446744073709551616) (w : World) : Calls Tryz.prog 150 #[.int .u64 z] w (fun e w' => ∃ v, e = .returned v ∧ NT w' v z.toNat ∧ Below w.heap.size w w') := by
  have hns := ns_lit w z hz
  have C := Lib.hid (rtrim_c _ _ _ hns)
  clear hns hz
  go_enter Tryz.func150, Tryz.ntmps150
  go_wp2_with fail
  (with_reducible refine C.out.mono ?_); rintro e w' ⟨v, rfl, hv, hb⟩
  go_wp2_with fail
  go_ret
  exact ⟨_, rfl, hv, btrans ((Below.refl _ _).alloc (Nat.le_refl _) _) hb⟩
set_option maxHeartbeats 1000000 in
theorem rlen_c (v : Value) (x : Nat) (w : World) (h : NS w v x) : Calls Tryz.prog 39 #[v] w (fun e w' => e = .returned (.int .i64 (bl x)) ∧ w' = w) := by
  obtain ⟨A, n0, c, rfl, a1, a2, a3, a4, a5, H1⟩ := h.shape
  clear h
  have R1 := Lib.hid a5
  clear a5
  by_cases hx : x = 0
  · subst hx
    have C1 := Lib.hid (rsize_c _ _ _ H1)
    rw [wl_zero] at C1
    clear H1 R1 a1 a2
    go_enter Tryz.func39, Tryz.ntmps39
    go_wp2_with fail
    (with_reducible refine C1.out.mono ?_); rintro e w' ⟨rfl, rfl⟩
    go_wp2_with fail
    go_ret
    exact ⟨rfl, rfl⟩
  · have hpos : 0 < wl x := by have := wl_eq_zero (x := x); omega
    have HB := Lib.hid (bl_words hx)
    obtain ⟨m, hm⟩ : ∃ m, m = wl x := ⟨_, rfl⟩
    rw [← hm] at a1 a2 R1 hpos HB
    have C1 := Lib.hid ((rsize_c _ _ _ H1).mono (fun e w' h => (⟨h.1.trans (ret_int (by rw [← hm])), h.2⟩ : e = .returned (.int .i64 (m : Int)) ∧ w' = w)))
    clear H1 hm
    obtain ⟨m, rfl⟩ : ∃ j, m = j + 1 := ⟨m - 1, by omega⟩
    obtain ⟨ad, rfl, hc⟩ := R1.out.2.2 (by omega)
    have hc0 := hc m (by omega)
    have r1 := (limbs_wf x).getD m
    rw [Nat.add_sub_cancel] at HB
    obtain ⟨p, hp⟩ : ∃ p, p = (limbs x).getD m 0 := ⟨_, rfl⟩
    rw [← hp] at hc0 r1 HB
    have hbp : bl p.toNat ≤ 64 := bl_le (by omega)
    have CL := Lib.hid (len64 p r1 w)
    obtain ⟨b, hb⟩ : ∃ b, b = bl p.toNat := ⟨_, rfl⟩
    rw [← hb] at CL HB hbp
    have hne : ((m : Int) + 1 == 0) = false := by rw [beq_eq_false_iff_ne]; omega
    clear hp hb hc R1
    go_enter Tryz.func39, Tryz.ntmps39
    go_wp2_with fail
    (with_reducible refine C1.out.mono ?_); rintro e w' ⟨rfl, rfl⟩
    go_wp2_with fail
    (with_reducible refine CL.out.mono ?_); rintro e w' ⟨rfl, rfl⟩
    go_wp2_with fail
    go_ret
    exact ⟨ret_int (by rw [HB.out]; omega), rfl⟩
set_option maxHeartbeats 1000000 in
theorem small_raw (xs : List Int) (A : Option Addr) (n c : Nat) (d : Int) (w : World) (R1 : ReadsInt w .u64 A n xs) (W1 : Wf xs) (hn : n ≤ 1000000) (hd0 : 0 < d) (hd : d < 18446744073709551616) :
    Calls Tryz.prog 86 #[.slice A n c, .int .u64 d] w (fun e w' => ∃ v u, e = .returned (.tuple #[v, u]) ∧ NT w' v (val xs / d.toNat) ∧ NT w' u (val xs % d.toNat) ∧ Below w.heap.size w w') := by
  have l1 : Hid (xs.length = n) := R1.1
  have HR1 := Lib.hid R1
  have HW1 := Lib.hid W1
  clear R1 W1
  have kmk := make22 n (n : Int) rfl (by omega)
  go_enter Tryz.func86, Tryz.ntmps86
  go_wp2_with fail
  go_loopw [7, 8] (fun t7 t8 wr => ∃ (k : Nat) (r : Int) (out : List Int), k ≤ n ∧ t8 = .int .i64 ((k : Int) - 1) ∧ t7 = .int .u64 r ∧ 0 ≤ r ∧ r < d ∧ Own wr w.heap.size (.slice (some ⟨w.heap.size, 0, none⟩) n n) out ∧
      Hid (out.length = n) ∧ Below w.heap.size w wr ∧ Hid (val (out.drop k) = val (xs.drop k) / d.toNat) ∧ Hid (r.toNat = val (xs.drop k) % d.toNat)) (fun _ t8 _ => (intOf t8 + 1).toNat)
  case atStart => exact ⟨n, 0, _, Nat.le_refl _, rfl, rfl, by omega, by omega, own_make w n (by omega) w.heap.size (Nat.le_refl _), List.length_replicate, (Below.refl _ _).alloc (Nat.le_refl _) _, by
      show _ = _
      rw [List.drop_eq_nil_of_le (by simp), List.drop_eq_nil_of_le (by rw [l1.out]; omega)]; simp, by
      show _ = _
      rw [List.drop_eq_nil_of_le (by rw [l1.out]; omega)]; simp⟩
  case round =>
    obtain ⟨k, r, out, hk, rfl, rfl, r0, r1, ho, hlen, hb, hq, hm⟩ := hrel
    rcases Nat.eq_zero_or_pos k with rfl | hk0
    case inr =>
      obtain ⟨k, rfl⟩ : ∃ j, k = j + 1 := ⟨k - 1, by omega⟩
      obtain ⟨ad, rfl, hc⟩ := (HR1.out.below hb).2.2 (by omega)
      have hc0 := hc k (by omega)
      clear hc
      have rng := HW1.out.getD k
      obtain ⟨hf1, hf2⟩ := ho.at_ k (by have := hlen.out; omega)
      have hst := word_step (q := quo2 r (xs.getD k 0) d) (by have := l1.out; omega) rng.1 hd0 r0 hq.out hm.out rfl
      obtain ⟨p, hp⟩ : ∃ p, p = xs.getD k 0 := ⟨_, rfl⟩
      rw [← hp] at hc0 rng hst
      have wq := quo2_wf r0 r1 rng
      have wr_ := rem2_wf (hi := r) (lo := p) hd0
      have C := Lib.hid (fun W => div64 r p d W r0 r1 hd rng)
      have hnew := ho.set_ k wq
      have hv : Hid (val ((out.set k (quo2 r p d)).drop k) = val (xs.drop k) / d.toNat) := by
        show _ = _
        rw [val_drop_getD _ _ (by rw [List.length_set]; have := hlen.out; omega), Cal.getD_set_eq (by have := hlen.out; omega), List.drop_set_of_lt (by omega), ← hst.1]
      have hrm := Lib.hid hst.2
      obtain ⟨q, hqq⟩ : ∃ q, q = quo2 r p d := ⟨_, rfl⟩
      obtain ⟨s, hss⟩ : ∃ s, s = rem2 r p d := ⟨_, rfl⟩
      rw [← hqq] at C hnew hv wq
      rw [← hss] at C wr_ hrm
      have hN := Lib.hid hnew
      clear hp hst hq hm hqq hss hnew
      go_wp2_with fail
      (with_reducible refine (C.out _).mono ?_); rintro e w' ⟨rfl, nq, rfl⟩
      go_wp2_with fail
      go_roundw
      case rel => exact ⟨k, s, _, by omega, by go_num, rfl, wr_.1, wr_.2, hN.out.drewN _, by show _ = _; rw [List.length_set]; exact hlen.out, pw_below_drewN (below_set hb (Nat.le_refl _) _) _, hv, hrm⟩
      case measure => simp [intOf]
    have hv : val out = val xs / d.toNat := hq.out
    obtain ⟨hcap, hwl, hns, hnt⟩ := ho.end_ hlen.out hn hv
    have C3 := Lib.hid (rtrim_c _ _ _ hns)
    have C4 := Lib.hid (fun W => rof_c r ⟨r0, by omega⟩ W)
    have HM := Lib.hid (show r.toNat = val xs % d.toNat from hm.out)
    clear hns hnt hv hq hm ho
    go_wp2_with fail
    (with_reducible refine C3.out.mono ?_); rintro e w1 ⟨v1, rfl, hv1, hb1⟩
    go_wp2_with fail
    (with_reducible refine (C4.out _).mono ?_); rintro e w2 ⟨v2, rfl, hv2, hb2⟩
    go_wp2_with fail
    go_ret2
    exact ⟨_, _, rfl, hv1.ext hb2, by rw [← HM.out]; exact hv2, btrans (btrans hb hb1) hb2⟩
theorem small_c (v : Value) (x : Nat) (d : Int) (w : World) (h : NS w v x) (hd0 : 0 < d) (hd : d < 18446744073709551616) :
    Calls Tryz.prog 86 #[v, .int .u64 d] w (fun e w' => ∃ v u, e = .returned (.tuple #[v, u]) ∧ NT w' v (x / d.toNat) ∧ NT w' u (x % d.toNat) ∧ Below w.heap.size w w') := by
  obtain ⟨A, n, c, xs, rfl, h1, h2, h3, h4, rfl⟩ := h.out
  exact small_raw xs A n c d w h3 h4 h2 hd0 hd
#print axioms small_c
end Go.Proofs.YtaepgdkpaffaaaaGreatDoor

/- Where a quotient's words lie: nat.word and ref02.small once more; a number that is read while a row grows. -/
namespace Go.Proofs.YtaepgdkpaffaaaaGreatDoor
open Go.RowKit Go.Proofs.YtaepgdkpaffaaaaGreatDoorW.PrintWords Cal

/-- Two slices in blocks of their own. -/
def Dis (u v : Value) : Prop := ∀ k, u.ownBlock = some k → v.ownBlock ≠ some k
theorem add_block (ad : Addr) (j : Nat) : (ad.add j).block = ad.block := by unfold Addr.add; split <;> rfl
theorem NT.grown {w w1 : World} {v u : Value} {x : Nat} (h : NT w v x) (hg : w.grownBy w1 u.ownBlock) (hd : 0 < wl x → Dis v u) : NT w1 v x := by
  obtain ⟨A, c, rfl, h1, h2, h3⟩ := h.out
  refine ⟨⟨A, c, rfl, h1, h2, h3.1, h3.2.1, fun hp => ?_⟩⟩
  obtain ⟨ad, rfl, hc⟩ := h3.2.2 hp
  refine ⟨ad, rfl, fun j hj => hg.cell (hc j hj) ?_⟩
  rw [add_block]
  intro he
  exact hd hp ad.block rfl he.symm
theorem NT.lt {w : World} {v : Value} {x k : Nat} (h : NT w v x) (hx : 0 < wl x) (hk : v.ownBlock = some k) : k < w.heap.size := by
  obtain ⟨A, c, rfl, h1, h2, h3⟩ := h.out
  obtain ⟨ad, rfl, hc⟩ := h3.2.2 hx
  have h0 := hc 0 hx
  have e : ad.add 0 = ad := rfl
  rw [e] at h0
  injection hk with hk
  subst hk
  rcases Nat.lt_or_ge ad.block w.heap.size with h9 | h9
  · exact h9
  · unfold World.cell? at h0
    rw [Array.getElem?_eq_none h9] at h0
    cases h0
/-- What is made is apart from what was there. -/
theorem Dis.new {u v : Value} {B : Nat} (hu : ∀ k, u.ownBlock = some k → B ≤ k) (hv : ∀ k, v.ownBlock = some k → k < B) : Dis u v := fun k h1 h2 => by
  have := hu k h1
  have := hv k h2
  omega
theorem Dis.moved {u v v1 : Value} {B : Nat} (h : Dis u v) (hu : ∀ k, u.ownBlock = some k → k < B) (hm : v1.ownBlock = v.ownBlock ∨ ∃ b, v1.ownBlock = some b ∧ B ≤ b) : Dis u v1 := fun k h1 h2 => by
  rcases hm with hm | ⟨b, hm, hb⟩
  · exact h k h1 (hm ▸ h2)
  · rw [hm] at h2
    injection h2 with h2
    have := hu k h1
    omega
set_option maxHeartbeats 1000000 in
theorem word_new_raw (xs : List Int) (A : Option Addr) (n c : Nat) (d : Int) (w : World) (R1 : ReadsInt w .u64 A n xs) (W1 : Wf xs) (hn : n ≤ 1000000) (hd0 : 0 < d) (hd : d < 18446744073709551616) :
    Calls Tryz.prog 109 #[.slice A n c, .int .u64 d] w (fun e w' => ∃ v r, e = .returned (.tuple #[v, .int .u64 r]) ∧ NT w' v (val xs / d.toNat) ∧ r.toNat = val xs % d.toNat ∧ 0 ≤ r ∧ v.ownBlock = some w.heap.size ∧ Below w.heap.size w w') := by
  have l1 : Hid (xs.length = n) := R1.1
  have HR1 := Lib.hid R1
  have HW1 := Lib.hid W1
  clear R1 W1
  have kmk := make22 n (n : Int) rfl (by omega)
  go_enter Tryz.func109, Tryz.ntmps109
  go_wp2_with fail
  go_loopw [7, 8] (fun t7 t8 wr => ∃ (k : Nat) (r : Int) (out : List Int), k ≤ n ∧ t8 = .int .i64 ((k : Int) - 1) ∧ t7 = .int .u64 r ∧ 0 ≤ r ∧ r < d ∧ Own wr w.heap.size (.slice (some ⟨w.heap.size, 0, none⟩) n n) out ∧
      Hid (out.length = n) ∧ Below w.heap.size w wr ∧ Hid (val (out.drop k) = val (xs.drop k) / d.toNat) ∧ Hid (r.toNat = val (xs.drop k) % d.toNat)) (fun _ t8 _ => (intOf t8 + 1).toNat)
  case atStart => exact ⟨n, 0, _, Nat.le_refl _, rfl, rfl, by omega, by omega, own_make w n (by omega) w.heap.size (Nat.le_refl _), List.length_replicate, (Below.refl _ _).alloc (Nat.le_refl _) _, by
      show _ = _
      rw [List.drop_eq_nil_of_le (by simp), List.drop_eq_nil_of_le (by rw [l1.out]; omega)]; simp, by
      show _ = _
      rw [List.drop_eq_nil_of_le (by rw [l1.out]; omega)]; simp⟩
  case round =>
    obtain ⟨k, r, out, hk, rfl, rfl, r0, r1, ho, hlen, hb, hq, hm⟩ := hrel
    rcases Nat.eq_zero_or_pos k with rfl | hk0
    case inr =>
      obtain ⟨k, rfl⟩ : ∃ j, k = j + 1 := ⟨k - 1, by omega⟩
      obtain ⟨ad, rfl, hc⟩ := (HR1.out.below hb).2.2 (by omega)
      have hc0 := hc k (by omega)
      clear hc
      have rng := HW1.out.getD k
      obtain ⟨hf1, hf2⟩ := ho.at_ k (by have := hlen.out; omega)
      have hst := word_step (q := quo2 r (xs.getD k 0) d) (by have := l1.out; omega) rng.1 hd0 r0 hq.out hm.out rfl
      obtain ⟨p, hp⟩ : ∃ p, p = xs.getD k 0 := ⟨_, rfl⟩
      rw [← hp] at hc0 rng hst
      have wq := quo2_wf r0 r1 rng
      have wr_ := rem2_wf (hi := r) (lo := p) hd0
      have C := Lib.hid (fun W => div64 r p d W r0 r1 hd rng)
      have hnew := ho.set_ k wq
      have hv : Hid (val ((out.set k (quo2 r p d)).drop k) = val (xs.drop k) / d.toNat) := by
        show _ = _
        rw [val_drop_getD _ _ (by rw [List.length_set]; have := hlen.out; omega), Cal.getD_set_eq (by have := hlen.out; omega), List.drop_set_of_lt (by omega), ← hst.1]
      have hrm := Lib.hid hst.2
      obtain ⟨q, hqq⟩ : ∃ q, q = quo2 r p d := ⟨_, rfl⟩
      obtain ⟨s, hss⟩ : ∃ s, s = rem2 r p d := ⟨_, rfl⟩
      rw [← hqq] at C hnew hv wq
      rw [← hss] at C wr_ hrm
      have hN := Lib.hid hnew
      clear hp hst hq hm hqq hss hnew
      go_wp2_with fail
      (with_reducible refine (C.out _).mono ?_); rintro e w' ⟨rfl, nq, rfl⟩
      go_wp2_with fail
      go_roundw
      case rel => exact ⟨k, s, _, by omega, by go_num, rfl, wr_.1, wr_.2, hN.out.drewN _, by show _ = _; rw [List.length_set]; exact hlen.out, pw_below_drewN (below_set hb (Nat.le_refl _) _) _, hv, hrm⟩
      case measure => simp [intOf]
    have hv : val out = val xs / d.toNat := hq.out
    obtain ⟨hcap, hwl, hns, hnt⟩ := ho.end_ hlen.out hn hv
    have C3 := Lib.hid (size_c _ _ _ hns)
    have HN := Lib.hid hnt
    have HM := Lib.hid hm.out
    clear hns hnt hv hq hm ho
    obtain ⟨z, hz⟩ : ∃ z, z = wl (val xs / d.toNat) := ⟨_, rfl⟩
    rw [← hz] at C3 HN hwl
    clear hz
    go_wp2_with fail
    (with_reducible refine C3.out.mono ?_); rintro e w' ⟨rfl, rfl⟩
    go_wp2_with fail
    go_ret2
    exact ⟨_, _, rfl, HN.out, HM.out, r0, rfl, hb⟩
theorem word_new (v : Value) (x : Nat) (d : Int) (w : World) (h : NS w v x) (hd0 : 0 < d) (hd : d < 18446744073709551616) :
    Calls Tryz.prog 109 #[v, .int .u64 d] w (fun e w' => ∃ v r, e = .returned (.tuple #[v, .int .u64 r]) ∧ NT w' v (x / d.toNat) ∧ r.toNat = x % d.toNat ∧ 0 ≤ r ∧ v.ownBlock = some w.heap.size ∧ Below w.heap.size w w') := by
  obtain ⟨A, n, c, xs, rfl, h1, h2, h3, h4, rfl⟩ := h.out
  exact word_new_raw xs A n c d w h3 h4 h2 hd0 hd
theorem rtrim_new (v : Value) (x : Nat) (w : World) (h : NS w v x) : Calls Tryz.prog 83 #[v] w (fun e w' => ∃ v', e = .returned v' ∧ NT w' v' x ∧ (∀ k, v'.ownBlock = some k → w.heap.size ≤ k) ∧ Below w.heap.size w w') := by
  obtain ⟨A, n, c, xs, rfl, h1, h2, h3, h4, rfl⟩ := h.out
  have hl : xs.length = n := h3.1
  have hw := wl_val_le h4
  refine (rtrim_any xs A n c w h3 h4 h1 (by omega)).mono ?_
  rintro e w' ⟨v', rfl, ho, hb⟩
  exact ⟨v', rfl, (⟨ho, limbs_wf _⟩ : Own w' w.heap.size v' (limbs (val xs))).nt (by omega), own_base ho, hb⟩
set_option maxHeartbeats 1000000 in
theorem small_new_raw (xs : List Int) (A : Option Addr) (n c : Nat) (d : Int) (w : World) (R1 : ReadsInt w .u64 A n xs) (W1 : Wf xs) (hn : n ≤ 1000000) (hd0 : 0 < d) (hd : d < 18446744073709551616) :
    Calls Tryz.prog 86 #[.slice A n c, .int .u64 d] w (fun e w' => ∃ v u, e = .returned (.tuple #[v, u]) ∧ NT w' v (val xs / d.toNat) ∧ NT w' u (val xs % d.toNat) ∧ (∀ k, v.ownBlock = some k → w.heap.size ≤ k) ∧ Below w.heap.size w w') := by
  have l1 : Hid (xs.length = n) := R1.1
  have HR1 := Lib.hid R1
  have HW1 := Lib.hid W1
  clear R1 W1
  have kmk := make22 n (n : Int) rfl (by omega)
  go_enter Tryz.func86, Tryz.ntmps86
  go_wp2_with fail
  go_loopw [7, 8] (fun t7 t8 wr => ∃ (k : Nat) (r : Int) (out : List Int), k ≤ n ∧ t8 = .int .i64 ((k : Int) - 1) ∧ t7 = .int .u64 r ∧ 0 ≤ r ∧ r < d ∧ Own wr w.heap.size (.slice (some ⟨w.heap.size, 0, none⟩) n n) out ∧
      Hid (out.length = n) ∧ Below w.heap.size w wr ∧ Hid (val (out.drop k) = val (xs.drop k) / d.toNat) ∧ Hid (r.toNat = val (xs.drop k) % d.toNat)) (fun _ t8 _ => (intOf t8 + 1).toNat)
  case atStart => exact ⟨n, 0, _, Nat.le_refl _, rfl, rfl, by omega, by omega, own_make w n (by omega) w.heap.size (Nat.le_refl _), List.length_replicate, (Below.refl _ _).alloc (Nat.le_refl _) _, by
      show _ = _
      rw [List.drop_eq_nil_of_le (by simp), List.drop_eq_nil_of_le (by rw [l1.out]; omega)]; simp, by
      show _ = _
      rw [List.drop_eq_nil_of_le (by rw [l1.out]; omega)]; simp⟩
  case round =>
    obtain ⟨k, r, out, hk, rfl, rfl, r0, r1, ho, hlen, hb, hq, hm⟩ := hrel
    rcases Nat.eq_zero_or_pos k with rfl | hk0
    case inr =>
      obtain ⟨k, rfl⟩ : ∃ j, k = j + 1 := ⟨k - 1, by omega⟩
      obtain ⟨ad, rfl, hc⟩ := (HR1.out.below hb).2.2 (by omega)
      have hc0 := hc k (by omega)
      clear hc
      have rng := HW1.out.getD k
      obtain ⟨hf1, hf2⟩ := ho.at_ k (by have := hlen.out; omega)
      have hst := word_step (q := quo2 r (xs.getD k 0) d) (by have := l1.out; omega) rng.1 hd0 r0 hq.out hm.out rfl
      obtain ⟨p, hp⟩ : ∃ p, p = xs.getD k 0 := ⟨_, rfl⟩
      rw [← hp] at hc0 rng hst
      have wq := quo2_wf r0 r1 rng
      have wr_ := rem2_wf (hi := r) (lo := p) hd0
      have C := Lib.hid (fun W => div64 r p d W r0 r1 hd rng)
      have hnew := ho.set_ k wq
      have hv : Hid (val ((out.set k (quo2 r p d)).drop k) = val (xs.drop k) / d.toNat) := by
        show _ = _
        rw [val_drop_getD _ _ (by rw [List.length_set]; have := hlen.out; omega), Cal.getD_set_eq (by have := hlen.out; omega), List.drop_set_of_lt (by omega), ← hst.1]
      have hrm := Lib.hid hst.2
      obtain ⟨q, hqq⟩ : ∃ q, q = quo2 r p d := ⟨_, rfl⟩
      obtain ⟨s, hss⟩ : ∃ s, s = rem2 r p d := ⟨_, rfl⟩
      rw [← hqq] at C hnew hv wq
      rw [← hss] at C wr_ hrm
      have hN := Lib.hid hnew
      clear hp hst hq hm hqq hss hnew
      go_wp2_with fail
      (with_reducible refine (C.out _).mono ?_); rintro e w' ⟨rfl, nq, rfl⟩
      go_wp2_with fail
      go_roundw
      case rel => exact ⟨k, s, _, by omega, by go_num, rfl, wr_.1, wr_.2, hN.out.drewN _, by show _ = _; rw [List.length_set]; exact hlen.out, pw_below_drewN (below_set hb (Nat.le_refl _) _) _, hv, hrm⟩
      case measure => simp [intOf]
    have hv : val out = val xs / d.toNat := hq.out
    obtain ⟨hcap, hwl, hns, hnt⟩ := ho.end_ hlen.out hn hv
    have C3 := Lib.hid (rtrim_new _ _ _ hns)
    have C4 := Lib.hid (fun W => rof_c r ⟨r0, by omega⟩ W)
    have HM := Lib.hid (show r.toNat = val xs % d.toNat from hm.out)
    have HBS := Lib.hid hb.size
    clear hns hnt hv hq hm ho
    go_wp2_with fail
    (with_reducible refine C3.out.mono ?_); rintro e w1 ⟨v1, rfl, hv1, hk1, hb1⟩
    have HK1 := Lib.hid hk1
    clear hk1
    go_wp2_with fail
    (with_reducible refine (C4.out _).mono ?_); rintro e w2 ⟨v2, rfl, hv2, hb2⟩
    go_wp2_with fail
    go_ret2
    exact ⟨_, _, rfl, hv1.ext hb2, by rw [← HM.out]; exact hv2, fun k hk => Nat.le_trans HBS.out (HK1.out k hk), btrans (btrans hb hb1) hb2⟩
theorem small_new (v : Value) (x : Nat) (d : Int) (w : World) (h : NS w v x) (hd0 : 0 < d) (hd : d < 18446744073709551616) :
    Calls Tryz.prog 86 #[v, .int .u64 d] w (fun e w' => ∃ v u, e = .returned (.tuple #[v, u]) ∧ NT w' v (x / d.toNat) ∧ NT w' u (x % d.toNat) ∧ (∀ k, v.ownBlock = some k → w.heap.size ≤ k) ∧ Below w.heap.size w w') := by
  obtain ⟨A, n, c, xs, rfl, h1, h2, h3, h4, rfl⟩ := h.out
  exact small_new_raw xs A n c d w h3 h4 h2 hd0 hd
end Go.Proofs.YtaepgdkpaffaaaaGreatDoor
