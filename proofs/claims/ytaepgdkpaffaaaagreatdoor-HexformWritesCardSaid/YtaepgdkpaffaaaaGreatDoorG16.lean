import Derived.Test.YtaepgdkpaffaaaaGreatDoorG15
import Derived.Test.YtaepgdkpaffaaaaGreatDoorRows
import Derived.ProofKit
import Derived.LaidMore
import Derived.OpenShut
import Derived.Stop.Joined
import Derived.Carry
import Derived.Lay
import Derived.LaidOnce
import Derived.Lib.LaidU8
import Derived.Laws.IdiomArrays
import Derived.Test.YtaepgdkpaffaaaaGreatDoorCards
import Derived.Test.YtaepgdkpaffaaaaGreatDoorTie
import Derived.SevenTiedAt
set_option linter.unusedVariables false
set_option linter.unusedSimpArgs false
/- caliperref11: Write, a finite number. -/
namespace Go.Proofs.YtaepgdkpaffaaaaGreatDoor
open Go.RowKit Go.Proofs.YtaepgdkpaffaaaaGreatDoorW.PrintWords Cal

theorem strip_le (l : List UInt8) : (strip l).length ≤ l.length := by
  unfold strip
  rw [List.length_reverse]
  have h := (List.dropWhile_sublist (l := l.reverse) (fun c => c == (48 : UInt8))).length_le
  rwa [List.length_reverse] at h
theorem nil_or_snoc (l : List UInt8) : l = [] ∨ ∃ a b, l = a ++ [b] := by
  rcases h : l.reverse with _ | ⟨b, a⟩
  · exact Or.inl (by simpa using h)
  · refine Or.inr ⟨a.reverse, b, ?_⟩
    have := congrArg List.reverse h
    simpa using this
theorem pItoa_neg {z : Int} (h : z < 0) : pItoa z = Lib.itoa z := by unfold pItoa; rw [if_pos h]
theorem pItoa_pos {z : Int} (h : ¬ z < 0) : pItoa z = 43 :: Lib.itoa z := by unfold pItoa; rw [if_neg h]
set_option maxRecDepth 100000 in
set_option maxHeartbeats 8000000 in
theorem rfin_c (n : Int) (x : Nat) (sg : Bool) (ex : Int) (c : Nat) (w : World) (hc : c < 2 ^ 256) (he0 : -50000 ≤ ex) (he1 : ex ≤ 50000) (ht : TB w)
    (hi : ∀ W, Calls Tryz.prog 18 #[.int .i64 n, bv x] W (fun e w' => e = .returned (.tuple #[.agg (dcells 1 sg false ex c), .int .i64 0]) ∧ Below W.heap.size W w')) :
    Calls Tryz.prog 12 #[.int .i64 n, bv x] w (fun e w' => e = .returned (.tuple #[.string ⟨(hexF sg ex c).toArray⟩, .int .i64 0]) ∧ Below w.heap.size w w') := by
  have C18 := Lib.hid hi
  have C39 := Lib.hid (fun v W (h : NS W v c) => rlen_c v c W h)
  have hb0 : bl c ≤ 256 := bl_le hc
  have HT := Lib.hid ht
  have HC := Lib.hid hc
  obtain ⟨T, hT⟩ : ∃ T, T = hexF sg ex c := ⟨_, rfl⟩
  rw [← hT]
  unfold hexF at hT
  have hbc : bl c = 0 ↔ c = 0 := ⟨fun h => by
    by_cases h0 : c = 0
    · exact h0
    · have := bl_pos h0; omega, fun h => by rw [h]; rfl⟩
  have HCZ := Lib.hid hbc
  have HTT := Lib.hid hT
  have HFL := Lib.hid (fun n (hn : bl c = n + 1) => frac_link hn hc)
  have C40 := Lib.hid (fun k W (hk : k ≤ 100000) => rfield_c c 0 k W hc (by omega) hk)
  clear hi hc ht hT hbc
  unfold dcells at C18
  unfold bv at C18 C40 ⊢
  generalize bl c = bc at *
  go_enter Tryz.func12, Tryz.ntmps12
  go_wp2_with fail
  (with_reducible refine (C18.out _).mono ?_); rintro e w1 ⟨rfl, hb1⟩
  have HDt : Dt (w1.alloc (.cells (dcells 1 sg false ex c) 33)) w1.heap.size sg ex c := heap_alloc_new _ _
  have hB1 := btrans ((Below.refl _ _).alloc (Nat.le_refl _) _) hb1
  have HB1 := Lib.hid (hB1.alloc hB1.size (.cells (dcells 1 sg false ex c) 33))
  unfold dcells at HDt HB1
  go_upto_region 2 with fail
  generalize (w1.alloc (.cells #[.int .i64 1, .bool sg, .bool false, .int .i64 ex, .int .u64 (wd c 0), .int .u64 (wd c 1), .int .u64 (wd c 2), .int .u64 (wd c 3)] 33)) = W at *
  generalize w1.heap.size = g6 at *
  have HD := Lib.hid HDt
  clear HDt hb1 hB1
  have C39' := Lib.hid (C39.out _ W (ns_mid HD.out HC.out))
  obtain ⟨c0, c1, c3, c4, c5, c6, c7⟩ := HD.out.s
  cases sg
  all_goals
    go_upto_region 9 with fail
    go_wp2_with fail
    (with_reducible refine C39'.out.mono ?_); rintro e w' ⟨rfl, rfl⟩
    rcases Nat.eq_zero_or_pos bc with hz | hz
    · have hcz := HCZ.out.1 hz
      have htt := HTT.out
      rw [if_pos hcz] at htt
      have HTT2 := Lib.hid htt
      have hz' : ((bc : Int) == 0) = true := by rw [hz]; rfl
      clear htt hcz hz
      go_wp2_with fail
      go_ret2
      exact ⟨by rw [HTT2.out]; rfl, HB1.out⟩
    · obtain ⟨m, rfl⟩ : ∃ m, bc = m + 1 := ⟨bc - 1, by omega⟩
      have hcz : c ≠ 0 := fun h => by have := HCZ.out.2 h; omega
      have htt := HTT.out
      rw [if_neg hcz] at htt
      have hz' : (((m + 1 : Nat) : Int) == 0) = false := by rw [beq_eq_false_iff_ne]; omega
      obtain ⟨k, hk⟩ : ∃ k, k = (m + 3) / 4 := ⟨_, rfl⟩
      have hk64 : k ≤ 64 := by omega
      have ek : ((m : Int) + 3) / 4 = (k : Int) := by omega
      have e4 : 4 * (k : Int) - (m : Int) = ((4 * k - m : Nat) : Int) := by omega
      have HFL' := HFL.out m rfl
      rw [HFL', ← hk, frac_ref hk64] at htt
      have HTT2 := Lib.hid htt
      have C40m : Hid (∀ W, Calls Tryz.prog 40 #[.agg #[.int .u64 (wd c 0), .int .u64 (wd c 1), .int .u64 (wd c 2), .int .u64 (wd c 3)], .int .i64 0, .int .i64 m] W (fun e w' => ∃ v, e = .returned v ∧ NT w' v (c % 2 ^ m) ∧ Below W.heap.size W w')) := fun W => by
        have := C40.out m W (by omega)
        rwa [Nat.pow_zero, Nat.div_one] at this
      have hwl : wl (c % 2 ^ m) ≤ 4 := wl_le (by rw [← B4]; exact Nat.lt_of_le_of_lt (Nat.mod_le _ _) HC.out)
      have C28 := Lib.hid (fun v W (h : NT W v (c % 2 ^ m)) => rleft_c v (c % 2 ^ m) (4 * k - m) W (h.nb hwl) (by omega))
      obtain ⟨r, hr⟩ : ∃ r, r = c % 2 ^ m * 2 ^ (4 * k - m) := ⟨_, rfl⟩
      rw [← hr] at C28 HTT2
      have C41 := Lib.hid (fun v j W (h : NT W v r) (hj : j ≤ 1000) => rright_c v r (4 * j) W h.ns (by omega))
      have HK := Lib.hid hk
      clear htt hcz HFL' HFL hk hwl hr C40
      go_wp2_with fail
      (with_reducible refine (C40m.out _).mono ?_); rintro e w2 ⟨v2, rfl, hv2, hb2⟩
      have HV2 := Lib.hid hv2
      have HB2 := Lib.hid (btrans HB1.out hb2)
      have HD2 := Lib.hid (HD.out.ext hb2)
      clear c0 c1 c3 c4 c5 c6 c7 hv2 hb2
      go_wp2_with fail
      (with_reducible refine (C28.out _ _ HV2.out).mono ?_); rintro e w3 ⟨v3, rfl, hv3, hb3⟩
      have HV3 := Lib.hid hv3
      have HB3 := Lib.hid (btrans HB2.out hb3)
      have HD3 := Lib.hid (HD2.out.ext hb3)
      clear hv3 hb3
      go_wp2_with fail
      go_loopw [12, 57] (fun t12 t57 wr => ∃ (i : Nat) (L : List UInt8), i ≤ k ∧ t57 = .int .i64 i ∧ t12 = .string ⟨L.toArray⟩ ∧ L.length ≤ 64 ∧ Hid (L = hx i (r / 16 ^ (k - i))) ∧ NT wr v3 r ∧ Dt wr g6 _ ex c ∧ Below w.heap.size w wr) (fun _ t57 _ => k - (intOf t57).toNat)
      case atStart => exact ⟨0, [], Nat.zero_le _, rfl, rfl, by simp, rfl, HV3.out, HD3.out, HB3.out⟩
      case round =>
        obtain ⟨i, L, hik, rfl, rfl, hL64, hL, hv, hdt, hb⟩ := hrel
        have HV := Lib.hid hv
        have HDT := Lib.hid hdt
        have HB := Lib.hid hb
        clear hv hdt hb
        by_cases hlt : i < k
        · obtain ⟨j, hj⟩ : ∃ j, j = k - 1 - i := ⟨_, rfl⟩
          have ej : (k : Int) - 1 - (i : Int) = (j : Int) := by omega
          have hj9 : j ≤ 1000 := by omega
          have hLi : L.length = i := by rw [hL.out, hx_length]
          have hst := hx_step i j r
          rw [show j + 1 = k - i by omega, ← hL.out] at hst
          have HST := Lib.hid hst
          have HJ := Lib.hid (show k - (i + 1) = j by omega)
          have C41j := Lib.hid (fun W h => C41.out v3 j W h hj9)
          rw [show ((4 * j : Nat) : Int) = 4 * (j : Int) by omega, show (2 : Nat) ^ (4 * j) = 16 ^ j by rw [p16]] at C41j
          have hd16 : r / 16 ^ j % 16 < 16 := Nat.mod_lt _ (by omega)
          have C42 := Lib.hid (fun v W (h : NT W v (r / 16 ^ j)) => low_c v (r / 16 ^ j) W h)
          obtain ⟨d, hd⟩ : ∃ d, d = r / 16 ^ j % 16 := ⟨_, rfl⟩
          rw [← hd] at HST hd16 C42
          have hix := fun W => hexidx_i d hd16 W
          have hcv := fun W => hexconv d hd16 W
          have hL63 : L.length ≤ 63 := by omega
          clear hst hd hj hLi
          go_wp2_with fail
          (with_reducible refine (C41j.out _ HV.out).mono ?_); rintro e w5 ⟨v5, b5, rfl, hv5, hb5⟩
          have HV5 := Lib.hid hv5
          have HB5 := Lib.hid hb5
          clear hv5 hb5
          go_wp2_with fail
          (with_reducible refine (C42.out _ _ HV5.out).mono ?_); rintro e w' ⟨rfl, rfl⟩
          go_wp2_with fail
          have es : (({ data := L.toArray } : ByteArray) ++ { data := #[hexc d] }) = ⟨(L ++ [hexc d]).toArray⟩ := bytes_app L [hexc d]
          go_roundw
          case rel => exact ⟨i + 1, L ++ [hexc d], by omega, by go_num, by rw [es], by simp; omega, by show _ = _; rw [HJ.out, HST.out], HV.out.ext HB5.out, HDT.out.ext HB5.out, btrans HB.out HB5.out⟩
          case measure => simp [intOf]; omega
        · obtain rfl : i = k := by omega
          have hfin : L = hx i r := by have := hL.out; rwa [Nat.sub_self, Nat.pow_zero, Nat.div_one] at this
          have htt := HTT2.out
          rw [← hfin] at htt
          have HT5 := Lib.hid htt
          clear htt hfin hL
          go_wp2_with fail
          go_loop [12] (fun t12 => ∃ L2 : List UInt8, t12 = .string ⟨L2.toArray⟩ ∧ L2.length ≤ 64 ∧ Hid (strip L2 = strip L)) (fun t12 => strLen t12)
          case atStart => exact ⟨L, rfl, hL64, rfl⟩
          case round =>
            obtain ⟨L2, rfl, hl2, hs2⟩ := hrel
            obtain ⟨c0, c1, c3, c4, c5, c6, c7⟩ := HDT.out.s
            have C37 := Lib.hid (itoa_c (ex + ((m + 1 : Nat) : Int) - 1) wr (by omega) (by omega) (HT.out.ext HB.out))
            rcases nil_or_snoc L2 with rfl | ⟨L3, l, rfl⟩
            · have htt := HT5.out
              rw [← hs2.out, strip_nil] at htt
              have hsl := itoa_len (z := ex + ((m + 1 : Nat) : Int) - 1) (by omega) (by omega)
              have ez : ((m + 1 : Nat) : Int) = (m : Int) + 1 := by omega
              by_cases hneg : ex + ((m : Int) + 1) - 1 < 0
              · rw [pItoa_neg (by omega)] at htt
                rw [ez] at htt hsl C37
                generalize Lib.itoa (ex + ((m : Int) + 1) - 1) = zs at *
                have HT6 := Lib.hid htt
                clear htt hs2 ez
                go_wp2_with fail
                (with_reducible refine C37.out.mono ?_); rintro e w5 ⟨rfl, hb5⟩
                clear c0 c1 c3 c4 c5 c6 c7
                go_wp2_with fail
                go_ret2
                exact ⟨ret_str2 (by rw [HT6.out]; simp [hsign, dotted, ByteArray.data_append]), btrans HB.out hb5⟩
              · rw [pItoa_pos (by omega)] at htt
                rw [ez] at htt hsl C37
                generalize Lib.itoa (ex + ((m : Int) + 1) - 1) = zs at *
                have HT6 := Lib.hid htt
                clear htt hs2 ez
                go_wp2_with fail
                (with_reducible refine C37.out.mono ?_); rintro e w5 ⟨rfl, hb5⟩
                clear c0 c1 c3 c4 c5 c6 c7
                go_wp2_with fail
                go_ret2
                exact ⟨ret_str2 (by rw [HT6.out]; simp [hsign, dotted, ByteArray.data_append]), btrans HB.out hb5⟩
            · have hl3 : L3.length + 1 ≤ 64 := by simpa using hl2
              have kix := fun W => strixlast L3 l W
              by_cases h48 : l = 48
              · have hcc : ((l.toNat : Int) == 48) = true := by rw [h48]; rfl
                have hs3 : Hid (strip L3 = strip L) := by
                  show _ = _
                  rw [← hs2.out, h48, strip_48]
                have kct := fun W => strcut L3 l W
                clear h48 hs2
                generalize (l.toNat : Int) = cc at *
                go_wp2_with fail
                go_round
                case rel => exact ⟨L3, rfl, by omega, hs3⟩
                case measure =>
                  have e1 : strLen (.string ⟨(L3 ++ [l]).toArray⟩) = L3.length + 1 := by show (L3 ++ [l]).toArray.size = _; simp
                  have e2 : strLen (.string ⟨L3.toArray⟩) = L3.length := by show L3.toArray.size = _; simp
                  show strLen (.string ⟨L3.toArray⟩) < strLen (.string ⟨(L3 ++ [l]).toArray⟩)
                  rw [e1, e2]
                  omega
              · have hcc : ((l.toNat : Int) == 48) = false := by
                  rw [beq_eq_false_iff_ne]
                  intro h9
                  refine h48 (UInt8.toNat_inj.1 ?_)
                  have : (48 : UInt8).toNat = 48 := rfl
                  omega
                have htt := HT5.out
                rw [← hs2.out, strip_snoc (by simpa using h48)] at htt
                clear h48
                have kne1 : (L3 ++ [l]).isEmpty = false := by simp
                have kne2 : (!(L3 ++ [l]).isEmpty) = true := by simp
                generalize (l.toNat : Int) = cc at *
                have hsl := itoa_len (z := ex + ((m + 1 : Nat) : Int) - 1) (by omega) (by omega)
                have ez : ((m + 1 : Nat) : Int) = (m : Int) + 1 := by omega
                by_cases hneg : ex + ((m : Int) + 1) - 1 < 0
                · rw [pItoa_neg (by omega)] at htt
                  rw [ez] at htt hsl C37
                  generalize Lib.itoa (ex + ((m : Int) + 1) - 1) = zs at *
                  have HT6 := Lib.hid htt
                  clear htt hs2 ez
                  go_wp2_with fail
                  (with_reducible refine C37.out.mono ?_); rintro e w5 ⟨rfl, hb5⟩
                  clear c0 c1 c3 c4 c5 c6 c7
                  go_wp2_with fail
                  go_ret2
                  exact ⟨ret_str2 (by rw [HT6.out]; simp [hsign, dotted, ByteArray.data_append]), btrans HB.out hb5⟩
                · rw [pItoa_pos (by omega)] at htt
                  rw [ez] at htt hsl C37
                  generalize Lib.itoa (ex + ((m : Int) + 1) - 1) = zs at *
                  have HT6 := Lib.hid htt
                  clear htt hs2 ez
                  go_wp2_with fail
                  (with_reducible refine C37.out.mono ?_); rintro e w5 ⟨rfl, hb5⟩
                  clear c0 c1 c3 c4 c5 c6 c7
                  go_wp2_with fail
                  go_ret2
                  exact ⟨ret_str2 (by rw [HT6.out]; simp [hsign, dotted, ByteArray.data_append]), btrans HB.out hb5⟩
end Go.Proofs.YtaepgdkpaffaaaaGreatDoor

/- caliperref11: Write, whole. -/
namespace Go.Proofs.YtaepgdkpaffaaaaGreatDoor
open Go.RowKit Go.Proofs.YtaepgdkpaffaaaaGreatDoorW.PrintWords Cal

set_option maxRecDepth 100000 in
theorem rodd_c (n : Int) (x : Nat) (d : Dat) (w : World) (hd : DOK d) (hod : Odd d.cl d.sl d.c) (ht : TB w)
    (hi : ∀ W, Calls Tryz.prog 18 #[.int .i64 n, bv x] W (fun e w' => e = .returned (.tuple #[.agg (dcells d.cl d.sg d.sl d.ex d.c), .int .i64 0]) ∧ Below W.heap.size W w')) :
    Calls Tryz.prog 12 #[.int .i64 n, bv x] w (fun e w' => e = .returned (.tuple #[.string ⟨(otext d.cl d.sg d.sl (decS d.c)).toArray⟩, .int .i64 0]) ∧ Below w.heap.size w w') := by
  have C33 := Lib.hid hi
  have HT := Lib.hid ht
  have C34 := Lib.hid (fun W (t : TB W) => rothers_c d.cl d.ex d.sg d.sl d.c W hod hd.c)
  generalize otext d.cl d.sg d.sl (decS d.c) = T at *
  have hcl : d.cl = 2 ∨ d.cl = 3 := by rcases hod with h | h; exact Or.inl h.1; exact Or.inr h
  have hne : (d.cl != 1) = true := by rcases hcl with h | h <;> rw [h] <;> rfl
  obtain ⟨cl, sg, sl, ex, c⟩ := d
  simp only at *
  clear hi hod hd ht hcl
  unfold dcells at C33
  unfold bv at C33 ⊢
  go_enter Tryz.func12, Tryz.ntmps12
  go_wp2_with fail
  (with_reducible refine (C33.out _).mono ?_); rintro e w1 ⟨rfl, hb1⟩
  have hB1 := btrans ((Below.refl _ _).alloc (Nat.le_refl _) _) hb1
  have HB1 := Lib.hid (hB1.alloc hB1.size (.cells #[.int .i64 cl, .bool sg, .bool sl, .int .i64 ex, .int .u64 (wd c 0), .int .u64 (wd c 1), .int .u64 (wd c 2), .int .u64 (wd c 3)] 33))
  have hn := heap_alloc_new w1 (.cells #[.int .i64 cl, .bool sg, .bool sl, .int .i64 ex, .int .u64 (wd c 0), .int .u64 (wd c 1), .int .u64 (wd c 2), .int .u64 (wd c 3)] 33)
  go_upto_region 2 with fail
  generalize (w1.alloc (.cells #[.int .i64 cl, .bool sg, .bool sl, .int .i64 ex, .int .u64 (wd c 0), .int .u64 (wd c 1), .int .u64 (wd c 2), .int .u64 (wd c 3)] 33)) = W at *
  generalize w1.heap.size = g6 at *
  have k0 := cell_of_heap hn (k := 0) (v := .int .i64 cl) rfl
  clear hb1 hB1
  go_wp2_with (refine wpList_load_row rfl 33 (.tmp 6) rfl g6 rfl 33 _ (0, 0) _ hn Tryz.underlying33 rfl size33 ?_)
  have C34' := C34.out W (HT.out.ext HB1.out)
  unfold dcells at C34'
  (with_reducible refine C34'.mono ?_); rintro e w2 ⟨rfl, hb2⟩
  go_wp2_with fail
  go_ret2
  exact ⟨rfl, btrans HB1.out hb2⟩
set_option maxRecDepth 100000 in
theorem rbad_c (n : Int) (x : Nat) (w : World)
    (hi : ∀ W, Calls Tryz.prog 18 #[.int .i64 n, bv x] W (fun e w' => e = .returned (.tuple #[.agg zero33, .int .i64 1]) ∧ Below W.heap.size W w')) :
    Calls Tryz.prog 12 #[.int .i64 n, bv x] w (fun e w' => e = .returned (.tuple #[.string ⟨#[]⟩, .int .i64 1]) ∧ Below w.heap.size w w') := by
  have C33 := Lib.hid hi
  clear hi
  unfold zero33 at C33
  unfold bv at C33 ⊢
  go_enter Tryz.func12, Tryz.ntmps12
  go_wp2_with fail
  (with_reducible refine (C33.out _).mono ?_); rintro e w1 ⟨rfl, hb1⟩
  have hB1 := btrans ((Below.refl _ _).alloc (Nat.le_refl _) _) hb1
  have HB1 := Lib.hid (hB1.alloc hB1.size (.cells #[.int .i64 0, .bool false, .bool false, .int .i64 0, .int .u64 0, .int .u64 0, .int .u64 0, .int .u64 0] 33))
  clear hb1 hB1
  go_wp2_with fail
  go_ret2
  exact ⟨rfl, HB1.out⟩
theorem rwrite_c (n : Int) (x : Nat) (w : World) (hx : x < 2 ^ 256) (ht : TB w) :
    Calls Tryz.prog 12 #[.int .i64 n, bv x] w (fun e w' => e = .returned (.tuple #[.string ⟨(hexW n x).1.toArray⟩, .int .i64 (hexW n x).2]) ∧ Below w.heap.size w w') := by
  have C := fun W => runpack_c n x W hx
  unfold undatI at C
  unfold hexW
  rcases hg : good n x with _ | _
  · rw [hg, if_neg (by simp)] at C
    rw [if_neg (by simp)]
    exact rbad_c n x w C
  · rw [hg, if_pos rfl] at C
    rw [if_pos rfl]
    have h6 := good_six hg
    obtain ⟨m, rfl⟩ := Int.eq_ofNat_of_zero_le (show 0 ≤ n by omega)
    rw [Int.toNat_natCast] at *
    have hok := undat_ok m x (by omega) (by omega) hx
    generalize undat m x = d at *
    rw [Dat.cells_eq] at C
    unfold hexD
    rcases hok.k with ⟨h1, h2⟩ | h1
    · rw [if_pos h1]
      rw [h1, h2] at C
      exact rfin_c m x d.sg d.ex d.c w hok.c hok.e0 hok.e1 ht C
    · have hne : d.cl ≠ 1 := by rcases h1 with h | h; (rw [h.1]; omega); (rw [h]; omega)
      rw [if_neg hne]
      exact rodd_c m x d w hok h1 ht C
end Go.Proofs.YtaepgdkpaffaaaaGreatDoor

/- caliperlaw11: awake, HexformWrites. -/
namespace Go.Proofs.YtaepgdkpaffaaaaGreatDoor
open Go.RowKit Go.Proofs.YtaepgdkpaffaaaaGreatDoorW.PrintWords Cal

theorem bl_awake : bl 12582912 = 24 := bl_eq (m := 23) (by decide) (by decide)
theorem bl_awake2 : bl 1069547520 = 30 := bl_eq (m := 29) (by decide) (by decide)
theorem frac_awake : frac (12582912 * 2 ^ (257 - 24) % 2 ^ 256) = [56] := by
  rw [frac_done (j := 1) (by omega) (by decide) (fun _ => by decide)]
  have e : 12582912 * 2 ^ (257 - 24) % 2 ^ 256 / 16 ^ (64 - 1) = 8 := by decide
  rw [e]
  rfl
theorem hexW_awake : hexW 3 1069547520 = ([48, 120, 49, 46, 56, 112, 43, 48], 0) := by
  have hg : good 3 1069547520 = true := by
    unfold good
    rw [bl_awake2]
    decide
  unfold hexW
  rw [if_pos hg]
  have hu : undat (3 : Int).toNat 1069547520 = ⟨1, false, false, -23, 12582912⟩ := by kernel_rfl
  rw [hu]
  unfold hexD
  rw [if_pos rfl]
  unfold hexF
  rw [if_neg (by decide)]
  show (hsign false ++ [49] ++ dotted (frac (12582912 * 2 ^ (257 - bl 12582912) % 2 ^ 256)) ++ [112] ++ pItoa (-23 + bl 12582912 - 1), (0 : Int)) = _
  rw [bl_awake, frac_awake]
  have hp : pItoa (-23 + ((24 : Nat) : Int) - 1) = [43, 48] := by
    have : (-23 + ((24 : Nat) : Int) - 1) = 0 := by decide
    rw [this]
    unfold pItoa Lib.itoa
    rw [if_neg (by decide), if_neg (by decide)]
    have : Lib.decDigits (0 : Int).toNat = [48] := decDigits_lt (by decide)
    rw [this]
  rw [hp]
  rfl
theorem awake11_c (w : World) (ht : TB w) : Calls Tryz.prog 10 #[] w (fun e w' => e = .returned (.bool true) ∧ Below w.heap.size w w') := by
  have C := fun W t => hwrite_c 3 1069547520 W (by decide) t
  rw [hexW_awake, bv_nat (by decide), show ((1069547520 : Nat) : Int) = 1069547520 from rfl] at C
  have C11 := Lib.hid C
  have HT := Lib.hid ht
  clear C ht
  go_enter Tryz.func10, Tryz.ntmps10
  go_wp2_with fail
  (with_reducible refine (C11.out _ HT.out).mono ?_); rintro e w1 ⟨rfl, hb1⟩
  go_wp2_with fail
  go_ret
  exact ⟨rfl, hb1⟩
set_option maxRecDepth 100000 in
theorem hexwrites_c (n : Int) (x : Nat) (w : World) (hx : x < 2 ^ 256) (ht : TB w) :
    Calls Tryz.prog 3 #[.int .i64 n, bv x] w (fun e w' => e = .returned (.bool true) ∧ Below w.heap.size w w') := by
  have C10 := Lib.hid (fun W t => awake11_c W t)
  have C11 := Lib.hid (fun W t => hwrite_c n x W hx t)
  have C12 := Lib.hid (fun W t => rwrite_c n x W hx t)
  have HT := Lib.hid ht
  have hb0 := (Below.refl w.heap.size w).alloc (Nat.le_refl _) (.cells #[.int .u64 (wd x 0), .int .u64 (wd x 1), .int .u64 (wd x 2), .int .u64 (wd x 3)] 24)
  have HA := Lib.hid (arr_new w x 24)
  have HB0 := Lib.hid hb0
  generalize hexW n x = P at *
  obtain ⟨P1, P2⟩ := P
  simp only at *
  clear hx ht hb0
  unfold bv at *
  go_enter Tryz.func3, Tryz.ntmps3
  go_upto_region 1 with fail
  generalize (w.alloc (.cells #[.int .u64 (wd x 0), .int .u64 (wd x 1), .int .u64 (wd x 2), .int .u64 (wd x 3)] 24)) = W at *
  have HT0 := Lib.hid (HT.out.ext HB0.out)
  go_wp2_with fail
  (with_reducible refine (C10.out _ HT0.out).mono ?_); rintro e w1 ⟨rfl, hb1⟩
  have HA1 := Lib.hid (HA.out.ext hb1)
  have HT1 := Lib.hid (HT0.out.ext hb1)
  have hA := HA1.out.cell
  have ha_0 := hA 0 (by omega)
  have ha_1 := hA 1 (by omega)
  have ha_2 := hA 2 (by omega)
  have ha_3 := hA 3 (by omega)
  clear hA
  go_wp2_with fail
  (with_reducible refine (C11.out _ HT1.out).mono ?_); rintro e w2 ⟨rfl, hb2⟩
  have HA2 := Lib.hid (HA1.out.ext hb2)
  have HT2 := Lib.hid (HT1.out.ext hb2)
  clear ha_0 ha_1 ha_2 ha_3
  have hA := HA2.out.cell
  have ha_0 := hA 0 (by omega)
  have ha_1 := hA 1 (by omega)
  have ha_2 := hA 2 (by omega)
  have ha_3 := hA 3 (by omega)
  clear hA
  go_wp2_with fail
  (with_reducible refine (C12.out _ HT2.out).mono ?_); rintro e w3 ⟨rfl, hb3⟩
  go_wp2_with fail
  go_ret
  exact ⟨by simp, btrans (btrans (btrans HB0.out hb1) hb2) hb3⟩
end Go.Proofs.YtaepgdkpaffaaaaGreatDoor

/- HexformWrites: the row. -/
namespace Go.Proofs.YtaepgdkpaffaaaaGreatDoor
open Go.RowKit Go.Proofs.YtaepgdkpaffaaaaGreatDoorW.PrintWords Cal
open Go.ChangeShapes Go.WideShapes Go.ChangeAt

theorem own : ownKnob Tryz.prog.godebug = none := by kernel_rfl
theorem tTab : ∃ t n, (Tryz.prog.globals[2]?).map (·.type) = some t ∧ Tryz.prog.underlying t = some (.array n 22) ∧ Tryz.prog.cellsOf t = n := by
  refine ⟨(Tryz.prog.globals[2]?).map (·.type) |>.getD 0, 20, ?_, ?_, ?_⟩ <;> kernel_rfl
theorem cells22 : Tryz.prog.cellsOf 22 = 1 := by kernel_rfl
theorem cells24' : Tryz.prog.cellsOf 24 = 4 := by kernel_rfl
/-- The table of powers, out of the row's condition. -/
theorem tb_of_reads {w : World} (h : Lib.VarReads Tryz.prog w "internal/strconv.uint64pow10" (Lib.tabData .u64 Lib.pow10Tab)) : TB w := by
  obtain ⟨g', t', cs, fuel, p, hg', ht', hvar, hd⟩ := h
  obtain ⟨t, n, h1, h2, h3⟩ := tTab
  obtain rfl := Option.some.inj (tb_named.symm.trans hg')
  obtain rfl := Option.some.inj (h1.symm.trans ht')
  show Lib.TabIs _ _ _ _ _
  unfold Lib.TabIs
  rw [hvar, ← Lib.cells_of_tab h2 Tryz.underlying22 cells22 h3 hd]

section
variable {H : Type} {enc : TypeId × Value → H} {w : World} {base : Nat} {sp : Nat → Bool} {held : Bool}
set_option maxRecDepth 100000 in
/-- A pattern, opened. -/
theorem open_bits {r : Reach} {b0 : Nat} {v : Value} {d : DataW H} {p : List MemPlace} (hv : Value.okWide Tryz.prog w r b0 24 v) (h : DataW.Trod enc Tryz.prog w base sp held 24 v d p) :
    ∃ x, x < 2 ^ 256 ∧ v = bv x ∧ p = [] := by
  simp only [Value.okWide, Tryz.underlying24] at hv
  obtain ⟨cs, rfl, hs, _⟩ := hv
  rw [cells24'] at hs
  obtain ⟨fuel, hf⟩ := h
  obtain ⟨cs⟩ := cs
  match cs, hs with
  | [c0, c1, c2, c3], _ =>
    obtain ⟨y0, y1, y2, y3, n, hx, h0, h1, h2, h3⟩ := trod_array4 Tryz.underlying24 cells22 hf
    obtain ⟨k0, e0, rfl, w0⟩ := DataW.trod_int Tryz.underlying22 h0
    obtain ⟨k1, e1, rfl, w1⟩ := DataW.trod_int Tryz.underlying22 h1
    obtain ⟨k2, e2, rfl, w2⟩ := DataW.trod_int Tryz.underlying22 h2
    obtain ⟨k3, e3, rfl, w3⟩ := DataW.trod_int Tryz.underlying22 h3
    cases e0; cases e1; cases e2; cases e3
    have wf : Wf [k0, k1, k2, k3] := by
      intro z hz
      simp only [Lit.wf, IntKind.min, IntKind.max, IntKind.signed, IntKind.bits] at w0 w1 w2 w3
      simp at w0 w1 w2 w3 hz
      rcases hz with rfl | rfl | rfl | rfl <;> omega
    refine ⟨val [k0, k1, k2, k3], ?_, ?_, ?_⟩
    · have := val_lt wf
      simpa [B] using this
    · unfold bv
      rw [wd_raw wf, wd_raw wf, wd_raw wf, wd_raw wf]
      rfl
    · simp only [Prod.mk.injEq] at hx
      simp [hx.2]
end

noncomputable def wit (os : Os) : World := World.laidAll Tryz.prog os Rows.hexformWritesRow.laid
theorem wit_met (os : Os) (args : Array Value) : laidMetH Tryz.prog Rows.hexformWritesRow.laid ((wit os).forCall (fun _ _ => 0) ⟨#[], args, []⟩).memory := by
  rw [MakeChecks.laidMetH_plain _ _ _ (by kernel_rfl)]
  exact laidMet_laidAll _ (by kernel_rfl) (by kernel_rfl)
theorem wit_shaped (os : Os) : (wit os).Shaped Tryz.prog := World.shaped_of_ZipB (by kernel_rfl) (by kernel_rfl)

set_option maxRecDepth 100000 in
theorem hexformWrites_lifted (os : Os) (started : os.Started) (H : Type) (enc : TypeId × Value → H) :
    ReturnsInHanded {} Tryz.checked os 3 .any (fun w args => (Rows.hexformWritesSpec.pre enc Tryz.prog Tryz.f3 [] false w args ∧ laidMetH Tryz.prog Rows.hexformWritesRow.laid w) ∧ sizedMet enc Tryz.prog Tryz.f3 (OpenSpec.ofChange Rows.hexformWritesSpec) false w args)
      (Rows.hexformWritesSpec.post enc Tryz.prog Tryz.f3 false true false false) := by
  refine returnsInHanded_of_change_and (C := Tryz.checked) (X := fun w _ => laidMetH Tryz.prog Rows.hexformWritesRow.laid w) (fun _ _ _ hh h => h.of_heap hh) own started (by kernel_rfl) Tryz.func3
    (ChangeSpec.witness_shaped (enc := enc) (C := Tryz.checked) (os := os) (X := fun w _ => laidMetH Tryz.prog Rows.hexformWritesRow.laid w) false (wit os) #[.int .i64 0, .agg #[.int .u64 0, .int .u64 0, .int .u64 0, .int .u64 0]] 8 (World.laidAll_os _ _ _)
      (wit_shaped os) (by kernel_rfl) (by kernel_rfl) (by kernel_rfl) (wit_met os _)) ?_
  intro W base args ds gs before hval0 hW _ _ hL _
  have hval : ∀ (j : Nat) t v, Tryz.f3.params[j]? = some t → args[j]? = some v → Value.okWide Tryz.prog W .any base t v := hval0
  have hW' := hW
  obtain ⟨p, q, hA0, hV, rfl, _, _⟩ := hW
  have hA : DataW.TrodAll enc Tryz.prog W 0 (fun _ => true) true Tryz.f3.params.toList args.toList ds p := hA0
  rw [Tryz.params3] at hA hval
  obtain ⟨v0, v1, d0, d1, p0, p1, rfl, rfl, rfl, h0, h1⟩ := trodAll_two hA
  obtain ⟨rfl, rfl⟩ := trodVars_none hV
  have h1k := h1
  obtain ⟨n, rfl, rfl, rfl, wx⟩ := open_int Tryz.underlying3 (hval 0 3 v0 rfl rfl) h0
  obtain ⟨x, hx, rfl, rfl⟩ := open_bits (hval 1 24 v1 rfl rfl) h1
  rw [MakeChecks.laidMetH_plain _ _ _ (by kernel_rfl)] at hL
  have hT : TB W := tb_of_reads (Lib.laidMet.reads hL (.tail _ (.tail _ (.head _))))
  refine (hexwrites_c n x W hx hT).mono fun e W' ⟨he, hb⟩ => ?_
  subst he
  exact ⟨_, rfl, _, _, _, [], [], [], hW', trodAll_mk1 (shut_bool Tryz.underlying4 _), trodAll_mk2 (shut_int Tryz.underlying3 wx) (Below.trod (by kernel_rfl) (by kernel_rfl) (of_decide_eq_true (by kernel_rfl)) h1k hb (fun _ h => by cases h)), rfl, hb.frame _, fun h => by cases h⟩

theorem hexformWrites_holds : Rows.HexformWritesSaid :=
  OpenClaim.holds_of_wide 3 Tryz.f3 rfl rfl rfl rfl rfl rfl rfl ⟨rfl, rfl, rfl, rfl, rfl⟩ rfl rfl rfl rfl rfl (by kernel_rfl) Tryz.func3 (by kernel_rfl)
    (of_decide_eq_true (by kernel_rfl)) (by unfold Func.isWrapper; first | (rw [if_pos (by decide +kernel)]; kernel_rfl) | (rw [if_neg (by decide +kernel)]; exact ⟨rfl, rfl⟩))
    (fun os started H enc _ => hexformWrites_lifted os started H enc)
end Go.Proofs.YtaepgdkpaffaaaaGreatDoor

/- HexformWrites: the card. -/
namespace Go.Proofs.YtaepgdkpaffaaaaGreatDoor
open Go
theorem hexformWrites_card : Rows.HexformWritesCardSaid :=
  Claim7.holds_tied_plain_at .later [] [.data, .data, .data, .data, .pinned] true (true, "b3abe86fd2d35853d8d441476fb8142ecac1785b857f0f843f533c1677ad78e5") true
    hexformWrites_holds (fun _ h => by cases h) (by kernel_rfl) (fun _ h => by cases h) hexformWrites_row_tie rfl ⟨rfl, rfl⟩ (by kernel_rfl) rfl
    (fun f fn hf hfn => by
      obtain rfl : f = 3 := Option.some.inj ((show Tryz.prog.funcNamed "caliper/caliperlaw11.HexformWrites" = some 3 by kernel_rfl).symm.trans hf) |>.symm
      obtain rfl : fn = Tryz.f3 := (Option.some.inj (Tryz.func3.symm.trans hfn)).symm
      exact ⟨by kernel_rfl, fun j t ht => by
        rw [Tryz.params3] at ht
        have hm : t ∈ [3, 24] := by simpa using Array.mem_of_getElem? ht
        have hall : ([3, 24].all fun u => !Tryz.prog.wantsStandIn u) = true := by kernel_rfl
        exact (show Tryz.prog.wantsStandIn t = false by simpa using List.all_eq_true.1 hall t hm)⟩)
    (by kernel_rfl)
#print axioms hexformWrites_card
end Go.Proofs.YtaepgdkpaffaaaaGreatDoor
