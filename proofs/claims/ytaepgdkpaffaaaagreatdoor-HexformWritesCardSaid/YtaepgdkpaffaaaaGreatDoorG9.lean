import Derived.Test.YtaepgdkpaffaaaaGreatDoorG2
import Derived.Test.YtaepgdkpaffaaaaGreatDoorG5
import Derived.Test.YtaepgdkpaffaaaaGreatDoorG8
import Derived.Lib.OwnBridge
set_option linter.unusedVariables false
set_option linter.unusedSimpArgs false
/- Package nat: Digits. -/
namespace Go.Proofs.YtaepgdkpaffaaaaGreatDoor
open Go.RowKit Go.Proofs.YtaepgdkpaffaaaaGreatDoorW.PrintWords Cal Go.Sort

def lenOf : Value → Nat | .slice _ n _ => n | _ => 0
theorem info9 : (Tryz.prog.info? 9).map (fun i => (i.zero, i.size, i.bytes)) = some (some (.string ⟨#[]⟩), 1, 16) := by kernel_rfl
/-- How many chunks, at most. -/
def Few (x y k : Nat) : Prop := (y = 0 ∧ k ≤ 2033) ∨ (0 < y ∧ y * 2 ^ (63 * k) ≤ x)
theorem few_le {K x y k : Nat} (hK : K ≤ 128000) (hx : x < 2 ^ K) (h : Few x y k) : k ≤ 2033 := by
  rcases h with h | ⟨h0, h1⟩
  · exact h.2
  · have h2 : 2 ^ (63 * k) < 2 ^ K := by
      have : 1 * 2 ^ (63 * k) ≤ y * 2 ^ (63 * k) := Nat.mul_le_mul_right _ h0
      omega
    have h3 := (Nat.pow_lt_pow_iff_right (show 1 < 2 by omega)).1 h2
    omega
theorem few_next {K x y k : Nat} (hK : K ≤ 128000) (hx : x < 2 ^ K) (hy : 0 < y) (h : Few x y k) : Few x (y / 10 ^ 19) (k + 1) := by
  have h1 : y * 2 ^ (63 * k) ≤ x := by (rcases h with h | h; (omega); (exact h.2))
  by_cases hq : y / 10 ^ 19 = 0
  · left
    refine ⟨hq, ?_⟩
    have h2 : 2 ^ (63 * k) < 2 ^ K := by
      have : 1 * 2 ^ (63 * k) ≤ y * 2 ^ (63 * k) := Nat.mul_le_mul_right _ hy
      omega
    have h3 := (Nat.pow_lt_pow_iff_right (show 1 < 2 by omega)).1 h2
    omega
  · right
    refine ⟨Nat.pos_of_ne_zero hq, Nat.le_trans ?_ h1⟩
    have e : 63 * (k + 1) = 63 + 63 * k := by omega
    rw [e, Nat.pow_add, ← Nat.mul_assoc]
    refine Nat.mul_le_mul_right _ ?_
    have h4 := Nat.div_mul_le_self y (10 ^ 19)
    have h5 : (2 : Nat) ^ 63 ≤ 10 ^ 19 := by decide
    exact Nat.le_trans (Nat.mul_le_mul_left _ h5) h4
/-- The chunks made so far. -/
structure DG (x y : Nat) (parts : List (List UInt8)) : Prop where
  e : decS x = decS y ++ parts.reverse.flatten
  n : parts ≠ [] → x ≠ 0
  m : y ≠ 0 → x ≠ 0
  f : Few x y parts.length
theorem DG.next {K x y : Nat} {parts : List (List UInt8)} (hK : K ≤ 128000) (hx : x < 2 ^ K) (h : DG x y parts) (hy : 0 < y) : DG x (y / 10 ^ 19) (parts ++ [chunk (y / 10 ^ 19) (y % 10 ^ 19)]) := by
  have h0 := h.m (by omega)
  refine ⟨?_, fun _ => h0, fun _ => h0, ?_⟩
  · have h1 := chunk_eq (q := y / 10 ^ 19) (r := y % 10 ^ 19) (Nat.mod_lt _ (by decide))
    have h2 : y / 10 ^ 19 * 10 ^ 19 + y % 10 ^ 19 = y := by have := Nat.div_add_mod y (10 ^ 19); rw [Nat.mul_comm] at this; exact this
    rw [h2, if_neg (by omega)] at h1
    rw [h.e, h1]
    simp
  · rw [List.length_append]
    exact few_next hK hx hy h.f
theorem size_putRow (w : World) (q g : Nat) (d : Array (List UInt8)) : w.heap.size ≤ (putRow encStr (Go.Sort.ahead w q) g 0 d).heap.size :=
  (Lib.below_putRow (enc := encStr) (q := q) (d := d) (Below.refl 0 w) (g := g) (Nat.zero_le _)).size
theorem holds_ahead {w : World} {g : Nat} {d : Array (List UInt8)} (h : Holds encStr w g 0 d) (q : Nat) : Holds encStr (Go.Sort.ahead w q) g 0 d := h
theorem holds_of_row {α : Type} {enc : α → Value} [Inhabited α] {w : World} {base c : Nat} {e : TypeId} {A : Option Addr} {xs : List α} (h : w.ownsRow base e 1 (.slice A xs.length c) xs.length (encs enc xs)) (hp : 0 < xs.length) :
    ∃ g, A = some ⟨g, 0, none⟩ ∧ base ≤ g ∧ Holds enc w g 0 xs.toArray := by
  rcases h.2 with ⟨he, h0⟩ | ⟨g, cap, cur, he, hb, hh, _⟩
  · omega
  · refine ⟨g, by injection he, hb, fun j hj => ?_⟩
    have hj' : j < xs.length := by simpa using hj
    have hc := h.cells (g := g) (by rw [he]; rfl) j _ (encs_get (d := default) xs j hj')
    refine ⟨?_, frozen_of_heap hh⟩
    have ha : (⟨g, 0, none⟩ : Addr).add j = ⟨g, 0 + j, none⟩ := by unfold Addr.add; split <;> simp_all
    rw [ha] at hc
    rw [hc]
    congr 2
    rw [getElem!_pos _ j hj, List.getD_eq_getElem?_getD, List.getElem?_eq_getElem hj']
    simp
theorem map_back (ps : List (List UInt8)) : ((ps.map (fun l => (⟨l.toArray⟩ : ByteArray))).map (fun b => b.data.toList)) = ps := by
  rw [List.map_map]
  conv => rhs; rw [← List.map_id ps]
  exact List.map_congr_left fun l _ => by simp
theorem join_none (ps : List (List UInt8)) : Lib.join ps (ByteArray.mk #[]).data.toList = ps.flatten := by
  rcases ps with _ | ⟨a, r⟩
  · rfl
  · rw [Lib.join_cons, Lib.joinTail]
    simp
theorem repeatL_48 (n : Nat) : Lib.repeatL [48] n = List.replicate n 48 := by
  induction n with
  | zero => rfl
  | succ n ih => rw [Lib.repeatL, ih, List.replicate_succ]; rfl
theorem bytes_app (a b : List UInt8) : ((⟨a.toArray⟩ : ByteArray) ++ ⟨b.toArray⟩) = ⟨(a ++ b).toArray⟩ := by
  apply ByteArray.ext
  simp [ByteArray.data_append]
set_option maxRecDepth 100000 in
set_option maxHeartbeats 2000000 in
theorem digits_c (v : Value) (x : Nat) (w : World) (h : NS w v x) (hw : wl x ≤ 2000) (ht : TB w) :
    Calls Tryz.prog 48 #[v] w (fun e w' => e = .returned (.tuple #[.string ⟨(Lib.decDigits x).toArray⟩, .int .i64 0]) ∧ Below w.heap.size w w') := by
  have C1 := Lib.hid (trim_c _ _ _ h)
  have hx : x < 2 ^ (64 * wl x) := by
    have := lt_wl x
    rwa [B_pow, ← Nat.pow_mul] at this
  obtain ⟨K, hK⟩ : ∃ K, K = 64 * wl x := ⟨_, rfl⟩
  rw [← hK] at hx
  have hK9 : K ≤ 128000 := by omega
  have HX := Lib.hid hx
  have HK := Lib.hid hK9
  have C109 : Hid (∀ v y W, NT W v y → Calls Tryz.prog 109 #[v, .int .u64 10000000000000000000] W (fun e w' => ∃ A c, e = .returned (.tuple #[.slice A (wl (y / 10 ^ 19)) c, .int .u64 ((y % 10 ^ 19 : Nat) : Int)]) ∧ NT w' (.slice A (wl (y / 10 ^ 19)) c) (y / 10 ^ 19) ∧ (Value.slice A (wl (y / 10 ^ 19)) c).ownBlock = some W.heap.size ∧ Below W.heap.size W w')) := fun v y W h => by
    refine (word_new v y 10000000000000000000 W h.ns (by omega) (by omega)).mono ?_
    rintro e w' ⟨v', r, rfl, h1, h2, h3, h5, h4⟩
    have e1 : (10000000000000000000 : Int).toNat = 10 ^ 19 := by decide
    rw [e1] at h1 h2
    have h1' := h1
    obtain ⟨A, c, rfl, _, _, _⟩ := h1.out
    refine ⟨A, c, ?_, h1', h5, h4⟩
    rw [← h2, Int.toNat_of_nonneg h3]
  obtain ⟨S, hS⟩ : ∃ S, S = Lib.decDigits x := ⟨_, rfl⟩
  rw [← hS]
  have HS := Lib.hid hS
  clear hS
  have C110 := Lib.hid (fun u W (h : u < 18446744073709551616) (t : TB W) => fu_c u W h t)
  have HT := Lib.hid ht
  clear h ht hx hK hK9
  go_enter Tryz.func48, Tryz.ntmps48
  go_wp2_with fail
  (with_reducible refine C1.out.mono ?_); rintro e w1 ⟨v1, rfl, hv1, hb1⟩
  obtain ⟨A1, c1, rfl, h1, h2, h3⟩ := hv1.out
  have HV1 := Lib.hid hv1
  have HT1 := Lib.hid (HT.out.ext hb1)
  obtain ⟨m, hm⟩ : ∃ m, m = wl x := ⟨_, rfl⟩
  rw [← hm] at hw h1 h2 HV1 ⊢
  clear h3 hv1 hm
  have hw' : ¬ (2000 < (m : Int)) := by omega
  have HB1 := Lib.hid hb1
  clear hb1
  go_wp2_with fail
  go_loopw [0, 4, 5, 6] (fun t0 t4 t5 t6 wr => ∃ (y : Nat) (parts : List (List UInt8)), NT wr t0 y ∧ Hid (0 < wl y → Dis t0 t4) ∧ wr.ownsRow w.heap.size 9 1 t4 parts.length (encs encStr parts) ∧ Below w.heap.size w wr ∧ TB wr ∧ Hid (DG x y parts)) (fun _ t4 _ _ _ => 3000 - lenOf t4)
  case atStart => exact ⟨x, [], HV1.out, (fun _ k _ h => (by cases h)), own_nil _ _ _ _, HB1.out, HT1.out, ⟨by simp, fun h => absurd rfl h, fun h => h, by
    by_cases h0 : x = 0
    · exact Or.inl ⟨h0, by simp⟩
    · exact Or.inr ⟨Nat.pos_of_ne_zero h0, by simp⟩⟩⟩
  case round =>
    obtain ⟨y, parts, hy, hds, hp, hb, htb, hd⟩ := hrel
    obtain ⟨A0, c0, rfl, g1, g2, g3⟩ := hy.out
    have hfew := few_le HK.out HX.out hd.out.f
    have HY := Lib.hid hy
    have HP := Lib.hid hp
    have HTB := Lib.hid htb
    have HB := Lib.hid hb
    clear hy hp htb hb g3
    rcases Nat.eq_zero_or_pos y with hy0 | hy0
    · have e0 : wl y = 0 := by rw [hy0, wl_zero]
      rw [e0] at HY g1 g2 ⊢
      obtain ⟨A4, c4, rfl⟩ := own_slice HP.out
      by_cases hpe : parts = []
      · subst hpe
        have hx0 : decS x = [] := by have := hd.out.e; rw [hy0, decS_zero] at this; simpa using this
        have hd0 : S = [48] := by
          rw [HS.out]
          have : x = 0 := by
            by_cases h0 : x = 0
            · exact h0
            · rw [decS_pos h0] at hx0
              have := decDigits_pos_len x
              rw [hx0] at this; simp at this
          rw [this]; exact decDigits_lt (by omega)
        rw [List.length_nil] at HP ⊢
        have HD0 := Lib.hid hd0
        clear hd hy0 hd0 hx0 e0
        go_wp2_with fail
        go_ret2
        exact ⟨by rw [HD0.out]; rfl, HB.out⟩
      · have hx0 := hd.out.n hpe
        have hfl : S = parts.reverse.flatten := by
          have := hd.out.e
          rw [hy0, decS_zero, List.nil_append, decS_pos hx0, ← HS.out] at this
          exact this
        have hSl : S.length ≤ 128000 := by
          rw [HS.out]
          have h1 := decDigits_len_le (u := x) (k := K + 1) (Nat.lt_of_lt_of_le HX.out (Nat.le_trans (Nat.pow_le_pow_left (by omega) K) (Nat.pow_le_pow_right (by omega) (by omega)))) (by omega)
          have h2 := Lib.nDigits_pos x
          have h3 : (Lib.decDigits x).length ≤ K ∨ K = 0 := by
            by_cases h0 : K = 0
            · exact Or.inr h0
            · exact Or.inl (decDigits_len_le (Nat.lt_of_lt_of_le HX.out (Nat.pow_le_pow_left (by omega) K)) (by omega))
          have := HK.out
          rcases h3 with h3 | h3 <;> omega
        have hlp : 0 < parts.length := by
          rcases parts with _ | ⟨a, b⟩
          · exact absurd rfl hpe
          · simp
        obtain ⟨g, rfl, hgb, hH⟩ := holds_of_row (enc := encStr) HP.out hlp
        have hgl : g < wr.heap.size := own_lt HP.out g rfl
        have C112 := Lib.hid (Tryz.slices_Reverse_string g 0 c4 parts wr hH (by omega))
        have hcap := own_cap HP.out
        have C113 := fun nq => Tryz.strings_Join g 0 c4 (parts.reverse.map (fun l => (⟨l.toArray⟩ : ByteArray))) ⟨#[]⟩ (putRow encStr (Go.Sort.ahead wr nq) g 0 parts.reverse.toArray) (fun j b hj => by
          have hj2 : j < parts.reverse.length := by
            rcases Nat.lt_or_ge j parts.reverse.length with h | h
            · exact h
            · rw [List.getElem?_eq_none (by simpa using h)] at hj; cases hj
          have h1 := cell?_putRow encStr (Go.Sort.ahead wr nq) g 0 parts.toArray parts.reverse.toArray (holds_ahead hH nq) (by simp) j (by simpa using hj2)
          rw [h1]
          rw [List.getElem?_map, List.getElem?_eq_getElem hj2] at hj
          simp only [Option.map_some, Option.some.injEq] at hj
          subst hj
          have h2 : (parts.reverse.toArray)[j]! = parts.reverse[j] := by
            rw [getElem!_pos _ j (by simpa using hj2)]; simp
          rw [h2]) (by
          have hbb := Lib.below_putRow (enc := encStr) (q := nq) (d := parts.reverse.toArray) (Below.refl wr.heap.size wr) (g := wr.heap.size) (Nat.le_refl _)
          exact Nat.lt_of_lt_of_le hgl (size_putRow wr nq g _)) (by simp; omega) (by simp; omega) (by
          rw [map_back, join_none, ← hfl]; omega)
        rw [map_back, join_none, ← hfl] at C113
        rw [show (parts.reverse.map (fun l => (⟨l.toArray⟩ : ByteArray))).length = parts.length by simp] at C113
        replace C113 := Lib.hid C113
        have HBP := Lib.hid (fun nq => Lib.below_putRow (enc := encStr) (q := nq) (d := parts.reverse.toArray) HB.out hgb)
        have hl0 : ((parts.length : Int) == 0) = false := by rw [beq_eq_false_iff_ne]; omega
        have hl0' : (parts.length == 0) = false := by rw [beq_eq_false_iff_ne]; omega
        clear hd hpe hfl hH hgl hcap hSl hy0 hx0 e0 HP hgb
        go_wp2_with fail
        (with_reducible refine C112.out.mono ?_); rintro e w2 ⟨rfl, nq, rfl⟩
        go_wp2_with fail
        (with_reducible refine (C113.out nq).mono ?_); rintro e w3 ⟨rfl, hb3⟩
        go_wp2_with fail
        go_ret2
        exact ⟨rfl, btrans (HBP.out nq) hb3⟩
    · have e0 : 0 < wl y := by rw [wl_pos (by omega)]; omega
      have HDN := Lib.hid (DG.next HK.out HX.out hd.out hy0)
      have HY0 := Lib.hid hy0
      have HW := Lib.hid (wl_eq_zero (x := y / 10 ^ 19))
      generalize wl y = m0 at *
      clear hd hy0
      go_wp2_with fail
      (with_reducible refine (C109.out _ _ _ HY.out).mono ?_); rintro e w2 ⟨A2, c2, rfl, hv2, hk2, hb2⟩
      have HDS := Lib.hid (Dis.new (B := wr.heap.size) (u := .slice A2 (wl (y / 10 ^ 19)) c2) (v := u4) (fun k hk => by rw [hk2] at hk; injection hk with hk; omega) (own_lt HP.out))
      clear hk2
      have HV2 := Lib.hid hv2
      have HP2 := Lib.hid (pw_own_below HP.out hb2)
      have HB2 := Lib.hid (btrans HB.out hb2)
      have HTB2 := Lib.hid (HTB.out.ext hb2)
      have hr := Nat.mod_lt y (show 0 < 10 ^ 19 by decide)
      have hrl := decDigits_len_le hr (by omega)
      have hch : chunk (y / 10 ^ 19) (y % 10 ^ 19) = if y / 10 ^ 19 = 0 then Lib.decDigits (y % 10 ^ 19) else padk 19 (y % 10 ^ 19) := rfl
      have hpk := padk_rep (k := 19) (by omega) hr
      have hr64 : y % 10 ^ 19 < 18446744073709551616 := Nat.lt_trans hr (by decide)
      generalize y / 10 ^ 19 = q at *
      generalize y % 10 ^ 19 = rn at *
      obtain ⟨ch, hchh⟩ : ∃ ch, ch = chunk q rn := ⟨_, rfl⟩
      rw [← hchh] at HDN hch
      have HRL := Lib.hid hrl
      have HPK := Lib.hid hpk
      have HCH := Lib.hid hch
      have HR64 := Lib.hid hr64
      clear hr hb2 hv2 hrl hpk hch hr64 hchh
      go_wp2_with fail
      (with_reducible refine (C110.out _ _ HR64.out HTB2.out).mono ?_); rintro e w3 ⟨rfl, hb3⟩
      have HV3 := Lib.hid (HV2.out.ext hb3)
      have HP3 := Lib.hid (pw_own_below HP2.out hb3)
      have HB3 := Lib.hid (btrans HB2.out hb3)
      have HTB3 := Lib.hid (HTB2.out.ext hb3)
      clear hb3
      rcases Nat.eq_zero_or_pos q with hq0 | hq0
      · have hcd := HCH.out
        rw [if_pos hq0] at hcd
        have HCD := Lib.hid hcd
        have ew : wl q = 0 := HW.out.2 hq0
        rw [ew] at HV3 ⊢
        clear HV2 HCH HW ew hcd
        have HQ := Lib.hid hq0
        clear hq0
        go_wp2_with (at_builtin
                     go_must (refine print_append_of (w0 := w) encStr w.heap.size rfl (.tmp 31) (.tmp 33) 135 9 (.string ⟨#[]⟩) 16 rfl Tryz.underlying135 info9 rfl (by omega) u4 parts (Lib.decDigits rn) rfl rfl rfl HP3.out HB3.out HB3.out.size (by omega) ?_)
                     intro v1 w4 ho hb4 hg4 hm4)
        rw [← HCD.out] at ho
        obtain ⟨A5, c5, rfl⟩ := own_slice ho
        obtain ⟨A4, c4, rfl⟩ := own_slice HP3.out
        exact ⟨⟨q, parts ++ [ch], HV3.out.grown hg4 (fun h => absurd h (by rw [HQ.out, wl_zero]; omega)), fun h => absurd h (by rw [HQ.out, wl_zero]; omega), ho, hb4, HT.out.ext hb4, HDN.out⟩, by simp only [lenOf, List.length_append, List.length_cons, List.length_nil]; omega⟩
      · have ew : 0 < wl q := by rw [wl_pos (by omega)]; omega
        have hcd := HCH.out
        rw [if_neg (by omega), HPK.out] at hcd
        have HCD := Lib.hid hcd
        generalize wl q = m2 at *
        clear HV2 HCH HW hcd hq0
        have hs19 := HRL.out
        have C111 := fun W => Tryz.strings_Repeat ⟨#[48]⟩ (19 - (Lib.decDigits rn).length) W (by omega) (by show 1 * _ ≤ _; omega)
        rw [show ((19 - (Lib.decDigits rn).length : Nat) : Int) = 19 - ((Lib.decDigits rn).length : Int) by omega] at C111
        replace C111 := Lib.hid C111
        go_wp2_with fail
        (with_reducible refine (C111.out _).mono ?_); rintro e w4 ⟨rfl, hb4⟩
        have HV4 := Lib.hid (HV3.out.ext hb4)
        have HP4 := Lib.hid (pw_own_below HP3.out hb4)
        have HB4 := Lib.hid (btrans HB3.out hb4)
        have HTB4 := Lib.hid (HTB3.out.ext hb4)
        clear hb4
        have eap : (({ data := (Lib.repeatL [48] (19 - (Lib.decDigits rn).length)).toArray } : ByteArray) ++ { data := (Lib.decDigits rn).toArray }) = ⟨ch.toArray⟩ := by
          rw [HCD.out, repeatL_48]
          exact bytes_app _ _
        have HEAP := Lib.hid eap
        clear eap
        have hcl : (Lib.repeatL [48] (19 - (Lib.decDigits rn).length)).length ≤ 19 := by rw [repeatL_48, List.length_replicate]; omega
        go_upto_region 11 with fail
        rw [HEAP.out]
        go_wp2_with (at_builtin
                     go_must (refine print_append_of (w0 := w) encStr w.heap.size rfl (.tmp 31) (.tmp 33) 135 9 (.string ⟨#[]⟩) 16 rfl Tryz.underlying135 info9 rfl (by omega) u4 parts ch rfl rfl rfl HP4.out HB4.out HB4.out.size (by omega) ?_)
                     intro v1 w5 ho hb5 hg5 hm5)
        obtain ⟨A5, c5, rfl⟩ := own_slice ho
        obtain ⟨A4, c4, rfl⟩ := own_slice HP4.out
        have hn4 := HV4.out.grown hg5 (fun _ => HDS.out)
        exact ⟨⟨q, parts ++ [ch], hn4, fun hq => HDS.out.moved (fun k hk => HV4.out.lt hq hk) hm5, ho, hb5, HT.out.ext hb5, HDN.out⟩, by simp only [lenOf, List.length_append, List.length_cons, List.length_nil]; omega⟩
end Go.Proofs.YtaepgdkpaffaaaaGreatDoor

/- caliperref02: Decimal. -/
namespace Go.Proofs.YtaepgdkpaffaaaaGreatDoor
open Go.RowKit Go.Proofs.YtaepgdkpaffaaaaGreatDoorW.PrintWords Cal

def bts (L : List UInt8) : List Int := L.map fun b => (b.toNat : Int)
theorem bts_length (L : List UInt8) : (bts L).length = L.length := by simp [bts]
theorem bts_snoc (L : List UInt8) (c : UInt8) : bts (L ++ [c]) = bts L ++ [(c.toNat : Int)] := by simp [bts]
theorem bts_getD (L : List UInt8) (k : Nat) (h : k < L.length) : (bts L).getD k 0 = ((L[k]).toNat : Int) := by
  simp [bts, List.getD_eq_getElem?_getD, List.getElem?_map, List.getElem?_eq_getElem h]
theorem info5 : (Tryz.prog.info? 5).map (fun i => (i.zero, i.size, i.bytes)) = some (some (.int .u8 0), 1, 1) := by kernel_rfl
theorem dgt_nat {d : Nat} (h : d < 10) : ((dgt d).toNat : Int) = 48 + (d : Int) := by
  have : d = 0 ∨ d = 1 ∨ d = 2 ∨ d = 3 ∨ d = 4 ∨ d = 5 ∨ d = 6 ∨ d = 7 ∨ d = 8 ∨ d = 9 := by omega
  rcases this with rfl | rfl | rfl | rfl | rfl | rfl | rfl | rfl | rfl | rfl <;> rfl
theorem padk_mod (k x : Nat) : padk k (x % 10 ^ k) = padk k x := by
  induction k generalizing x with
  | zero => rfl
  | succ k ih =>
    rw [padk, padk]
    have h2 : x % 10 ^ (k + 1) / 10 = x / 10 % 10 ^ k := by rw [Nat.pow_succ, Nat.mul_comm, Nat.mod_mul_right_div_self]
    have h3 : x % 10 ^ (k + 1) % 10 = x % 10 := by rw [Nat.pow_succ]; exact Nat.mod_mod_of_dvd _ ⟨10 ^ k, Nat.mul_comm _ _⟩
    rw [h2, h3, ih]
/-- The digit next to be written. -/
theorem padk_front (k x : Nat) : padk (k + 1) x = dgt (x / 10 ^ k % 10) :: padk k x := by
  have h := padk_add 1 k x
  rw [Nat.add_comm 1 k] at h
  rw [h, padk_mod, padk, padk]
  simp
theorem padk_next (a b x : Nat) : padk (a + b) x = padk a (x / 10 ^ b) ++ padk b x := by rw [padk_add, padk_mod]
/-- Where the outer loop of Decimal stands. -/
structure DE (x y j : Nat) (out : List UInt8) : Prop where
  y : y = x / 10 ^ (18 * j)
  o : out = (padk (18 * j) x).reverse
theorem DE.len {x y j : Nat} {out : List UInt8} (h : DE x y j out) : out.length = 18 * j := by rw [h.o, List.length_reverse, padk_length]
theorem DE.few {K x y j : Nat} {out : List UInt8} (hx : x < 2 ^ K) (h : DE x y j out) (hy : 0 < y) : 18 * j ≤ K := by
  have h1 : 10 ^ (18 * j) ≤ x := by
    rcases Nat.lt_or_ge x (10 ^ (18 * j)) with h2 | h2
    · rw [h.y, Nat.div_eq_of_lt h2] at hy; omega
    · exact h2
  have h2 : 2 ^ (18 * j) ≤ 10 ^ (18 * j) := Nat.pow_le_pow_left (by omega) _
  have h3 := (Nat.pow_lt_pow_iff_right (show 1 < 2 by omega)).1 (Nat.lt_of_le_of_lt (Nat.le_trans h2 h1) hx)
  omega
theorem DE.next {x y j : Nat} {out : List UInt8} (h : DE x y j out) : DE x (y / 10 ^ 18) (j + 1) (out ++ (padk 18 (y % 10 ^ 18)).reverse) := by
  refine ⟨?_, ?_⟩
  · rw [h.y, Nat.div_div_eq_div_mul, ← Nat.pow_add, show 18 * j + 18 = 18 * (j + 1) by omega]
  · rw [padk_mod, h.o, ← List.reverse_append, h.y, ← padk_next, show 18 + 18 * j = 18 * (j + 1) by omega]
theorem DE.done {x j : Nat} {out : List UInt8} (h : DE x 0 j out) : out.reverse.dropWhile (· == 48) = decS x := by
  rw [h.o, List.reverse_reverse]
  refine bare_padk ?_
  have h1 := h.y
  rcases Nat.lt_or_ge x (10 ^ (18 * j)) with h2 | h2
  · exact h2
  · have := Nat.div_pos h2 (Nat.pow_pos (by omega)); omega
theorem Dis.ne {u v : Value} (h : Dis u v) : u.ownBlock = none ∨ u.ownBlock ≠ v.ownBlock := by
  rcases hu : u.ownBlock with _ | k
  · exact Or.inl rfl
  · exact Or.inr fun he => h k hu he.symm
theorem strOfNums_bts (L : List UInt8) : strOfNums (bts L) = ⟨L.toArray⟩ := Lib.Lz.strOfNums_map L
set_option maxRecDepth 100000 in
set_option maxHeartbeats 4000000 in
theorem rdecimal_c (v : Value) (x : Nat) (w : World) (h : NS w v x) (hw : wl x ≤ 2000) :
    Calls Tryz.prog 31 #[v] w (fun e w' => e = .returned (.string ⟨(decS x).toArray⟩) ∧ Below w.heap.size w w') := by
  have C1 := Lib.hid (rtrim_c _ _ _ h)
  have hx : x < 2 ^ (64 * wl x) := by
    have := lt_wl x
    rwa [B_pow, ← Nat.pow_mul] at this
  obtain ⟨K, hK⟩ : ∃ K, K = 64 * wl x := ⟨_, rfl⟩
  rw [← hK] at hx
  have hK9 : K ≤ 128000 := by omega
  have HX := Lib.hid hx
  have HK := Lib.hid hK9
  have C86 : Hid (∀ v y W, NT W v y → Calls Tryz.prog 86 #[v, .int .u64 1000000000000000000] W (fun e w' => ∃ v u, e = .returned (.tuple #[v, u]) ∧ NT w' v (y / 10 ^ 18) ∧ NT w' u (y % 10 ^ 18) ∧ (∀ k, v.ownBlock = some k → W.heap.size ≤ k) ∧ Below W.heap.size W w')) := fun v y W h => by
    have := small_new v y 1000000000000000000 W h.ns (by omega) (by omega)
    have e1 : (1000000000000000000 : Int).toNat = 10 ^ 18 := by decide
    rwa [e1] at this
  have C87 : Hid (∀ v y W, NT W v y → y < 10 ^ 18 → Calls Tryz.prog 87 #[v, .int .i64 0] W (fun e w' => e = .returned (.int .u64 (y : Int)) ∧ w' = W)) := fun v y W h hy => by
    have := rword_c v y 0 W h.ns
    have e1 : wd y 0 = (y : Int) := by
      unfold wd
      rw [Nat.pow_zero, Nat.div_one, Nat.mod_eq_of_lt]
      exact Nat.lt_trans hy (by decide)
    rwa [e1] at this
  obtain ⟨S, hS⟩ : ∃ S, S = decS x := ⟨_, rfl⟩
  rw [← hS]
  have HS := Lib.hid hS
  clear h hx hK hK9 hS
  go_enter Tryz.func31, Tryz.ntmps31
  go_wp2_with fail
  (with_reducible refine C1.out.mono ?_); rintro e w1 ⟨v1, rfl, hv1, hb1⟩
  have HV1 := Lib.hid hv1
  have HB1 := Lib.hid hb1
  clear hv1 hb1
  go_wp2_with fail
  go_loopw [0, 3, 4, 5, 6] (fun t0 t3 t4 t5 t6 wr => ∃ (y j : Nat) (out : List UInt8), NT wr t0 y ∧ Hid (0 < wl y → Dis t0 t3) ∧ wr.ownsRow w.heap.size 5 1 t3 (bts out).length (nums .u8 (bts out)) ∧ Below w.heap.size w wr ∧ Hid (DE x y j out) ∧ Hid (out.length ≤ 130000)) (fun _ t3 _ _ _ _ => 200000 - lenOf t3)
  case atStart => exact ⟨x, 0, [], HV1.out, (fun _ k _ h => (by cases h)), own_nil _ _ _ _, HB1.out, ⟨by simp, rfl⟩, by show _ ≤ _; simp⟩
  case round =>
    obtain ⟨y, j, out, hy, hds, ho, hb, hd, hlen⟩ := hrel
    obtain ⟨A0, c0, rfl, g1, g2, g3⟩ := hy.out
    have HY := Lib.hid hy
    have HO := Lib.hid ho
    have HB := Lib.hid hb
    obtain ⟨A3, c3, rfl⟩ := own_slice ho
    clear hy ho hb g3
    rcases Nat.eq_zero_or_pos y with hy0 | hy0
    · have e0 : wl y = 0 := by rw [hy0, wl_zero]
      rw [e0] at HY g1 g2 ⊢
      have hfin : out.reverse.dropWhile (· == 48) = S := by rw [HS.out]; rw [hy0] at hd; exact hd.out.done
      have HFIN := Lib.hid hfin
      have hlen9 := hlen.out
      rw [← bts_length] at hlen9
      clear hfin hds hd hy0 e0
      go_wp2_with fail
      go_loop [7] (fun t7 => ∃ k : Nat, k ≤ out.length ∧ t7 = .int .i64 k ∧ Hid (((out.take k).reverse).dropWhile (· == 48) = S)) (fun t7 => (intOf t7).toNat)
      case atStart => exact ⟨out.length, Nat.le_refl _, by rw [bts_length], by show _ = _; rw [List.take_length]; exact HFIN.out⟩
      case round =>
        obtain ⟨k, hk, rfl, hs⟩ := hrel
        rcases Nat.eq_zero_or_pos k with hk0 | hk0
        · have hd0 : (out.take k).reverse = S := by rw [← hs.out, hk0]; rfl
          have HD := Lib.hid hd0
          have hk9 : ¬ (0 < (k : Int)) := by omega
          clear hs hd0
          have hkS : k = S.length := by rw [← HD.out, List.length_reverse, List.length_take]; omega
          have HKS := Lib.hid hkS
          clear hkS
          go_wp2_with fail
          go_loopw [8, 50] (fun t8 t50 wi => ∃ i : Nat, i ≤ k ∧ t50 = .int .i64 i ∧ wi.ownsRow w.heap.size 5 1 t8 (bts (S.take i)).length (nums .u8 (bts (S.take i))) ∧ wi.ownsRow w.heap.size 5 1 (.slice A3 (bts out).length c3) (bts out).length (nums .u8 (bts out)) ∧ Hid (Dis (.slice A3 (bts out).length c3) t8) ∧ Below w.heap.size w wi) (fun _ t50 _ => k - (intOf t50).toNat)
          case atStart => exact ⟨0, Nat.zero_le _, rfl, own_nil _ _ _ _, HO.out, (fun _ _ h => (by cases h)), HB.out⟩
          case round =>
            obtain ⟨i, hi, rfl, hos, hoo, hdi, hbi⟩ := hrel
            have HOS := Lib.hid hos
            have HOO := Lib.hid hoo
            have HBI := Lib.hid hbi
            obtain ⟨A8, c8, rfl⟩ := own_slice hos
            have hrd := own_reads' hoo
            clear hos hoo hbi
            by_cases hik : i < k
            · try (exfalso; omega)
              all_goals (
                obtain ⟨m, hm⟩ : ∃ m, m = k - 1 - i := ⟨_, rfl⟩
                have hml : m < out.length := by omega
                have eqm : ((k : Int) - 1) - (i : Int) = (m : Int) := by omega
                obtain ⟨ad, rfl, hc⟩ := hrd.2.2 (by rw [bts_length]; omega)
                have hc0 := hc m (by rw [bts_length]; omega)
                clear hc hrd
                rw [bts_getD _ _ hml] at hc0
                have hSi : i < S.length := by have := HKS.out; omega
                have hSc : S[i] = out[m] := by
                  have h1 : S[i]? = some out[m] := by
                    rw [← HD.out, List.getElem?_reverse (by rw [List.length_take]; omega), List.length_take, List.getElem?_take]
                    rw [show min k out.length - 1 - i = m by omega, if_pos (by omega), List.getElem?_eq_getElem hml]
                  rw [List.getElem?_eq_getElem hSi] at h1
                  exact Option.some.inj h1
                have hbt : bts (S.take (i + 1)) = bts (S.take i) ++ [((out[m]).toNat : Int)] := by
                  rw [List.take_succ_eq_append_getElem hSi, bts_snoc, hSc]
                have HBT := Lib.hid hbt
                have hr0 : 0 ≤ ((out[m]).toNat : Int) := by omega
                have hr1 : ((out[m]).toNat : Int) < 256 := by have := (out[m]).toNat_lt; omega
                have hxl : (bts (S.take i)).length ≤ 130000 := by rw [bts_length, List.length_take]; have := hlen.out; omega
                have m0 : (0 : Int) ≤ (m : Int) := by omega
                have m1 : (m : Int) < ((bts out).length : Int) := by rw [bts_length]; omega
                generalize ((out[m]).toNat : Int) = cc at *
                clear hSc hbt hm hml
                generalize bts (S.take i) = xs at *
                go_wp2_with (at_builtin
                             go_must (refine print_append_num (w0 := w) w.heap.size rfl (.tmp 53) (.tmp 61) 116 5 .u8 1 rfl Tryz.underlying116 info5 (by omega) (.slice A8 xs.length c8) xs cc rfl rfl HOS.out HBI.out HBI.out.size (by omega) ?_)
                             intro v5 w5 ho5 hb5 hg5 hm5)
                exact ⟨⟨i + 1, by omega, by go_num, by rw [HBT.out]; exact ho5, own_other HOO.out hg5 hdi.out.ne, hdi.out.moved (own_lt HOO.out) hm5, hb5⟩, by simp [intOf]; omega⟩)
            · obtain rfl : i = k := by omega
              have hkc := own_string (P := Tryz.prog) Tryz.underlying116 Tryz.underlying5 Tryz.underlying9 HOS.out
              rw [List.take_of_length_le (by have := HKS.out; omega), strOfNums_bts] at hkc
              have HKC := Lib.hid hkc
              clear hkc hrd
              rw [List.take_of_length_le (by have := HKS.out; omega)] at HOS ⊢
              have hkc := HKC.out
              go_wp2_with fail
              go_ret
              exact ⟨rfl, HBI.out⟩
        · obtain ⟨k, rfl⟩ : ∃ m, k = m + 1 := ⟨k - 1, by omega⟩
          have hkl : k < out.length := by omega
          have hrd := own_reads' HO.out
          obtain ⟨ad, rfl, hc⟩ := hrd.2.2 (by rw [bts_length]; omega)
          have hc0 := hc k (by rw [bts_length]; omega)
          rw [bts_getD _ _ hkl] at hc0
          clear hc hrd
          have htk : (out.take (k + 1)).reverse = out[k] :: (out.take k).reverse := by
            rw [List.take_succ_eq_append_getElem hkl]; simp
          have hs2 := hs.out
          rw [htk, List.dropWhile_cons] at hs2
          have eqk : ((k + 1 : Nat) : Int) - 1 = (k : Int) := by omega
          have k1 : (k : Int) < ((bts out).length : Int) := by rw [bts_length]; omega
          by_cases h48 : out[k] = 48
          · rw [if_pos (by rw [h48]; rfl)] at hs2
            have HS2 := Lib.hid hs2
            have hcc : (((out[k]).toNat : Int) == 48) = true := by rw [h48]; rfl
            generalize ((out[k]).toNat : Int) = cc at *
            clear hs hs2 htk h48
            go_wp2_with fail
            go_round
            case rel => exact ⟨k, by omega, by go_num, HS2.out⟩
            case measure => simp [intOf]
          · have hne : (out[k] == 48) = false := by simpa using h48
            rw [hne, if_neg (by simp), ← htk] at hs2
            have HD := Lib.hid hs2
            have hcc : (((out[k]).toNat : Int) == 48) = false := by
              rw [beq_eq_false_iff_ne]
              intro h9
              refine h48 (UInt8.toNat_inj.1 ?_)
              have : (48 : UInt8).toNat = 48 := rfl
              omega
            generalize ((out[k]).toNat : Int) = cc at *
            clear hs hs2 htk h48 hne
            have hkS : (k + 1) = S.length := by rw [← HD.out, List.length_reverse, List.length_take]; omega
            have HKS := Lib.hid hkS
            clear hkS
            go_wp2_with fail
            go_loopw [8, 50] (fun t8 t50 wi => ∃ i : Nat, i ≤ (k + 1) ∧ t50 = .int .i64 i ∧ wi.ownsRow w.heap.size 5 1 t8 (bts (S.take i)).length (nums .u8 (bts (S.take i))) ∧ wi.ownsRow w.heap.size 5 1 (.slice (some ad) (bts out).length c3) (bts out).length (nums .u8 (bts out)) ∧ Hid (Dis (.slice (some ad) (bts out).length c3) t8) ∧ Below w.heap.size w wi) (fun _ t50 _ => (k + 1) - (intOf t50).toNat)
            case atStart => exact ⟨0, Nat.zero_le _, rfl, own_nil _ _ _ _, HO.out, (fun _ _ h => (by cases h)), HB.out⟩
            case round =>
              obtain ⟨i, hi, rfl, hos, hoo, hdi, hbi⟩ := hrel
              have HOS := Lib.hid hos
              have HOO := Lib.hid hoo
              have HBI := Lib.hid hbi
              obtain ⟨A8, c8, rfl⟩ := own_slice hos
              have hrd := own_reads' hoo
              clear hos hoo hbi
              by_cases hik : i < (k + 1)
              · try (exfalso; omega)
                all_goals (
                  obtain ⟨m, hm⟩ : ∃ m, m = (k + 1) - 1 - i := ⟨_, rfl⟩
                  have hml : m < out.length := by omega
                  have eqm : (k : Int) - (i : Int) = (m : Int) := by omega
                  obtain ⟨ad2, he9, hc⟩ := hrd.2.2 (by rw [bts_length]; omega); injection he9 with he9; subst he9
                  have hc0 := hc m (by rw [bts_length]; omega)
                  clear hc hrd
                  rw [bts_getD _ _ hml] at hc0
                  have hSi : i < S.length := by have := HKS.out; omega
                  have hSc : S[i] = out[m] := by
                    have h1 : S[i]? = some out[m] := by
                      rw [← HD.out, List.getElem?_reverse (by rw [List.length_take]; omega), List.length_take, List.getElem?_take]
                      rw [show min (k + 1) out.length - 1 - i = m by omega, if_pos (by omega), List.getElem?_eq_getElem hml]
                    rw [List.getElem?_eq_getElem hSi] at h1
                    exact Option.some.inj h1
                  have hbt : bts (S.take (i + 1)) = bts (S.take i) ++ [((out[m]).toNat : Int)] := by
                    rw [List.take_succ_eq_append_getElem hSi, bts_snoc, hSc]
                  have HBT := Lib.hid hbt
                  have hr0 : 0 ≤ ((out[m]).toNat : Int) := by omega
                  have hr1 : ((out[m]).toNat : Int) < 256 := by have := (out[m]).toNat_lt; omega
                  have hxl : (bts (S.take i)).length ≤ 130000 := by rw [bts_length, List.length_take]; have := hlen.out; omega
                  have m0 : (0 : Int) ≤ (m : Int) := by omega
                  have m1 : (m : Int) < ((bts out).length : Int) := by rw [bts_length]; omega
                  generalize ((out[m]).toNat : Int) = cc at *
                  clear hSc hbt hm hml
                  generalize bts (S.take i) = xs at *
                  go_wp2_with (at_builtin
                               go_must (refine print_append_num (w0 := w) w.heap.size rfl (.tmp 53) (.tmp 61) 116 5 .u8 1 rfl Tryz.underlying116 info5 (by omega) (.slice A8 xs.length c8) xs cc rfl rfl HOS.out HBI.out HBI.out.size (by omega) ?_)
                               intro v5 w5 ho5 hb5 hg5 hm5)
                  exact ⟨⟨i + 1, by omega, by go_num, by rw [HBT.out]; exact ho5, own_other HOO.out hg5 hdi.out.ne, hdi.out.moved (own_lt HOO.out) hm5, hb5⟩, by simp [intOf]; omega⟩)
              · obtain rfl : i = (k + 1) := by omega
                have hkc := own_string (P := Tryz.prog) Tryz.underlying116 Tryz.underlying5 Tryz.underlying9 HOS.out
                rw [List.take_of_length_le (by have := HKS.out; omega), strOfNums_bts] at hkc
                have HKC := Lib.hid hkc
                clear hkc hrd
                rw [List.take_of_length_le (by have := HKS.out; omega)] at HOS ⊢
                have hkc := HKC.out
                go_wp2_with fail
                go_ret
                exact ⟨rfl, HBI.out⟩
    · have e0 : 0 < wl y := by rw [wl_pos (by omega)]; omega
      have hN := hd.out.next
      have HDN := Lib.hid hN
      have hfew := hd.out.few HX.out hy0
      have hl9 : out.length ≤ 128000 := by have := hd.out.len; have := HK.out; omega
      have hr := Nat.mod_lt y (show 0 < 10 ^ 18 by decide)
      have HR := Lib.hid hr
      generalize wl y = m0 at *
      clear hd hy0 hN hfew hr
      go_wp2_with fail
      (with_reducible refine (C86.out _ _ _ HY.out).mono ?_); rintro e w2 ⟨v2, u2, rfl, hv2, hu2, hk2, hb2⟩
      have HV2 := Lib.hid hv2
      have HU2 := Lib.hid hu2
      have HDS := Lib.hid (Dis.new (B := wr.heap.size) (u := v2) (v := .slice A3 (bts out).length c3) hk2 (own_lt HO.out))
      have HO2 := Lib.hid (pw_own_below HO.out hb2)
      have HB2 := Lib.hid (btrans HB.out hb2)
      generalize y / 10 ^ 18 = q at *
      generalize y % 10 ^ 18 = n0 at *
      clear hv2 hu2 hk2 hb2
      go_wp2_with fail
      (with_reducible refine (C87.out _ _ _ HU2.out HR.out).mono ?_); rintro e w' ⟨rfl, rfl⟩
      go_wp2_with fail
      go_loopw [3, 6, 22] (fun t3 t6 t22 wi => ∃ i : Nat, i ≤ 18 ∧ t22 = .int .i64 i ∧ t6 = .int .u64 ((n0 / 10 ^ i : Nat) : Int) ∧ NT wi v2 q ∧ Hid (0 < wl q → Dis v2 t3) ∧ wi.ownsRow w.heap.size 5 1 t3 (bts (out ++ (padk i n0).reverse)).length (nums .u8 (bts (out ++ (padk i n0).reverse))) ∧ Below w.heap.size w wi) (fun _ _ t22 _ => 18 - (intOf t22).toNat)
      case atStart => exact ⟨0, by omega, rfl, by simp, HV2.out, (fun _ => HDS.out), by simpa [padk] using HO2.out, HB2.out⟩
      case round =>
        obtain ⟨i, hi, rfl, rfl, hvi, hdi, hoi, hbi⟩ := hrel
        have HVI := Lib.hid hvi
        have HOI := Lib.hid hoi
        have HBI := Lib.hid hbi
        obtain ⟨A6, c6, rfl⟩ := own_slice hoi
        have hll : (out ++ (padk i n0).reverse).length ≤ 128018 := by
          rw [List.length_append, List.length_reverse, padk_length]; omega
        rw [← bts_length] at hll
        clear hvi hoi hbi
        by_cases hi18 : i < 18
        · have hnx : Hid (n0 / 10 ^ (i + 1) = n0 / 10 ^ i / 10) := by show _ = _; rw [Nat.pow_succ, Nat.div_div_eq_div_mul]
          have hfr := padk_front i n0
          have hc9 : n0 / 10 ^ i < 1000000000000000000 := Nat.lt_of_le_of_lt (Nat.div_le_self _ _) (by have := HR.out; simpa using this)
          have hbt : bts (out ++ (padk (i + 1) n0).reverse) = bts (out ++ (padk i n0).reverse) ++ [48 + ((n0 / 10 ^ i : Nat) : Int) % 10] := by
            rw [hfr, List.reverse_cons, ← List.append_assoc, bts_snoc, dgt_nat (Nat.mod_lt _ (by omega))]
            simp
          have HBT := Lib.hid hbt
          obtain ⟨c, hc⟩ : ∃ c, c = n0 / 10 ^ i := ⟨_, rfl⟩
          rw [← hc] at HBT hnx hc9 ⊢
          have c0' : (0 : Int) ≤ (c : Int) := by omega
          have hcm0 : 0 ≤ (c : Int) % 10 := by omega
          have hcm1 : (c : Int) % 10 < 10 := by omega
          clear hfr hbt hc
          generalize bts (out ++ (padk i n0).reverse) = xs at *
          go_wp2_with (at_builtin
                       go_must (refine print_append_num (w0 := w) w.heap.size rfl (.tmp 24) (.tmp 29) 116 5 .u8 1 rfl Tryz.underlying116 info5 (by omega) (.slice A6 xs.length c6) xs (48 + (c : Int) % 10) rfl rfl HOI.out HBI.out HBI.out.size (by omega) ?_)
                       intro v5 w5 ho5 hb5 hg5 hm5)
          exact ⟨⟨i + 1, by omega, by go_num, congrArg (Value.int .u64) (by rw [hnx.out]; omega), HVI.out.grown hg5 (fun hq => hdi.out hq), (fun hq => (hdi.out hq).moved (fun k hk => HVI.out.lt hq hk) hm5), by rw [HBT.out]; exact ho5, hb5⟩, by simp [intOf]; omega⟩
        · obtain rfl : i = 18 := by omega
          go_wp2_with fail
          exact ⟨⟨q, j + 1, out ++ (padk 18 n0).reverse, HVI.out, hdi, HOI.out, HBI.out, HDN.out, by show _ ≤ _; rw [← bts_length]; omega⟩, by simp only [lenOf, bts_length, List.length_append, List.length_reverse, padk_length]; omega⟩
end Go.Proofs.YtaepgdkpaffaaaaGreatDoor

/- The texts of infinite numbers and NaNs: caliperref07.text, grammar.text. -/
namespace Go.Proofs.YtaepgdkpaffaaaaGreatDoor
open Go.RowKit Go.Proofs.YtaepgdkpaffaaaaGreatDoorW.PrintWords Cal

def sgn (sg : Bool) : List UInt8 := if sg then [45] else []
def textInf (sg : Bool) : List UInt8 := sgn sg ++ [105, 110, 102]
def textNaN (sg sl : Bool) (ds : List UInt8) : List UInt8 := sgn sg ++ (if sl then [115] else []) ++ [110, 97, 110] ++ (if ds = [] then [] else [40] ++ ds ++ [41])
theorem ret_str {a b : ByteArray} (h : a.data.toList = b.data.toList) : Ending.returned (.string a) = .returned (.string b) := by
  have : a = b := ByteArray.ext (Array.toList_inj.1 h)
  rw [this]
set_option maxRecDepth 100000 in
theorem rtext_inf (sg : Bool) (ex : Int) (ds : List UInt8) (w : World) :
    Calls Tryz.prog 95 #[.agg #[.int .i64 2, .bool sg, .bool false, .string ⟨ds.toArray⟩, .int .i64 ex]] w (fun e w' => e = .returned (.string ⟨(textInf sg).toArray⟩) ∧ Below w.heap.size w w') := by
  cases sg
  all_goals
    go_enter Tryz.func95, Tryz.ntmps95
    go_wp2_with fail
    go_ret
    exact ⟨ret_str (by rfl), (Below.refl _ _).alloc (Nat.le_refl _) _⟩
set_option maxRecDepth 100000 in
theorem rtext_nan (sg sl : Bool) (ex : Int) (ds : List UInt8) (w : World) (hd : ds.length ≤ 1000000) :
    Calls Tryz.prog 95 #[.agg #[.int .i64 3, .bool sg, .bool sl, .string ⟨ds.toArray⟩, .int .i64 ex]] w (fun e w' => e = .returned (.string ⟨(textNaN sg sl ds).toArray⟩) ∧ Below w.heap.size w w') := by
  rcases ds with _ | ⟨c, cs⟩
  · cases sg <;> cases sl
    all_goals
      go_enter Tryz.func95, Tryz.ntmps95
      go_wp2_with fail
      go_ret
      exact ⟨ret_str (by rfl), (Below.refl _ _).alloc (Nat.le_refl _) _⟩
  · have hl : cs.length + 1 ≤ 1000000 := by simpa using hd
    cases sg <;> cases sl
    all_goals
      go_enter Tryz.func95, Tryz.ntmps95
      go_wp2_with fail
      go_ret
      exact ⟨ret_str (by simp [textNaN, sgn, ByteArray.data_append]), (Below.refl _ _).alloc (Nat.le_refl _) _⟩
set_option maxRecDepth 100000 in
theorem gtext_inf (sg : Bool) (ex : Int) (ds : List UInt8) (w : World) :
    Calls Tryz.prog 133 #[.agg #[.int .i64 2, .bool sg, .bool false, .string ⟨ds.toArray⟩, .int .i64 ex]] w (fun e w' => e = .returned (.string ⟨(textInf sg).toArray⟩) ∧ Below w.heap.size w w') := by
  cases sg
  all_goals
    go_enter Tryz.func133, Tryz.ntmps133
    go_wp2_with fail
    go_ret
    exact ⟨ret_str (by rfl), (Below.refl _ _).alloc (Nat.le_refl _) _⟩
set_option maxRecDepth 100000 in
theorem gtext_nan (sg sl : Bool) (ex : Int) (ds : List UInt8) (w : World) (hd : ds.length ≤ 1000000) :
    Calls Tryz.prog 133 #[.agg #[.int .i64 3, .bool sg, .bool sl, .string ⟨ds.toArray⟩, .int .i64 ex]] w (fun e w' => e = .returned (.string ⟨(textNaN sg sl ds).toArray⟩) ∧ Below w.heap.size w w') := by
  rcases ds with _ | ⟨c, cs⟩
  · cases sg <;> cases sl
    all_goals
      go_enter Tryz.func133, Tryz.ntmps133
      go_wp2_with fail
      go_ret
      exact ⟨ret_str (by rfl), (Below.refl _ _).alloc (Nat.le_refl _) _⟩
  · have hl : cs.length + 1 ≤ 1000000 := by simpa using hd
    cases sg <;> cases sl
    all_goals
      go_enter Tryz.func133, Tryz.ntmps133
      go_wp2_with fail
      go_ret
      exact ⟨ret_str (by simp [textNaN, sgn, ByteArray.data_append]), (Below.refl _ _).alloc (Nat.le_refl _) _⟩
end Go.Proofs.YtaepgdkpaffaaaaGreatDoor

/- caliperref05: Unpack of what is no pattern; both cases in one. -/
namespace Go.Proofs.YtaepgdkpaffaaaaGreatDoor
open Go.RowKit Go.Proofs.YtaepgdkpaffaaaaGreatDoorW.PrintWords Cal

set_option maxRecDepth 100000 in
theorem runpack_0 (n : Int) (x : Nat) (w : World) (hx : x < 2 ^ 256) (hg : good n x = false) :
    Calls Tryz.prog 18 #[.int .i64 n, bv x] w (fun e w' => e = .returned (.tuple #[.agg zero33, .int .i64 1]) ∧ Below w.heap.size w w') := by
  have C1 := Lib.hid (fun W => rgood_c n x W hx)
  rw [hg] at C1
  clear hg hx
  unfold bv at *
  go_enter Tryz.func18, Tryz.ntmps18
  go_wp2_with fail
  (with_reducible refine (C1.out _).mono ?_); rintro e w1 ⟨rfl, hb1⟩
  have e1 : (w.alloc (.cells #[.int .u64 (wd x 0), .int .u64 (wd x 1), .int .u64 (wd x 2), .int .u64 (wd x 3)] 24)).heap.size = w.heap.size + 1 := by
    show (w.heap.push _).size = _
    rw [Array.size_push]
  have n1 := heap_alloc_new (w.alloc (.cells #[.int .u64 (wd x 0), .int .u64 (wd x 1), .int .u64 (wd x 2), .int .u64 (wd x 3)] 24)) (.cells #[.int .i64 0, .bool false, .bool false, .int .i64 0, .int .u64 0, .int .u64 0, .int .u64 0, .int .u64 0] 33)
  have e2 : ((w.alloc (.cells #[.int .u64 (wd x 0), .int .u64 (wd x 1), .int .u64 (wd x 2), .int .u64 (wd x 3)] 24)).alloc (.cells #[.int .i64 0, .bool false, .bool false, .int .i64 0, .int .u64 0, .int .u64 0, .int .u64 0, .int .u64 0] 33)).heap.size = w.heap.size + 2 := by
    show ((w.heap.push _).push _).size = _
    rw [Array.size_push, Array.size_push]
  rw [e1] at n1
  have hz1 := (hb1.block (w.heap.size + 1) (by omega)).trans n1
  have hbb : Below w.heap.size w w1 := ((((Below.refl _ _).alloc (Nat.le_refl _) _).alloc (by omega) _).trans (hb1.mono (by omega)))
  clear n1 e1 e2 hb1 C1
  go_wp2_with (refine wpList_store_row rfl 33 (.tmp 4) (.tmp 16) rfl (w.heap.size + 1) zero33 ?_ ?_ 33 zero33 hz1 size33 ?_ ?_ ?_; (· rfl); (· rfl); (· rfl); (· simp [zero33, Value.oneCell']))
  (try simp only [Exit.inBlock, Exit.then])
  refine bodyPost_ret (results_cell_row_tmp rfl _ _ (w.heap.size + 1) 33 zero33 (0, 0) _ rfl (setRow_heap _ _ _ _ _ _ hz1) Tryz.underlying33 rfl size33 (.int .i64 1) rfl) rfl ?_
  exact ⟨rfl, below_row hbb (Nat.le_succ _) _⟩
/-- What Unpack answers. -/
def undatI (n : Int) (x : Nat) : Array Value × Int := if good n x = true then ((undat n.toNat x).cells, 0) else (zero33, 1)
theorem good_six {n : Int} {x : Nat} (h : good n x = true) : 1 ≤ n ∧ n ≤ 6 := by
  unfold good at h
  rw [Bool.and_eq_true] at h
  simpa using h.1
theorem prec_pos (n : Nat) : ∃ p, prec n = p + 1 := by
  unfold prec; split <;> exact ⟨_, rfl⟩
theorem runpack_c (n : Int) (x : Nat) (w : World) (hx : x < 2 ^ 256) :
    Calls Tryz.prog 18 #[.int .i64 n, bv x] w (fun e w' => e = .returned (.tuple #[.agg (undatI n x).1, .int .i64 (undatI n x).2]) ∧ Below w.heap.size w w') := by
  unfold undatI
  rcases hg : good n x with _ | _
  · rw [if_neg (by simp)]
    exact runpack_0 n x w hx hg
  · rw [if_pos rfl]
    have h6 := good_six hg
    obtain ⟨m, rfl⟩ := Int.eq_ofNat_of_zero_le (show 0 ≤ n by omega)
    obtain ⟨p, hp⟩ := prec_pos m
    exact runpack_1 m x p w (by omega) (by omega) hx hg hp
end Go.Proofs.YtaepgdkpaffaaaaGreatDoor
