import Derived.Test.YtaepgdkpaffaaaaGreatDoorG1
import Derived.Lib.ItoaMem
import Derived.Lib.AppendIntMem
import Derived.Lib.SmallJoins
import Derived.Lib.ItoaNum
set_option linter.unusedVariables false
set_option linter.unusedSimpArgs false
/- strconv: Itoa, FormatUint at base 10; the table of powers that they read. -/
namespace Go.Proofs.YtaepgdkpaffaaaaGreatDoor
open Go.RowKit Go.Proofs.YtaepgdkpaffaaaaGreatDoorW.PrintWords Cal Go.Sort

/-- The table of powers of ten, as its initialiser lays it. -/
def TB (w : World) : Prop := Lib.TabIs Tryz.prog w "internal/strconv.uint64pow10" .u64 Lib.pow10Tab
theorem tb_named : Tryz.prog.globalNamed "internal/strconv.uint64pow10" = some 2 := by kernel_rfl
theorem TB.ext {w w' : World} (h : TB w) (hb : Below w.heap.size w w') : TB w' := Go.Joins.tab_stays tb_named h hb (Nat.le_refl _)
theorem itoa_c (n : Int) (w : World) (h0 : -9223372036854775808 ≤ n) (h1 : n ≤ 9223372036854775807) (ht : TB w) :
    Calls Tryz.prog 37 #[.int .i64 n] w (fun e w' => e = .returned (.string ⟨(Lib.itoa n).toArray⟩) ∧ Below w.heap.size w w') := by
  refine (Tryz.strconv_Itoa n h0 h1 w ht).mono ?_
  rintro e w' ⟨rfl, k, os, rfl⟩
  exact ⟨rfl, Lib.below_grow _ _ (Nat.le_refl _) _ _⟩
set_option maxRecDepth 100000 in
set_option maxHeartbeats 2000000 in
theorem fu_in (u : Nat) (w : World) (hu64 : u < 18446744073709551616) (htab : TB w) :
    Calls Tryz.prog 161 #[.int .u64 u, .int .i64 10] w (fun e w' => e = .returned (.string ⟨(Lib.decDigits u).toArray⟩) ∧ Below w.heap.size w w') := by
  by_cases hs : u < 100
  · have hs' : (u : Int) < 100 := by omega
    go_enter Tryz.func161, Tryz.ntmps161
    go_wp2_with (go_at_call 191; refine (Tryz.internal_strconv_small u hs _).mono ?_; rintro e w' ⟨rfl, rfl⟩)
    go_ret
    exact ⟨rfl, Below.refl _ _⟩
  · have hs' : ¬ (u : Int) < 100 := by omega
    have hu1 : 1 ≤ u := by omega
    have hnd20 : Lib.nDigits u ≤ 20 := by have := Lib.numDigits_eq u hu1 hu64; split at this <;> omega
    have hb3 : (Lib.nDigits u : Int) ≤ 24 := by omega
    have hal : Tryz.prog.arrayLen 199 = 24 := by simp [Program.arrayLen, Tryz.underlying199]
    have hsl : ∀ W, (Instr.sliceAt 199 (.pointer (some ⟨w.heap.size, 0, none⟩)) none (some (.int .i64 (Lib.nDigits u : Int))) none).run Tryz.prog W = .ok (.slice (some ⟨w.heap.size, 0, none⟩) (Lib.nDigits u) 24) W := fun W => by
      rw [run_sliceAt_array_h W 199 ⟨w.heap.size, 0, none⟩ (by simp [Program.arrayLen, Program.elem, Tryz.underlying199]) .i64 (Lib.nDigits u : Int) (by omega) (by rw [hal]; omega)]
      go_simp
      try omega
    have hH0 := Lib.holds_zero0 w 199 (Lib.nDigits u) (by omega)
    have hfmt := Tryz.internal_strconv_formatBase10 w.heap.size 0 24 u (Array.replicate (Lib.nDigits u) 0) (w.alloc (.cells Lib.zeros24 199)) hH0 (by rw [Array.size_replicate]; exact Lib.lt_pow_nDigits u) hu64 (by rw [Array.size_replicate]; omega)
    rw [Array.size_replicate] at hfmt
    have HF := Lib.hid hfmt
    have HH0 := Lib.hid hH0
    have HT := Lib.hid (htab.ext ((Below.refl _ _).alloc (Nat.le_refl _) (.cells Lib.zeros24 199)))
    clear hH0 hal hfmt htab
    go_enter Tryz.func161, Tryz.ntmps161
    go_wp2_with fail
    refine (Tryz.internal_strconv_numDigits u hu1 hu64 _ HT.out).mono ?_; rintro e w' ⟨rfl, rfl⟩
    go_wp2_with fail
    refine HF.out.mono ?_
    rintro e w' ⟨rfl, k, v', dk, rfl, hF⟩
    have hcv : (convert 116 9 (.slice (some ⟨w.heap.size, 0, none⟩) (Lib.nDigits u) 24)).run Tryz.prog ((putRow (fun (b : UInt8) => Value.int .u8 (b.toNat : Int)) (w.alloc (.cells Lib.zeros24 199)) w.heap.size 0 dk).drewN k) = .ok (.string ⟨(Lib.decDigits u).toArray⟩) ((putRow (fun (b : UInt8) => Value.int .u8 (b.toNat : Int)) (w.alloc (.cells Lib.zeros24 199)) w.heap.size 0 dk).drewN k) := by
      have h := run_convert_bytes_back (P := Tryz.prog) ((putRow (fun (b : UInt8) => Value.int .u8 (b.toNat : Int)) (w.alloc (.cells Lib.zeros24 199)) w.heap.size 0 dk).drewN k) 116 9 5 ⟨w.heap.size, 0, none⟩ 24 (Lib.decDigits u) Tryz.underlying116 Tryz.underlying5 Tryz.underlying9 (fun j hj => by
        rw [Lib.row_is_numeral hF j hj, Lib.add_plain, World.cell?_drewN]
        exact cell?_putRow (fun (b : UInt8) => Value.int .u8 (b.toNat : Int)) _ w.heap.size 0 _ dk HH0.out (by rw [hF.size, Array.size_replicate]) j (by rw [hF.size]; rw [Lib.decDigits_length] at hj; exact hj))
      rw [Lib.decDigits_length] at h
      exact h
    obtain ⟨os, eo⟩ := Lib.fin_at w (.cells Lib.zeros24 199) dk k 0
    rw [eo] at hcv ⊢
    clear eo
    go_wp2_with fail
    go_ret
    exact ⟨rfl, Lib.below_grow _ _ (Nat.le_refl _) _ _⟩
theorem fu_c (u : Nat) (w : World) (hu64 : u < 18446744073709551616) (htab : TB w) :
    Calls Tryz.prog 110 #[.int .u64 u, .int .i64 10] w (fun e w' => e = .returned (.string ⟨(Lib.decDigits u).toArray⟩) ∧ Below w.heap.size w w') := by
  have C := Lib.hid (fu_in u w hu64 htab)
  clear hu64 htab
  go_enter Tryz.func110, Tryz.ntmps110
  go_wp2_with fail
  (with_reducible refine C.out.mono ?_); rintro e w' ⟨rfl, hb⟩
  go_wp2_with fail
  go_ret
  exact ⟨rfl, hb⟩
end Go.Proofs.YtaepgdkpaffaaaaGreatDoor

/- Plain facts on decimal digits. -/
namespace Go.Proofs.YtaepgdkpaffaaaaGreatDoor
namespace Cal
open Go.Lib

def dgt (d : Nat) : UInt8 := UInt8.ofNat (48 + d)
theorem dgt_zero : dgt 0 = 48 := by decide
theorem dgt_ne {d : Nat} (h0 : d ≠ 0) (h : d < 10) : dgt d ≠ 48 := by
  have : d = 1 ∨ d = 2 ∨ d = 3 ∨ d = 4 ∨ d = 5 ∨ d = 6 ∨ d = 7 ∨ d = 8 ∨ d = 9 := by omega
  rcases this with rfl | rfl | rfl | rfl | rfl | rfl | rfl | rfl | rfl <;> decide
/-- k digits of a number, the lowest ones. -/
def padk : Nat → Nat → List UInt8
  | 0, _ => []
  | k + 1, r => padk k (r / 10) ++ [dgt (r % 10)]
theorem padk_length (k r : Nat) : (padk k r).length = k := by
  induction k generalizing r with
  | zero => rfl
  | succ k ih => simp [padk, ih]
theorem padk_zero (k : Nat) : padk k 0 = List.replicate k 48 := by
  induction k with
  | zero => rfl
  | succ k ih => rw [padk, Nat.zero_div, ih, Nat.zero_mod, dgt_zero, List.replicate_succ']
theorem decDigits_lt {u : Nat} (h : u < 10) : decDigits u = [dgt u] := by rw [decDigits, dif_pos h]; rfl
theorem decDigits_ge {u : Nat} (h : ¬ u < 10) : decDigits u = decDigits (u / 10) ++ [dgt (u % 10)] := by rw [decDigits, dif_neg h]; rfl
theorem decDigits_padk {q k r : Nat} (hq : 0 < q) (hr : r < 10 ^ k) : decDigits (q * 10 ^ k + r) = decDigits q ++ padk k r := by
  induction k generalizing r with
  | zero =>
    have : r = 0 := by simpa using hr
    subst this; simp [padk]
  | succ k ih =>
    have hp : 0 < 10 ^ k := Nat.pow_pos (by omega)
    have h1 : 10 ≤ q * 10 ^ (k + 1) := by
      rw [Nat.pow_succ, ← Nat.mul_assoc]
      have : 1 ≤ q * 10 ^ k := Nat.mul_pos hq hp
      omega
    rw [decDigits_ge (by omega)]
    have h2 : (q * 10 ^ (k + 1) + r) / 10 = q * 10 ^ k + r / 10 := by rw [Nat.pow_succ, ← Nat.mul_assoc]; omega
    have h3 : (q * 10 ^ (k + 1) + r) % 10 = r % 10 := by rw [Nat.pow_succ, ← Nat.mul_assoc]; omega
    rw [h2, h3, ih (by rw [Nat.pow_succ] at hr; omega), padk, List.append_assoc]
theorem decDigits_pos_len (u : Nat) : 0 < (decDigits u).length := by
  rw [decDigits_length]; exact nDigits_pos u
theorem decDigits_len_le {u k : Nat} (h : u < 10 ^ k) (hk : 0 < k) : (decDigits u).length ≤ k := by
  rw [decDigits_length]
  induction k generalizing u with
  | zero => omega
  | succ k ih =>
    by_cases h1 : u < 10
    · rw [nDigits_small h1]; omega
    · rw [nDigits_big h1]
      rcases Nat.eq_zero_or_pos k with rfl | hk0
      · simp at h; omega
      · have := ih (u := u / 10) (by rw [Nat.pow_succ] at h; omega) hk0
        omega
/-- Noughts ahead. -/
theorem padk_rep {k r : Nat} (hk : 0 < k) (hr : r < 10 ^ k) : padk k r = List.replicate (k - (decDigits r).length) 48 ++ decDigits r := by
  induction k generalizing r with
  | zero => omega
  | succ k ih =>
    rw [padk]
    by_cases h1 : r < 10
    · rw [decDigits_lt h1, Nat.div_eq_of_lt h1, Nat.mod_eq_of_lt h1, padk_zero]; simp
    · rcases Nat.eq_zero_or_pos k with rfl | hk0
      · simp at hr; omega
      · rw [ih hk0 (by rw [Nat.pow_succ] at hr; omega), decDigits_ge h1, List.length_append, ← List.append_assoc]
        congr 3
        simp
/-- Of no number: nothing. -/
def decS (x : Nat) : List UInt8 := if x = 0 then [] else decDigits x
theorem decS_zero : decS 0 = [] := rfl
theorem decS_pos {x : Nat} (h : x ≠ 0) : decS x = decDigits x := by unfold decS; rw [if_neg h]
theorem head_decDigits (x : Nat) (h : x ≠ 0) : (decDigits x).dropWhile (· == 48) = decDigits x := by
  induction x using Nat.strongRecOn with
  | ind x ih =>
    by_cases h1 : x < 10
    · rw [decDigits_lt h1]
      have := dgt_ne h h1
      simp [List.dropWhile_cons, this]
    · rw [decDigits_ge h1]
      have h2 := ih (x / 10) (by omega) (by omega)
      have h3 := decDigits_pos_len (x / 10)
      rcases hd : decDigits (x / 10) with _ | ⟨c, cs⟩
      · rw [hd] at h3; simp at h3
      · rw [hd] at h2
        rw [List.cons_append, List.dropWhile_cons]
        rw [List.dropWhile_cons] at h2
        split
        · rename_i hc
          rw [if_pos hc] at h2
          have := congrArg List.length h2
          have h4 := (List.dropWhile_sublist (l := cs) (fun c => c == (48 : UInt8))).length_le
          simp at this
          omega
        · rfl
theorem bare_dec (x : Nat) : (decDigits x).dropWhile (· == 48) = decS x := by
  by_cases h : x = 0
  · subst h; rw [decDigits_lt (by omega), decS_zero, dgt_zero]; rfl
  · rw [head_decDigits x h, decS_pos h]
theorem dropWhile_rep (n : Nat) (l : List UInt8) : (List.replicate n (48 : UInt8) ++ l).dropWhile (· == 48) = l.dropWhile (· == 48) := by
  induction n with
  | zero => rfl
  | succ n ih => rw [List.replicate_succ, List.cons_append, List.dropWhile_cons, if_pos (by rfl), ih]
theorem bare_padk {m x : Nat} (h : x < 10 ^ m) : (padk m x).dropWhile (· == 48) = decS x := by
  rcases Nat.eq_zero_or_pos m with rfl | hm
  · have : x = 0 := by simpa using h
    subst this; rfl
  · rw [padk_rep hm h, dropWhile_rep, bare_dec]
theorem padk_add (a b x : Nat) : padk (a + b) x = padk a (x / 10 ^ b) ++ padk b (x % 10 ^ b) := by
  induction b generalizing x with
  | zero => simp [padk]
  | succ b ih =>
    rw [← Nat.add_assoc, padk, padk, ih, List.append_assoc]
    have h1 : x / 10 / 10 ^ b = x / 10 ^ (b + 1) := by rw [Nat.div_div_eq_div_mul, Nat.pow_succ, Nat.mul_comm]
    have h2 : x / 10 % 10 ^ b = x % 10 ^ (b + 1) / 10 := by
      rw [Nat.pow_succ, Nat.mul_comm, Nat.mod_mul_right_div_self]
    have h3 : x % 10 ^ (b + 1) % 10 = x % 10 := by rw [Nat.pow_succ]; exact Nat.mod_mod_of_dvd _ ⟨10 ^ b, Nat.mul_comm _ _⟩
    rw [h1, h2, h3]
/-- A number's digits, in chunks of 19, the lowest ones first, as the program makes them. -/
def chunk (q r : Nat) : List UInt8 := if q = 0 then decDigits r else padk 19 r
theorem chunk_eq {q r : Nat} (hr : r < 10 ^ 19) : decS (q * 10 ^ 19 + r) = decS q ++ (if q * 10 ^ 19 + r = 0 then [] else chunk q r) := by
  by_cases hq : q = 0
  · subst hq
    rw [Nat.zero_mul, Nat.zero_add, decS_zero, List.nil_append]
    unfold decS chunk
    rw [if_pos rfl]
  · have hp : 0 < q * 10 ^ 19 := Nat.mul_pos (by omega) (by decide)
    rw [if_neg (by omega), decS_pos (by omega), decS_pos hq, decDigits_padk (by omega) hr]
    unfold chunk
    rw [if_neg hq]
end Cal
end Go.Proofs.YtaepgdkpaffaaaaGreatDoor

/- Package nat: size, Clone, Trim, Of, Cmp. -/
namespace Go.Proofs.YtaepgdkpaffaaaaGreatDoor
open Go.RowKit Go.Proofs.YtaepgdkpaffaaaaGreatDoorW.PrintWords Cal

set_option maxHeartbeats 400000 in
theorem size_any (xs : List Int) (A : Option Addr) (n c : Nat) (w : World) (h : ReadsInt w .u64 A n xs) : Calls Tryz.prog 157 #[.slice A n c] w (fun e w' => e = .returned (.int .i64 (szTo xs n)) ∧ w = w') := by
  have hn := h.2.1
  go_enter Tryz.func157, Tryz.ntmps157
  go_wp2
  go_loop [3] (fun t => ∃ k : Nat, k ≤ n ∧ t = .int .i64 k ∧ Hid (szTo xs k = szTo xs n)) (fun t => (intOf t).toNat)
  case atStart => exact ⟨n, Nat.le_refl _, rfl, rfl⟩
  case round =>
    obtain ⟨k, hk, rfl, hs⟩ := hrel
    rcases Nat.eq_zero_or_pos k with rfl | hk0
    · go_wp2
      go_ret
      exact ⟨ret_int (by have := hs.out; simp [szTo] at this; omega), rfl⟩
    · obtain ⟨k, rfl⟩ : ∃ m, k = m + 1 := ⟨k - 1, by omega⟩
      obtain ⟨ad, rfl, hc⟩ := h.2.2 (by omega)
      have hc0 := hc k (by omega)
      clear hc h
      obtain ⟨x, hx⟩ : ∃ x, x = xs.getD k 0 := ⟨_, rfl⟩
      rw [← hx] at hc0
      have hs1 := hs.out
      simp only [szTo] at hs1
      rw [← hx] at hs1
      clear hx hs
      by_cases hz : x = 0
      · subst hz
        rw [if_pos rfl] at hs1
        have hs' : Hid (szTo xs k = szTo xs n) := hs1
        clear hs1
        go_wp2
        go_round
        case rel => exact ⟨k, by omega, by go_num, hs'⟩
        case measure => simp [intOf]
      · rw [if_neg hz] at hs1
        have e1 : Hid (k + 1 = szTo xs n) := hs1
        have hz' : (x == 0) = false := by simpa using hz
        clear hs1 hz
        go_wp2
        go_ret
        exact ⟨ret_int (by have := e1.out; omega), rfl⟩

theorem clone_any (xs : List Int) (A : Option Addr) (n c : Nat) (w : World) (h : ReadsInt w .u64 A n xs) (hn : n ≤ 4000000) : Calls Tryz.prog 156 #[.slice A n c] w (fun e w' => ∃ v, e = .returned v ∧ w'.ownsRow w.heap.size 22 1 v xs.length (nums .u64 xs) ∧ Below w.heap.size w w') := by
  rcases A with _ | ad
  · have h0 : n = 0 := by
      rcases Nat.eq_zero_or_pos n with h0 | h0
      · exact h0
      · obtain ⟨ad, h1, _⟩ := h.2.2 h0; cases h1
    subst h0
    obtain rfl : xs = [] := List.eq_nil_of_length_eq_zero h.1
    have k := fun w => Lib.run_eql_slice_nil (P := Tryz.prog) w 50 22 none 0 c 0 0 Tryz.underlying50
    clear h
    go_enter Tryz.func156, Tryz.ntmps156
    go_wp2_with fail
    go_ret
    exact ⟨_, rfl, own_nil _ _ _ _, Below.refl _ _⟩
  · have H := Lib.hid h; clear h
    have k := fun w => Lib.run_eql_slice_nil (P := Tryz.prog) w 50 22 (some ad) n c 0 0 Tryz.underlying50
    have hb : Below w.heap.size w (w.alloc (.cells #[] 22)) := (Below.refl _ _).alloc (Nat.le_refl _) _
    have ho := own_lit w w.heap.size 22 .u64 [] (Nat.le_refl _) (by simp)
    go_enter Tryz.func156, Tryz.ntmps156
    go_wp2_with (at_builtin
                 go_must (refine print_append_row (w0 := w) w.heap.size rfl _ _ 50 22 .u64 8 rfl Tryz.underlying50 info22 (by omega) _ [] xs (some ad) n c rfl rfl ho (H.out.below hb) hb hb.size (by simp; omega) ?_)
                 intro v1 w1 ho1 hb1 _ _)
    go_ret
    exact ⟨v1, rfl, by simpa using ho1, hb1⟩

theorem size_c (v : Value) (x : Nat) (w : World) (h : NS w v x) : Calls Tryz.prog 157 #[v] w (fun e w' => e = .returned (.int .i64 (wl x)) ∧ w = w') := by
  obtain ⟨A, n, c, xs, rfl, _, _, h3, h4, rfl⟩ := h.out
  have hl : xs.length = n := h3.1
  subst hl
  refine (size_any xs A _ c w h3).mono ?_
  rintro e w' ⟨rfl, rfl⟩
  exact ⟨ret_int (by rw [szTo_wl h4]), rfl⟩

theorem trim_own (v : Value) (x : Nat) (w : World) (h : NS w v x) : Calls Tryz.prog 98 #[v] w (fun e w' => ∃ v', e = .returned v' ∧ Own w' w.heap.size v' (limbs x) ∧ Below w.heap.size w w') := by
  have h0 := h
  obtain ⟨A, n, c, xs, rfl, h1, h2, h3, h4, rfl⟩ := h.out
  have hl : xs.length = n := h3.1
  have hw := wl_val_le h4
  have e := limbs_take h4
  rw [szTo_wl h4] at e
  have hr : ReadsInt w .u64 A (wl (val xs)) (limbs (val xs)) := by
    rw [← e]; exact h3.take_ _ (by omega)
  have H := Lib.hid hr
  have HL := Lib.hid hl
  clear hr h3 e hl h4 h
  obtain ⟨m, hm⟩ : ∃ m, m = wl (val xs) := ⟨_, rfl⟩
  rw [← hm] at H hw
  have hmn : m ≤ n := by have := HL.out; omega
  have hmc : m ≤ c := by omega
  have HM := Lib.hid hm
  clear hm hw
  go_enter Tryz.func98, Tryz.ntmps98
  go_wp2_with (first
    | (go_at_call 157; go_must (refine (size_c _ _ _ h0).mono ?_); rintro e w' ⟨rfl, rfl⟩; rw [← HM.out])
    | (go_at_call 156; go_must (refine (clone_any _ _ _ _ _ H.out (by omega)).mono ?_); rintro e w' ⟨v', rfl, ho, hb⟩))
  go_ret
  exact ⟨v', rfl, ⟨ho, limbs_wf _⟩, hb⟩
theorem trim_c (v : Value) (x : Nat) (w : World) (h : NS w v x) : Calls Tryz.prog 98 #[v] w (fun e w' => ∃ v', e = .returned v' ∧ NT w' v' x ∧ Below w.heap.size w w') := by
  obtain ⟨A, n, c, xs, rfl, h1, h2, h3, h4, rfl⟩ := id h.out
  have hl : xs.length = n := h3.1
  have hw := wl_val_le h4
  refine (trim_own _ _ w h).mono ?_
  rintro e w' ⟨v', rfl, ho, hb⟩
  exact ⟨v', rfl, ho.nt (by omega), hb⟩
#print axioms trim_c
end Go.Proofs.YtaepgdkpaffaaaaGreatDoor

/- Plain facts on lists of words: comparing, adding, subtracting. -/
namespace Go.Proofs.YtaepgdkpaffaaaaGreatDoor
namespace Cal
def cmpI (x y : Nat) : Int := if x < y then -1 else if x = y then 0 else 1
theorem cmpI_lt {x y : Nat} (h : x < y) : cmpI x y = -1 := by unfold cmpI; rw [if_pos h]
theorem cmpI_eq {x y : Nat} (h : x = y) : cmpI x y = 0 := by unfold cmpI; rw [if_neg (by omega), if_pos h]
theorem cmpI_gt {x y : Nat} (h : y < x) : cmpI x y = 1 := by unfold cmpI; rw [if_neg (by omega), if_neg (by omega)]
theorem cmpI_neg {x y : Nat} : cmpI x y < 0 ↔ x < y := by unfold cmpI; (repeat' split) <;> omega
theorem cmpI_zero {x y : Nat} : cmpI x y = 0 ↔ x = y := by unfold cmpI; (repeat' split) <;> omega
theorem cmpI_pos {x y : Nat} : 0 < cmpI x y ↔ y < x := by unfold cmpI; (repeat' split) <;> omega
theorem cmpI_range (x y : Nat) : -1 ≤ cmpI x y ∧ cmpI x y ≤ 1 := by unfold cmpI; (repeat' split) <;> omega
theorem wl_lt {x y : Nat} (h : wl x < wl y) : x < y := by
  rcases Nat.lt_or_ge x y with h1 | h1
  · exact h1
  · have := wl_mono h1; omega
/-- Above place k alike, at place k less. -/
theorem val_lt_at {xs ys : List Int} (hx : Wf xs) (hy : Wf ys) (k : Nat) (h : val (xs.drop (k + 1)) = val (ys.drop (k + 1))) (hk : xs.getD k 0 < ys.getD k 0) : val xs < val ys := by
  have h1 := val_div xs hx (k + 1)
  have h2 := val_div ys hy (k + 1)
  have e1 := word_eq xs hx k
  have e2 := word_eq ys hy k
  have b1 := hx.getD k
  have b2 := hy.getD k
  have hp : 0 < B ^ k := Nat.pow_pos B_pos
  have d1 : val xs / B ^ k / B = val xs / B ^ (k + 1) := by rw [Nat.div_div_eq_div_mul, ← Nat.pow_succ]
  have d2 : val ys / B ^ k / B = val ys / B ^ (k + 1) := by rw [Nat.div_div_eq_div_mul, ← Nat.pow_succ]
  have m1 := Nat.div_add_mod (val xs / B ^ k) B
  have m2 := Nat.div_add_mod (val ys / B ^ k) B
  rw [d1, h1, h] at m1
  rw [d2, h2] at m2
  have : val xs / B ^ k < val ys / B ^ k := by omega
  exact Nat.lt_of_not_le fun hle => by have := Nat.div_le_div_right (c := B ^ k) hle; omega
theorem val_drop_eq {xs ys : List Int} (k : Nat) (hx : k < xs.length) (hy : k < ys.length) (h : val (xs.drop (k + 1)) = val (ys.drop (k + 1))) (hk : xs.getD k 0 = ys.getD k 0) : val (xs.drop k) = val (ys.drop k) := by
  rw [val_drop_getD xs k hx, val_drop_getD ys k hy, h, hk]
theorem B_mul_pow (k : Nat) : B * B ^ k = B ^ (k + 1) := by rw [Nat.pow_succ, Nat.mul_comm]
/-- One round of a sum. -/
theorem add_round {xs ys out : List Int} {k : Nat} {c lo hi y : Int} (hk : k < xs.length) (ho : k < out.length) (hc : 0 ≤ c) (hlo : 0 ≤ lo) (hhi : 0 ≤ hi) (hy0 : 0 ≤ y) (hx0 : 0 ≤ xs.getD k 0)
    (hinv : val (out.take k) + B ^ k * c.toNat = val (xs.take k) + val (ys.take k))
    (he : lo + 18446744073709551616 * hi = xs.getD k 0 + y + c) (hy : val (ys.take (k + 1)) = val (ys.take k) + B ^ k * y.toNat) :
    val ((out.set k lo).take (k + 1)) + B ^ (k + 1) * hi.toNat = val (xs.take (k + 1)) + val (ys.take (k + 1)) := by
  have e1 : (out.set k lo).take k = out.take k := by rw [List.take_set_of_le (by omega)]
  have e2 : (out.set k lo).getD k 0 = lo := by rw [List.getD_eq_getElem?_getD, List.getElem?_set_self ho]; rfl
  rw [val_take_succ _ k (by rw [List.length_set]; exact ho), e1, e2, val_take_succ xs k hk, hy, Nat.pow_succ]
  have hB : B = 18446744073709551616 := rfl
  have e3 : lo.toNat + B * hi.toNat = (xs.getD k 0).toNat + y.toNat + c.toNat := by rw [B_eq]; omega
  have e4 : B ^ k * (lo.toNat + B * hi.toNat) = B ^ k * ((xs.getD k 0).toNat + y.toNat + c.toNat) := by rw [e3]
  rw [Nat.mul_add, Nat.mul_add, Nat.mul_add, ← Nat.mul_assoc] at e4
  omega
/-- One round of a difference. -/
theorem sub_round {xs ys out : List Int} {k : Nat} {c lo hi y : Int} (hk : k < xs.length) (ho : k < out.length) (hc : 0 ≤ c) (hlo : 0 ≤ lo) (hhi : 0 ≤ hi) (hy0 : 0 ≤ y) (hx0 : 0 ≤ xs.getD k 0)
    (hinv : val (out.take k) + val (ys.take k) = val (xs.take k) + B ^ k * c.toNat)
    (he : lo + y + c = xs.getD k 0 + 18446744073709551616 * hi) (hy : val (ys.take (k + 1)) = val (ys.take k) + B ^ k * y.toNat) :
    val ((out.set k lo).take (k + 1)) + val (ys.take (k + 1)) = val (xs.take (k + 1)) + B ^ (k + 1) * hi.toNat := by
  have e1 : (out.set k lo).take k = out.take k := by rw [List.take_set_of_le (by omega)]
  have e2 : (out.set k lo).getD k 0 = lo := by rw [List.getD_eq_getElem?_getD, List.getElem?_set_self ho]; rfl
  rw [val_take_succ _ k (by rw [List.length_set]; exact ho), e1, e2, val_take_succ xs k hk, hy, Nat.pow_succ]
  have hB : B = 18446744073709551616 := rfl
  have e3 : lo.toNat + y.toNat + c.toNat = (xs.getD k 0).toNat + B * hi.toNat := by rw [B_eq]; omega
  have e4 : B ^ k * (lo.toNat + y.toNat + c.toNat) = B ^ k * ((xs.getD k 0).toNat + B * hi.toNat) := by rw [e3]
  rw [Nat.mul_add, Nat.mul_add, Nat.mul_add, ← Nat.mul_assoc] at e4
  omega
/-- Words beyond the end count as 0. -/
theorem val_take_succ' (xs : List Int) (k : Nat) : val (xs.take (k + 1)) = val (xs.take k) + B ^ k * (xs.getD k 0).toNat := by
  rcases Nat.lt_or_ge k xs.length with h | h
  · exact val_take_succ xs k h
  · rw [List.take_of_length_le (by omega), List.take_of_length_le h, List.getD_eq_getElem?_getD, List.getElem?_eq_none h]; simp
theorem sub_end {xs ys out : List Int} {m c : Nat} (ho : Wf out) (hl : out.length = m) (hy : Wf ys) (hx : xs.length = m) (hxw : Wf xs)
    (hinv : val (out.take m) + val (ys.take m) = val (xs.take m) + B ^ m * c) (hle : val ys ≤ val xs) : val out = val xs - val ys := by
  have h1 := val_lt hxw
  have h2 := val_lt ho
  have h3 := val_mod ys hy m
  rw [hx] at h1
  rw [hl] at h2
  rw [Nat.mod_eq_of_lt (by omega)] at h3
  rw [List.take_of_length_le (by omega), ← h3, List.take_of_length_le (by omega)] at hinv
  rcases Nat.eq_zero_or_pos c with rfl | hc
  · omega
  · have : B ^ m ≤ B ^ m * c := Nat.le_mul_of_pos_right _ hc
    omega
end Cal
end Go.Proofs.YtaepgdkpaffaaaaGreatDoor

/- Package nat: Of, Cmp, Len. -/
namespace Go.Proofs.YtaepgdkpaffaaaaGreatDoor
open Go.RowKit Go.Proofs.YtaepgdkpaffaaaaGreatDoorW.PrintWords Cal

theorem NS.drewN {w : World} {v : Value} {x : Nat} (h : NS w v x) (n : Nat) : NS (w.drewN n) v x := h.ext (pw_below_drewN (Below.refl _ _) n)
theorem NT.drewN {w : World} {v : Value} {x : Nat} (h : NT w v x) (n : Nat) : NT (w.drewN n) v x := h.ext (pw_below_drewN (Below.refl _ _) n)
theorem size_q (v : Value) (x : Nat) (w : World) (h : NS w v x) : Calls Tryz.prog 157 #[v] w (fun e w' => e = .returned (.int .i64 (wl x)) ∧ w' = w) :=
  (size_c v x w h).mono fun _ _ ⟨a, b⟩ => ⟨a, b.symm⟩
/-- What the walk is told of 'a[:size(a)]'. -/
theorem NS.shape {w : World} {v : Value} {x : Nat} (h : NS w v x) : ∃ A n c, v = .slice A n c ∧ wl x ≤ c ∧ wl x ≤ n ∧ n ≤ c ∧ n ≤ 1000000 ∧ ReadsInt w .u64 A (wl x) (limbs x) ∧ NS w (.slice A n c) x := by
  have h0 := h
  obtain ⟨A, n, c, xs, rfl, h1, h2, h3, h4, rfl⟩ := h.out
  have hl : xs.length = n := h3.1
  have hw := wl_val_le h4
  have e := limbs_take h4
  rw [szTo_wl h4] at e
  exact ⟨A, n, c, rfl, by omega, by omega, h1, h2, by rw [← e]; exact h3.take_ _ (by omega), h0⟩

set_option maxHeartbeats 800000 in
theorem cmp_d (v1 v2 : Value) (x y : Nat) (w : World) (h1 : NS w v1 x) (h2 : NS w v2 y) : Calls Tryz.prog 108 #[v1, v2] w (fun e w' => e = .returned (.int .i64 (cmpI x y)) ∧ ∃ n, w' = w.drewN n) := by
  obtain ⟨A, n, c, rfl, a1, a2, a3, a4, a5, H1⟩ := h1.shape
  obtain ⟨A', n', c', rfl, b1, b2, b3, b4, b5, H2⟩ := h2.shape
  clear h1 h2
  have R1 := Lib.hid a5
  have R2 := Lib.hid b5
  clear a5 b5
  obtain ⟨m, hm⟩ : ∃ m, m = wl x := ⟨_, rfl⟩
  obtain ⟨m', hm'⟩ : ∃ m', m' = wl y := ⟨_, rfl⟩
  rw [← hm] at a1 a2 R1
  rw [← hm'] at b1 b2 R2
  have a5 : m ≤ 1000000 := by omega
  have b5 : m' ≤ 1000000 := by omega
  have HM := Lib.hid hm
  have HM' := Lib.hid hm'
  clear hm hm' a2 b2 a3 b3 a4 b4
  have lt_case : m < m' → cmpI x y = -1 := fun h => cmpI_lt (wl_lt (by have := HM.out; have := HM'.out; omega))
  have gt_case : m' < m → cmpI x y = 1 := fun h => cmpI_gt (wl_lt (by have := HM.out; have := HM'.out; omega))
  have LT := Lib.hid lt_case
  have GT := Lib.hid gt_case
  clear lt_case gt_case
  have C1 := Lib.hid (fun k => (size_q _ _ _ (H1.drewN k)).mono (fun e w' h => (⟨h.1.trans (ret_int (by rw [← HM.out])), h.2⟩ : e = .returned (.int .i64 (m : Int)) ∧ w' = w.drewN k)))
  have C2 := Lib.hid (fun k => (size_q _ _ _ (H2.drewN k)).mono (fun e w' h => (⟨h.1.trans (ret_int (by rw [← HM'.out])), h.2⟩ : e = .returned (.int .i64 (m' : Int)) ∧ w' = w.drewN k)))
  clear H1 H2
  rcases Nat.lt_trichotomy m m' with hlt | heq | hgt
  · have hne : ((m : Int) == (m' : Int)) = false := by rw [beq_eq_false_iff_ne]; omega
    have hne' : ((m : Int) != (m' : Int)) = true := by rw [bne_iff_ne]; omega
    go_enter Tryz.func108, Tryz.ntmps108
    go_wp2_with fail
    go_quiet ((go_at_call 157; first | with_reducible exact Calls.quiet_of_same (C1.out _) | with_reducible exact Calls.quiet_of_same (C2.out _)))
    go_wp2_with fail
    go_ret
    exact ⟨ret_int (by rw [LT.out hlt]), _, rfl⟩
  · subst heq
    go_enter Tryz.func108, Tryz.ntmps108
    go_wp2_with fail
    go_quiet ((go_at_call 157; first | with_reducible exact Calls.quiet_of_same (C1.out _) | with_reducible exact Calls.quiet_of_same (C2.out _)))
    go_wp2_with fail
    go_loopw [5] (fun t wr => ∃ (k q : Nat), k ≤ m ∧ t = .int .i64 ((k : Int) - 1) ∧ wr = w.drewN q ∧ Hid (val ((limbs x).drop k) = val ((limbs y).drop k))) (fun t _ => (intOf t + 1).toNat)
    case atStart => exact ⟨m, _, Nat.le_refl _, rfl, rfl, by
      show val _ = val _
      rw [List.drop_eq_nil_of_le (by have := R1.out.1; omega), List.drop_eq_nil_of_le (by have := R2.out.1; omega)]⟩
    case round =>
      obtain ⟨k, q, hk, rfl, rfl, hs⟩ := hrel
      rcases Nat.eq_zero_or_pos k with rfl | hk0
      · go_wp2
        go_ret
        exact ⟨ret_int (by have := hs.out; simp only [List.drop_zero, val_limbs] at this; rw [cmpI_eq this]), _, rfl⟩
      · obtain ⟨k, rfl⟩ : ∃ j, k = j + 1 := ⟨k - 1, by omega⟩
        obtain ⟨ad, rfl, hc⟩ := R1.out.2.2 (by omega)
        obtain ⟨ad', rfl, hc'⟩ := R2.out.2.2 (by omega)
        have hc0 := hc k (by omega)
        have hc0' := hc' k (by omega)
        clear hc hc'
        have rng := (limbs_wf x).getD k
        have rng' := (limbs_wf y).getD k
        obtain ⟨p, hp⟩ : ∃ p, p = (limbs x).getD k 0 := ⟨_, rfl⟩
        obtain ⟨p', hp'⟩ : ∃ p', p' = (limbs y).getD k 0 := ⟨_, rfl⟩
        rw [← hp] at hc0 rng
        rw [← hp'] at hc0' rng'
        have HP := Lib.hid hp
        have HP' := Lib.hid hp'
        clear hp hp'
        rcases Int.lt_trichotomy p p' with hlt | heq | hgt
        · have t1 : (p == p') = false := by rw [beq_eq_false_iff_ne]; omega
          have t2 : (p != p') = true := by rw [bne_iff_ne]; omega
          have t3 : decide (p < p') = true := by simpa using hlt
          go_wp2_with fail
          go_quiet (fail)
          go_wp2_with fail
          go_quiet (fail)
          go_wp2_with fail
          go_ret
          exact ⟨ret_int (by rw [cmpI_lt (by have := val_lt_at (limbs_wf x) (limbs_wf y) k hs.out (by rw [← HP.out, ← HP'.out]; exact hlt); rwa [val_limbs, val_limbs] at this)]), _, by rw [World.drewN_drewN, World.drewN_drewN]⟩
        · subst heq
          go_wp2_with fail
          go_quiet (fail)
          go_wp2_with fail
          go_roundw
          case rel => exact ⟨k, _, by omega, by go_num, rfl, val_drop_eq k (by have := R1.out.1; omega) (by have := R2.out.1; omega) hs.out (by rw [← HP.out, ← HP'.out])⟩
          case measure => simp [intOf]
        · have t1 : (p == p') = false := by rw [beq_eq_false_iff_ne]; omega
          have t2 : (p != p') = true := by rw [bne_iff_ne]; omega
          have t3 : decide (p < p') = false := by simp; omega
          go_wp2_with fail
          go_quiet (fail)
          go_wp2_with fail
          go_quiet (fail)
          go_wp2_with fail
          go_ret
          exact ⟨ret_int (by rw [cmpI_gt (by have := val_lt_at (limbs_wf y) (limbs_wf x) k hs.out.symm (by rw [← HP.out, ← HP'.out]; exact hgt); rwa [val_limbs, val_limbs] at this)]), _, by rw [World.drewN_drewN, World.drewN_drewN]⟩
  · have hne : ((m : Int) == (m' : Int)) = false := by rw [beq_eq_false_iff_ne]; omega
    have hne' : ((m : Int) != (m' : Int)) = true := by rw [bne_iff_ne]; omega
    go_enter Tryz.func108, Tryz.ntmps108
    go_wp2_with fail
    go_quiet ((go_at_call 157; first | with_reducible exact Calls.quiet_of_same (C1.out _) | with_reducible exact Calls.quiet_of_same (C2.out _)))
    go_wp2_with fail
    go_ret
    exact ⟨ret_int (by rw [GT.out hgt]), _, rfl⟩
theorem cmp_c (v1 v2 : Value) (x y : Nat) (w : World) (h1 : NS w v1 x) (h2 : NS w v2 y) : Calls Tryz.prog 108 #[v1, v2] w (fun e w' => e = .returned (.int .i64 (cmpI x y)) ∧ Below w.heap.size w w') := by
  refine (cmp_d v1 v2 x y w h1 h2).mono ?_
  rintro e w' ⟨rfl, n, rfl⟩
  exact ⟨rfl, pw_below_drewN (Below.refl _ _) n⟩
#print axioms cmp_c
end Go.Proofs.YtaepgdkpaffaaaaGreatDoor
