import Derived.Test.YtaepgdkpaffaaaaGreatDoorG2
import Derived.Test.YtaepgdkpaffaaaaGreatDoorG14
set_option linter.unusedVariables false
set_option linter.unusedSimpArgs false
/- Plain facts on hexadecimal digits. -/
namespace Go.Proofs.YtaepgdkpaffaaaaGreatDoor
namespace Cal

def hexc : Nat → UInt8 | 0 => 48 | 1 => 49 | 2 => 50 | 3 => 51 | 4 => 52 | 5 => 53 | 6 => 54 | 7 => 55 | 8 => 56 | 9 => 57 | 10 => 97 | 11 => 98 | 12 => 99 | 13 => 100 | 14 => 101 | 15 => 102 | _ => 0
theorem sixteen {d : Nat} (h : d < 16) : d = 0 ∨ d = 1 ∨ d = 2 ∨ d = 3 ∨ d = 4 ∨ d = 5 ∨ d = 6 ∨ d = 7 ∨ d = 8 ∨ d = 9 ∨ d = 10 ∨ d = 11 ∨ d = 12 ∨ d = 13 ∨ d = 14 ∨ d = 15 := by omega
theorem hexc_ne {d : Nat} (h0 : d ≠ 0) (h : d < 16) : (hexc d == 48) = false := by
  rcases sixteen h with rfl | rfl | rfl | rfl | rfl | rfl | rfl | rfl | rfl | rfl | rfl | rfl | rfl | rfl | rfl | rfl <;> first | exact absurd rfl h0 | decide
/-- k hexadecimal digits of a number, the lowest ones. -/
def hx : Nat → Nat → List UInt8
  | 0, _ => []
  | k + 1, r => hx k (r / 16) ++ [hexc (r % 16)]
theorem hx_length (k r : Nat) : (hx k r).length = k := by
  induction k generalizing r with
  | zero => rfl
  | succ k ih => simp [hx, ih]
theorem hx_zero (k : Nat) : hx k 0 = List.replicate k 48 := by
  induction k with
  | zero => rfl
  | succ k ih => rw [hx, Nat.zero_div, ih, List.replicate_succ']; rfl
theorem hx_add (a b x : Nat) : hx (a + b) x = hx a (x / 16 ^ b) ++ hx b (x % 16 ^ b) := by
  induction b generalizing x with
  | zero => simp [hx]
  | succ b ih =>
    rw [← Nat.add_assoc, hx, hx, ih, List.append_assoc]
    have h1 : x / 16 / 16 ^ b = x / 16 ^ (b + 1) := by rw [Nat.div_div_eq_div_mul, Nat.pow_succ, Nat.mul_comm]
    have h2 : x / 16 % 16 ^ b = x % 16 ^ (b + 1) / 16 := by
      rw [Nat.pow_succ, Nat.mul_comm, Nat.mod_mul_right_div_self]
    have h3 : x % 16 ^ (b + 1) % 16 = x % 16 := by rw [Nat.pow_succ]; exact Nat.mod_mod_of_dvd _ ⟨16 ^ b, Nat.mul_comm _ _⟩
    rw [h1, h2, h3]
theorem hx_step (j k R : Nat) : hx (j + 1) (R / 16 ^ k) = hx j (R / 16 ^ (k + 1)) ++ [hexc (R / 16 ^ k % 16)] := by
  rw [hx, Nat.div_div_eq_div_mul, ← Nat.pow_succ]
/-- Without noughts at the end. -/
def strip (l : List UInt8) : List UInt8 := (l.reverse.dropWhile (· == 48)).reverse
theorem strip_zeros (l : List UInt8) (n : Nat) : strip (l ++ List.replicate n 48) = strip l := by
  unfold strip
  rw [List.reverse_append, List.reverse_replicate, dropWhile_rep]
theorem strip_snoc {l : List UInt8} {c : UInt8} (h : (c == 48) = false) : strip (l ++ [c]) = l ++ [c] := by
  unfold strip
  rw [List.reverse_append, List.reverse_singleton, List.singleton_append, List.dropWhile_cons, if_neg (by rw [h]; simp), List.reverse_cons, List.reverse_reverse]
theorem strip_48 (l : List UInt8) : strip (l ++ [48]) = strip l := strip_zeros l 1
theorem strip_nil : strip [] = [] := rfl
/-- The digits behind the point of R / 2^256. -/
def frac (R : Nat) : List UInt8 := strip (hx 64 R)
/-- The program's way: as long as something is left. -/
theorem frac_done {R j : Nat} (hj : j ≤ 64) (h0 : R * 16 ^ j % 16 ^ 64 = 0) (h1 : 0 < j → R * 16 ^ (j - 1) % 16 ^ 64 ≠ 0) : frac R = hx j (R / 16 ^ (64 - j)) := by
  obtain ⟨k, hk⟩ : ∃ k, 64 = j + k := ⟨64 - j, by omega⟩
  have hp : 0 < 16 ^ j := Nat.pow_pos (by omega)
  have e0 : R % 16 ^ k = 0 := by
    rw [hk, Nat.pow_add, Nat.mul_comm R, Nat.mul_mod_mul_left] at h0
    rcases Nat.mul_eq_zero.1 h0 with h | h
    · omega
    · exact h
  unfold frac
  rw [hk, hx_add, e0, hx_zero, strip_zeros, show j + k - j = k by omega]
  rcases Nat.eq_zero_or_pos j with rfl | hj0
  · rfl
  · obtain ⟨i, rfl⟩ : ∃ i, j = i + 1 := ⟨j - 1, by omega⟩
    rw [hx_step]
    refine strip_snoc (hexc_ne ?_ (Nat.mod_lt _ (by omega)))
    intro h2
    refine h1 (by omega) ?_
    rw [Nat.add_sub_cancel, show (64 : Nat) = i + (k + 1) by omega, Nat.pow_add, Nat.mul_comm R, Nat.mul_mod_mul_left, Nat.pow_succ, Nat.mod_mul, e0, h2]
    simp
/-- The document's way: count digits, the noughts behind them cut off. -/
theorem frac_ref {r count : Nat} (hc : count ≤ 64) : frac (r * 16 ^ (64 - count)) = strip (hx count r) := by
  obtain ⟨k, hk⟩ : ∃ k, 64 = count + k := ⟨64 - count, by omega⟩
  unfold frac
  rw [show 64 - count = k by omega]
  have e : hx 64 (r * 16 ^ k) = hx count r ++ List.replicate k 48 := by
    rw [hk, hx_add, Nat.mul_div_cancel _ (Nat.pow_pos (by omega)), Nat.mul_mod_left, hx_zero]
  rw [e, strip_zeros]
theorem top_digit {R j : Nat} (hj : j < 64) : R * 16 ^ j % 16 ^ 64 / 16 ^ 63 = R / 16 ^ (63 - j) % 16 := by
  have e : (16 : Nat) ^ 64 = 16 ^ 63 * 16 := by decide
  rw [e, Nat.mod_mul_right_div_self]
  congr 1
  obtain ⟨k, hk⟩ : ∃ k, 63 = j + k := ⟨63 - j, by omega⟩
  rw [show 63 - j = k by omega, hk, Nat.pow_add, Nat.mul_comm R, Nat.mul_div_mul_left _ _ (Nat.pow_pos (by omega))]
end Cal
end Go.Proofs.YtaepgdkpaffaaaaGreatDoor

/- hexform.Write: words and the string of digits. -/
namespace Go.Proofs.YtaepgdkpaffaaaaGreatDoor
open Go.RowKit Go.Proofs.YtaepgdkpaffaaaaGreatDoorW.PrintWords Cal

def hexdigits : Array UInt8 := #[48, 49, 50, 51, 52, 53, 54, 55, 56, 57, 97, 98, 99, 100, 101, 102]
theorem hexidx_u (d : Nat) (h : d < 16) (W : World) : (Instr.index 9 (.string ⟨#[48, 49, 50, 51, 52, 53, 54, 55, 56, 57, 97, 98, 99, 100, 101, 102]⟩) (.int .u64 (d : Int))).run Tryz.prog W = .ok (.int .u8 ((hexc d).toNat : Int)) W := by
  rcases sixteen h with rfl | rfl | rfl | rfl | rfl | rfl | rfl | rfl | rfl | rfl | rfl | rfl | rfl | rfl | rfl | rfl <;> kernel_rfl
theorem hexidx_i (d : Nat) (h : d < 16) (W : World) : (Instr.index 9 (.string ⟨#[48, 49, 50, 51, 52, 53, 54, 55, 56, 57, 97, 98, 99, 100, 101, 102]⟩) (.int .i64 (d : Int))).run Tryz.prog W = .ok (.int .u8 ((hexc d).toNat : Int)) W := by
  rcases sixteen h with rfl | rfl | rfl | rfl | rfl | rfl | rfl | rfl | rfl | rfl | rfl | rfl | rfl | rfl | rfl | rfl <;> kernel_rfl
theorem hexconv (d : Nat) (h : d < 16) (W : World) : (convert 5 9 (.int .u8 ((hexc d).toNat : Int))).run Tryz.prog W = .ok (.string ⟨#[hexc d]⟩) W := by
  rcases sixteen h with rfl | rfl | rfl | rfl | rfl | rfl | rfl | rfl | rfl | rfl | rfl | rfl | rfl | rfl | rfl | rfl <;> kernel_rfl
theorem wd_mod4 (y : Nat) {i : Nat} (hi : i < 4) : wd (y % 2 ^ 256) i = wd y i := by
  unfold wd
  rw [B4]
  obtain ⟨k, hk⟩ : ∃ k, 4 = i + 1 + k := ⟨3 - i, by omega⟩
  have : y % B ^ 4 / B ^ i % B = y / B ^ i % B := by
    rw [hk, Nat.pow_add, Nat.pow_succ, Nat.mul_assoc, Nat.mod_mul_right_div_self, Nat.mod_mul_right_mod]
  rw [this]
theorem bv_mod (y : Nat) : bv (y % 2 ^ 256) = bv y := by
  unfold bv
  rw [wd_mod4 y (by omega), wd_mod4 y (by omega), wd_mod4 y (by omega), wd_mod4 y (by omega)]
theorem p16 (k : Nat) : (16 : Nat) ^ k = 2 ^ (4 * k) := by rw [Nat.pow_mul]
theorem p256 : (16 : Nat) ^ 64 = 2 ^ 256 := by rw [p16]
/-- The highest four bits. -/
theorem wd_top {X : Nat} (h : X < 2 ^ 256) : wd X 3 / 2 ^ 60 = ((X / 16 ^ 63 : Nat) : Int) := by
  unfold wd
  have e : X / B ^ 3 % B = X / B ^ 3 := by
    refine Nat.mod_eq_of_lt (Nat.div_lt_of_lt_mul ?_)
    rw [B4] at h
    rwa [← Nat.pow_succ]
  rw [e]
  have e2 : X / B ^ 3 / 2 ^ 60 = X / 16 ^ 63 := by
    rw [Nat.div_div_eq_div_mul, B_pow, ← Nat.pow_mul, ← Nat.pow_add, p16]
  rw [← e2]
  rfl
theorem head_dec (u : Nat) : ∃ c cs, Lib.decDigits u = c :: cs ∧ 48 ≤ c.toNat := by
  induction u using Nat.strongRecOn with
  | ind u ih =>
    by_cases h : u < 10
    · refine ⟨dgt u, [], decDigits_lt h, ?_⟩
      have := dgt_nat h
      omega
    · obtain ⟨c, cs, e, hc⟩ := ih (u / 10) (by omega)
      exact ⟨c, cs ++ [dgt (u % 10)], by rw [decDigits_ge h, e]; rfl, hc⟩
/-- A number behind the p. -/
def pItoa (z : Int) : List UInt8 := if z < 0 then Lib.itoa z else 43 :: Lib.itoa z
def dotted (l : List UInt8) : List UInt8 := if l = [] then [] else 46 :: l
def hsign (sg : Bool) : List UInt8 := if sg then [45, 48, 120] else [48, 120]
/-- The hexadecimal text of a finite number. -/
def hexF (sg : Bool) (ex : Int) (c : Nat) : List UInt8 :=
  if c = 0 then hsign sg ++ [48, 112, 43, 48]
  else hsign sg ++ [49] ++ dotted (frac (c * 2 ^ (257 - bl c) % 2 ^ 256)) ++ [112] ++ pItoa (ex + bl c - 1)
theorem itoa_len {z : Int} (h0 : -100000 ≤ z) (h1 : z ≤ 100000) : (Lib.itoa z).length ≤ 10 := by
  unfold Lib.itoa
  split
  · have := decDigits_len_le (u := z.natAbs) (k := 6) (by omega) (by omega)
    simp; omega
  · have := decDigits_len_le (u := z.toNat) (k := 6) (by omega) (by omega)
    omega
def strLen : Value → Nat | .string s => s.size | _ => 0
end Go.Proofs.YtaepgdkpaffaaaaGreatDoor

/- hexform.Write: a finite number. -/
namespace Go.Proofs.YtaepgdkpaffaaaaGreatDoor
open Go.RowKit Go.Proofs.YtaepgdkpaffaaaaGreatDoorW.PrintWords Cal

/-- The datum in a block of its own. -/
def Dt (W : World) (g : Nat) (sg : Bool) (ex : Int) (c : Nat) : Prop := W.heap[g]? = some (.cells (dcells 1 sg false ex c) 33 (0, 0))
theorem Dt.lt {W : World} {g : Nat} {sg : Bool} {ex : Int} {c : Nat} (h : Dt W g sg ex c) : g < W.heap.size := by
  rcases Nat.lt_or_ge g W.heap.size with h1 | h1
  · exact h1
  · unfold Dt at h; rw [Array.getElem?_eq_none h1] at h; cases h
theorem Dt.ext {W W' : World} {g : Nat} {sg : Bool} {ex : Int} {c : Nat} (h : Dt W g sg ex c) (hb : Below W.heap.size W W') : Dt W' g sg ex c := (hb.block _ h.lt).trans h
theorem Dt.s {W : World} {g : Nat} {sg : Bool} {ex : Int} {c : Nat} (h : Dt W g sg ex c) :
    W.cell? ⟨g, 0, none⟩ = some (.int .i64 1) ∧ W.cell? ⟨g, 1, none⟩ = some (.bool sg) ∧ W.cell? ⟨g, 3, none⟩ = some (.int .i64 ex) ∧ W.cell? ⟨g, 4, none⟩ = some (.int .u64 (wd c 0)) ∧ W.cell? ⟨g, 5, none⟩ = some (.int .u64 (wd c 1)) ∧ W.cell? ⟨g, 6, none⟩ = some (.int .u64 (wd c 2)) ∧ W.cell? ⟨g, 7, none⟩ = some (.int .u64 (wd c 3)) :=
  ⟨cell_of_heap h rfl, cell_of_heap h rfl, cell_of_heap h rfl, cell_of_heap h rfl, cell_of_heap h rfl, cell_of_heap h rfl, cell_of_heap h rfl⟩
/-- Where the loop over the digits stands. -/
structure HL (w : World) (g6 g10 : Nat) (sg : Bool) (ex : Int) (c R j X : Nat) (W : World) : Prop where
  d : Dt W g6 sg ex c
  a : Arr W g10 23 (wd X)
  hn : g6 < g10
  hj : j ≤ 64
  xeq : X = R * 16 ^ j % 16 ^ 64
  hp : 0 < j → R * 16 ^ (j - 1) % 16 ^ 64 ≠ 0
  b : Below w.heap.size w W
  n0 : w.heap.size ≤ g6
theorem mod_step (a b M : Nat) : a % M * b % M = a * b % M := by rw [Nat.mul_mod, Nat.mod_mod, ← Nat.mul_mod]
theorem HL.lt {w : World} {g6 g10 : Nat} {sg : Bool} {ex : Int} {c R j X : Nat} {W : World} (h : HL w g6 g10 sg ex c R j X W) : X < 2 ^ 256 := by
  rw [h.xeq, ← p256]; exact Nat.mod_lt _ (Nat.pow_pos (by omega))
theorem HL.go {w : World} {g6 g10 : Nat} {sg : Bool} {ex : Int} {c R j X : Nat} {W : World} (h : HL w g6 g10 sg ex c R j X W) (hX : X ≠ 0) : j < 64 := by
  rcases Nat.lt_or_ge j 64 with h1 | h1
  · exact h1
  · have h2 := h.hj
    obtain rfl : j = 64 := by omega
    exact absurd (h.xeq.trans (Nat.mul_mod_left _ _)) hX
theorem HL.next {w : World} {g6 g10 : Nat} {sg : Bool} {ex : Int} {c R j X : Nat} {W W1 : World} (h : HL w g6 g10 sg ex c R j X W) (hX : X ≠ 0) (hb : Below W.heap.size W W1) (f : Nat → Int) (hf : ∀ i, i < 4 → f i = wd (X * 2 ^ 4) i) : HL w g6 g10 sg ex c R (j + 1) (X * 2 ^ 4 % 2 ^ 256) (W1.setRow g10 (acells f)) := by
  have h9 := h.go hX
  have ha := h.a.ext hb
  have hn := h.hn
  have hn0 := h.n0
  refine ⟨(setRow_other _ _ _ _ (by omega)).trans (h.d.ext hb), ?_, h.hn, by omega, ?_, ?_, below_row (btrans h.b hb) (by omega) _, h.n0⟩
  · refine (⟨setRow_heap _ _ _ _ _ _ ha.out⟩ : Arr (W1.setRow g10 (acells f)) g10 23 f).congr (fun i hi => ?_)
    rw [hf i hi, wd_mod4 _ hi]
  · rw [h.xeq, ← p256, show (2 : Nat) ^ 4 = 16 from rfl, Nat.pow_succ 16 j, ← Nat.mul_assoc]
    exact mod_step _ _ _
  · intro _
    rw [Nat.add_sub_cancel, ← h.xeq]
    exact hX
theorem HL.done {w : World} {g6 g10 : Nat} {sg : Bool} {ex : Int} {c R j X : Nat} {W : World} (h : HL w g6 g10 sg ex c R j X W) (hX : X = 0) : frac R = hx j (R / 16 ^ (64 - j)) := frac_done h.hj (h.xeq ▸ hX) h.hp
theorem HL.digit {w : World} {g6 g10 : Nat} {sg : Bool} {ex : Int} {c R j X : Nat} {W : World} (h : HL w g6 g10 sg ex c R j X W) (hX : X ≠ 0) : hx (j + 1) (R / 16 ^ (64 - (j + 1))) = hx j (R / 16 ^ (64 - j)) ++ [hexc (X / 16 ^ 63)] ∧ X / 16 ^ 63 < 16 := by
  have h9 := h.go hX
  have h1 := top_digit (R := R) h9
  rw [← h.xeq] at h1
  rw [h1, show 64 - (j + 1) = 63 - j by omega, hx_step, show 63 - j + 1 = 64 - j by omega]
  exact ⟨rfl, Nat.mod_lt _ (by omega)⟩
theorem itoa_head (z : Int) : ∃ c cs, Lib.itoa z = c :: cs ∧ (z < 0 → c = 45) ∧ (¬ z < 0 → c ≠ 45) := by
  by_cases h : z < 0
  · exact ⟨45, Lib.decDigits z.natAbs, by unfold Lib.itoa; rw [if_pos h], fun _ => rfl, fun h2 => absurd h h2⟩
  · obtain ⟨c, cs, e, hc⟩ := head_dec z.toNat
    refine ⟨c, cs, by unfold Lib.itoa; rw [if_neg h]; exact e, fun h2 => absurd h2 h, fun _ h3 => ?_⟩
    rw [h3] at hc
    exact absurd hc (by decide)
theorem ret_str2 {a b : ByteArray} {z : Value} (h : a.data.toList = b.data.toList) : Ending.returned (.tuple #[.string a, z]) = .returned (.tuple #[.string b, z]) := by
  have : a = b := ByteArray.ext (Array.toList_inj.1 h)
  rw [this]
theorem strix0 (s0 : UInt8) (ss : List UInt8) (W : World) : (Instr.index 9 (.string ⟨(s0 :: ss).toArray⟩) (.int .i64 0)).run Tryz.prog W = .ok (.int .u8 (s0.toNat : Int)) W := by kernel_rfl
set_option maxRecDepth 100000 in
set_option maxHeartbeats 8000000 in
theorem hfin_c (n : Int) (x : Nat) (sg : Bool) (ex : Int) (c : Nat) (w : World) (hc : c < 2 ^ 256) (he0 : -50000 ≤ ex) (he1 : ex ≤ 50000) (ht : TB w)
    (hi : ∀ W, Calls Tryz.prog 33 #[.int .i64 n, bv x] W (fun e w' => e = .returned (.tuple #[.agg (dcells 1 sg false ex c), .int .i64 0]) ∧ Below W.heap.size W w')) :
    Calls Tryz.prog 11 #[.int .i64 n, bv x] w (fun e w' => e = .returned (.tuple #[.string ⟨(hexF sg ex c).toArray⟩, .int .i64 0]) ∧ Below w.heap.size w w') := by
  have C33 := Lib.hid hi
  have C35 := Lib.hid (fun W => llen_c c W hc)
  have hb0 : bl c ≤ 256 := bl_le hc
  have C36 := Lib.hid (fun W => lshl_c c (257 - bl c) W (by omega))
  have HT := Lib.hid ht
  obtain ⟨T, hT⟩ : ∃ T, T = hexF sg ex c := ⟨_, rfl⟩
  rw [← hT]
  unfold hexF at hT
  have hbc : bl c = 0 ↔ c = 0 := ⟨fun h => by
    by_cases h0 : c = 0
    · exact h0
    · have := bl_pos h0; omega, fun h => by rw [h]; rfl⟩
  have HCZ := Lib.hid hbc
  have HTT := Lib.hid hT
  clear hi hc ht hT hbc
  unfold dcells at C33
  unfold bv at C33 C35 C36 ⊢
  generalize bl c = bc at *
  go_enter Tryz.func11, Tryz.ntmps11
  go_wp2_with fail
  (with_reducible refine (C33.out _).mono ?_); rintro e w1 ⟨rfl, hb1⟩
  have HDt : Dt (w1.alloc (.cells (dcells 1 sg false ex c) 33)) w1.heap.size sg ex c := heap_alloc_new _ _
  have hB1 := btrans ((Below.refl _ _).alloc (Nat.le_refl _) _) hb1
  have HB1 := Lib.hid (hB1.alloc hB1.size (.cells (dcells 1 sg false ex c) 33))
  have HN0 := Lib.hid hB1.size
  unfold dcells at HDt HB1
  go_upto_region 2 with fail
  generalize (w1.alloc (.cells #[.int .i64 1, .bool sg, .bool false, .int .i64 ex, .int .u64 (wd c 0), .int .u64 (wd c 1), .int .u64 (wd c 2), .int .u64 (wd c 3)] 33)) = W at *
  generalize w1.heap.size = g6 at *
  have HD := Lib.hid HDt
  clear HDt hb1 hB1
  obtain ⟨c0, c1, c3, c4, c5, c6, c7⟩ := HD.out.s
  cases sg
  all_goals
    go_upto_region 9 with fail
    go_wp2_with fail
    (with_reducible refine (C35.out _).mono ?_); rintro e w2 ⟨rfl, hb2⟩
    have HD2 := Lib.hid (HD.out.ext hb2)
    have HB2 := Lib.hid (btrans HB1.out hb2)
    clear c0 c1 c3 c4 c5 c6 c7 hb2
    obtain ⟨c0, c1, c3, c4, c5, c6, c7⟩ := HD2.out.s
    rcases Nat.eq_zero_or_pos bc with hz | hz
    · have hcz := HCZ.out.1 hz
      have htt := HTT.out
      rw [if_pos hcz] at htt
      have HTT2 := Lib.hid htt
      have hz' : ((bc : Int) == 0) = true := by rw [hz]; rfl
      clear htt hcz hz
      go_wp2_with fail
      go_ret2
      exact ⟨by rw [HTT2.out]; rfl, HB2.out⟩
    · have hcz : c ≠ 0 := fun h => by have := HCZ.out.2 h; omega
      have htt := HTT.out
      rw [if_neg hcz] at htt
      have HTT2 := Lib.hid htt
      have hz' : ((bc : Int) == 0) = false := by rw [beq_eq_false_iff_ne]; omega
      have es : ((257 - bc : Nat) : Int) = 257 - (bc : Int) := by omega
      have C36' := C36
      rw [es] at C36'
      clear htt hcz es C36
      go_wp2_with fail
      (with_reducible refine (C36'.out _).mono ?_); rintro e w3 ⟨rfl, hb3⟩
      have HD3 := HD2.out.ext hb3
      have HR0 : c * 2 ^ (257 - bc) % 2 ^ 256 = c * 2 ^ (257 - bc) % 2 ^ 256 * 16 ^ 0 % 16 ^ 64 := by rw [Nat.pow_zero, Nat.mul_one, p256, Nat.mod_mod]
      have HL0 := Lib.hid (show HL w g6 w3.heap.size _ ex c (c * 2 ^ (257 - bc) % 2 ^ 256) 0 (c * 2 ^ (257 - bc) % 2 ^ 256) (w3.alloc (.cells #[.int .u64 (wd (c * 2 ^ (257 - bc)) 0), .int .u64 (wd (c * 2 ^ (257 - bc)) 1), .int .u64 (wd (c * 2 ^ (257 - bc)) 2), .int .u64 (wd (c * 2 ^ (257 - bc)) 3)] 23)) from
        ⟨HD3.ext ((Below.refl _ _).alloc (Nat.le_refl _) _), (arr_new w3 (c * 2 ^ (257 - bc)) 23).congr (fun i hi => (wd_mod4 _ hi).symm), HD3.lt, by omega, HR0, fun h => absurd h (by omega), (btrans HB2.out hb3).alloc (btrans HB2.out hb3).size _, HN0.out⟩)
      go_upto_region 13 with fail
      generalize (w3.alloc (.cells #[.int .u64 (wd (c * 2 ^ (257 - bc)) 0), .int .u64 (wd (c * 2 ^ (257 - bc)) 1), .int .u64 (wd (c * 2 ^ (257 - bc)) 2), .int .u64 (wd (c * 2 ^ (257 - bc)) 3)] 23)) = W4 at *
      generalize w3.heap.size = g10 at *
      generalize c * 2 ^ (257 - bc) % 2 ^ 256 = R at *
      clear HD3 HR0 hb3 c0 c1 c3 c4 c5 c6 c7 C36'
      go_wp2_with fail
      go_loopw [11] (fun t11 wr => ∃ (j X : Nat) (L : List UInt8), t11 = .string ⟨L.toArray⟩ ∧ L.length ≤ 64 ∧ Hid (L = hx j (R / 16 ^ (64 - j))) ∧ Hid (HL w g6 g10 _ ex c R j X wr)) (fun t11 _ => 64 - strLen t11)
      case atStart => exact ⟨0, R, [], rfl, by simp, rfl, HL0⟩
      case round =>
        obtain ⟨j, X, L, rfl, hLl, hLe, hl⟩ := hrel
        have HJL := Lib.hid hl.out.hj
        have kz := fun W => eqz_23 X hl.out.lt W
        have hA := hl.out.a.cell
        have ha_0 := hA 0 (by omega)
        have ha_1 := hA 1 (by omega)
        have ha_2 := hA 2 (by omega)
        have ha_3 := hA 3 (by omega)
        clear hA
        by_cases hX : X = 0
        · have hd : decide (X = 0) = true := by simpa using hX
          rw [hd] at kz
          have hdone := hl.out.done hX
          rw [← hLe.out] at hdone
          have HDONE := Lib.hid hdone
          have hds := hl.out.d.s
          obtain ⟨c0, c1, c3, c4, c5, c6, c7⟩ := hds
          have HBW := Lib.hid hl.out.b
          obtain ⟨s0, ss, hss, hsa, hsb⟩ := itoa_head (ex + (bc : Int) - 1)
          have C37 := Lib.hid (itoa_c (ex + (bc : Int) - 1) wr (by omega) (by omega) (HT.out.ext HBW.out))
          have hsl := itoa_len (z := ex + (bc : Int) - 1) (by omega) (by omega)
          rw [hss] at C37 hsl
          have hsl2 : ss.length + 1 ≤ 10 := by simpa using hsl
          have htt := HTT2.out
          rw [hdone] at htt
          unfold pItoa at htt
          rw [hss] at htt
          by_cases hneg : ex + (bc : Int) - 1 < 0
          · rw [if_pos hneg, hsa hneg] at htt
            rw [hsa hneg] at C37
            have HT3 := Lib.hid htt
            clear htt hdone hss hsa hsb hsl hneg hX hd
            have kix := fun W => strix0 45 ss W
            have k45 : ((45 : UInt8).toNat : Int) = 45 := rfl
            rcases L with _ | ⟨l0, ls⟩
            · go_wp2_with fail
              (with_reducible refine C37.out.mono ?_); rintro e w5 ⟨rfl, hb5⟩
              clear kz ha_0 ha_1 ha_2 ha_3 c0 c1 c3 c4 c5 c6 c7
              go_wp2_with fail
              go_ret2
              exact ⟨ret_str2 (by rw [HT3.out]; simp [hsign, dotted, ByteArray.data_append]), btrans HBW.out hb5⟩
            · have hls : ls.length + 1 ≤ 64 := by simpa using hLl
              go_wp2_with fail
              (with_reducible refine C37.out.mono ?_); rintro e w5 ⟨rfl, hb5⟩
              clear kz ha_0 ha_1 ha_2 ha_3 c0 c1 c3 c4 c5 c6 c7
              go_wp2_with fail
              go_ret2
              exact ⟨ret_str2 (by rw [HT3.out]; simp [hsign, dotted, ByteArray.data_append]), btrans HBW.out hb5⟩
          · rw [if_neg hneg] at htt
            have hc45 : ((s0.toNat : Int) != 45) = true := by
              have h9 := hsb hneg
              rw [bne_iff_ne]
              intro h8
              exact h9 (UInt8.toNat_inj.1 (by have : (45 : UInt8).toNat = 45 := rfl; omega))
            have hs9 : (s0.toNat : Int) < 256 := by have := s0.toNat_lt; omega
            have HT3 := Lib.hid htt
            clear htt hdone hss hsa hsb hsl hneg hX hd
            have kix := fun W => strix0 s0 ss W
            have k45 : ((45 : UInt8).toNat : Int) = 45 := rfl
            rcases L with _ | ⟨l0, ls⟩
            · go_wp2_with fail
              (with_reducible refine C37.out.mono ?_); rintro e w5 ⟨rfl, hb5⟩
              clear kz ha_0 ha_1 ha_2 ha_3 c0 c1 c3 c4 c5 c6 c7
              go_wp2_with fail
              go_ret2
              exact ⟨ret_str2 (by rw [HT3.out]; simp [hsign, dotted, ByteArray.data_append]), btrans HBW.out hb5⟩
            · have hls : ls.length + 1 ≤ 64 := by simpa using hLl
              go_wp2_with fail
              (with_reducible refine C37.out.mono ?_); rintro e w5 ⟨rfl, hb5⟩
              clear kz ha_0 ha_1 ha_2 ha_3 c0 c1 c3 c4 c5 c6 c7
              go_wp2_with fail
              go_ret2
              exact ⟨ret_str2 (by rw [HT3.out]; simp [hsign, dotted, ByteArray.data_append]), btrans HBW.out hb5⟩
        · have hd : decide (X = 0) = false := by simpa using hX
          rw [hd] at kz
          have hdg := hl.out.digit hX
          have hdg1 := hdg.1
          rw [← hLe.out] at hdg1
          have HDG := Lib.hid hdg1
          clear hdg1
          have hlt := hdg.2
          have htop := wd_top hl.out.lt
          have HX := Lib.hid hX
          have HJ := Lib.hid (hl.out.go hX)
          have C36b := Lib.hid (fun W => lshl_c X 4 W (by omega))
          rw [show ((4 : Nat) : Int) = 4 from rfl] at C36b
          obtain ⟨d, hdd⟩ : ∃ d, d = X / 16 ^ 63 := ⟨_, rfl⟩
          rw [← hdd] at htop hlt HDG
          replace htop : wd X 3 / 1152921504606846976 = (d : Int) := htop
          have hix := fun W => hexidx_u d hlt W
          have hcv := fun W => hexconv d hlt W
          unfold bv at C36b
          have hLj : L.length = j := by rw [hLe.out, hx_length]
          have HLJ := Lib.hid hLj
          have HBX := Lib.hid (fun W1 (hb : Below wr.heap.size wr W1) f hf => hl.out.next hX hb f hf)
          have HAX := Lib.hid hl.out.a
          clear hd hX hdg hdd hLj
          generalize hF5 : wd (X * 2 ^ 4) = F5 at *
          have HF5 := Lib.hid hF5
          clear hF5
          go_wp2_with fail
          (with_reducible refine (C36b.out _).mono ?_); rintro e w5 ⟨rfl, hb5⟩
          have ha5 := (HAX.out.ext hb5).out
          have HB5 := Lib.hid hb5
          clear kz ha_0 ha_1 ha_2 ha_3 htop hix hcv hb5
          go_wp2_with (refine wpList_store_row rfl 23 (.tmp 10) (.tmp 52) rfl g10 (acells F5) ?_ ?_ 23 _ ha5 size23 ?_ ?_ ?_; (· rfl); (· rfl); (· rfl); (· simp [acells, Value.oneCell']))
          have es : (({ data := L.toArray } : ByteArray) ++ { data := #[hexc d] }) = ⟨(L ++ [hexc d]).toArray⟩ := bytes_app L [hexc d]
          rw [es]
          have hj64 := HJ.out
          have hlj := HLJ.out
          simp only [Act.put]
          go_roundw
          case rel => exact ⟨j + 1, X * 2 ^ 4 % 2 ^ 256, L ++ [hexc d], rfl, by simp; omega, HDG.out.symm, HBX.out _ HB5.out F5 (fun i _ => rfl)⟩
          case measure =>
            have e1 : strLen (.string ⟨(L ++ [hexc d]).toArray⟩) = L.length + 1 := by show (L ++ [hexc d]).toArray.size = _; simp
            have e2 : strLen (.string ⟨L.toArray⟩) = L.length := by show L.toArray.size = _; simp
            show 64 - strLen (.string ⟨(L ++ [hexc d]).toArray⟩) < 64 - strLen (.string ⟨L.toArray⟩)
            rw [e1, e2]
            omega
end Go.Proofs.YtaepgdkpaffaaaaGreatDoor

/- hexform.Write, whole. -/
namespace Go.Proofs.YtaepgdkpaffaaaaGreatDoor
open Go.RowKit Go.Proofs.YtaepgdkpaffaaaaGreatDoorW.PrintWords Cal

theorem Dat.cells_eq (d : Dat) : d.cells = dcells d.cl d.sg d.sl d.ex d.c := rfl
/-- What is known of a datum that Unpack answers. -/
structure DOK (d : Dat) : Prop where
  c : d.c < 2 ^ 256
  e0 : -50000 ≤ d.ex
  e1 : d.ex ≤ 50000
  k : (d.cl = 1 ∧ d.sl = false) ∨ Odd d.cl d.sl d.c
theorem undat_ok (n x : Nat) (h1 : 1 ≤ n) (h2 : n ≤ 6) (hx : x < 2 ^ 256) : DOK (undat n x) := by
  obtain ⟨p, hp⟩ := prec_pos n
  have hp9 : p ≤ 240 := by rcases six h1 h2 with rfl | rfl | rfl | rfl | rfl | rfl <;> (simp [prec] at hp; omega)
  have hls0 : -20000 ≤ least n := by rcases six h1 h2 with rfl | rfl | rfl | rfl | rfl | rfl <;> decide
  have hls1 : least n ≤ 0 := by rcases six h1 h2 with rfl | rfl | rfl | rfl | rfl | rfl <;> decide
  have hq9 : expo n ≤ 15 := by rcases six h1 h2 with rfl | rfl | rfl | rfl | rfl | rfl <;> decide
  have hE9 : x / 2 ^ p % 2 ^ expo n ≤ 32767 := by
    have := Nat.mod_lt (x / 2 ^ p) (Nat.two_pow_pos (expo n))
    have : 2 ^ expo n ≤ 2 ^ 15 := Nat.pow_le_pow_right (by omega) hq9
    omega
  have hm : ∀ k, x % 2 ^ k < 2 ^ 256 := fun k => Nat.lt_of_le_of_lt (Nat.mod_le _ _) hx
  have hmp : x % 2 ^ p + 2 ^ p < 2 ^ 256 := by
    have h3 := Nat.mod_lt x (Nat.two_pow_pos p)
    have h4 : 2 ^ p + 2 ^ p = 2 ^ (p + 1) := by rw [Nat.pow_succ]; omega
    have h5 : 2 ^ (p + 1) < 2 ^ 256 := two_pow_lt (by omega)
    omega
  unfold undat
  rw [hp, Nat.add_sub_cancel]
  split
  · split
    · exact ⟨Nat.two_pow_pos _, by show _ ≤ (0 : Int); omega, by show (0 : Int) ≤ _; omega, Or.inr (Or.inl ⟨rfl, rfl⟩)⟩
    · exact ⟨hm _, by show _ ≤ (0 : Int); omega, by show (0 : Int) ≤ _; omega, Or.inr (Or.inr rfl)⟩
  · split
    · exact ⟨hm _, by show _ ≤ least n; omega, by show least n ≤ _; omega, Or.inl ⟨rfl, rfl⟩⟩
    · exact ⟨hmp, by show _ ≤ least n - 1 + ((x / 2 ^ p % 2 ^ expo n : Nat) : Int); omega, by show least n - 1 + ((x / 2 ^ p % 2 ^ expo n : Nat) : Int) ≤ _; omega, Or.inl ⟨rfl, rfl⟩⟩
/-- The text of a datum, hexadecimal. -/
def hexD (d : Dat) : List UInt8 := if d.cl = 1 then hexF d.sg d.ex d.c else otext d.cl d.sg d.sl (decS d.c)
set_option maxRecDepth 100000 in
theorem hodd_c (n : Int) (x : Nat) (d : Dat) (w : World) (hd : DOK d) (hod : Odd d.cl d.sl d.c) (ht : TB w)
    (hi : ∀ W, Calls Tryz.prog 33 #[.int .i64 n, bv x] W (fun e w' => e = .returned (.tuple #[.agg (dcells d.cl d.sg d.sl d.ex d.c), .int .i64 0]) ∧ Below W.heap.size W w')) :
    Calls Tryz.prog 11 #[.int .i64 n, bv x] w (fun e w' => e = .returned (.tuple #[.string ⟨(otext d.cl d.sg d.sl (decS d.c)).toArray⟩, .int .i64 0]) ∧ Below w.heap.size w w') := by
  have C33 := Lib.hid hi
  have HT := Lib.hid ht
  have C34 := Lib.hid (fun W (t : TB W) => other_c d.cl d.ex d.sg d.sl d.c W hod hd.c t)
  generalize otext d.cl d.sg d.sl (decS d.c) = T at *
  have hcl : d.cl = 2 ∨ d.cl = 3 := by rcases hod with h | h; exact Or.inl h.1; exact Or.inr h
  have hne : (d.cl != 1) = true := by rcases hcl with h | h <;> rw [h] <;> rfl
  obtain ⟨cl, sg, sl, ex, c⟩ := d
  simp only at *
  clear hi hod hd ht hcl
  unfold dcells at C33
  unfold bv at C33 ⊢
  go_enter Tryz.func11, Tryz.ntmps11
  go_wp2_with fail
  (with_reducible refine (C33.out _).mono ?_); rintro e w1 ⟨rfl, hb1⟩
  have hB1 := btrans ((Below.refl _ _).alloc (Nat.le_refl _) _) hb1
  have HB1 := Lib.hid (hB1.alloc hB1.size (.cells #[.int .i64 cl, .bool sg, .bool sl, .int .i64 ex, .int .u64 (wd c 0), .int .u64 (wd c 1), .int .u64 (wd c 2), .int .u64 (wd c 3)] 33))
  have hn := heap_alloc_new w1 (.cells #[.int .i64 cl, .bool sg, .bool sl, .int .i64 ex, .int .u64 (wd c 0), .int .u64 (wd c 1), .int .u64 (wd c 2), .int .u64 (wd c 3)] 33)
  go_upto_region 2 with fail
  generalize (w1.alloc (.cells #[.int .i64 cl, .bool sg, .bool sl, .int .i64 ex, .int .u64 (wd c 0), .int .u64 (wd c 1), .int .u64 (wd c 2), .int .u64 (wd c 3)] 33)) = W at *
  generalize w1.heap.size = g6 at *
  have k0 := cell_of_heap hn (k := 0) (v := .int .i64 cl) rfl
  clear hb1 hB1
  go_wp2_with (refine wpList_load_row rfl 33 (.tmp 6) rfl g6 rfl 33 _ (0, 0) _ hn Tryz.underlying33 rfl size33 ?_)
  have C34' := C34.out W (HT.out.ext HB1.out)
  unfold dcells at C34'
  (with_reducible refine C34'.mono ?_); rintro e w2 ⟨rfl, hb2⟩
  go_wp2_with fail
  go_ret2
  exact ⟨rfl, btrans HB1.out hb2⟩
set_option maxRecDepth 100000 in
theorem hbad_c (n : Int) (x : Nat) (w : World)
    (hi : ∀ W, Calls Tryz.prog 33 #[.int .i64 n, bv x] W (fun e w' => e = .returned (.tuple #[.agg zero33, .int .i64 1]) ∧ Below W.heap.size W w')) :
    Calls Tryz.prog 11 #[.int .i64 n, bv x] w (fun e w' => e = .returned (.tuple #[.string ⟨#[]⟩, .int .i64 1]) ∧ Below w.heap.size w w') := by
  have C33 := Lib.hid hi
  clear hi
  unfold zero33 at C33
  unfold bv at C33 ⊢
  go_enter Tryz.func11, Tryz.ntmps11
  go_wp2_with fail
  (with_reducible refine (C33.out _).mono ?_); rintro e w1 ⟨rfl, hb1⟩
  have hB1 := btrans ((Below.refl _ _).alloc (Nat.le_refl _) _) hb1
  have HB1 := Lib.hid (hB1.alloc hB1.size (.cells #[.int .i64 0, .bool false, .bool false, .int .i64 0, .int .u64 0, .int .u64 0, .int .u64 0, .int .u64 0] 33))
  clear hb1 hB1
  go_wp2_with fail
  go_ret2
  exact ⟨rfl, HB1.out⟩
/-- What Write answers. -/
def hexW (n : Int) (x : Nat) : List UInt8 × Int := if good n x = true then (hexD (undat n.toNat x), 0) else ([], 1)
theorem hwrite_c (n : Int) (x : Nat) (w : World) (hx : x < 2 ^ 256) (ht : TB w) :
    Calls Tryz.prog 11 #[.int .i64 n, bv x] w (fun e w' => e = .returned (.tuple #[.string ⟨(hexW n x).1.toArray⟩, .int .i64 (hexW n x).2]) ∧ Below w.heap.size w w') := by
  have C := fun W => bunpack_c n x W hx
  unfold undatI at C
  unfold hexW
  rcases hg : good n x with _ | _
  · rw [hg, if_neg (by simp)] at C
    rw [if_neg (by simp)]
    exact hbad_c n x w C
  · rw [hg, if_pos rfl] at C
    rw [if_pos rfl]
    have h6 := good_six hg
    obtain ⟨m, rfl⟩ := Int.eq_ofNat_of_zero_le (show 0 ≤ n by omega)
    rw [Int.toNat_natCast] at *
    have hok := undat_ok m x (by omega) (by omega) hx
    generalize undat m x = d at *
    rw [Dat.cells_eq] at C
    unfold hexD
    rcases hok.k with ⟨h1, h2⟩ | h1
    · rw [if_pos h1]
      rw [h1, h2] at C
      exact hfin_c m x d.sg d.ex d.c w hok.c hok.e0 hok.e1 ht C
    · have hne : d.cl ≠ 1 := by rcases h1 with h | h; (rw [h.1]; omega); (rw [h]; omega)
      rw [if_neg hne]
      exact hodd_c m x d w hok h1 ht C
end Go.Proofs.YtaepgdkpaffaaaaGreatDoor

/- caliperref11: low; the last byte of a string, and a string without it. -/
namespace Go.Proofs.YtaepgdkpaffaaaaGreatDoor
open Go.RowKit Go.Proofs.YtaepgdkpaffaaaaGreatDoorW.PrintWords Cal

theorem strixlast (L : List UInt8) (c : UInt8) (W : World) : (Instr.index 9 (.string ⟨(L ++ [c]).toArray⟩) (.int .i64 (L.length : Int))).run Tryz.prog W = .ok (.int .u8 (c.toNat : Int)) W := by
  have h : (⟨(L ++ [c]).toArray⟩ : ByteArray)[L.length]? = some c := by
    show (if h : _ then _ else _) = _
    rw [dif_pos (by show L.length < (L ++ [c]).toArray.size; simp)]
    congr 1
    show (L ++ [c]).toArray[L.length] = c
    simp
  have h2 : (⟨(L ++ [c]).toArray⟩ : ByteArray)[L.length]'(by show L.length < (L ++ [c]).toArray.size; simp) = c := by
    show (L ++ [c]).toArray[L.length] = c
    simp
  simp [Instr.index, run_underlying Tryz.underlying9, go_sem, h]
  exact congrArg (fun z : UInt8 => (z.toNat : Int)) h2
theorem strcut (L : List UInt8) (c : UInt8) (W : World) : (Instr.slice 9 (.string ⟨(L ++ [c]).toArray⟩) none (some (.int .i64 (L.length : Int))) none).run Tryz.prog W = .ok (.string ⟨L.toArray⟩) W := by
  rw [run_slice_string_h W 9 _ Tryz.underlying9 .i64 (L.length : Int) (by omega) (by show _ ≤ (((L ++ [c]).toArray.size : Nat) : Int); simp; omega)]
  have e : (⟨(L ++ [c]).toArray⟩ : ByteArray).extract 0 (L.length : Int).toNat = ⟨L.toArray⟩ := by
    apply ByteArray.ext
    rw [ByteArray.data_extract]
    simp
  rw [e]
theorem and_15 (x : Nat) : bits .and .u64 (wd x 0) 15 = ((x % 16 : Nat) : Int) := by
  have h1 := wd_wf x 0
  have h := bits_and_nat (wd x 0).toNat 15 (by omega) (by omega)
  rw [Int.toNat_of_nonneg h1.1, wd_nat, Nat.pow_zero, Nat.div_one, show (15 : Nat) = 2 ^ 4 - 1 from rfl, Nat.and_two_pow_sub_one_eq_mod] at h
  have e : x % B % 2 ^ 4 = x % 16 := Nat.mod_mod_of_dvd _ ⟨2 ^ 60, by decide⟩
  rw [e] at h
  exact h
set_option maxRecDepth 100000 in
theorem low_c (v : Value) (x : Nat) (w : World) (h : NT w v x) : Calls Tryz.prog 42 #[v] w (fun e w' => e = .returned (.int .i64 ((x % 16 : Nat) : Int)) ∧ w' = w) := by
  obtain ⟨A, c, rfl, h1, h2, h3⟩ := h.out
  rcases Nat.eq_zero_or_pos x with rfl | hx
  · have e : wl 0 = 0 := wl_zero
    rw [e]
    clear h h1 h2 h3 e
    go_enter Tryz.func42, Tryz.ntmps42
    go_wp2_with fail
    go_ret
    exact ⟨rfl, rfl⟩
  · have hw : 0 < wl x := by rw [wl_pos (by omega)]; omega
    obtain ⟨ad, rfl, hc⟩ := h3.2.2 hw
    have hc0 := hc 0 hw
    rw [limbs_getD', show ad.add 0 = ad from rfl] at hc0
    replace hc0 : w.cell? ad = some (.int .u64 (wd x 0)) := hc0
    have ha := and_15 x
    have hm : x % 16 < 16 := Nat.mod_lt _ (by omega)
    have hw0 : ¬ (wl x = 0) := by omega
    generalize wl x = m at *
    generalize x % 16 = r at *
    clear h h3 hc hx
    go_enter Tryz.func42, Tryz.ntmps42
    go_wp2_with fail
    go_ret
    exact ⟨rfl, rfl⟩
/-- The document's bits behind the highest one are the program's. -/
theorem frac_link {c n : Nat} (hn : bl c = n + 1) (hc : c < 2 ^ 256) : c * 2 ^ (257 - (n + 1)) % 2 ^ 256 = c % 2 ^ n * 2 ^ (4 * ((n + 3) / 4) - n) * 16 ^ (64 - (n + 3) / 4) := by
  have hc0 : c ≠ 0 := fun h => by rw [h] at hn; simp [bl_zero] at hn
  have h1 := le_of_bl hc0
  have h2 := lt_bl c
  rw [hn] at h1 h2
  rw [Nat.add_sub_cancel] at h1
  have h3 : n + 1 ≤ 256 := by rw [← hn]; exact bl_le hc
  have e1 : c = 2 ^ n + c % 2 ^ n := by
    have h4 : c / 2 ^ n = 1 := by
      have a1 : 1 ≤ c / 2 ^ n := Nat.div_pos h1 (Nat.two_pow_pos n)
      have a2 : c / 2 ^ n < 2 := by
        rw [Nat.div_lt_iff_lt_mul (Nat.two_pow_pos n), Nat.mul_comm, ← Nat.pow_succ]; exact h2
      omega
    have := Nat.div_add_mod c (2 ^ n)
    rw [h4, Nat.mul_one] at this
    omega
  have hr := Nat.mod_lt c (Nat.two_pow_pos n)
  have e2 : c * 2 ^ (257 - (n + 1)) = 2 ^ 256 + c % 2 ^ n * 2 ^ (256 - n) := by
    have e3 : 2 ^ n * 2 ^ (256 - n) = 2 ^ 256 := by rw [← Nat.pow_add]; congr 1; omega
    rw [show 257 - (n + 1) = 256 - n by omega, ← e3, ← Nat.add_mul, ← e1]
  have hlt : c % 2 ^ n * 2 ^ (256 - n) < 2 ^ 256 := by
    have e3 : 2 ^ n * 2 ^ (256 - n) = 2 ^ 256 := by rw [← Nat.pow_add]; congr 1; omega
    rw [← e3]
    exact Nat.mul_lt_mul_of_pos_right hr (Nat.two_pow_pos _)
  rw [e2, Nat.add_mod_left, Nat.mod_eq_of_lt hlt, p16, Nat.mul_assoc, ← Nat.pow_add]
  congr 2
  omega
end Go.Proofs.YtaepgdkpaffaaaaGreatDoor
