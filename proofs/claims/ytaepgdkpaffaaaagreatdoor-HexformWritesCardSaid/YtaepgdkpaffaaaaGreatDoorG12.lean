import Derived.Test.YtaepgdkpaffaaaaGreatDoorG11
set_option linter.unusedVariables false
set_option linter.unusedSimpArgs false
/- package desc: binary, decimal, All, Of. (Rows laid by a small program.) -/
namespace Go.Proofs.YtaepgdkpaffaaaaGreatDoor
open Go.RowKit Go.Proofs.YtaepgdkpaffaaaaGreatDoorW.PrintWords Cal

theorem size74 : (Tryz.prog.info? 74).map (·.size) = some 10 := by kernel_rfl
def zero74 : Array Value := #[.int .i64 0, .string ⟨#[]⟩, .int .i64 0, .int .i64 0, .int .i64 0, .int .i64 0, .int .i64 0, .int .i64 0, .int .i64 0, .bool false]
theorem dbin_1 (w : World) : Calls Tryz.prog 158 #[.int .i64 1, .string ⟨#[72, 97, 108, 102]⟩, .int .i64 11, .int .i64 5] w (fun e w' => e = .returned (.agg #[.int .i64 1, .string ⟨#[72, 97, 108, 102]⟩, .int .i64 2, .int .i64 16, .int .i64 11, .int .i64 5, .int .i64 (-24), .int .i64 (5), .int .i64 9, .bool false]) ∧ Below w.heap.size w w') := by
  go_enter Tryz.func158, Tryz.ntmps158
  go_wp2_with fail
  refine bodyPost_ret (results_cell_row rfl _ _ w.heap.size 74 #[.int .i64 1, .string ⟨#[72, 97, 108, 102]⟩, .int .i64 2, .int .i64 16, .int .i64 11, .int .i64 5, .int .i64 (-24), .int .i64 (5), .int .i64 9, .bool false] (0, 0) _ rfl (heap_alloc_new _ _) Tryz.underlying74 rfl size74) rfl ?_
  exact ⟨rfl, ((Below.refl _ _).alloc (Nat.le_refl _) _)⟩
theorem dbin_2 (w : World) : Calls Tryz.prog 158 #[.int .i64 2, .string ⟨#[66, 114, 97, 105, 110]⟩, .int .i64 8, .int .i64 8] w (fun e w' => e = .returned (.agg #[.int .i64 2, .string ⟨#[66, 114, 97, 105, 110]⟩, .int .i64 2, .int .i64 16, .int .i64 8, .int .i64 8, .int .i64 (-133), .int .i64 (120), .int .i64 6, .bool false]) ∧ Below w.heap.size w w') := by
  go_enter Tryz.func158, Tryz.ntmps158
  go_wp2_with fail
  refine bodyPost_ret (results_cell_row rfl _ _ w.heap.size 74 #[.int .i64 2, .string ⟨#[66, 114, 97, 105, 110]⟩, .int .i64 2, .int .i64 16, .int .i64 8, .int .i64 8, .int .i64 (-133), .int .i64 (120), .int .i64 6, .bool false] (0, 0) _ rfl (heap_alloc_new _ _) Tryz.underlying74 rfl size74) rfl ?_
  exact ⟨rfl, ((Below.refl _ _).alloc (Nat.le_refl _) _)⟩
theorem dbin_3 (w : World) : Calls Tryz.prog 158 #[.int .i64 3, .string ⟨#[83, 105, 110, 103, 108, 101]⟩, .int .i64 24, .int .i64 8] w (fun e w' => e = .returned (.agg #[.int .i64 3, .string ⟨#[83, 105, 110, 103, 108, 101]⟩, .int .i64 2, .int .i64 32, .int .i64 24, .int .i64 8, .int .i64 (-149), .int .i64 (104), .int .i64 22, .bool false]) ∧ Below w.heap.size w w') := by
  go_enter Tryz.func158, Tryz.ntmps158
  go_wp2_with fail
  refine bodyPost_ret (results_cell_row rfl _ _ w.heap.size 74 #[.int .i64 3, .string ⟨#[83, 105, 110, 103, 108, 101]⟩, .int .i64 2, .int .i64 32, .int .i64 24, .int .i64 8, .int .i64 (-149), .int .i64 (104), .int .i64 22, .bool false] (0, 0) _ rfl (heap_alloc_new _ _) Tryz.underlying74 rfl size74) rfl ?_
  exact ⟨rfl, ((Below.refl _ _).alloc (Nat.le_refl _) _)⟩
theorem dbin_4 (w : World) : Calls Tryz.prog 158 #[.int .i64 4, .string ⟨#[68, 111, 117, 98, 108, 101]⟩, .int .i64 53, .int .i64 11] w (fun e w' => e = .returned (.agg #[.int .i64 4, .string ⟨#[68, 111, 117, 98, 108, 101]⟩, .int .i64 2, .int .i64 64, .int .i64 53, .int .i64 11, .int .i64 (-1074), .int .i64 (971), .int .i64 51, .bool false]) ∧ Below w.heap.size w w') := by
  go_enter Tryz.func158, Tryz.ntmps158
  go_wp2_with fail
  refine bodyPost_ret (results_cell_row rfl _ _ w.heap.size 74 #[.int .i64 4, .string ⟨#[68, 111, 117, 98, 108, 101]⟩, .int .i64 2, .int .i64 64, .int .i64 53, .int .i64 11, .int .i64 (-1074), .int .i64 (971), .int .i64 51, .bool false] (0, 0) _ rfl (heap_alloc_new _ _) Tryz.underlying74 rfl size74) rfl ?_
  exact ⟨rfl, ((Below.refl _ _).alloc (Nat.le_refl _) _)⟩
theorem dbin_5 (w : World) : Calls Tryz.prog 158 #[.int .i64 5, .string ⟨#[81, 117, 97, 100]⟩, .int .i64 113, .int .i64 15] w (fun e w' => e = .returned (.agg #[.int .i64 5, .string ⟨#[81, 117, 97, 100]⟩, .int .i64 2, .int .i64 128, .int .i64 113, .int .i64 15, .int .i64 (-16494), .int .i64 (16271), .int .i64 111, .bool false]) ∧ Below w.heap.size w w') := by
  go_enter Tryz.func158, Tryz.ntmps158
  go_wp2_with fail
  refine bodyPost_ret (results_cell_row rfl _ _ w.heap.size 74 #[.int .i64 5, .string ⟨#[81, 117, 97, 100]⟩, .int .i64 2, .int .i64 128, .int .i64 113, .int .i64 15, .int .i64 (-16494), .int .i64 (16271), .int .i64 111, .bool false] (0, 0) _ rfl (heap_alloc_new _ _) Tryz.underlying74 rfl size74) rfl ?_
  exact ⟨rfl, ((Below.refl _ _).alloc (Nat.le_refl _) _)⟩
theorem dbin_6 (w : World) : Calls Tryz.prog 158 #[.int .i64 6, .string ⟨#[79, 99, 116, 111]⟩, .int .i64 241, .int .i64 15] w (fun e w' => e = .returned (.agg #[.int .i64 6, .string ⟨#[79, 99, 116, 111]⟩, .int .i64 2, .int .i64 256, .int .i64 241, .int .i64 15, .int .i64 (-16622), .int .i64 (16143), .int .i64 239, .bool false]) ∧ Below w.heap.size w w') := by
  go_enter Tryz.func158, Tryz.ntmps158
  go_wp2_with fail
  refine bodyPost_ret (results_cell_row rfl _ _ w.heap.size 74 #[.int .i64 6, .string ⟨#[79, 99, 116, 111]⟩, .int .i64 2, .int .i64 256, .int .i64 241, .int .i64 15, .int .i64 (-16622), .int .i64 (16143), .int .i64 239, .bool false] (0, 0) _ rfl (heap_alloc_new _ _) Tryz.underlying74 rfl size74) rfl ?_
  exact ⟨rfl, ((Below.refl _ _).alloc (Nat.le_refl _) _)⟩
theorem ddec_7 (w : World) : Calls Tryz.prog 159 #[.int .i64 7, .string ⟨#[80, 108, 97, 105, 110, 51, 50]⟩, .int .i64 32, .int .i64 7, .int .i64 96] w (fun e w' => e = .returned (.agg #[.int .i64 7, .string ⟨#[80, 108, 97, 105, 110, 51, 50]⟩, .int .i64 10, .int .i64 32, .int .i64 7, .int .i64 96, .int .i64 (-101), .int .i64 (90), .int .i64 6, .bool false]) ∧ Below w.heap.size w w') := by
  go_enter Tryz.func159, Tryz.ntmps159
  go_wp2_with fail
  refine bodyPost_ret (results_cell_row rfl _ _ w.heap.size 74 #[.int .i64 7, .string ⟨#[80, 108, 97, 105, 110, 51, 50]⟩, .int .i64 10, .int .i64 32, .int .i64 7, .int .i64 96, .int .i64 (-101), .int .i64 (90), .int .i64 6, .bool false] (0, 0) _ rfl (heap_alloc_new _ _) Tryz.underlying74 rfl size74) rfl ?_
  exact ⟨rfl, ((Below.refl _ _).alloc (Nat.le_refl _) _)⟩
theorem ddec_8 (w : World) : Calls Tryz.prog 159 #[.int .i64 8, .string ⟨#[80, 108, 97, 105, 110, 54, 52]⟩, .int .i64 64, .int .i64 16, .int .i64 384] w (fun e w' => e = .returned (.agg #[.int .i64 8, .string ⟨#[80, 108, 97, 105, 110, 54, 52]⟩, .int .i64 10, .int .i64 64, .int .i64 16, .int .i64 384, .int .i64 (-398), .int .i64 (369), .int .i64 15, .bool false]) ∧ Below w.heap.size w w') := by
  go_enter Tryz.func159, Tryz.ntmps159
  go_wp2_with fail
  refine bodyPost_ret (results_cell_row rfl _ _ w.heap.size 74 #[.int .i64 8, .string ⟨#[80, 108, 97, 105, 110, 54, 52]⟩, .int .i64 10, .int .i64 64, .int .i64 16, .int .i64 384, .int .i64 (-398), .int .i64 (369), .int .i64 15, .bool false] (0, 0) _ rfl (heap_alloc_new _ _) Tryz.underlying74 rfl size74) rfl ?_
  exact ⟨rfl, ((Below.refl _ _).alloc (Nat.le_refl _) _)⟩
theorem ddec_9 (w : World) : Calls Tryz.prog 159 #[.int .i64 9, .string ⟨#[80, 108, 97, 105, 110, 49, 50, 56]⟩, .int .i64 128, .int .i64 34, .int .i64 6144] w (fun e w' => e = .returned (.agg #[.int .i64 9, .string ⟨#[80, 108, 97, 105, 110, 49, 50, 56]⟩, .int .i64 10, .int .i64 128, .int .i64 34, .int .i64 6144, .int .i64 (-6176), .int .i64 (6111), .int .i64 33, .bool false]) ∧ Below w.heap.size w w') := by
  go_enter Tryz.func159, Tryz.ntmps159
  go_wp2_with fail
  refine bodyPost_ret (results_cell_row rfl _ _ w.heap.size 74 #[.int .i64 9, .string ⟨#[80, 108, 97, 105, 110, 49, 50, 56]⟩, .int .i64 10, .int .i64 128, .int .i64 34, .int .i64 6144, .int .i64 (-6176), .int .i64 (6111), .int .i64 33, .bool false] (0, 0) _ rfl (heap_alloc_new _ _) Tryz.underlying74 rfl size74) rfl ?_
  exact ⟨rfl, ((Below.refl _ _).alloc (Nat.le_refl _) _)⟩
theorem ddec_10 (w : World) : Calls Tryz.prog 159 #[.int .i64 10, .string ⟨#[68, 101, 110, 115, 101, 51, 50]⟩, .int .i64 32, .int .i64 7, .int .i64 96] w (fun e w' => e = .returned (.agg #[.int .i64 10, .string ⟨#[68, 101, 110, 115, 101, 51, 50]⟩, .int .i64 10, .int .i64 32, .int .i64 7, .int .i64 96, .int .i64 (-101), .int .i64 (90), .int .i64 6, .bool true]) ∧ Below w.heap.size w w') := by
  go_enter Tryz.func159, Tryz.ntmps159
  go_wp2_with fail
  refine bodyPost_ret (results_cell_row rfl _ _ w.heap.size 74 #[.int .i64 10, .string ⟨#[68, 101, 110, 115, 101, 51, 50]⟩, .int .i64 10, .int .i64 32, .int .i64 7, .int .i64 96, .int .i64 (-101), .int .i64 (90), .int .i64 6, .bool true] (0, 0) _ rfl (heap_alloc_new _ _) Tryz.underlying74 rfl size74) rfl ?_
  exact ⟨rfl, ((Below.refl _ _).alloc (Nat.le_refl _) _)⟩
theorem ddec_11 (w : World) : Calls Tryz.prog 159 #[.int .i64 11, .string ⟨#[68, 101, 110, 115, 101, 54, 52]⟩, .int .i64 64, .int .i64 16, .int .i64 384] w (fun e w' => e = .returned (.agg #[.int .i64 11, .string ⟨#[68, 101, 110, 115, 101, 54, 52]⟩, .int .i64 10, .int .i64 64, .int .i64 16, .int .i64 384, .int .i64 (-398), .int .i64 (369), .int .i64 15, .bool true]) ∧ Below w.heap.size w w') := by
  go_enter Tryz.func159, Tryz.ntmps159
  go_wp2_with fail
  refine bodyPost_ret (results_cell_row rfl _ _ w.heap.size 74 #[.int .i64 11, .string ⟨#[68, 101, 110, 115, 101, 54, 52]⟩, .int .i64 10, .int .i64 64, .int .i64 16, .int .i64 384, .int .i64 (-398), .int .i64 (369), .int .i64 15, .bool true] (0, 0) _ rfl (heap_alloc_new _ _) Tryz.underlying74 rfl size74) rfl ?_
  exact ⟨rfl, ((Below.refl _ _).alloc (Nat.le_refl _) _)⟩
theorem ddec_12 (w : World) : Calls Tryz.prog 159 #[.int .i64 12, .string ⟨#[68, 101, 110, 115, 101, 49, 50, 56]⟩, .int .i64 128, .int .i64 34, .int .i64 6144] w (fun e w' => e = .returned (.agg #[.int .i64 12, .string ⟨#[68, 101, 110, 115, 101, 49, 50, 56]⟩, .int .i64 10, .int .i64 128, .int .i64 34, .int .i64 6144, .int .i64 (-6176), .int .i64 (6111), .int .i64 33, .bool true]) ∧ Below w.heap.size w w') := by
  go_enter Tryz.func159, Tryz.ntmps159
  go_wp2_with fail
  refine bodyPost_ret (results_cell_row rfl _ _ w.heap.size 74 #[.int .i64 12, .string ⟨#[68, 101, 110, 115, 101, 49, 50, 56]⟩, .int .i64 10, .int .i64 128, .int .i64 34, .int .i64 6144, .int .i64 (-6176), .int .i64 (6111), .int .i64 33, .bool true] (0, 0) _ rfl (heap_alloc_new _ _) Tryz.underlying74 rfl size74) rfl ?_
  exact ⟨rfl, ((Below.refl _ _).alloc (Nat.le_refl _) _)⟩
def drow1 : Array Value := #[.int .i64 1, .string ⟨#[72, 97, 108, 102]⟩, .int .i64 2, .int .i64 16, .int .i64 11, .int .i64 5, .int .i64 (-24), .int .i64 (5), .int .i64 9, .bool false]
def drow2 : Array Value := #[.int .i64 2, .string ⟨#[66, 114, 97, 105, 110]⟩, .int .i64 2, .int .i64 16, .int .i64 8, .int .i64 8, .int .i64 (-133), .int .i64 (120), .int .i64 6, .bool false]
def drow3 : Array Value := #[.int .i64 3, .string ⟨#[83, 105, 110, 103, 108, 101]⟩, .int .i64 2, .int .i64 32, .int .i64 24, .int .i64 8, .int .i64 (-149), .int .i64 (104), .int .i64 22, .bool false]
def drow4 : Array Value := #[.int .i64 4, .string ⟨#[68, 111, 117, 98, 108, 101]⟩, .int .i64 2, .int .i64 64, .int .i64 53, .int .i64 11, .int .i64 (-1074), .int .i64 (971), .int .i64 51, .bool false]
def drow5 : Array Value := #[.int .i64 5, .string ⟨#[81, 117, 97, 100]⟩, .int .i64 2, .int .i64 128, .int .i64 113, .int .i64 15, .int .i64 (-16494), .int .i64 (16271), .int .i64 111, .bool false]
def drow6 : Array Value := #[.int .i64 6, .string ⟨#[79, 99, 116, 111]⟩, .int .i64 2, .int .i64 256, .int .i64 241, .int .i64 15, .int .i64 (-16622), .int .i64 (16143), .int .i64 239, .bool false]
def drow7 : Array Value := #[.int .i64 7, .string ⟨#[80, 108, 97, 105, 110, 51, 50]⟩, .int .i64 10, .int .i64 32, .int .i64 7, .int .i64 96, .int .i64 (-101), .int .i64 (90), .int .i64 6, .bool false]
def drow8 : Array Value := #[.int .i64 8, .string ⟨#[80, 108, 97, 105, 110, 54, 52]⟩, .int .i64 10, .int .i64 64, .int .i64 16, .int .i64 384, .int .i64 (-398), .int .i64 (369), .int .i64 15, .bool false]
def drow9 : Array Value := #[.int .i64 9, .string ⟨#[80, 108, 97, 105, 110, 49, 50, 56]⟩, .int .i64 10, .int .i64 128, .int .i64 34, .int .i64 6144, .int .i64 (-6176), .int .i64 (6111), .int .i64 33, .bool false]
def drow10 : Array Value := #[.int .i64 10, .string ⟨#[68, 101, 110, 115, 101, 51, 50]⟩, .int .i64 10, .int .i64 32, .int .i64 7, .int .i64 96, .int .i64 (-101), .int .i64 (90), .int .i64 6, .bool true]
def drow11 : Array Value := #[.int .i64 11, .string ⟨#[68, 101, 110, 115, 101, 54, 52]⟩, .int .i64 10, .int .i64 64, .int .i64 16, .int .i64 384, .int .i64 (-398), .int .i64 (369), .int .i64 15, .bool true]
def drow12 : Array Value := #[.int .i64 12, .string ⟨#[68, 101, 110, 115, 101, 49, 50, 56]⟩, .int .i64 10, .int .i64 128, .int .i64 34, .int .i64 6144, .int .i64 (-6176), .int .i64 (6111), .int .i64 33, .bool true]
def alldesc : Array Value := #[.int .i64 1, .string ⟨#[72, 97, 108, 102]⟩, .int .i64 2, .int .i64 16, .int .i64 11, .int .i64 5, .int .i64 (-24), .int .i64 (5), .int .i64 9, .bool false, .int .i64 2, .string ⟨#[66, 114, 97, 105, 110]⟩, .int .i64 2, .int .i64 16, .int .i64 8, .int .i64 8, .int .i64 (-133), .int .i64 (120), .int .i64 6, .bool false, .int .i64 3, .string ⟨#[83, 105, 110, 103, 108, 101]⟩, .int .i64 2, .int .i64 32, .int .i64 24, .int .i64 8, .int .i64 (-149), .int .i64 (104), .int .i64 22, .bool false, .int .i64 4, .string ⟨#[68, 111, 117, 98, 108, 101]⟩, .int .i64 2, .int .i64 64, .int .i64 53, .int .i64 11, .int .i64 (-1074), .int .i64 (971), .int .i64 51, .bool false, .int .i64 5, .string ⟨#[81, 117, 97, 100]⟩, .int .i64 2, .int .i64 128, .int .i64 113, .int .i64 15, .int .i64 (-16494), .int .i64 (16271), .int .i64 111, .bool false, .int .i64 6, .string ⟨#[79, 99, 116, 111]⟩, .int .i64 2, .int .i64 256, .int .i64 241, .int .i64 15, .int .i64 (-16622), .int .i64 (16143), .int .i64 239, .bool false, .int .i64 7, .string ⟨#[80, 108, 97, 105, 110, 51, 50]⟩, .int .i64 10, .int .i64 32, .int .i64 7, .int .i64 96, .int .i64 (-101), .int .i64 (90), .int .i64 6, .bool false, .int .i64 8, .string ⟨#[80, 108, 97, 105, 110, 54, 52]⟩, .int .i64 10, .int .i64 64, .int .i64 16, .int .i64 384, .int .i64 (-398), .int .i64 (369), .int .i64 15, .bool false, .int .i64 9, .string ⟨#[80, 108, 97, 105, 110, 49, 50, 56]⟩, .int .i64 10, .int .i64 128, .int .i64 34, .int .i64 6144, .int .i64 (-6176), .int .i64 (6111), .int .i64 33, .bool false, .int .i64 10, .string ⟨#[68, 101, 110, 115, 101, 51, 50]⟩, .int .i64 10, .int .i64 32, .int .i64 7, .int .i64 96, .int .i64 (-101), .int .i64 (90), .int .i64 6, .bool true, .int .i64 11, .string ⟨#[68, 101, 110, 115, 101, 54, 52]⟩, .int .i64 10, .int .i64 64, .int .i64 16, .int .i64 384, .int .i64 (-398), .int .i64 (369), .int .i64 15, .bool true, .int .i64 12, .string ⟨#[68, 101, 110, 115, 101, 49, 50, 56]⟩, .int .i64 10, .int .i64 128, .int .i64 34, .int .i64 6144, .int .i64 (-6176), .int .i64 (6111), .int .i64 33, .bool true]
set_option maxRecDepth 100000 in
theorem all_c (w : World) : Calls Tryz.prog 102 #[] w (fun e w' => ∃ W, e = .returned (.slice (some ⟨W.heap.size, 0, none⟩) 12 12) ∧ w' = W.alloc (.cells alldesc 74) ∧ Below w.heap.size w W) := by
  go_enter Tryz.func102, Tryz.ntmps102
  go_wp2_with fail
  (with_reducible refine (dbin_1 _).mono ?_); rintro e w1 ⟨rfl, hb1⟩
  go_wp2_with fail
  (with_reducible refine (dbin_2 _).mono ?_); rintro e w2 ⟨rfl, hb2⟩
  go_wp2_with fail
  (with_reducible refine (dbin_3 _).mono ?_); rintro e w3 ⟨rfl, hb3⟩
  go_wp2_with fail
  (with_reducible refine (dbin_4 _).mono ?_); rintro e w4 ⟨rfl, hb4⟩
  go_wp2_with fail
  (with_reducible refine (dbin_5 _).mono ?_); rintro e w5 ⟨rfl, hb5⟩
  go_wp2_with fail
  (with_reducible refine (dbin_6 _).mono ?_); rintro e w6 ⟨rfl, hb6⟩
  go_wp2_with fail
  (with_reducible refine (ddec_7 _).mono ?_); rintro e w7 ⟨rfl, hb7⟩
  go_wp2_with fail
  (with_reducible refine (ddec_8 _).mono ?_); rintro e w8 ⟨rfl, hb8⟩
  go_wp2_with fail
  (with_reducible refine (ddec_9 _).mono ?_); rintro e w9 ⟨rfl, hb9⟩
  go_wp2_with fail
  (with_reducible refine (ddec_10 _).mono ?_); rintro e w10 ⟨rfl, hb10⟩
  go_wp2_with fail
  (with_reducible refine (ddec_11 _).mono ?_); rintro e w11 ⟨rfl, hb11⟩
  go_wp2_with fail
  (with_reducible refine (ddec_12 _).mono ?_); rintro e w12 ⟨rfl, hb12⟩
  have hB := hb1
  replace hB := btrans hB hb2
  replace hB := btrans hB hb3
  replace hB := btrans hB hb4
  replace hB := btrans hB hb5
  replace hB := btrans hB hb6
  replace hB := btrans hB hb7
  replace hB := btrans hB hb8
  replace hB := btrans hB hb9
  replace hB := btrans hB hb10
  replace hB := btrans hB hb11
  replace hB := btrans hB hb12
  have HB := Lib.hid hB
  clear hB hb1 hb2 hb3 hb4 hb5 hb6 hb7 hb8 hb9 hb10 hb11 hb12
  go_wp2_with fail
  go_ret
  exact ⟨w12, rfl, rfl, HB.out⟩
end Go.Proofs.YtaepgdkpaffaaaaGreatDoor

/- package desc: Of. (Laid by a small program.) -/
namespace Go.Proofs.YtaepgdkpaffaaaaGreatDoor
open Go.RowKit Go.Proofs.YtaepgdkpaffaaaaGreatDoorW.PrintWords Cal

set_option maxRecDepth 100000 in
theorem dof_1 (w : World) : Calls Tryz.prog 46 #[.int .i64 1] w (fun e w' => e = .returned (.tuple #[.agg drow1, .int .i64 0]) ∧ Below w.heap.size w w') := by
  have C := Lib.hid (fun W => all_c W)
  have h0 := Lib.hid (heap_alloc_new w (.cells zero74 74))
  have hb0 := Lib.hid ((Below.refl w.heap.size w).alloc (Nat.le_refl _) (.cells zero74 74))
  have hl0 := Lib.hid (show w.heap.size < (w.alloc (.cells zero74 74)).heap.size by rw [size_alloc]; omega)
  go_enter Tryz.func46, Tryz.ntmps46
  go_wp2_with fail
  (with_reducible refine (C.out _).mono ?_); rintro e w' ⟨W, rfl, rfl, hb⟩
  have hr := (heap_alloc_old W (.cells alldesc 74) (Nat.lt_of_lt_of_le hl0.out hb.size)).trans ((hb.block _ hl0.out).trans h0.out)
  have HB := Lib.hid (Below.alloc (btrans hb0.out hb) (btrans hb0.out hb).size (.cells alldesc 74))
  have HN := Lib.hid (heap_alloc_new W (.cells alldesc 74))
  clear hb
  generalize (W.alloc (.cells alldesc 74)) = W2 at *
  generalize W.heap.size = g at *
  have k0 := cell_of_heap HN.out (k := 10 * 1 - 10) (v := .int .i64 1) rfl
  have k1 := cell_of_heap HN.out (k := 10 * 1 - 9) (v := .string ⟨#[72, 97, 108, 102]⟩) rfl
  have k2 := cell_of_heap HN.out (k := 10 * 1 - 8) (v := .int .i64 2) rfl
  have k3 := cell_of_heap HN.out (k := 10 * 1 - 7) (v := .int .i64 16) rfl
  have k4 := cell_of_heap HN.out (k := 10 * 1 - 6) (v := .int .i64 11) rfl
  have k5 := cell_of_heap HN.out (k := 10 * 1 - 5) (v := .int .i64 5) rfl
  have k6 := cell_of_heap HN.out (k := 10 * 1 - 4) (v := .int .i64 (-24)) rfl
  have k7 := cell_of_heap HN.out (k := 10 * 1 - 3) (v := .int .i64 (5)) rfl
  have k8 := cell_of_heap HN.out (k := 10 * 1 - 2) (v := .int .i64 9) rfl
  have k9 := cell_of_heap HN.out (k := 10 * 1 - 1) (v := .bool false) rfl
  simp only [Nat.reduceMul, Nat.reduceSub] at k0 k1 k2 k3 k4 k5 k6 k7 k8 k9
  go_wp2_with (refine wpList_store_row rfl 74 (.tmp 2) (.tmp 15) rfl w.heap.size drow1 ?_ ?_ 74 _ hr size74 ?_ ?_ ?_; (· rfl); (· rfl); (· rfl); (· simp [drow1, Value.oneCell']))
  (try simp only [Exit.inBlock, Exit.then])
  refine bodyPost_ret (results_cell_row_tmp rfl _ _ w.heap.size 74 drow1 (0, 0) _ rfl (setRow_heap _ _ _ _ _ _ hr) Tryz.underlying74 rfl size74 (.int .i64 0) rfl) rfl ?_
  exact ⟨rfl, below_row HB.out (Nat.le_refl _) _⟩
set_option maxRecDepth 100000 in
theorem dof_2 (w : World) : Calls Tryz.prog 46 #[.int .i64 2] w (fun e w' => e = .returned (.tuple #[.agg drow2, .int .i64 0]) ∧ Below w.heap.size w w') := by
  have C := Lib.hid (fun W => all_c W)
  have h0 := Lib.hid (heap_alloc_new w (.cells zero74 74))
  have hb0 := Lib.hid ((Below.refl w.heap.size w).alloc (Nat.le_refl _) (.cells zero74 74))
  have hl0 := Lib.hid (show w.heap.size < (w.alloc (.cells zero74 74)).heap.size by rw [size_alloc]; omega)
  go_enter Tryz.func46, Tryz.ntmps46
  go_wp2_with fail
  (with_reducible refine (C.out _).mono ?_); rintro e w' ⟨W, rfl, rfl, hb⟩
  have hr := (heap_alloc_old W (.cells alldesc 74) (Nat.lt_of_lt_of_le hl0.out hb.size)).trans ((hb.block _ hl0.out).trans h0.out)
  have HB := Lib.hid (Below.alloc (btrans hb0.out hb) (btrans hb0.out hb).size (.cells alldesc 74))
  have HN := Lib.hid (heap_alloc_new W (.cells alldesc 74))
  clear hb
  generalize (W.alloc (.cells alldesc 74)) = W2 at *
  generalize W.heap.size = g at *
  have k0 := cell_of_heap HN.out (k := 10 * 2 - 10) (v := .int .i64 2) rfl
  have k1 := cell_of_heap HN.out (k := 10 * 2 - 9) (v := .string ⟨#[66, 114, 97, 105, 110]⟩) rfl
  have k2 := cell_of_heap HN.out (k := 10 * 2 - 8) (v := .int .i64 2) rfl
  have k3 := cell_of_heap HN.out (k := 10 * 2 - 7) (v := .int .i64 16) rfl
  have k4 := cell_of_heap HN.out (k := 10 * 2 - 6) (v := .int .i64 8) rfl
  have k5 := cell_of_heap HN.out (k := 10 * 2 - 5) (v := .int .i64 8) rfl
  have k6 := cell_of_heap HN.out (k := 10 * 2 - 4) (v := .int .i64 (-133)) rfl
  have k7 := cell_of_heap HN.out (k := 10 * 2 - 3) (v := .int .i64 (120)) rfl
  have k8 := cell_of_heap HN.out (k := 10 * 2 - 2) (v := .int .i64 6) rfl
  have k9 := cell_of_heap HN.out (k := 10 * 2 - 1) (v := .bool false) rfl
  simp only [Nat.reduceMul, Nat.reduceSub] at k0 k1 k2 k3 k4 k5 k6 k7 k8 k9
  go_wp2_with (refine wpList_store_row rfl 74 (.tmp 2) (.tmp 15) rfl w.heap.size drow2 ?_ ?_ 74 _ hr size74 ?_ ?_ ?_; (· rfl); (· rfl); (· rfl); (· simp [drow2, Value.oneCell']))
  (try simp only [Exit.inBlock, Exit.then])
  refine bodyPost_ret (results_cell_row_tmp rfl _ _ w.heap.size 74 drow2 (0, 0) _ rfl (setRow_heap _ _ _ _ _ _ hr) Tryz.underlying74 rfl size74 (.int .i64 0) rfl) rfl ?_
  exact ⟨rfl, below_row HB.out (Nat.le_refl _) _⟩
set_option maxRecDepth 100000 in
theorem dof_3 (w : World) : Calls Tryz.prog 46 #[.int .i64 3] w (fun e w' => e = .returned (.tuple #[.agg drow3, .int .i64 0]) ∧ Below w.heap.size w w') := by
  have C := Lib.hid (fun W => all_c W)
  have h0 := Lib.hid (heap_alloc_new w (.cells zero74 74))
  have hb0 := Lib.hid ((Below.refl w.heap.size w).alloc (Nat.le_refl _) (.cells zero74 74))
  have hl0 := Lib.hid (show w.heap.size < (w.alloc (.cells zero74 74)).heap.size by rw [size_alloc]; omega)
  go_enter Tryz.func46, Tryz.ntmps46
  go_wp2_with fail
  (with_reducible refine (C.out _).mono ?_); rintro e w' ⟨W, rfl, rfl, hb⟩
  have hr := (heap_alloc_old W (.cells alldesc 74) (Nat.lt_of_lt_of_le hl0.out hb.size)).trans ((hb.block _ hl0.out).trans h0.out)
  have HB := Lib.hid (Below.alloc (btrans hb0.out hb) (btrans hb0.out hb).size (.cells alldesc 74))
  have HN := Lib.hid (heap_alloc_new W (.cells alldesc 74))
  clear hb
  generalize (W.alloc (.cells alldesc 74)) = W2 at *
  generalize W.heap.size = g at *
  have k0 := cell_of_heap HN.out (k := 10 * 3 - 10) (v := .int .i64 3) rfl
  have k1 := cell_of_heap HN.out (k := 10 * 3 - 9) (v := .string ⟨#[83, 105, 110, 103, 108, 101]⟩) rfl
  have k2 := cell_of_heap HN.out (k := 10 * 3 - 8) (v := .int .i64 2) rfl
  have k3 := cell_of_heap HN.out (k := 10 * 3 - 7) (v := .int .i64 32) rfl
  have k4 := cell_of_heap HN.out (k := 10 * 3 - 6) (v := .int .i64 24) rfl
  have k5 := cell_of_heap HN.out (k := 10 * 3 - 5) (v := .int .i64 8) rfl
  have k6 := cell_of_heap HN.out (k := 10 * 3 - 4) (v := .int .i64 (-149)) rfl
  have k7 := cell_of_heap HN.out (k := 10 * 3 - 3) (v := .int .i64 (104)) rfl
  have k8 := cell_of_heap HN.out (k := 10 * 3 - 2) (v := .int .i64 22) rfl
  have k9 := cell_of_heap HN.out (k := 10 * 3 - 1) (v := .bool false) rfl
  simp only [Nat.reduceMul, Nat.reduceSub] at k0 k1 k2 k3 k4 k5 k6 k7 k8 k9
  go_wp2_with (refine wpList_store_row rfl 74 (.tmp 2) (.tmp 15) rfl w.heap.size drow3 ?_ ?_ 74 _ hr size74 ?_ ?_ ?_; (· rfl); (· rfl); (· rfl); (· simp [drow3, Value.oneCell']))
  (try simp only [Exit.inBlock, Exit.then])
  refine bodyPost_ret (results_cell_row_tmp rfl _ _ w.heap.size 74 drow3 (0, 0) _ rfl (setRow_heap _ _ _ _ _ _ hr) Tryz.underlying74 rfl size74 (.int .i64 0) rfl) rfl ?_
  exact ⟨rfl, below_row HB.out (Nat.le_refl _) _⟩
set_option maxRecDepth 100000 in
theorem dof_4 (w : World) : Calls Tryz.prog 46 #[.int .i64 4] w (fun e w' => e = .returned (.tuple #[.agg drow4, .int .i64 0]) ∧ Below w.heap.size w w') := by
  have C := Lib.hid (fun W => all_c W)
  have h0 := Lib.hid (heap_alloc_new w (.cells zero74 74))
  have hb0 := Lib.hid ((Below.refl w.heap.size w).alloc (Nat.le_refl _) (.cells zero74 74))
  have hl0 := Lib.hid (show w.heap.size < (w.alloc (.cells zero74 74)).heap.size by rw [size_alloc]; omega)
  go_enter Tryz.func46, Tryz.ntmps46
  go_wp2_with fail
  (with_reducible refine (C.out _).mono ?_); rintro e w' ⟨W, rfl, rfl, hb⟩
  have hr := (heap_alloc_old W (.cells alldesc 74) (Nat.lt_of_lt_of_le hl0.out hb.size)).trans ((hb.block _ hl0.out).trans h0.out)
  have HB := Lib.hid (Below.alloc (btrans hb0.out hb) (btrans hb0.out hb).size (.cells alldesc 74))
  have HN := Lib.hid (heap_alloc_new W (.cells alldesc 74))
  clear hb
  generalize (W.alloc (.cells alldesc 74)) = W2 at *
  generalize W.heap.size = g at *
  have k0 := cell_of_heap HN.out (k := 10 * 4 - 10) (v := .int .i64 4) rfl
  have k1 := cell_of_heap HN.out (k := 10 * 4 - 9) (v := .string ⟨#[68, 111, 117, 98, 108, 101]⟩) rfl
  have k2 := cell_of_heap HN.out (k := 10 * 4 - 8) (v := .int .i64 2) rfl
  have k3 := cell_of_heap HN.out (k := 10 * 4 - 7) (v := .int .i64 64) rfl
  have k4 := cell_of_heap HN.out (k := 10 * 4 - 6) (v := .int .i64 53) rfl
  have k5 := cell_of_heap HN.out (k := 10 * 4 - 5) (v := .int .i64 11) rfl
  have k6 := cell_of_heap HN.out (k := 10 * 4 - 4) (v := .int .i64 (-1074)) rfl
  have k7 := cell_of_heap HN.out (k := 10 * 4 - 3) (v := .int .i64 (971)) rfl
  have k8 := cell_of_heap HN.out (k := 10 * 4 - 2) (v := .int .i64 51) rfl
  have k9 := cell_of_heap HN.out (k := 10 * 4 - 1) (v := .bool false) rfl
  simp only [Nat.reduceMul, Nat.reduceSub] at k0 k1 k2 k3 k4 k5 k6 k7 k8 k9
  go_wp2_with (refine wpList_store_row rfl 74 (.tmp 2) (.tmp 15) rfl w.heap.size drow4 ?_ ?_ 74 _ hr size74 ?_ ?_ ?_; (· rfl); (· rfl); (· rfl); (· simp [drow4, Value.oneCell']))
  (try simp only [Exit.inBlock, Exit.then])
  refine bodyPost_ret (results_cell_row_tmp rfl _ _ w.heap.size 74 drow4 (0, 0) _ rfl (setRow_heap _ _ _ _ _ _ hr) Tryz.underlying74 rfl size74 (.int .i64 0) rfl) rfl ?_
  exact ⟨rfl, below_row HB.out (Nat.le_refl _) _⟩
set_option maxRecDepth 100000 in
theorem dof_5 (w : World) : Calls Tryz.prog 46 #[.int .i64 5] w (fun e w' => e = .returned (.tuple #[.agg drow5, .int .i64 0]) ∧ Below w.heap.size w w') := by
  have C := Lib.hid (fun W => all_c W)
  have h0 := Lib.hid (heap_alloc_new w (.cells zero74 74))
  have hb0 := Lib.hid ((Below.refl w.heap.size w).alloc (Nat.le_refl _) (.cells zero74 74))
  have hl0 := Lib.hid (show w.heap.size < (w.alloc (.cells zero74 74)).heap.size by rw [size_alloc]; omega)
  go_enter Tryz.func46, Tryz.ntmps46
  go_wp2_with fail
  (with_reducible refine (C.out _).mono ?_); rintro e w' ⟨W, rfl, rfl, hb⟩
  have hr := (heap_alloc_old W (.cells alldesc 74) (Nat.lt_of_lt_of_le hl0.out hb.size)).trans ((hb.block _ hl0.out).trans h0.out)
  have HB := Lib.hid (Below.alloc (btrans hb0.out hb) (btrans hb0.out hb).size (.cells alldesc 74))
  have HN := Lib.hid (heap_alloc_new W (.cells alldesc 74))
  clear hb
  generalize (W.alloc (.cells alldesc 74)) = W2 at *
  generalize W.heap.size = g at *
  have k0 := cell_of_heap HN.out (k := 10 * 5 - 10) (v := .int .i64 5) rfl
  have k1 := cell_of_heap HN.out (k := 10 * 5 - 9) (v := .string ⟨#[81, 117, 97, 100]⟩) rfl
  have k2 := cell_of_heap HN.out (k := 10 * 5 - 8) (v := .int .i64 2) rfl
  have k3 := cell_of_heap HN.out (k := 10 * 5 - 7) (v := .int .i64 128) rfl
  have k4 := cell_of_heap HN.out (k := 10 * 5 - 6) (v := .int .i64 113) rfl
  have k5 := cell_of_heap HN.out (k := 10 * 5 - 5) (v := .int .i64 15) rfl
  have k6 := cell_of_heap HN.out (k := 10 * 5 - 4) (v := .int .i64 (-16494)) rfl
  have k7 := cell_of_heap HN.out (k := 10 * 5 - 3) (v := .int .i64 (16271)) rfl
  have k8 := cell_of_heap HN.out (k := 10 * 5 - 2) (v := .int .i64 111) rfl
  have k9 := cell_of_heap HN.out (k := 10 * 5 - 1) (v := .bool false) rfl
  simp only [Nat.reduceMul, Nat.reduceSub] at k0 k1 k2 k3 k4 k5 k6 k7 k8 k9
  go_wp2_with (refine wpList_store_row rfl 74 (.tmp 2) (.tmp 15) rfl w.heap.size drow5 ?_ ?_ 74 _ hr size74 ?_ ?_ ?_; (· rfl); (· rfl); (· rfl); (· simp [drow5, Value.oneCell']))
  (try simp only [Exit.inBlock, Exit.then])
  refine bodyPost_ret (results_cell_row_tmp rfl _ _ w.heap.size 74 drow5 (0, 0) _ rfl (setRow_heap _ _ _ _ _ _ hr) Tryz.underlying74 rfl size74 (.int .i64 0) rfl) rfl ?_
  exact ⟨rfl, below_row HB.out (Nat.le_refl _) _⟩
set_option maxRecDepth 100000 in
theorem dof_6 (w : World) : Calls Tryz.prog 46 #[.int .i64 6] w (fun e w' => e = .returned (.tuple #[.agg drow6, .int .i64 0]) ∧ Below w.heap.size w w') := by
  have C := Lib.hid (fun W => all_c W)
  have h0 := Lib.hid (heap_alloc_new w (.cells zero74 74))
  have hb0 := Lib.hid ((Below.refl w.heap.size w).alloc (Nat.le_refl _) (.cells zero74 74))
  have hl0 := Lib.hid (show w.heap.size < (w.alloc (.cells zero74 74)).heap.size by rw [size_alloc]; omega)
  go_enter Tryz.func46, Tryz.ntmps46
  go_wp2_with fail
  (with_reducible refine (C.out _).mono ?_); rintro e w' ⟨W, rfl, rfl, hb⟩
  have hr := (heap_alloc_old W (.cells alldesc 74) (Nat.lt_of_lt_of_le hl0.out hb.size)).trans ((hb.block _ hl0.out).trans h0.out)
  have HB := Lib.hid (Below.alloc (btrans hb0.out hb) (btrans hb0.out hb).size (.cells alldesc 74))
  have HN := Lib.hid (heap_alloc_new W (.cells alldesc 74))
  clear hb
  generalize (W.alloc (.cells alldesc 74)) = W2 at *
  generalize W.heap.size = g at *
  have k0 := cell_of_heap HN.out (k := 10 * 6 - 10) (v := .int .i64 6) rfl
  have k1 := cell_of_heap HN.out (k := 10 * 6 - 9) (v := .string ⟨#[79, 99, 116, 111]⟩) rfl
  have k2 := cell_of_heap HN.out (k := 10 * 6 - 8) (v := .int .i64 2) rfl
  have k3 := cell_of_heap HN.out (k := 10 * 6 - 7) (v := .int .i64 256) rfl
  have k4 := cell_of_heap HN.out (k := 10 * 6 - 6) (v := .int .i64 241) rfl
  have k5 := cell_of_heap HN.out (k := 10 * 6 - 5) (v := .int .i64 15) rfl
  have k6 := cell_of_heap HN.out (k := 10 * 6 - 4) (v := .int .i64 (-16622)) rfl
  have k7 := cell_of_heap HN.out (k := 10 * 6 - 3) (v := .int .i64 (16143)) rfl
  have k8 := cell_of_heap HN.out (k := 10 * 6 - 2) (v := .int .i64 239) rfl
  have k9 := cell_of_heap HN.out (k := 10 * 6 - 1) (v := .bool false) rfl
  simp only [Nat.reduceMul, Nat.reduceSub] at k0 k1 k2 k3 k4 k5 k6 k7 k8 k9
  go_wp2_with (refine wpList_store_row rfl 74 (.tmp 2) (.tmp 15) rfl w.heap.size drow6 ?_ ?_ 74 _ hr size74 ?_ ?_ ?_; (· rfl); (· rfl); (· rfl); (· simp [drow6, Value.oneCell']))
  (try simp only [Exit.inBlock, Exit.then])
  refine bodyPost_ret (results_cell_row_tmp rfl _ _ w.heap.size 74 drow6 (0, 0) _ rfl (setRow_heap _ _ _ _ _ _ hr) Tryz.underlying74 rfl size74 (.int .i64 0) rfl) rfl ?_
  exact ⟨rfl, below_row HB.out (Nat.le_refl _) _⟩
set_option maxRecDepth 100000 in
theorem dof_7 (w : World) : Calls Tryz.prog 46 #[.int .i64 7] w (fun e w' => e = .returned (.tuple #[.agg drow7, .int .i64 0]) ∧ Below w.heap.size w w') := by
  have C := Lib.hid (fun W => all_c W)
  have h0 := Lib.hid (heap_alloc_new w (.cells zero74 74))
  have hb0 := Lib.hid ((Below.refl w.heap.size w).alloc (Nat.le_refl _) (.cells zero74 74))
  have hl0 := Lib.hid (show w.heap.size < (w.alloc (.cells zero74 74)).heap.size by rw [size_alloc]; omega)
  go_enter Tryz.func46, Tryz.ntmps46
  go_wp2_with fail
  (with_reducible refine (C.out _).mono ?_); rintro e w' ⟨W, rfl, rfl, hb⟩
  have hr := (heap_alloc_old W (.cells alldesc 74) (Nat.lt_of_lt_of_le hl0.out hb.size)).trans ((hb.block _ hl0.out).trans h0.out)
  have HB := Lib.hid (Below.alloc (btrans hb0.out hb) (btrans hb0.out hb).size (.cells alldesc 74))
  have HN := Lib.hid (heap_alloc_new W (.cells alldesc 74))
  clear hb
  generalize (W.alloc (.cells alldesc 74)) = W2 at *
  generalize W.heap.size = g at *
  have k0 := cell_of_heap HN.out (k := 10 * 7 - 10) (v := .int .i64 7) rfl
  have k1 := cell_of_heap HN.out (k := 10 * 7 - 9) (v := .string ⟨#[80, 108, 97, 105, 110, 51, 50]⟩) rfl
  have k2 := cell_of_heap HN.out (k := 10 * 7 - 8) (v := .int .i64 10) rfl
  have k3 := cell_of_heap HN.out (k := 10 * 7 - 7) (v := .int .i64 32) rfl
  have k4 := cell_of_heap HN.out (k := 10 * 7 - 6) (v := .int .i64 7) rfl
  have k5 := cell_of_heap HN.out (k := 10 * 7 - 5) (v := .int .i64 96) rfl
  have k6 := cell_of_heap HN.out (k := 10 * 7 - 4) (v := .int .i64 (-101)) rfl
  have k7 := cell_of_heap HN.out (k := 10 * 7 - 3) (v := .int .i64 (90)) rfl
  have k8 := cell_of_heap HN.out (k := 10 * 7 - 2) (v := .int .i64 6) rfl
  have k9 := cell_of_heap HN.out (k := 10 * 7 - 1) (v := .bool false) rfl
  simp only [Nat.reduceMul, Nat.reduceSub] at k0 k1 k2 k3 k4 k5 k6 k7 k8 k9
  go_wp2_with (refine wpList_store_row rfl 74 (.tmp 2) (.tmp 15) rfl w.heap.size drow7 ?_ ?_ 74 _ hr size74 ?_ ?_ ?_; (· rfl); (· rfl); (· rfl); (· simp [drow7, Value.oneCell']))
  (try simp only [Exit.inBlock, Exit.then])
  refine bodyPost_ret (results_cell_row_tmp rfl _ _ w.heap.size 74 drow7 (0, 0) _ rfl (setRow_heap _ _ _ _ _ _ hr) Tryz.underlying74 rfl size74 (.int .i64 0) rfl) rfl ?_
  exact ⟨rfl, below_row HB.out (Nat.le_refl _) _⟩
set_option maxRecDepth 100000 in
theorem dof_8 (w : World) : Calls Tryz.prog 46 #[.int .i64 8] w (fun e w' => e = .returned (.tuple #[.agg drow8, .int .i64 0]) ∧ Below w.heap.size w w') := by
  have C := Lib.hid (fun W => all_c W)
  have h0 := Lib.hid (heap_alloc_new w (.cells zero74 74))
  have hb0 := Lib.hid ((Below.refl w.heap.size w).alloc (Nat.le_refl _) (.cells zero74 74))
  have hl0 := Lib.hid (show w.heap.size < (w.alloc (.cells zero74 74)).heap.size by rw [size_alloc]; omega)
  go_enter Tryz.func46, Tryz.ntmps46
  go_wp2_with fail
  (with_reducible refine (C.out _).mono ?_); rintro e w' ⟨W, rfl, rfl, hb⟩
  have hr := (heap_alloc_old W (.cells alldesc 74) (Nat.lt_of_lt_of_le hl0.out hb.size)).trans ((hb.block _ hl0.out).trans h0.out)
  have HB := Lib.hid (Below.alloc (btrans hb0.out hb) (btrans hb0.out hb).size (.cells alldesc 74))
  have HN := Lib.hid (heap_alloc_new W (.cells alldesc 74))
  clear hb
  generalize (W.alloc (.cells alldesc 74)) = W2 at *
  generalize W.heap.size = g at *
  have k0 := cell_of_heap HN.out (k := 10 * 8 - 10) (v := .int .i64 8) rfl
  have k1 := cell_of_heap HN.out (k := 10 * 8 - 9) (v := .string ⟨#[80, 108, 97, 105, 110, 54, 52]⟩) rfl
  have k2 := cell_of_heap HN.out (k := 10 * 8 - 8) (v := .int .i64 10) rfl
  have k3 := cell_of_heap HN.out (k := 10 * 8 - 7) (v := .int .i64 64) rfl
  have k4 := cell_of_heap HN.out (k := 10 * 8 - 6) (v := .int .i64 16) rfl
  have k5 := cell_of_heap HN.out (k := 10 * 8 - 5) (v := .int .i64 384) rfl
  have k6 := cell_of_heap HN.out (k := 10 * 8 - 4) (v := .int .i64 (-398)) rfl
  have k7 := cell_of_heap HN.out (k := 10 * 8 - 3) (v := .int .i64 (369)) rfl
  have k8 := cell_of_heap HN.out (k := 10 * 8 - 2) (v := .int .i64 15) rfl
  have k9 := cell_of_heap HN.out (k := 10 * 8 - 1) (v := .bool false) rfl
  simp only [Nat.reduceMul, Nat.reduceSub] at k0 k1 k2 k3 k4 k5 k6 k7 k8 k9
  go_wp2_with (refine wpList_store_row rfl 74 (.tmp 2) (.tmp 15) rfl w.heap.size drow8 ?_ ?_ 74 _ hr size74 ?_ ?_ ?_; (· rfl); (· rfl); (· rfl); (· simp [drow8, Value.oneCell']))
  (try simp only [Exit.inBlock, Exit.then])
  refine bodyPost_ret (results_cell_row_tmp rfl _ _ w.heap.size 74 drow8 (0, 0) _ rfl (setRow_heap _ _ _ _ _ _ hr) Tryz.underlying74 rfl size74 (.int .i64 0) rfl) rfl ?_
  exact ⟨rfl, below_row HB.out (Nat.le_refl _) _⟩
set_option maxRecDepth 100000 in
theorem dof_9 (w : World) : Calls Tryz.prog 46 #[.int .i64 9] w (fun e w' => e = .returned (.tuple #[.agg drow9, .int .i64 0]) ∧ Below w.heap.size w w') := by
  have C := Lib.hid (fun W => all_c W)
  have h0 := Lib.hid (heap_alloc_new w (.cells zero74 74))
  have hb0 := Lib.hid ((Below.refl w.heap.size w).alloc (Nat.le_refl _) (.cells zero74 74))
  have hl0 := Lib.hid (show w.heap.size < (w.alloc (.cells zero74 74)).heap.size by rw [size_alloc]; omega)
  go_enter Tryz.func46, Tryz.ntmps46
  go_wp2_with fail
  (with_reducible refine (C.out _).mono ?_); rintro e w' ⟨W, rfl, rfl, hb⟩
  have hr := (heap_alloc_old W (.cells alldesc 74) (Nat.lt_of_lt_of_le hl0.out hb.size)).trans ((hb.block _ hl0.out).trans h0.out)
  have HB := Lib.hid (Below.alloc (btrans hb0.out hb) (btrans hb0.out hb).size (.cells alldesc 74))
  have HN := Lib.hid (heap_alloc_new W (.cells alldesc 74))
  clear hb
  generalize (W.alloc (.cells alldesc 74)) = W2 at *
  generalize W.heap.size = g at *
  have k0 := cell_of_heap HN.out (k := 10 * 9 - 10) (v := .int .i64 9) rfl
  have k1 := cell_of_heap HN.out (k := 10 * 9 - 9) (v := .string ⟨#[80, 108, 97, 105, 110, 49, 50, 56]⟩) rfl
  have k2 := cell_of_heap HN.out (k := 10 * 9 - 8) (v := .int .i64 10) rfl
  have k3 := cell_of_heap HN.out (k := 10 * 9 - 7) (v := .int .i64 128) rfl
  have k4 := cell_of_heap HN.out (k := 10 * 9 - 6) (v := .int .i64 34) rfl
  have k5 := cell_of_heap HN.out (k := 10 * 9 - 5) (v := .int .i64 6144) rfl
  have k6 := cell_of_heap HN.out (k := 10 * 9 - 4) (v := .int .i64 (-6176)) rfl
  have k7 := cell_of_heap HN.out (k := 10 * 9 - 3) (v := .int .i64 (6111)) rfl
  have k8 := cell_of_heap HN.out (k := 10 * 9 - 2) (v := .int .i64 33) rfl
  have k9 := cell_of_heap HN.out (k := 10 * 9 - 1) (v := .bool false) rfl
  simp only [Nat.reduceMul, Nat.reduceSub] at k0 k1 k2 k3 k4 k5 k6 k7 k8 k9
  go_wp2_with (refine wpList_store_row rfl 74 (.tmp 2) (.tmp 15) rfl w.heap.size drow9 ?_ ?_ 74 _ hr size74 ?_ ?_ ?_; (· rfl); (· rfl); (· rfl); (· simp [drow9, Value.oneCell']))
  (try simp only [Exit.inBlock, Exit.then])
  refine bodyPost_ret (results_cell_row_tmp rfl _ _ w.heap.size 74 drow9 (0, 0) _ rfl (setRow_heap _ _ _ _ _ _ hr) Tryz.underlying74 rfl size74 (.int .i64 0) rfl) rfl ?_
  exact ⟨rfl, below_row HB.out (Nat.le_refl _) _⟩
set_option maxRecDepth 100000 in
theorem dof_10 (w : World) : Calls Tryz.prog 46 #[.int .i64 10] w (fun e w' => e = .returned (.tuple #[.agg drow10, .int .i64 0]) ∧ Below w.heap.size w w') := by
  have C := Lib.hid (fun W => all_c W)
  have h0 := Lib.hid (heap_alloc_new w (.cells zero74 74))
  have hb0 := Lib.hid ((Below.refl w.heap.size w).alloc (Nat.le_refl _) (.cells zero74 74))
  have hl0 := Lib.hid (show w.heap.size < (w.alloc (.cells zero74 74)).heap.size by rw [size_alloc]; omega)
  go_enter Tryz.func46, Tryz.ntmps46
  go_wp2_with fail
  (with_reducible refine (C.out _).mono ?_); rintro e w' ⟨W, rfl, rfl, hb⟩
  have hr := (heap_alloc_old W (.cells alldesc 74) (Nat.lt_of_lt_of_le hl0.out hb.size)).trans ((hb.block _ hl0.out).trans h0.out)
  have HB := Lib.hid (Below.alloc (btrans hb0.out hb) (btrans hb0.out hb).size (.cells alldesc 74))
  have HN := Lib.hid (heap_alloc_new W (.cells alldesc 74))
  clear hb
  generalize (W.alloc (.cells alldesc 74)) = W2 at *
  generalize W.heap.size = g at *
  have k0 := cell_of_heap HN.out (k := 10 * 10 - 10) (v := .int .i64 10) rfl
  have k1 := cell_of_heap HN.out (k := 10 * 10 - 9) (v := .string ⟨#[68, 101, 110, 115, 101, 51, 50]⟩) rfl
  have k2 := cell_of_heap HN.out (k := 10 * 10 - 8) (v := .int .i64 10) rfl
  have k3 := cell_of_heap HN.out (k := 10 * 10 - 7) (v := .int .i64 32) rfl
  have k4 := cell_of_heap HN.out (k := 10 * 10 - 6) (v := .int .i64 7) rfl
  have k5 := cell_of_heap HN.out (k := 10 * 10 - 5) (v := .int .i64 96) rfl
  have k6 := cell_of_heap HN.out (k := 10 * 10 - 4) (v := .int .i64 (-101)) rfl
  have k7 := cell_of_heap HN.out (k := 10 * 10 - 3) (v := .int .i64 (90)) rfl
  have k8 := cell_of_heap HN.out (k := 10 * 10 - 2) (v := .int .i64 6) rfl
  have k9 := cell_of_heap HN.out (k := 10 * 10 - 1) (v := .bool true) rfl
  simp only [Nat.reduceMul, Nat.reduceSub] at k0 k1 k2 k3 k4 k5 k6 k7 k8 k9
  go_wp2_with (refine wpList_store_row rfl 74 (.tmp 2) (.tmp 15) rfl w.heap.size drow10 ?_ ?_ 74 _ hr size74 ?_ ?_ ?_; (· rfl); (· rfl); (· rfl); (· simp [drow10, Value.oneCell']))
  (try simp only [Exit.inBlock, Exit.then])
  refine bodyPost_ret (results_cell_row_tmp rfl _ _ w.heap.size 74 drow10 (0, 0) _ rfl (setRow_heap _ _ _ _ _ _ hr) Tryz.underlying74 rfl size74 (.int .i64 0) rfl) rfl ?_
  exact ⟨rfl, below_row HB.out (Nat.le_refl _) _⟩
set_option maxRecDepth 100000 in
theorem dof_11 (w : World) : Calls Tryz.prog 46 #[.int .i64 11] w (fun e w' => e = .returned (.tuple #[.agg drow11, .int .i64 0]) ∧ Below w.heap.size w w') := by
  have C := Lib.hid (fun W => all_c W)
  have h0 := Lib.hid (heap_alloc_new w (.cells zero74 74))
  have hb0 := Lib.hid ((Below.refl w.heap.size w).alloc (Nat.le_refl _) (.cells zero74 74))
  have hl0 := Lib.hid (show w.heap.size < (w.alloc (.cells zero74 74)).heap.size by rw [size_alloc]; omega)
  go_enter Tryz.func46, Tryz.ntmps46
  go_wp2_with fail
  (with_reducible refine (C.out _).mono ?_); rintro e w' ⟨W, rfl, rfl, hb⟩
  have hr := (heap_alloc_old W (.cells alldesc 74) (Nat.lt_of_lt_of_le hl0.out hb.size)).trans ((hb.block _ hl0.out).trans h0.out)
  have HB := Lib.hid (Below.alloc (btrans hb0.out hb) (btrans hb0.out hb).size (.cells alldesc 74))
  have HN := Lib.hid (heap_alloc_new W (.cells alldesc 74))
  clear hb
  generalize (W.alloc (.cells alldesc 74)) = W2 at *
  generalize W.heap.size = g at *
  have k0 := cell_of_heap HN.out (k := 10 * 11 - 10) (v := .int .i64 11) rfl
  have k1 := cell_of_heap HN.out (k := 10 * 11 - 9) (v := .string ⟨#[68, 101, 110, 115, 101, 54, 52]⟩) rfl
  have k2 := cell_of_heap HN.out (k := 10 * 11 - 8) (v := .int .i64 10) rfl
  have k3 := cell_of_heap HN.out (k := 10 * 11 - 7) (v := .int .i64 64) rfl
  have k4 := cell_of_heap HN.out (k := 10 * 11 - 6) (v := .int .i64 16) rfl
  have k5 := cell_of_heap HN.out (k := 10 * 11 - 5) (v := .int .i64 384) rfl
  have k6 := cell_of_heap HN.out (k := 10 * 11 - 4) (v := .int .i64 (-398)) rfl
  have k7 := cell_of_heap HN.out (k := 10 * 11 - 3) (v := .int .i64 (369)) rfl
  have k8 := cell_of_heap HN.out (k := 10 * 11 - 2) (v := .int .i64 15) rfl
  have k9 := cell_of_heap HN.out (k := 10 * 11 - 1) (v := .bool true) rfl
  simp only [Nat.reduceMul, Nat.reduceSub] at k0 k1 k2 k3 k4 k5 k6 k7 k8 k9
  go_wp2_with (refine wpList_store_row rfl 74 (.tmp 2) (.tmp 15) rfl w.heap.size drow11 ?_ ?_ 74 _ hr size74 ?_ ?_ ?_; (· rfl); (· rfl); (· rfl); (· simp [drow11, Value.oneCell']))
  (try simp only [Exit.inBlock, Exit.then])
  refine bodyPost_ret (results_cell_row_tmp rfl _ _ w.heap.size 74 drow11 (0, 0) _ rfl (setRow_heap _ _ _ _ _ _ hr) Tryz.underlying74 rfl size74 (.int .i64 0) rfl) rfl ?_
  exact ⟨rfl, below_row HB.out (Nat.le_refl _) _⟩
set_option maxRecDepth 100000 in
theorem dof_12 (w : World) : Calls Tryz.prog 46 #[.int .i64 12] w (fun e w' => e = .returned (.tuple #[.agg drow12, .int .i64 0]) ∧ Below w.heap.size w w') := by
  have C := Lib.hid (fun W => all_c W)
  have h0 := Lib.hid (heap_alloc_new w (.cells zero74 74))
  have hb0 := Lib.hid ((Below.refl w.heap.size w).alloc (Nat.le_refl _) (.cells zero74 74))
  have hl0 := Lib.hid (show w.heap.size < (w.alloc (.cells zero74 74)).heap.size by rw [size_alloc]; omega)
  go_enter Tryz.func46, Tryz.ntmps46
  go_wp2_with fail
  (with_reducible refine (C.out _).mono ?_); rintro e w' ⟨W, rfl, rfl, hb⟩
  have hr := (heap_alloc_old W (.cells alldesc 74) (Nat.lt_of_lt_of_le hl0.out hb.size)).trans ((hb.block _ hl0.out).trans h0.out)
  have HB := Lib.hid (Below.alloc (btrans hb0.out hb) (btrans hb0.out hb).size (.cells alldesc 74))
  have HN := Lib.hid (heap_alloc_new W (.cells alldesc 74))
  clear hb
  generalize (W.alloc (.cells alldesc 74)) = W2 at *
  generalize W.heap.size = g at *
  have k0 := cell_of_heap HN.out (k := 10 * 12 - 10) (v := .int .i64 12) rfl
  have k1 := cell_of_heap HN.out (k := 10 * 12 - 9) (v := .string ⟨#[68, 101, 110, 115, 101, 49, 50, 56]⟩) rfl
  have k2 := cell_of_heap HN.out (k := 10 * 12 - 8) (v := .int .i64 10) rfl
  have k3 := cell_of_heap HN.out (k := 10 * 12 - 7) (v := .int .i64 128) rfl
  have k4 := cell_of_heap HN.out (k := 10 * 12 - 6) (v := .int .i64 34) rfl
  have k5 := cell_of_heap HN.out (k := 10 * 12 - 5) (v := .int .i64 6144) rfl
  have k6 := cell_of_heap HN.out (k := 10 * 12 - 4) (v := .int .i64 (-6176)) rfl
  have k7 := cell_of_heap HN.out (k := 10 * 12 - 3) (v := .int .i64 (6111)) rfl
  have k8 := cell_of_heap HN.out (k := 10 * 12 - 2) (v := .int .i64 33) rfl
  have k9 := cell_of_heap HN.out (k := 10 * 12 - 1) (v := .bool true) rfl
  simp only [Nat.reduceMul, Nat.reduceSub] at k0 k1 k2 k3 k4 k5 k6 k7 k8 k9
  go_wp2_with (refine wpList_store_row rfl 74 (.tmp 2) (.tmp 15) rfl w.heap.size drow12 ?_ ?_ 74 _ hr size74 ?_ ?_ ?_; (· rfl); (· rfl); (· rfl); (· simp [drow12, Value.oneCell']))
  (try simp only [Exit.inBlock, Exit.then])
  refine bodyPost_ret (results_cell_row_tmp rfl _ _ w.heap.size 74 drow12 (0, 0) _ rfl (setRow_heap _ _ _ _ _ _ hr) Tryz.underlying74 rfl size74 (.int .i64 0) rfl) rfl ?_
  exact ⟨rfl, below_row HB.out (Nat.le_refl _) _⟩
def dinfo : Nat → Array Value | 1 => drow1 | 2 => drow2 | 3 => drow3 | 4 => drow4 | 5 => drow5 | 6 => drow6 | 7 => drow7 | 8 => drow8 | 9 => drow9 | 10 => drow10 | 11 => drow11 | 12 => drow12 | _ => zero74
theorem dof_in (n : Nat) (h1 : 1 ≤ n) (h2 : n ≤ 12) (w : World) : Calls Tryz.prog 46 #[.int .i64 n] w (fun e w' => e = .returned (.tuple #[.agg (dinfo n), .int .i64 0]) ∧ Below w.heap.size w w') := by
  have : n = 1 ∨ n = 2 ∨ n = 3 ∨ n = 4 ∨ n = 5 ∨ n = 6 ∨ n = 7 ∨ n = 8 ∨ n = 9 ∨ n = 10 ∨ n = 11 ∨ n = 12 := by omega
  rcases this with rfl | rfl | rfl | rfl | rfl | rfl | rfl | rfl | rfl | rfl | rfl | rfl
  · exact dof_1 w
  · exact dof_2 w
  · exact dof_3 w
  · exact dof_4 w
  · exact dof_5 w
  · exact dof_6 w
  · exact dof_7 w
  · exact dof_8 w
  · exact dof_9 w
  · exact dof_10 w
  · exact dof_11 w
  · exact dof_12 w
theorem dof_out (n : Int) (h : n < 1 ∨ 12 < n) (w : World) : Calls Tryz.prog 46 #[.int .i64 n] w (fun e w' => e = .returned (.tuple #[.agg zero74, .int .i64 1]) ∧ Below w.heap.size w w') := by
  rcases h with h | h
  · go_enter Tryz.func46, Tryz.ntmps46
    go_wp2_with fail
    refine bodyPost_ret (results_cell_row_tmp rfl _ _ w.heap.size 74 zero74 (0, 0) _ rfl (heap_alloc_new _ _) Tryz.underlying74 rfl size74 (.int .i64 1) rfl) rfl ?_
    exact ⟨rfl, ((Below.refl _ _).alloc (Nat.le_refl _) _)⟩
  · have h1 : decide (n < 1) = false := by simp; omega
    go_enter Tryz.func46, Tryz.ntmps46
    go_wp2_with fail
    refine bodyPost_ret (results_cell_row_tmp rfl _ _ w.heap.size 74 zero74 (0, 0) _ rfl (heap_alloc_new _ _) Tryz.underlying74 rfl size74 (.int .i64 1) rfl) rfl ?_
    exact ⟨rfl, ((Below.refl _ _).alloc (Nat.le_refl _) _)⟩
end Go.Proofs.YtaepgdkpaffaaaaGreatDoor
