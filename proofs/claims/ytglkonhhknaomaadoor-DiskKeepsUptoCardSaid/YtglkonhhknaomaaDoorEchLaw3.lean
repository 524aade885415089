/- The walk of the law's awake: the document's examples. -/
import Derived.Test.YtglkonhhknaomaaDoorEchLit
namespace Go.Proofs.YtglkonhhknaomaaDoor
open Go.RowKit Go.Maps

def awk1 : DSt := ⟨10, -1, [⟨[97], [120, 121, 122], 0⟩]⟩
def awk2 : DSt := ⟨10, -1, [⟨[97], [120, 121, 122], 3⟩]⟩
def awk3 : DSt := ⟨10, -1, [⟨[97], [120, 121, 122, 117, 118, 119], 3⟩]⟩
def awk4 : DSt := ⟨10, -1, [⟨[97], [120, 121, 122, 117], 4⟩]⟩
theorem awk_a : DSt.append ⟨10, -1, []⟩ [97] ([[120, 121, 122]] : List (List UInt8)).flatten = (0, awk1) := by rfl
theorem awk_b : awk1.sync [[97]] = (0, awk2) := by rfl
theorem awk_c : awk2.append [97] ([[117], [118, 119]] : List (List UInt8)).flatten = (0, awk3) := by rfl
theorem awk_d : awk3.append [98] ([[49, 50, 51, 52, 53]] : List (List UInt8)).flatten = (31, awk3) := by rfl
theorem awk_e : goneF awk3.files [1] = 2 := by rfl
theorem awk_f : awk3.crash [1] = awk4 := by rfl

set_option maxRecDepth 100000 in
set_option maxHeartbeats 4000000 in
theorem awake_any (w : World) :
    Calls Tryd.prog 5 #[] w fun e w' => e = .returned (.bool true) ∧ Below w.heap.size w w' := by
  have kc := conv_const
  have kc1 := conv_const1
  go_enter Tryd.func5, Tryd.ntmps5
  go_wp2_with fail
  refine (new_own (B := w.heap.size) (w0 := w) w 10 (by omega) (by omega) (Below.refl _ _) (Nat.le_refl _)).mono ?_
  rintro e w1 ⟨d, mb, rfl, h1⟩
  have H1 := Lib.hid h1
  clear h1
  go_wp2_with fail
  refine (append_own ((H1.out.alloc _).alloc _) _ (by simp [ByteArray.size]; unfold maxLen; omega) _ [[120, 121, 122]] (listAt_one (blk_new1 _ _ _) (bytesAt_blk _ (blk_alloc (blk_new _ _)) rfl rfl)) (by exact awk_a) 0 rfl (by simp [total])).mono ?_
  rintro e w2 ⟨rfl, h2⟩
  have H2 := Lib.hid h2
  clear h2 H1
  go_wp2_with fail
  refine (sync_own H2.out _ (by simp [ByteArray.size]; unfold maxLen; omega) _ (by exact awk_b) 0 rfl).mono ?_
  rintro e w3 ⟨rfl, h3⟩
  have H3 := Lib.hid h3
  clear h3 H2
  go_wp2_with fail
  refine (append_own ((((((H3.out.alloc _).alloc _).alloc _))) ) _ (by simp [ByteArray.size]; unfold maxLen; omega) _ [[117], [118, 119]] (listAt_two (blk_new2 _ _ _ _) (bytesAt_blk _ (blk_alloc (blk_alloc (blk_new _ _))) rfl rfl) (bytesAt_blk _ (blk_alloc (blk_new1 _ _ _)) rfl rfl)) (by exact awk_c) 0 rfl (by simp [total, awk2])).mono ?_
  rintro e w4 ⟨rfl, h4⟩
  have H4 := Lib.hid h4
  clear h4 H3
  go_wp2_with fail
  refine (append_own ((H4.out.alloc _).alloc _) _ (by simp [ByteArray.size]; unfold maxLen; omega) _ [[49, 50, 51, 52, 53]] (listAt_one (blk_new1 _ _ _) (bytesAt_blk _ (blk_alloc (blk_new _ _)) rfl rfl)) (by exact awk_d) 31 rfl (by simp [total, awk3])).mono ?_
  rintro e w5 ⟨rfl, h5⟩
  have H5 := Lib.hid h5
  clear h5 H4
  go_wp2_with fail
  refine (crash_own H5.out _ [1] rfl rfl (by simp [maxLen]) (by simp) (by exact awk_e) (by exact awk_f) 2 rfl).mono ?_
  rintro e w6 ⟨rfl, h6⟩
  have H6 := Lib.hid h6
  clear h6 H5
  go_wp2_with fail
  refine (read_own H6.out _ (by simp [ByteArray.size]; unfold maxLen; omega) ⟨[97], [120, 121, 122, 117], 4⟩ (by rfl)).mono ?_
  rintro e w7 ⟨v, rfl, hn, h7⟩
  have H7 := Lib.hid h7
  have HN := Lib.hid hn.1
  have hcv := conv_string HN.out.at
  clear h7 H6 hn
  go_wp2_with fail
  go_ret
  exact ⟨rfl, H7.out.below⟩

end Go.Proofs.YtglkonhhknaomaaDoor
