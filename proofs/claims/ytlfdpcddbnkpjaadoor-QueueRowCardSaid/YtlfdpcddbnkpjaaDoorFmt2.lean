/-
  The walk of strconv.FormatInt at base 2, for every number above 0: its binary digits. Premise: one cell of the listed table math/bits.deBruijn64tab.
-/
import Derived.Test.YtlfdpcddbnkpjaaDoorBitsW1
import Derived.Deep.Cut
namespace Go.Proofs.YtlfdpcddbnkpjaaDoor
open Go.RowKit Go.ChangeShapes Go.WideShapes

/-- The one cell of math/bits.deBruijn64tab that base 2 reads. -/
def Tab2 (w : World) : Prop := w.cell? ⟨3, 1, none⟩ = some (.int .u8 1)

theorem Tab2.lt {w : World} (h : Tab2 w) : 3 < w.heap.size := by
  unfold Tab2 World.cell? at h
  rcases Nat.lt_or_ge 3 w.heap.size with hlt | hge
  · exact hlt
  · simp [Array.getElem?_eq_none hge] at h
theorem Tab2.below {w w' : World} (h : Tab2 w) (hb : Below w.heap.size w w') : Tab2 w' := (hb.cell (p := ⟨3, 1, none⟩) h.lt).trans h

theorem pow2_any (w : World) : Calls Tryd.prog 77 #[.int .i64 2] w fun e w' => e = .returned (.bool true) ∧ w' = w := by
  go_enter Tryd.func77, Tryd.ntmps77
  go_wp2_with fail
  go_ret
  exact ⟨rfl, rfl⟩

theorem trail64 (w : World) (h : Tab2 w) : Calls Tryd.prog 82 #[.int .u64 2] w fun e w' => e = .returned (.int .i64 1) ∧ w' = w := by
  unfold Tab2 at h
  have e1 : IntKind.u64.wrap (-2) = 18446744073709551614 := by decide
  have e2 : bits BinOp.and IntKind.u64 2 18446744073709551614 = 2 := by decide
  have e3 : IntKind.u64.wrap (2 * 285870213051353865) = 571740426102707730 := by decide
  have e4 : (571740426102707730 : Int) / 288230376151711744 = 1 := by decide
  go_enter Tryd.func82, Tryd.ntmps82
  go_wp2_with fail
  go_ret
  exact ⟨rfl, rfl⟩

theorem trail (w : World) (h : Tab2 w) : Calls Tryd.prog 78 #[.int .u64 2] w fun e w' => e = .returned (.int .i64 1) ∧ w' = w := by
  have H := Lib.hid h; clear h
  go_enter Tryd.func78, Tryd.ntmps78
  go_wp2_with (go_at_call 82; refine (trail64 _ H.out).mono ?_; rintro e w1 ⟨rfl, rfl⟩)
  go_ret
  exact ⟨rfl, rfl⟩

/-- The digits' string at 0 and 1. -/
def digits : ByteArray := { data := #[48, 49, 50, 51, 52, 53, 54, 55, 56, 57, 97, 98, 99, 100, 101, 102, 103, 104, 105, 106, 107, 108, 109, 110, 111, 112, 113, 114, 115, 116, 117, 118, 119, 120, 121, 122] }

theorem digit_at (x : Nat) (k : IntKind) (wx : World) : (Instr.index 9 (.string { data := #[48, 49, 50, 51, 52, 53, 54, 55, 56, 57, 97, 98, 99, 100, 101, 102, 103, 104, 105, 106, 107, 108, 109, 110, 111, 112, 113, 114, 115, 116, 117, 118, 119, 120, 121, 122] }) (.int k ((x % 2 : Nat) : Int))).run Tryd.prog wx = .ok (.int .u8 (48 + ((x % 2 : Nat) : Int))) wx := by
  rw [run_index_string wx _ _ _ _ Tryd.underlying9]
  rcases Nat.mod_two_eq_zero_or_one x with h | h <;> rw [h] <;> rfl

theorem Tryd.info65 : (Tryd.prog.info? 104).map (fun i => (i.zero, i.size)) = some (some (.agg (Array.replicate 65 (.int .u8 0))), 65) := by kernel_rfl

theorem digit_val (x : Nat) : ({ data := #[48, 49, 50, 51, 52, 53, 54, 55, 56, 57, 97, 98, 99, 100, 101, 102, 103, 104, 105, 106, 107, 108, 109, 110, 111, 112, 113, 114, 115, 116, 117, 118, 119, 120, 121, 122] : ByteArray }[x % 2]'(by have := Nat.mod_lt x (show 0 < 2 by decide); show x % 2 < 36; omega)).toNat = 48 + x % 2 := by
  rcases Nat.mod_two_eq_zero_or_one x with h | h <;> simp only [h] <;> rfl

theorem fmt_more {N j x : Nat} (hx : x = N / 2 ^ j) (hN : N < 2 ^ 62) (h2 : 2 ≤ x) : j + 1 ≤ 62 := by
  rcases Nat.lt_or_ge j 62 with h | h
  · omega
  · have h3 : 2 ^ 62 ≤ 2 ^ j := Nat.pow_le_pow_right (by decide) h
    rw [Nat.div_eq_of_lt (by omega)] at hx
    omega

theorem fmt_set (N j m x : Nat) (hm : m + j = 65) (hj : j ≤ 62) (hx : x = N / 2 ^ j) :
    (List.replicate m (Value.int .u8 0) ++ (M.wr N j).map bv).toArray.setIfInBounds (m - 1) (.int .u8 (48 + ((x % 2 : Nat) : Int))) = (List.replicate (m - 1) (Value.int .u8 0) ++ (M.wr N (j + 1)).map bv).toArray := by
  have h := wr_set N 65 j x (by omega) hx
  obtain rfl : m = 65 - j := by omega
  rw [List.setIfInBounds_toArray, show 65 - j - 1 = 65 - 1 - j by omega, h]
  rw [show 65 - 1 - j = 65 - (j + 1) by omega]

theorem fmt_conv (N j m : Nat) (hm : m + j = 65) (hj : j ≤ 62) (w : World) (g : Nat) (h3 : Blk w g 104 (List.replicate (m - 1) (Value.int .u8 0) ++ (M.wr N (j + 1)).map bv).toArray) :
    (convert 28 9 (.slice (some ⟨g, m - 1, none⟩) (65 - (m - 1)) (65 - (m - 1)))).run Tryd.prog w = .ok (sv (M.wr N (j + 1))) w := by
  have hl : 65 - (m - 1) = (M.wr N (j + 1)).length := by rw [M.length_wr]; omega
  rw [hl]
  refine run_convert_bytes_back _ _ _ _ _ _ _ Tryd.underlying28 Tryd.underlying5 Tryd.underlying9 fun i hi => ?_
  have hadd : (⟨g, m - 1, none⟩ : Addr).add i = ⟨g, m - 1 + i, none⟩ := by unfold Addr.add; split <;> simp_all
  rw [hadd]
  refine (h3.cell _).trans ?_
  rw [List.getElem?_toArray, List.getElem?_append_right (by simp), List.length_replicate, Nat.add_sub_cancel_left, List.getElem?_map, List.getElem?_eq_getElem hi]
  rfl

theorem fmt_bounds {N j : Nat} (hx : 1 = N / 2 ^ j) : 2 ^ (j + 1 - 1) ≤ N ∧ N < 2 ^ (j + 1) := by
  have hp : 0 < 2 ^ j := Nat.pow_pos (by decide)
  have h1 := Nat.div_add_mod N (2 ^ j)
  have h2 := Nat.mod_lt N hp
  rw [← hx] at h1
  rw [Nat.add_sub_cancel, Nat.pow_succ]
  omega

theorem Tryd.arr65 : Tryd.prog.arrayLen 104 = 65 ∧ Tryd.prog.elem 104 = 5 := by constructor <;> kernel_rfl

theorem Tryd.size8 (w : World) : (sizeOf 5).run Tryd.prog w = .ok 1 w := by kernel_rfl

theorem fmt_slice (m : Nat) (h1 : 1 ≤ m) (h2 : m ≤ 65) (g : Nat) (w : World) : (Instr.sliceAt 104 (.pointer (some ⟨g, 0, none⟩)) (some (.int .i64 ((m : Int) - 1))) none none).run Tryd.prog w = .ok (.slice (some ⟨g, m - 1, none⟩) (65 - (m - 1)) (65 - (m - 1))) w := by
  have e : ((m : Int) - 1).toNat = m - 1 := by omega
  rw [run_sliceAt_array_l w _ _ (by rw [Tryd.arr65.1, Tryd.arr65.2]; exact Tryd.underlying104) _ _ (by omega) (by rw [Tryd.arr65.1]; omega), Tryd.arr65.1, Tryd.arr65.2, Tryd.size8, e]
  show Result.ok (slicedAt _ _ _ _ _) w = _
  unfold slicedAt
  rw [if_neg (by omega)]
  have hadd : (⟨g, 0, none⟩ : Addr).add ((m - 1) * 1) = ⟨g, m - 1, none⟩ := by unfold Addr.add; split <;> simp_all
  rw [hadd]

theorem zero65 : Tryd.zeroCells104 = (List.replicate 65 (Value.int .u8 0)).toArray := by kernel_rfl

set_option maxRecDepth 100000 in
set_option maxHeartbeats 800000 in
theorem fmtBits (N : Nat) (hN : 0 < N) (hlt : N < 2 ^ 62) (w : World) (h : Tab2 w) :
    Calls Tryd.prog 67 #[.slice none 0 0, .int .u64 N, .int .i64 2, .bool false, .bool false] w fun e w' => ∃ k, 0 < k ∧ 2 ^ (k - 1) ≤ N ∧ N < 2 ^ k ∧ e = .returned (.tuple #[.slice none 0 0, sv (M.wr N k)]) ∧ Below w.heap.size w w' := by
  have H := Lib.hid h; clear h
  have HN := Lib.hid hN; clear hN
  have HL := Lib.hid hlt; clear hlt
  go_enter Tryd.func67, Tryd.ntmps67
  go_wp2_with (first
    | (go_at_call 77; refine (pow2_any _).mono ?_; rintro e w1 ⟨rfl, rfl⟩)
    | (go_at_call 78; refine (trail _ (H.out.below ((Below.refl _ _).alloc (Nat.le_refl _) _))).mono ?_; rintro e w1 ⟨rfl, rfl⟩))
  have hB0 : Blk (w.alloc (.cells Tryd.zeroCells104 104)) w.heap.size 104 (List.replicate 65 (Value.int .u8 0) ++ (M.wr N 0).map bv).toArray := by
    have h := Blk.new w 104 Tryd.zeroCells104
    rw [zero65] at h
    exact h
  have hb0 : Below w.heap.size w (w.alloc (.cells Tryd.zeroCells104 104)) := (Below.refl _ _).alloc (Nat.le_refl _) _
  generalize w.alloc (.cells Tryd.zeroCells104 104) = w0 at hB0 hb0 ⊢
  go_loopw [1, 13] (fun u i wr => ∃ j m : Nat, m + j = 65 ∧ j ≤ 62 ∧ i = .int .i64 m ∧ u = .int .u64 (N / 2 ^ j : Nat) ∧ 0 < N / 2 ^ j ∧ Blk wr w.heap.size 104 (List.replicate m (Value.int .u8 0) ++ (M.wr N j).map bv).toArray ∧ Below w.heap.size w wr)
    (fun _ i _ => (intOf i).toNat)
  case atStart => exact ⟨0, 65, rfl, by decide, rfl, by simp, by simpa using HN.out, hB0, hb0⟩
  case round =>
    obtain ⟨j, m, hm, hj, rfl, rfl, hpos, hBlk, hb⟩ := hrel
    clear hB0 hb0
    obtain ⟨x, hx⟩ : ∃ x, x = N / 2 ^ j := ⟨_, rfl⟩
    rw [← hx] at hpos ⊢
    have HX := Lib.hid hx; clear hx
    have HB := Lib.hid hBlk
    have hfr := hBlk.frozen (m - 1)
    have hc : wr.cell? ⟨w.heap.size, m - 1, none⟩ = some (.int .u8 0) := by
      rw [hBlk.cell, List.getElem?_toArray, List.getElem?_append_left (by simp; omega), List.getElem?_replicate, if_pos (by omega)]
    clear hBlk
    have h1 := u64_and_one x N j HX.out (by have := HL.out; omega)
    by_cases h2 : 2 ≤ x
    · have hd := digit_at x .u64
      go_wp2
      go_roundw
      case rel =>
        refine ⟨j + 1, m - 1, by omega, by have := fmt_more HX.out HL.out h2; omega, by go_num, ?_, ?_, ?_, hb.setCell (Nat.le_refl _) _⟩
        · rw [Nat.pow_succ, ← Nat.div_div_eq_div_mul, ← HX.out]; rfl
        · rw [Nat.pow_succ, ← Nat.div_div_eq_div_mul, ← HX.out]; omega
        · have h3 := HB.out.set_ (m - 1) (.int .u8 (48 + ((x % 2 : Nat) : Int)))
          rw [fmt_set N j m x hm hj HX.out] at h3
          have hv := digit_val x
          have e : ∀ y : UInt8, y.toNat = 48 + x % 2 → Value.int .u8 (48 + ((x % 2 : Nat) : Int)) = .int .u8 ((y.toNat : Nat) : Int) := fun y hy => by rw [hy]; rfl
          rw [e _ (digit_val x)] at h3
          exact h3
      case measure => simp [intOf]; omega
    · obtain rfl : x = 1 := by omega
      have hsl := fmt_slice m (by omega) (by omega) w.heap.size
      go_upto_region 30 with (fail)
      generalize hwz : World.setCell wr _ _ = wz
      have HZ : Blk wz w.heap.size 104 (List.replicate (m - 1) (Value.int .u8 0) ++ (M.wr N (j + 1)).map bv).toArray := by
        rw [← hwz, ← fmt_set N j m 1 hm hj HX.out]
        exact HB.out.set_ (m - 1) (.int .u8 49)
      have hbz : Below w.heap.size w wz := by
        rw [← hwz]
        exact hb.setCell (Nat.le_refl _) _
      have hconv := fmt_conv N j m hm hj wz _ HZ
      have HZ2 := Lib.hid HZ
      clear hwz HZ
      go_wp2
      go_ret2
      exact ⟨j + 1, by omega, (fmt_bounds HX.out).1, (fmt_bounds HX.out).2, rfl, hbz⟩
end Go.Proofs.YtlfdpcddbnkpjaaDoor
