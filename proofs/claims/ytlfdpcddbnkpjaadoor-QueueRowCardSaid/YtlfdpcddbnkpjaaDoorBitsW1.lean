/-
  The walks of bits.Write and bits.Read: what they return, for every number and row in range; nothing that was there turns.
-/
import Derived.Test.YtlfdpcddbnkpjaaDoorGen
import Derived.Test.YtlfdpcddbnkpjaaDoorBitsPlain
namespace Go.Proofs.YtlfdpcddbnkpjaaDoor
open Go.RowKit Go.ChangeShapes Go.WideShapes

theorem u64_and_one (x N j : Nat) (hx : x = N / 2 ^ j) (hN : N ≤ 18446744073709551615) : bits BinOp.and IntKind.u64 (x : Int) 1 = ((x % 2 : Nat) : Int) := by
  have h1 : x ≤ N := by rw [hx]; exact Nat.div_le_self _ _
  have h := bits_and_u64_nat x 1 (by omega) (by omega)
  rw [Nat.and_one_is_mod] at h
  exact h

theorem bv_bit (n : Nat) : bv (UInt8.ofNat (48 + n % 2)) = .int .u8 (48 + ((n % 2 : Nat) : Int)) := by
  unfold bv
  rcases Nat.mod_two_eq_zero_or_one n with h | h <;> rw [h] <;> rfl

theorem wr_set (N k j x : Nat) (hlt : j < k) (hx : x = N / 2 ^ j) :
    (List.replicate (k - j) (Value.int .u8 0) ++ (M.wr N j).map bv).set (k - 1 - j) (.int .u8 (48 + ((x % 2 : Nat) : Int))) = List.replicate (k - (j + 1)) (Value.int .u8 0) ++ (M.wr N (j + 1)).map bv := by
  obtain ⟨m, rfl⟩ : ∃ m, k = m + 1 + j := ⟨k - 1 - j, by omega⟩
  rw [show m + 1 + j - j = m + 1 from by omega, show m + 1 + j - (j + 1) = m from by omega, show m + 1 + j - 1 - j = m from by omega, List.replicate_succ', List.append_assoc,
    List.set_append_right m _ (by rw [List.length_replicate]; exact Nat.le_refl _), List.length_replicate, Nat.sub_self, List.singleton_append, List.set_cons_zero, M.wr, List.map_cons, Nat.shiftRight_eq_div_pow, ← hx, bv_bit]

set_option maxHeartbeats 400000 in
theorem write_any (N k : Nat) (hN : N ≤ 18446744073709551615) (hk : k ≤ 64) (w : World) :
    Calls Tryd.prog 53 #[.int .u64 N, .int .i64 k] w fun e w' => e = .returned (.string ⟨(M.wr N k).toArray⟩) ∧ Below w.heap.size w w' := by
  obtain ⟨i0, hi, hz0, hz1, hz2⟩ := info_parts Tryd.infoU8
  have HN := Lib.hid hN; clear hN
  go_enter Tryd.func53, Tryd.ntmps53
  go_wp2_with (at_make; refine wpList_make_full _ rfl _ _ 28 rfl w.heap.size 5 i0 _ 1 Tryd.underlying28 hi hz0 hz1 _ _ _ _ k rfl rfl rfl rfl (by rw [hz2]; omega) (by unfold maxLen; omega) (Nat.le_refl _) ?_; intro w1 hown1 hg1)
  have hb1 : Below w.heap.size w w1 := (Below.refl _ _).grown hg1 (Nat.le_refl _) (by simp)
  have hown0 : w1.ownsRow w.heap.size 5 1 (Value.slice (some ⟨w.heap.size, 0, none⟩) k k) k (List.replicate k (Value.int .u8 0)) := by
    have := hown1
    rw [Nat.mul_one, show (Value.int IntKind.u8 0).cells = #[Value.int IntKind.u8 0] from rfl, toList_madeCells_one] at this
    exact this
  clear hown1 hg1
  go_loopw [0, 10] (fun n i wr => ∃ j : Nat, j ≤ k ∧ i = .int .i64 j ∧ n = .int .u64 (N / 2 ^ j : Nat) ∧
      wr.ownsRow w.heap.size 5 1 (Value.slice (some ⟨w.heap.size, 0, none⟩) k k) k (List.replicate (k - j) (Value.int .u8 0) ++ (M.wr N j).map bv) ∧ Below w.heap.size w wr)
    (fun _ i _ => k - (intOf i).toNat)
  case atStart => exact ⟨0, Nat.zero_le _, rfl, by simp, by simpa [M.wr] using hown0, hb1⟩
  case round =>
    obtain ⟨j, hj, rfl, rfl, hown, hb⟩ := hrel
    obtain ⟨x, hx⟩ : ∃ x, x = N / 2 ^ j := ⟨_, rfl⟩
    have h1 := u64_and_one x N j hx HN.out
    rw [← hx]
    have HX := Lib.hid hx; clear hx
    by_cases hlt : j < k
    · have hc : wr.cell? ⟨w.heap.size, k - 1 - j, none⟩ = some (.int .u8 0) := by
        rw [hown.cellAt _ (by omega)]
        rw [List.getElem?_append_left (by simp; omega)]
        rw [List.getElem?_replicate, if_pos (by omega)]
      have hf := hown.frozenAt (k - 1 - j)
      go_wp2
      go_roundw
      case rel =>
        refine ⟨j + 1, by omega, by go_num, ?_, ?_, ?_⟩
        · rw [Nat.pow_succ, ← Nat.div_div_eq_div_mul, ← HX.out]; rfl
        · have h2 := (hown.stored (k - 1 - j) (.int .u8 (48 + ((x % 2 : Nat) : Int)))).1
          have e := wr_set N k j x hlt HX.out
          rw [e] at h2
          exact h2
        · exact hb.setCell (Nat.le_refl _) _
      case measure => simp [intOf]; omega
    · obtain rfl : j = k := by omega
      have hconv : (convert 28 9 (.slice (some ⟨w.heap.size, 0, none⟩) j j)).run Tryd.prog wr = .ok (.string ⟨(M.wr N j).toArray⟩) wr := by
        have hl := M.length_wr N j
        have h3 := string_of_own (P := Tryd.prog) (w := wr) (base := w.heap.size) (g := w.heap.size) (cap := j) (l := M.wr N j) Tryd.underlying28 Tryd.underlying5 Tryd.underlying9 (by rw [hl]; simpa using hown)
        rw [hl] at h3
        exact h3
      clear h1 HX
      go_wp2
      go_ret
      exact ⟨rfl, hb⟩
end Go.Proofs.YtlfdpcddbnkpjaaDoor
