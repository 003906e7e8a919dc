/-
  The walk of the document's NameOf.
-/
import Derived.Test.YtlfdpcddbnkpjaaDoorFrmW4
namespace Go.Proofs.YtlfdpcddbnkpjaaDoor
open Go.RowKit Go.ChangeShapes Go.WideShapes

theorem rowOf_at (N k : Nat) (kz : Int) (hkz : kz = k) (hk : k ≤ 61) (hlt : N < 2 ^ k) (w : World) (h : Tab2 w) :
    Calls Tryd.prog 36 #[.int .i64 N, .int .i64 kz] w fun e w' => ∃ s : ByteArray, (s.size ≤ 61 ∧ k ≤ s.size) ∧ s.data.toList = M.wr N k ∧ e = .returned (.tuple #[.string s, .bool true]) ∧ Below w.heap.size w w' := by
  subst hkz
  exact (rowOf_any N k hk hlt w h).mono fun e w' ⟨s, h1, h2, h3, h4⟩ => ⟨s, ⟨by omega, by omega⟩, h2, h3, h4⟩

theorem take_data' (s : ByteArray) (k : Nat) : (s.extract 0 k).data.toList = s.data.toList.take k := by
  rw [show (s.extract 0 k).data = s.data.extract 0 k from ByteArray.data_extract .., Array.toList_extract]
  simp

theorem drop_data' (s : ByteArray) (k : Nat) : (s.extract k s.size).data.toList = s.data.toList.drop k := by
  rw [show (s.extract k s.size).data = s.data.extract k s.size from ByteArray.data_extract .., Array.toList_extract]
  have hl : s.size = s.data.toList.length := by rw [Array.length_toList]; rfl
  simp only [List.extract_eq_take_drop]
  exact List.take_of_length_le (by rw [List.length_drop, hl]; exact Nat.le_refl _)

theorem cut_11 (s : ByteArray) (N : Nat) (h : s.data.toList = M.wr N 29) : (s.extract 0 11).data.toList = M.wr (N / 262144) 11 ∧ (s.extract 11 s.size).data.toList = M.wr N 18 := by
  have e : M.wr N 29 = M.wr (N / 2 ^ 18) 11 ++ M.wr N 18 := M.wr_split N 11 18
  have hl : (M.wr (N / 2 ^ 18) 11).length = 11 := M.length_wr _ _
  rw [take_data', drop_data', h, e]
  constructor
  · rw [List.take_left' hl]
  · rw [List.drop_left' hl]

set_option maxHeartbeats 1600000 in
theorem nameOf_any (id : Int) (lo fa re : Bool) (sz : Int) (A : Option Addr) (n c : Nat) (w : World) (h : M.fchk id lo fa re sz n = 0) (ht : Tab2 w) :
    Calls Tryd.prog 19 #[fv id lo fa re sz A n c] w fun e w' => ∃ s : ByteArray, s.data.toList = M.fname id.toNat lo re ∧ e = .returned (.string s) ∧ Below w.heap.size w w' := by
  have hz := fchk_zero h
  obtain ⟨N, rfl⟩ := Int.eq_ofNat_of_zero_le hz.1
  have hN : N ≤ 536870911 := by omega
  have hS := hz.2.2.1
  have HT := Lib.hid ht
  clear h hz ht
  unfold fv
  cases lo
  · have h11 := hS rfl
    have hlt : N < 2 ^ 11 := by omega
    have HL := Lib.hid hlt
    clear hS h11 hlt
    cases re
    all_goals
      go_enter Tryd.func19, Tryd.ntmps19
      go_wp2_with (go_at_call 36; refine (rowOf_at N 11 _ rfl (Nat.le_of_ble_eq_true rfl) HL.out _ (HT.out.below ((Below.refl _ _).alloc (Nat.le_refl _) _))).mono ?_; rintro e w1 ⟨s, hs1, hs, rfl, hb1⟩; have HS := Lib.hid hs; clear hs; have h3 : ¬ 9223372036854775807 < s.size + 1 := nl1 hs1.1; have h4 : ¬ 9223372036854775807 < s.size + 1 + 1 := nl11 hs1.1)
      go_ret
      exact ⟨_, by rw [str_append, str_append, HS.out]; rfl, rfl, box_below hb1⟩
  · have hlt : N < 2 ^ 29 := by omega
    have HL := Lib.hid hlt
    clear hS hlt
    cases re
    all_goals
      go_enter Tryd.func19, Tryd.ntmps19
      go_wp2_with (go_at_call 36; refine (rowOf_at N 29 _ rfl (Nat.le_of_ble_eq_true rfl) HL.out _ (HT.out.below ((Below.refl _ _).alloc (Nat.le_refl _) _))).mono ?_; rintro e w1 ⟨s, hs1, hs, rfl, hb1⟩; have HS := Lib.hid hs; clear hs)
      go_quiet (fail)
      go_wp2
      go_ret
      exact ⟨_, by rw [str_append, str_append, str_append, (cut_11 s N HS.out).1, (cut_11 s N HS.out).2]; rfl, rfl, below_drewN (box_below hb1) _⟩
end Go.Proofs.YtlfdpcddbnkpjaaDoor
