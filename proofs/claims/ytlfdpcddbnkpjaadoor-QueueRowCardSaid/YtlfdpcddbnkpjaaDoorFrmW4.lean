/-
  The walks of frame.bit, frame.name, frame.Name and the document's NameOf.
-/
import Derived.Test.YtlfdpcddbnkpjaaDoorFrmW3
namespace Go.Proofs.YtlfdpcddbnkpjaaDoor
open Go.RowKit Go.ChangeShapes Go.WideShapes

/-- Two strings, one behind the other. -/
theorem cat_run (a b : ByteArray) (h : a.size + b.size ≤ 9223372036854775807) (w : World) : (binOp BinOp.add 9 (.string a) (.string b)).run Tryd.prog w = .ok (.string (a ++ b)) w := by
  simp [binOp, go_sem, h]

theorem nl1 {a : Nat} (ha : a ≤ 61) : ¬ 9223372036854775807 < a + 1 := by omega
theorem nl11 {a : Nat} (ha : a ≤ 61) : ¬ 9223372036854775807 < a + 1 + 1 := by omega
theorem nl2 {a b : Nat} (ha : a ≤ 64) (hb : b ≤ 64) : ¬ 9223372036854775807 < a + b := by omega
theorem nl3 {a b c : Nat} (ha : a ≤ 64) (hb : b ≤ 64) (hc : c ≤ 64) : ¬ 9223372036854775807 < a + b + c := by omega
theorem nl4 {a b c d : Nat} (ha : a ≤ 64) (hb : b ≤ 64) (hc : c ≤ 64) (hd : d ≤ 64) : ¬ 9223372036854775807 < a + b + c + d := by omega

theorem box_cell {w w1 : World} {t : TypeId} {cs : Array Value} (hb : Below (w.alloc (.cells cs t)).heap.size (w.alloc (.cells cs t)) w1) (i : Nat) : w1.cell? ⟨w.heap.size, i, none⟩ = cs[i]? :=
  (hb.cell (p := ⟨w.heap.size, i, none⟩) (by simp)).trans ((Blk.new w t cs).cell i)
theorem box_below {w w1 : World} {t : TypeId} {cs : Array Value} (hb : Below (w.alloc (.cells cs t)).heap.size (w.alloc (.cells cs t)) w1) : Below w.heap.size w w1 :=
  ((Below.refl _ _).alloc (Nat.le_refl _) _).trans (hb.mono (by simp))

theorem bit_any (b : Bool) (w : World) : Calls Tryd.prog 54 #[.bool b] w fun e w' => ∃ s : ByteArray, s.size ≤ 64 ∧ s.data.toList = M.bit1 b ∧ e = .returned (.string s) ∧ w' = w := by
  cases b
  all_goals
    go_enter Tryd.func54, Tryd.ntmps54
    go_wp2
    go_ret
    exact ⟨_, by decide, rfl, rfl, rfl⟩

theorem str_size {l : List UInt8} {s : ByteArray} (h : s.data.toList = l) : s.size = l.length := by rw [← h, Array.length_toList]; rfl

/-- bits.Write as a string with its length told. -/
theorem write_at (z kz : Int) (N k : Nat) (hz : z = N) (hkz : kz = k) (hN : N ≤ 536870911) (hk : k ≤ 64) (w : World) :
    Calls Tryd.prog 53 #[.int .u64 z, .int .i64 kz] w fun e w' => ∃ s : ByteArray, s.size ≤ 64 ∧ s.data.toList = M.wr N k ∧ e = .returned (.string s) ∧ Below w.heap.size w w' := by
  subst hz hkz
  refine (write_any N k (by omega) hk w).mono fun e w' h => ⟨⟨(M.wr N k).toArray⟩, ?_, rfl, h.1, h.2⟩
  show (M.wr N k).toArray.size ≤ 64
  rw [List.size_toArray, M.length_wr]
  exact hk

theorem u64_of_nat (N : Nat) (h : N ≤ 536870911) : IntKind.u64.wrap (N : Int) = (N : Nat) := by
  simp only [IntKind.wrap_u64]
  omega
theorem u64_shr (N : Nat) (h : N ≤ 536870911) : IntKind.u64.wrap ((N : Int) / 262144) = ((N / 262144 : Nat) : Int) := by
  simp only [IntKind.wrap_u64]
  omega

set_option maxHeartbeats 1600000 in
theorem name_any (N : Nat) (hN : N ≤ 536870911) (lo fa re : Bool) (sz : Int) (A : Option Addr) (n c : Nat) (w : World) :
    Calls Tryd.prog 45 #[fv N lo fa re sz A n c] w fun e w' => ∃ s : ByteArray, s.data.toList = M.fname N lo re ∧ e = .returned (.string s) ∧ Below w.heap.size w w' := by
  unfold fv
  cases lo
  · go_enter Tryd.func45, Tryd.ntmps45
    go_wp2_with fail
    generalize hW : World.alloc w _ = w0
    have c0 : w0.cell? ⟨w.heap.size, 0, none⟩ = some (.int .i64 N) := (box_facts hW).1 0
    have c3 : w0.cell? ⟨w.heap.size, 3, none⟩ = some (.bool re) := (box_facts hW).1 3
    have hlt := (box_facts hW).2.1
    have hb0 := (box_facts hW).2.2
    clear hW
    go_region_held3 (fun wx => wx.cell? ⟨w.heap.size, 0, none⟩ = some (.int .i64 N) ∧ wx.cell? ⟨w.heap.size, 3, none⟩ = some (.bool re) ∧ w.heap.size < wx.heap.size ∧ Below w.heap.size w wx)
      (first | exact ⟨c0, c3, hlt, hb0⟩ | exact ⟨c0, c3, hlt, hb0.drew⟩ | exact ⟨c02, c32, hlt2, hb12⟩ | exact ⟨c02, c32, hlt2, hb12.drew⟩ | exact ⟨c01, c31, hlt1, hb1⟩ | exact ⟨c01, c31, hlt1, hb1.drew⟩)
      (first
        | (go_at_call 53; refine (write_at _ _ N 11 (u64_of_nat N hN) rfl hN (Nat.le_of_ble_eq_true rfl) _).mono ?_; rintro e w1 ⟨s, hs1, hs2, rfl, hb⟩; have HS := Lib.hid hs2; clear hs2; have c01 := (hb.cell (p := ⟨w.heap.size, 0, none⟩) hlt).trans c0; have c31 := (hb.cell (p := ⟨w.heap.size, 3, none⟩) hlt).trans c3; have hb1 := hb0.drew.trans (hb.mono (Nat.le_of_lt hlt)); have hlt1 := Nat.lt_of_lt_of_le hlt hb.size)
        | (go_at_call 54; refine (bit_any _ _).mono ?_; rintro e w2 ⟨s5, hs51, hs52, rfl, rfl⟩; have HS5 := Lib.hid hs52; clear hs52; have hcat1 := nl2 hs1 hs51; have hcat2 := nl3 (c := 1) hs1 hs51 (Nat.le_of_ble_eq_true rfl)))
    go_wp2
    go_ret
    exact ⟨_, by rw [str_append, str_append, HS.out, HS5.out]; rfl, rfl, hb1⟩
  · go_enter Tryd.func45, Tryd.ntmps45
    go_wp2_with fail
    generalize hW : World.alloc w _ = w0
    have c0 : w0.cell? ⟨w.heap.size, 0, none⟩ = some (.int .i64 N) := (box_facts hW).1 0
    have c3 : w0.cell? ⟨w.heap.size, 3, none⟩ = some (.bool re) := (box_facts hW).1 3
    have hlt := (box_facts hW).2.1
    have hb0 := (box_facts hW).2.2
    clear hW
    go_region_held3 (fun wx => wx.cell? ⟨w.heap.size, 0, none⟩ = some (.int .i64 N) ∧ wx.cell? ⟨w.heap.size, 3, none⟩ = some (.bool re) ∧ w.heap.size < wx.heap.size ∧ Below w.heap.size w wx)
      (first | exact ⟨c0, c3, hlt, hb0⟩ | exact ⟨c0, c3, hlt, hb0.drew⟩ | exact ⟨c02, c32, hlt2, hb12⟩ | exact ⟨c02, c32, hlt2, hb12.drew⟩ | exact ⟨c01, c31, hlt1, hb1⟩ | exact ⟨c01, c31, hlt1, hb1.drew⟩)
      (first
        | (go_at_call_of 53 (Value.int .i64 18); refine (write_at _ _ N 18 (u64_of_nat N hN) rfl hN (Nat.le_of_ble_eq_true rfl) _).mono ?_; rintro e w3 ⟨s2, hs21, hs22, rfl, hb2⟩; have HS2 := Lib.hid hs22; clear hs22; have hcat3 := nl3 (b := 2) hs1 (Nat.le_of_ble_eq_true rfl) hs21; have c02 := (hb2.cell (p := ⟨w.heap.size, 0, none⟩) hlt1).trans c01; have c32 := (hb2.cell (p := ⟨w.heap.size, 3, none⟩) hlt1).trans c31; have hb12 := hb1.trans (hb2.mono (Nat.le_of_lt hlt1)); have hlt2 := Nat.lt_of_lt_of_le hlt1 hb2.size)
        | (go_at_call_of 53 (Value.int .i64 11); refine (write_at _ _ (N / 262144) 11 (u64_shr N hN) rfl (Nat.le_trans (Nat.div_le_self _ _) hN) (Nat.le_of_ble_eq_true rfl) _).mono ?_; rintro e w1 ⟨s, hs1, hs2, rfl, hb⟩; have HS := Lib.hid hs2; clear hs2; have hcat1 := nl2 (b := 2) hs1 (Nat.le_of_ble_eq_true rfl); have c01 := (hb.cell (p := ⟨w.heap.size, 0, none⟩) hlt).trans c0; have c31 := (hb.cell (p := ⟨w.heap.size, 3, none⟩) hlt).trans c3; have hb1 := hb0.drew.trans (hb.mono (Nat.le_of_lt hlt)); have hlt1 := Nat.lt_of_lt_of_le hlt hb.size)
        | (go_at_call 54; refine (bit_any _ _).mono ?_; rintro e w2 ⟨s5, hs51, hs52, rfl, rfl⟩; have HS5 := Lib.hid hs52; clear hs52; have hcat4 := nl4 (b := 2) hs1 (Nat.le_of_ble_eq_true rfl) hs21 hs51))
    go_wp2
    go_ret
    exact ⟨_, by rw [str_append, str_append, str_append, HS.out, HS2.out, HS5.out]; rfl, rfl, hb12⟩

theorem fchk_zero {id : Int} {lo fa re : Bool} {sz : Int} {n : Nat} (h : M.fchk id lo fa re sz n = 0) : 0 ≤ id ∧ id ≤ 536870911 ∧ (lo = false → id ≤ 2047) ∧ M.sizes.contains (n : Int) = true ∧ n ≤ 64 := by
  unfold M.fchk at h
  split at h
  · cases h
  split at h
  · cases h
  split at h
  · cases h
  split at h
  · cases h
  split at h
  · rename_i h1 h2 h3 h4 h5
    refine ⟨by omega, by omega, fun e => ?_, h5, by omega⟩
    subst e
    simp only [not_or, true_and] at h1
    omega
  · cases h

theorem name_good (id : Int) (lo fa re : Bool) (sz : Int) (A : Option Addr) (n c : Nat) (w : World) (h : M.fchk id lo fa re sz n = 0) :
    Calls Tryd.prog 32 #[fv id lo fa re sz A n c] w fun e w' => ∃ s : ByteArray, s.data.toList = M.fname id.toNat lo re ∧ e = .returned (.tuple #[.string s, .int .i64 0]) ∧ Below w.heap.size w w' := by
  have hz := fchk_zero h
  obtain ⟨N, rfl⟩ := Int.eq_ofNat_of_zero_le hz.1
  have hN : N ≤ 536870911 := by omega
  have H := Lib.hid h
  clear h hz
  have hck : ∀ w, Calls Tryd.prog 31 #[fv N lo fa re sz A n c] w fun e w' => e = .returned (.int .i64 0) ∧ Below w.heap.size w w' := fun w => (check_any N lo fa re sz A n c w).mono fun e w' h => by rw [H.out] at h; exact h
  have HC := Lib.hid hck
  clear hck
  unfold fv at HC ⊢
  go_enter Tryd.func32, Tryd.ntmps32
  go_wp2_with (first
    | (go_at_call 31; refine (HC.out _).mono ?_; rintro e w1 ⟨rfl, hb1⟩; have c0 := box_cell hb1 0; have c1 := box_cell hb1 1; have c2 := box_cell hb1 2; have c3 := box_cell hb1 3; have c4 := box_cell hb1 4; have c5 := box_cell hb1 5)
    | (go_at_call 45; refine (name_any N hN lo fa re sz A n c _).mono ?_; rintro e w2 ⟨s, hs, rfl, hb2⟩; have HS := Lib.hid hs; clear hs))
  go_ret2
  exact ⟨s, HS.out, rfl, (box_below hb1).trans (hb2.mono (Nat.le_trans (by simp) hb1.size))⟩

theorem name_bad (id : Int) (lo fa re : Bool) (sz : Int) (A : Option Addr) (n c : Nat) (w : World) (z : Int) (h : M.fchk id lo fa re sz n = z) (hz : z ≠ 0) :
    Calls Tryd.prog 32 #[fv id lo fa re sz A n c] w fun e w' => e = .returned (.tuple #[.string ⟨#[]⟩, .int .i64 z]) ∧ Below w.heap.size w w' := by
  have hck : ∀ w, Calls Tryd.prog 31 #[fv id lo fa re sz A n c] w fun e w' => e = .returned (.int .i64 z) ∧ Below w.heap.size w w' := fun w => (check_any id lo fa re sz A n c w).mono fun e w' h' => by rw [h] at h'; exact h'
  have HC := Lib.hid hck
  clear hck h
  have hz2 : (z != 0) = true := by simpa using hz
  unfold fv at HC ⊢
  go_enter Tryd.func32, Tryd.ntmps32
  go_wp2_with (go_at_call 31; refine (HC.out _).mono ?_; rintro e w1 ⟨rfl, hb1⟩; have c0 := box_cell hb1 0; have c1 := box_cell hb1 1; have c2 := box_cell hb1 2; have c3 := box_cell hb1 3; have c4 := box_cell hb1 4; have c5 := box_cell hb1 5)
  go_ret2
  exact ⟨rfl, box_below hb1⟩
end Go.Proofs.YtlfdpcddbnkpjaaDoor
