/-
  The walks of frame.Check and of the document's CheckFrame: what they return, for every frame; nothing that was there turns.
-/
import Derived.Test.YtlfdpcddbnkpjaaDoorFrmPlain
import Derived.Test.YtlfdpcddbnkpjaaDoorGen
import Derived.Test.YtlfdpcddbnkpjaaDoorShelf
import Derived.Deep.RegionHeld3
namespace Go.Proofs.YtlfdpcddbnkpjaaDoor
open Go.RowKit Go.ChangeShapes Go.WideShapes

/-- A frame as a value, its bytes a slice. -/
def fv (id : Int) (lo fa re : Bool) (sz : Int) (A : Option Addr) (n c : Nat) : Value := .agg #[.int .i64 id, .bool lo, .bool fa, .bool re, .int .i64 sz, .slice A n c]

theorem box_facts {w w0 : World} {t : TypeId} {cs : Array Value} (h : w.alloc (.cells cs t) = w0) : (∀ i, w0.cell? ⟨w.heap.size, i, none⟩ = cs[i]?) ∧ w.heap.size < w0.heap.size ∧ Below w.heap.size w w0 := by
  subst h
  exact ⟨(Blk.new w t cs).cell, (Blk.new w t cs).lt, (Below.refl _ _).alloc (Nat.le_refl _) _⟩

/-- A list of numbers in a new block. -/
def SizesAt (b : Nat) (w : World) : Prop := ∀ j, j < M.sizes.length → w.cell? ⟨b, 0 + j, none⟩ = some (.int .i64 (M.sizes.getD j 0))

theorem sizes_at (w : World) (t : TypeId) : SizesAt w.heap.size (w.alloc (.cells (M.sizes.map fun x => Value.int .i64 x).toArray t)) := by
  intro j hj
  rw [(Blk.new w t _).cell, List.getElem?_toArray, List.getElem?_map, Nat.zero_add, List.getElem?_eq_getElem hj, List.getD_eq_getElem?_getD, List.getElem?_eq_getElem hj]
  rfl

theorem sizes_any (w : World) : Calls Tryd.prog 44 #[] w fun e w' => ∃ b, e = .returned (.slice (some ⟨b, 0, none⟩) 16 16) ∧ SizesAt b w' ∧ Below w.heap.size w w' := by
  go_enter Tryd.func44, Tryd.ntmps44
  go_wp2_with fail
  go_ret
  exact ⟨_, rfl, sizes_at w _, (Below.refl _ _).alloc (Nat.le_refl _) _⟩

theorem refSizes_any (w : World) : Calls Tryd.prog 35 #[] w fun e w' => ∃ b, e = .returned (.slice (some ⟨b, 0, none⟩) 16 16) ∧ SizesAt b w' ∧ Below w.heap.size w w' := by
  go_enter Tryd.func35, Tryd.ntmps35
  go_wp2_with fail
  go_ret
  exact ⟨_, rfl, sizes_at w _, (Below.refl _ _).alloc (Nat.le_refl _) _⟩

theorem contains_sizes (b : Nat) (w : World) (hs : SizesAt b w) (n : Nat) (q : Bool) (hq : q = M.sizes.contains (n : Int)) :
    Calls Tryd.prog 34 #[.slice (some ⟨b, 0, none⟩) 16 16, .int .i64 n] w fun e w' => e = .returned (.bool q) ∧ w' = w := by
  subst hq
  exact Tryd.slices_Contains_int b 0 16 16 M.sizes n w (by decide) (by decide) hs

set_option maxHeartbeats 4000000 in
theorem check_any (id : Int) (lo fa re : Bool) (sz : Int) (A : Option Addr) (n c : Nat) (w : World) :
    Calls Tryd.prog 31 #[fv id lo fa re sz A n c] w fun e w' => e = .returned (.int .i64 (M.fchk id lo fa re sz n)) ∧ Below w.heap.size w w' := by
  obtain ⟨z, hz⟩ : ∃ z, z = M.fchk id lo fa re sz n := ⟨_, rfl⟩
  rw [← hz]
  have hZ := Lib.hid hz
  clear hz
  obtain ⟨q, hq⟩ : ∃ q, q = M.sizes.contains (n : Int) := ⟨_, rfl⟩
  have hQ := Lib.hid hq
  clear hq
  unfold fv
  cases lo <;> cases fa <;> cases re
  all_goals
    go_enter Tryd.func31, Tryd.ntmps31
    go_wp2_with fail
  all_goals try
    go_ret
    refine ⟨ret_one (int_of ?_), (Below.refl _ _).alloc (Nat.le_refl _) _⟩
    rw [hZ.out]
    unfold M.fchk
    try simp only [bne_iff_ne, ne_eq, bne_eq_false_iff_eq] at *
    first
      | (exfalso; omega)
      | rw [if_pos (by first | (simp; done) | (simp; omega))]
      | rw [if_neg (by first | (simp; done) | (simp; omega)), if_pos (by first | (simp; done) | (simp; omega))]
      | rw [if_neg (by first | (simp; done) | (simp; omega)), if_neg (by first | (simp; done) | (simp; omega)), if_pos (by first | (simp; done) | (simp; omega))]
      | rw [if_neg (by first | (simp; done) | (simp; omega)), if_neg (by first | (simp; done) | (simp; omega)), if_neg (by first | (simp; done) | (simp; omega)), if_pos (by first | (simp; done) | (simp; omega))]
      | (rw [if_neg (by first | (simp; done) | (simp; omega)), if_neg (by first | (simp; done) | (simp; omega)), if_neg (by first | (simp; done) | (simp; omega)), if_neg (by first | (simp; done) | (simp; omega))]; rfl)
    done
  all_goals
    generalize hW : World.alloc w _ = w0
    have c5 : w0.cell? ⟨w.heap.size, 5, none⟩ = some (.slice A n c) := (box_facts hW).1 5
    have hlt := (box_facts hW).2.1
    have hb0 := (box_facts hW).2.2
    clear hW
    go_region_held3 (fun wx => wx.cell? ⟨w.heap.size, 5, none⟩ = some (.slice A n c) ∧ w.heap.size < wx.heap.size ∧ Below w.heap.size w wx)
      (first | exact ⟨c5, hlt, hb0⟩ | exact ⟨c5, hlt, hb0.drew⟩ | exact ⟨c51, hlt1, hb1⟩ | exact ⟨c51, hlt1, hb1.drew⟩)
      (first
        | (go_at_call 44; refine (sizes_any _).mono ?_; rintro e w1 ⟨b, rfl, hs, hb⟩; have c51 := (hb.cell (p := ⟨w.heap.size, 5, none⟩) hlt).trans c5; have hb1 := hb0.drew.trans (hb.mono (Nat.le_of_lt hlt)); have hlt1 := Nat.lt_of_lt_of_le hlt hb.size)
        | (go_at_call 34; refine (contains_sizes _ _ hs n _ hQ.out).mono ?_; rintro e w2 ⟨rfl, rfl⟩))
    cases q
    all_goals
      go_wp2_with fail
      go_ret
      refine ⟨ret_one (int_of ?_), by first | exact hb1 | exact hb1.drew⟩
      rw [hZ.out]
      unfold M.fchk
      rw [← hQ.out]
      try simp only [ne_eq, bne_eq_false_iff_eq] at *
      first
        | (exfalso; omega)
        | rw [if_pos (by first | (simp; done) | (simp; omega))]
        | rw [if_neg (by first | (simp; done) | (simp; omega)), if_pos (by first | (simp; done) | (simp; omega))]
        | rw [if_neg (by first | (simp; done) | (simp; omega)), if_neg (by first | (simp; done) | (simp; omega)), if_pos (by first | (simp; done) | (simp; omega))]
        | rw [if_neg (by first | (simp; done) | (simp; omega)), if_neg (by first | (simp; done) | (simp; omega)), if_neg (by first | (simp; done) | (simp; omega)), if_pos (by first | (simp; done) | (simp; omega))]
        | (rw [if_neg (by first | (simp; done) | (simp; omega)), if_neg (by first | (simp; done) | (simp; omega)), if_neg (by first | (simp; done) | (simp; omega)), if_neg (by first | (simp; done) | (simp; omega))]; rfl)
end Go.Proofs.YtlfdpcddbnkpjaaDoor
