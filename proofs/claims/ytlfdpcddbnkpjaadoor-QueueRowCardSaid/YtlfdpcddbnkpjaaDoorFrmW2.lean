/-
  The walk of the document's CheckFrame: what it returns, for every frame; nothing that was there turns.
-/
import Derived.Test.YtlfdpcddbnkpjaaDoorFrmW1
namespace Go.Proofs.YtlfdpcddbnkpjaaDoor
open Go.RowKit Go.ChangeShapes Go.WideShapes

set_option maxHeartbeats 4000000 in
theorem refCheck_any (id : Int) (lo fa re : Bool) (sz : Int) (A : Option Addr) (n c : Nat) (w : World) :
    Calls Tryd.prog 18 #[fv id lo fa re sz A n c] w fun e w' => e = .returned (.int .i64 (M.fchk id lo fa re sz n)) ∧ Below w.heap.size w w' := by
  obtain ⟨z, hz⟩ : ∃ z, z = M.fchk id lo fa re sz n := ⟨_, rfl⟩
  rw [← hz]
  have hZ := Lib.hid hz
  clear hz
  obtain ⟨q, hq⟩ : ∃ q, q = M.sizes.contains (n : Int) := ⟨_, rfl⟩
  have hQ := Lib.hid hq
  clear hq
  unfold fv
  cases lo <;> cases fa <;> cases re
  all_goals
    go_enter Tryd.func18, Tryd.ntmps18
    go_wp2_with fail
  all_goals try
    go_ret
    refine ⟨ret_one (int_of ?_), (Below.refl _ _).alloc (Nat.le_refl _) _⟩
    rw [hZ.out]
    unfold M.fchk
    try simp only [bne_iff_ne, ne_eq, bne_eq_false_iff_eq] at *
    first
      | (exfalso; omega)
      | rw [if_pos (by first | (simp; done) | (simp; omega))]
      | rw [if_neg (by first | (simp; done) | (simp; omega)), if_pos (by first | (simp; done) | (simp; omega))]
      | rw [if_neg (by first | (simp; done) | (simp; omega)), if_neg (by first | (simp; done) | (simp; omega)), if_pos (by first | (simp; done) | (simp; omega))]
      | rw [if_neg (by first | (simp; done) | (simp; omega)), if_neg (by first | (simp; done) | (simp; omega)), if_neg (by first | (simp; done) | (simp; omega)), if_pos (by first | (simp; done) | (simp; omega))]
      | (rw [if_neg (by first | (simp; done) | (simp; omega)), if_neg (by first | (simp; done) | (simp; omega)), if_neg (by first | (simp; done) | (simp; omega)), if_neg (by first | (simp; done) | (simp; omega))]; rfl)
    done
  all_goals
    generalize hW : World.alloc w _ = w0
    have c5 : w0.cell? ⟨w.heap.size, 5, none⟩ = some (.slice A n c) := (box_facts hW).1 5
    have hlt := (box_facts hW).2.1
    have hb0 := (box_facts hW).2.2
    clear hW
    go_region_held3 (fun wx => wx.cell? ⟨w.heap.size, 5, none⟩ = some (.slice A n c) ∧ w.heap.size < wx.heap.size ∧ Below w.heap.size w wx)
      (first | exact ⟨c5, hlt, hb0⟩ | exact ⟨c5, hlt, hb0.drew⟩ | exact ⟨c51, hlt1, hb1⟩ | exact ⟨c51, hlt1, hb1.drew⟩)
      (first
        | (go_at_call 35; refine (refSizes_any _).mono ?_; rintro e w1 ⟨b, rfl, hs, hb⟩; have c51 := (hb.cell (p := ⟨w.heap.size, 5, none⟩) hlt).trans c5; have hb1 := hb0.drew.trans (hb.mono (Nat.le_of_lt hlt)); have hlt1 := Nat.lt_of_lt_of_le hlt hb.size)
        | (go_at_call 34; refine (contains_sizes _ _ hs n _ hQ.out).mono ?_; rintro e w2 ⟨rfl, rfl⟩))
    cases q
    all_goals
      go_wp2_with fail
      go_ret
      refine ⟨ret_one (int_of ?_), by first | exact hb1 | exact hb1.drew⟩
      rw [hZ.out]
      unfold M.fchk
      rw [← hQ.out]
      try simp only [ne_eq, bne_eq_false_iff_eq] at *
      first
        | (exfalso; omega)
        | rw [if_pos (by first | (simp; done) | (simp; omega))]
        | rw [if_neg (by first | (simp; done) | (simp; omega)), if_pos (by first | (simp; done) | (simp; omega))]
        | rw [if_neg (by first | (simp; done) | (simp; omega)), if_neg (by first | (simp; done) | (simp; omega)), if_pos (by first | (simp; done) | (simp; omega))]
        | rw [if_neg (by first | (simp; done) | (simp; omega)), if_neg (by first | (simp; done) | (simp; omega)), if_neg (by first | (simp; done) | (simp; omega)), if_pos (by first | (simp; done) | (simp; omega))]
        | (rw [if_neg (by first | (simp; done) | (simp; omega)), if_neg (by first | (simp; done) | (simp; omega)), if_neg (by first | (simp; done) | (simp; omega)), if_neg (by first | (simp; done) | (simp; omega))]; rfl)
end Go.Proofs.YtlfdpcddbnkpjaaDoor
