/-
  The walk of QueueRow's comparison of two frames by their names.
-/
import Derived.Test.YtlfdpcddbnkpjaaDoorQueueV1
namespace Go.Proofs.YtlfdpcddbnkpjaaDoor
open Go.RowKit Go.ChangeShapes Go.WideShapes

theorem cmp_neg : ∀ a b : List UInt8, Lib.compareBytes a b < 0 ↔ a < b
  | [], [] => by simp [Lib.compareBytes]
  | [], _ :: _ => by simp [Lib.compareBytes]
  | _ :: _, [] => by simp [Lib.compareBytes]
  | x :: a, y :: b => by
    rw [Lib.compareBytes, List.cons_lt_cons_iff]
    have ih := cmp_neg a b
    by_cases h1 : x < y
    · simp [h1]
    · rw [if_neg h1]
      by_cases h2 : y < x
      · rw [if_pos h2]
        have h3 : x ≠ y := by
          rintro rfl
          exact h1 h2
        simp [h1, h3]
      · rw [if_neg h2, ih]
        have h3 : x = y := UInt8.le_antisymm (UInt8.not_lt.1 h2) (UInt8.not_lt.1 h1)
        simp [h3]

theorem cmp_leq {a b : ByteArray} {l m : List UInt8} (ha : a.data.toList = l) (hb : b.data.toList = m) : Lib.compareBytes a.data.toList b.data.toList < 0 ↔ M.leq m l = false := by
  rw [cmp_neg, ha, hb, Bool.eq_false_iff, ne_eq, M.leq_iff]
  exact ⟨fun h k => k h, fun h => Classical.byContradiction h⟩

set_option maxRecDepth 100000 in
theorem rowcmp_any (f g : M.Fr) (w : World) (hf : f.abs.chk = 0) (hg : g.abs.chk = 0) (ht : Tab2 w) :
    Calls Tryd.prog 22 #[.agg #[.int .i64 f.id, .bool f.long, .bool f.fast, .bool f.remote, .int .i64 f.size, .slice f.A f.data.length f.c], .agg #[.int .i64 g.id, .bool g.long, .bool g.fast, .bool g.remote, .int .i64 g.size, .slice g.A g.data.length g.c]] w fun e w' =>
      ∃ z : Int, e = .returned (.int .i64 z) ∧ (z < 0 ↔ M.leq g.abs.name f.abs.name = false) ∧ Below w.heap.size w w' := by
  have hX := @BoxF.start w w 30 f (Below.refl _ _)
  have hX4 := hX.alloc (.cells #[.int .i64 g.id, .bool g.long, .bool g.fast, .bool g.remote, .int .i64 g.size, .slice g.A g.data.length g.c] 30)
  have hY4 := @BoxF.start w _ 30 g hX.bel
  have hT4 := ht.below hX4.bel
  have HKF := Lib.hid (show M.fchk f.id f.long f.fast f.remote f.size f.data.length = 0 from hf)
  have HKG := Lib.hid (show M.fchk g.id g.long g.fast g.remote g.size g.data.length = 0 from hg)
  simp only [World.size_alloc] at hY4
  clear hX ht hf hg
  go_enter Tryd.func22, Tryd.ntmps22
  go_upto_region 1 with fail
  generalize hW : World.alloc (World.alloc w _) _ = w4 at hX4 hY4 hT4 ⊢
  have HX4 := Lib.hid hX4
  have HY4 := Lib.hid hY4
  have HT4 := Lib.hid hT4
  clear hX4 hY4 hT4 hW
  go_region_held3 (fun wx => wx.cell? ⟨w.heap.size, 0, none⟩ = some (.int .i64 f.id) ∧ wx.cell? ⟨w.heap.size, 1, none⟩ = some (.bool f.long) ∧ wx.cell? ⟨w.heap.size, 2, none⟩ = some (.bool f.fast) ∧ wx.cell? ⟨w.heap.size, 3, none⟩ = some (.bool f.remote) ∧ wx.cell? ⟨w.heap.size, 4, none⟩ = some (.int .i64 f.size) ∧ wx.cell? ⟨w.heap.size, 5, none⟩ = some (.slice f.A f.data.length f.c) ∧ wx.cell? ⟨w.heap.size + 1, 0, none⟩ = some (.int .i64 g.id) ∧ wx.cell? ⟨w.heap.size + 1, 1, none⟩ = some (.bool g.long) ∧ wx.cell? ⟨w.heap.size + 1, 2, none⟩ = some (.bool g.fast) ∧ wx.cell? ⟨w.heap.size + 1, 3, none⟩ = some (.bool g.remote) ∧ wx.cell? ⟨w.heap.size + 1, 4, none⟩ = some (.int .i64 g.size) ∧ wx.cell? ⟨w.heap.size + 1, 5, none⟩ = some (.slice g.A g.data.length g.c) ∧ w.heap.size < wx.heap.size ∧ w.heap.size + 1 < wx.heap.size ∧ Tab2 wx ∧ Below w.heap.size w wx)
    (first | exact HX4.out.flat2 HY4.out HT4.out | exact HX4.out.drew.flat2 HY4.out.drew HT4.out.drew | exact HX5.out.flat2 HY5.out HT5.out | exact HX6.out.flat2 HY6.out HT6.out)
    (first
      | (go_at_call_of 19 (Value.agg #[.int .i64 f.id, .bool f.long, .bool f.fast, .bool f.remote, .int .i64 f.size, .slice f.A f.data.length f.c]); refine (nameOf_any f.id f.long f.fast f.remote f.size f.A f.data.length f.c _ HKF.out HT4.out.drew).mono ?_; rintro e w5 ⟨s1, hs1, rfl, hb5⟩; have HX5 := Lib.hid (HX4.out.drew.step hb5); have HY5 := Lib.hid (HY4.out.drew.step hb5); have HT5 := Lib.hid (Tab2.below HT4.out.drew hb5); have HS1 := Lib.hid hs1; clear hs1)
      | (go_at_call_of 19 (Value.agg #[.int .i64 g.id, .bool g.long, .bool g.fast, .bool g.remote, .int .i64 g.size, .slice g.A g.data.length g.c]); refine (nameOf_any g.id g.long g.fast g.remote g.size g.A g.data.length g.c _ HKG.out HT5.out).mono ?_; rintro e w6 ⟨s2, hs2, rfl, hb6⟩; have HX6 := Lib.hid (HX5.out.step hb6); have HY6 := Lib.hid (HY5.out.step hb6); have HT6 := Lib.hid (Tab2.below HT5.out hb6); have HS2 := Lib.hid hs2; clear hs2)
      | (go_at_call 23; refine (Tryd.strings_Compare s1 s2 w6).mono ?_; rintro e w7 ⟨rfl, rfl⟩))
  go_wp2
  go_ret
  exact ⟨_, rfl, cmp_leq HS1.out HS2.out, HX6.out.bel⟩
end Go.Proofs.YtlfdpcddbnkpjaaDoor
