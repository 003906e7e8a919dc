/-
  The walk of the closed fact 'queued'.
-/
import Derived.Test.YtlfdpcddbnkpjaaDoorQueueV2
namespace Go.Proofs.YtlfdpcddbnkpjaaDoor
open Go.RowKit Go.ChangeShapes Go.WideShapes

theorem queued_put : (([⟨3, false, false, false, 0, []⟩, ⟨5, false, false, false, 0, []⟩] : List M.Frm), (0 : Int)) = M.qput [⟨5, false, false, false, 0, []⟩] ⟨3, false, false, false, 0, []⟩ := by kernel_rfl
theorem queued_take : M.qtake [⟨3, false, false, false, 0, []⟩, ⟨5, false, false, false, 0, []⟩] = (⟨3, false, false, false, 0, []⟩, [⟨5, false, false, false, 0, []⟩], 0) := by kernel_rfl

theorem Frs.one {w : World} {A : Option Addr} {l : List M.Fr} {i : Int} {lo fa re : Bool} {sz : Int} {xs : List UInt8} (h : Frs w A 1 l) (ha : l.map M.Fr.abs = [⟨i, lo, fa, re, sz, xs⟩]) : ∃ ad, A = some ad ∧ ∀ o, (w.alloc o).cell? ad = some (.int .i64 i) := by
  obtain ⟨ad, f, e, hf, hR⟩ := h.cells_ (j := 0) (by omega)
  have h0 := fun o => (hR (w.alloc o) ((Below.refl _ _).alloc (Nat.le_refl _) o)).2.1
  have e2 : l.map M.Fr.abs = [f.abs] := by
    match l, hf, h.len with
    | [g], hf, _ => cases hf; rfl
  rw [e2] at ha
  injection ha with ha
  injection ha with hi
  refine ⟨ad, e, ?_⟩
  rw [← hi]
  have e3 : ad.add (0 * 6) = ad := by simp [Addr.add]
  rw [e3] at h0
  exact h0

theorem frs_lit (w : World) (i : Int) : Frs (w.alloc (.cells #[.int .i64 i, .bool false, .bool false, .bool false, .int .i64 0, .slice none 0 0] 30)) (some ⟨w.heap.size, 0, none⟩) 1 [⟨i, false, false, false, 0, [], none, 0⟩] := by
  refine ⟨⟨rfl, fun _ => ⟨_, rfl, by simp, fun j u hu => ?_⟩⟩, fun f hf => ?_⟩
  · have e : (⟨w.heap.size, 0, none⟩ : Addr).add j = ⟨w.heap.size, j, none⟩ := by unfold Addr.add; split <;> simp_all
    rw [e, (Blk.new w _ _).cell, ← hu, ← Array.getElem?_toList]
    rfl
  · obtain rfl : f = _ := List.mem_singleton.1 hf
    exact Reads.none_

theorem data_of_abs {l : List M.Fr} {m : List M.Frm} {B : Nat} (h : l.map M.Fr.abs = m) (hm : ∀ f ∈ m, f.data.length ≤ B) : ∀ f ∈ l, f.data.length ≤ B := fun f hf => hm f.abs (h ▸ List.mem_map.2 ⟨f, hf, rfl⟩)
theorem len_abs {l : List M.Fr} {m : List M.Frm} (h : l.map M.Fr.abs = m) : l.length = m.length := by rw [← h, List.length_map]
theorem abs_one {l : List M.Fr} {a : M.Frm} (h : l.map M.Fr.abs = [a]) : ∃ f : M.Fr, l = [f] ∧ f.abs = a := by
  match l, h with
  | [f], h => exact ⟨f, rfl, by simpa using h⟩

set_option maxRecDepth 100000 in
set_option maxHeartbeats 1600000 in
theorem queued_any (w : World) : Calls Tryd.prog 8 #[] w fun e w' => e = .returned (.bool true) ∧ Below w.heap.size w w' := by
  have hnil : ∀ f ∈ ([⟨5, false, false, false, 0, [], none, 0⟩] : List M.Fr), f.data.length ≤ 140737488355328 := fun f hf => by
    obtain rfl : f = _ := List.mem_singleton.1 hf
    simp
  have HN := Lib.hid hnil
  have HP := Lib.hid queued_put
  have HT := Lib.hid queued_take
  have hbox : ∀ (o : Obj), Below w.heap.size w (w.alloc o) := fun o => (Below.refl _ _).alloc (Nat.le_refl _) _
  have HB := Lib.hid hbox
  clear hnil hbox
  go_enter Tryd.func8, Tryd.ntmps8
  go_wp2_with (first
    | (go_at_call 12; refine (qput_any (some ⟨w.heap.size, 0, none⟩) 1 1 [⟨5, false, false, false, 0, [], none, 0⟩] ⟨3, false, false, false, 0, [], none, 0⟩ HN.out (Nat.zero_le _) _ (frs_lit w 5) Reads.none_ _ _ HP.out).mono ?_; rintro e w1 ⟨v1, l1, rfl, ho, ha, hb1⟩; have HO1 := Lib.hid ho; have HA1 := Lib.hid ha; have HB1 := Lib.hid ((HB.out _).trans (hb1.mono (HB.out _).size)); clear ho ha))
  obtain ⟨A1, c1, rfl, hF1⟩ := HO1.out.sliceN (len_abs HA1.out)
  have HF1 := Lib.hid hF1
  clear hF1
  go_wp2_with (go_at_call 14; refine (qtake_any A1 2 c1 l1 (data_of_abs HA1.out (by decide)) _ HF1.out).mono ?_; rintro e w2 ⟨x, A2, m, c2, l2, z, rfl, hf2, hx, hq, hb2⟩; have hq2 := hq; rw [HA1.out, HT.out] at hq2; injection hq2 with hq3 hq4; injection hq4 with hq4 hq5; injection hq3 with hid _ _ _ _ _; have HF2 := Lib.hid hf2; have HL2 := Lib.hid hq4; have HB2 := Lib.hid (HB1.out.trans (hb2.mono HB1.out.size)); subst hq5; have hm2 : m = 1 := (hf2.len.symm.trans (len_abs hq4)); subst hm2; obtain ⟨ad, rfl, hcell⟩ := Frs.one hf2 hq4; clear hq hf2 hx hq4)
  go_ret
  exact ⟨rfl, (HB2.out.alloc HB2.out.size _)⟩
end Go.Proofs.YtlfdpcddbnkpjaaDoor
