/-
  Rows of frames in memory; the walks of slices.EqualFunc at frames and the document's SameFrames.
-/
import Derived.Test.YtlfdpcddbnkpjaaDoorFrmSame
namespace Go.Proofs.YtlfdpcddbnkpjaaDoor
open Go.RowKit Go.ChangeShapes Go.WideShapes

theorem M.Fr.cells_length (f : M.Fr) : f.cells.length = 6 := rfl

theorem flat_length (l : List M.Fr) : (l.flatMap M.Fr.cells).length = l.length * 6 := by
  induction l with
  | nil => rfl
  | cons f r ih => rw [List.flatMap_cons, List.length_append, ih, List.length_cons, M.Fr.cells_length]; omega

theorem flat_at (l : List M.Fr) (j : Nat) (h : j < l.length) (i : Nat) (hi : i < 6) : (l.flatMap M.Fr.cells)[j * 6 + i]? = l[j].cells[i]? := by
  induction l generalizing j with
  | nil => cases h
  | cons f r ih =>
    rw [List.flatMap_cons]
    cases j with
    | zero => rw [List.getElem?_append_left (by rw [M.Fr.cells_length]; omega)]; simp
    | succ j =>
      rw [List.getElem?_append_right (by rw [M.Fr.cells_length]; omega), M.Fr.cells_length, show (j + 1) * 6 + i - 6 = j * 6 + i by omega]
      exact ih j (by simpa using h)

/-- A slice that reads as a row of frames, each frame's bytes too. -/
def Frs (w : World) (A : Option Addr) (n : Nat) (l : List M.Fr) : Prop := Reads w w.heap.size 6 A n (l.flatMap M.Fr.cells) ∧ ∀ f ∈ l, f.ok w

theorem Frs.len {w : World} {A : Option Addr} {n : Nat} {l : List M.Fr} (h : Frs w A n l) : l.length = n := by
  have := h.1.1
  rw [flat_length] at this
  omega
theorem Frs.below {w w' : World} {A : Option Addr} {n : Nat} {l : List M.Fr} (h : Frs w A n l) (hb : Below w.heap.size w w') : Frs w' A n l :=
  ⟨(Reads.below h.1 hb).more hb.size, fun f hf => (h.2 f hf).below hb⟩

theorem Frs.at_ {w : World} {A : Option Addr} {n : Nat} {l : List M.Fr} (h : Frs w A n l) {j : Nat} (hj : j < n) (hj2 : j < l.length) :
    ∃ ad, A = some ad ∧ ad.block < w.heap.size ∧ (∀ i, i < 6 → w.cell? (ad.add (j * 6 + i)) = l[j].cells[i]?) ∧ l[j].ok w := by
  obtain ⟨ad, e, hb, hc⟩ := h.1.2 (by omega)
  refine ⟨ad, e, hb, fun i hi => ?_, h.2 _ (List.getElem_mem hj2)⟩
  have h1 := flat_at l j hj2 i hi
  have h2 : l[j].cells[i]? = some (l[j].cells[i]'(by rw [M.Fr.cells_length]; exact hi)) := List.getElem?_eq_getElem _
  rw [h2] at h1 ⊢
  exact hc _ _ h1

/-- One frame at an address, cell by cell, as a walk asks them. -/
def At6 (w : World) (p : Addr) (f : M.Fr) : Prop :=
  w.cell? p = some (.int .i64 f.id) ∧ w.cell? ⟨p.block, p.off + 1, none⟩ = some (.bool f.long) ∧ w.cell? ⟨p.block, p.off + 2, none⟩ = some (.bool f.fast) ∧
  w.cell? ⟨p.block, p.off + 3, none⟩ = some (.bool f.remote) ∧ w.cell? ⟨p.block, p.off + 4, none⟩ = some (.int .i64 f.size) ∧ w.cell? ⟨p.block, p.off + 5, none⟩ = some (.slice f.A f.data.length f.c)

theorem Frs.cells_ {w : World} {A : Option Addr} {n : Nat} {l : List M.Fr} (h : Frs w A n l) {j : Nat} (hj : j < n) :
    ∃ ad f, A = some ad ∧ l[j]? = some f ∧ ∀ wx, Below w.heap.size w wx → f.ok wx ∧ At6 wx (ad.add (j * 6)) f := by
  have hj2 : j < l.length := by rw [h.len]; exact hj
  obtain ⟨ad, e, hd, hc, ho⟩ := h.at_ hj hj2
  refine ⟨ad, l[j], e, List.getElem?_eq_getElem hj2, fun wx hb => ?_⟩
  have key : ∀ i, i < 6 → wx.cell? ((ad.add (j * 6)).add i) = l[j].cells[i]? := fun i hi => by
    rw [add_of_add]
    exact (hb.cell (p := ad.add (j * 6 + i)) (by rw [block_of_add]; exact hd)).trans (hc i hi)
  exact ⟨ho.below hb, key 0 (by decide), key 1 (by decide), key 2 (by decide), key 3 (by decide), key 4 (by decide), key 5 (by decide)⟩

theorem take_map_succ {α β : Type} (g : α → β) (l : List α) (j : Nat) (x : α) (h : l[j]? = some x) : (l.map g).take (j + 1) = (l.map g).take j ++ [g x] := by
  have h2 : (l.map g)[j]? = some (g x) := by rw [List.getElem?_map, h]; rfl
  obtain ⟨hj, he⟩ := List.getElem?_eq_some_iff.1 h2
  rw [List.take_succ_eq_append_getElem hj, he]

set_option maxRecDepth 100000 in
set_option maxHeartbeats 1600000 in
theorem sameFrames_any (A1 A2 : Option Addr) (n1 n2 c1 c2 : Nat) (l m : List M.Fr) (hn : n1 ≤ 140737488355328) (hd : ∀ f ∈ l, f.data.length ≤ 140737488355328) (w : World) (h1 : Frs w A1 n1 l) (h2 : Frs w A2 n2 m) (q : Bool) (hq : q = true ↔ l.map M.Fr.abs = m.map M.Fr.abs) :
    Calls Tryd.prog 29 #[.slice A1 n1 c1, .slice A2 n2 c2, .func (.func 17) #[] #[]] w fun e w' => e = .returned (.bool q) ∧ Below w.heap.size w w' := by
  have hl1 := Lib.hid h1.len
  have hl2 := Lib.hid h2.len
  have hQ := Lib.hid hq
  have hD := Lib.hid hd
  clear hq hd
  by_cases hne : n1 = n2
  · subst hne
    have H1 := Lib.hid h1
    have H2 := Lib.hid h2
    clear h1 h2
    go_enter Tryd.func29, Tryd.ntmps29
    go_wp2
    go_loopw [17] (fun i wr => ∃ j : Nat, j ≤ n1 ∧ i = .int .i64 j ∧ (l.map M.Fr.abs).take j = (m.map M.Fr.abs).take j ∧ Below w.heap.size w wr) (fun i _ => n1 - (intOf i).toNat)
    case atStart => exact ⟨0, Nat.zero_le _, rfl, by simp, Below.refl _ _⟩
    case round =>
      obtain ⟨j, hj, rfl, heq, hb⟩ := hrel
      have HE := Lib.hid heq
      clear heq
      by_cases hlt : j < n1
      · obtain ⟨a1, f, rfl, hf1, hR1⟩ := H1.out.cells_ hlt
        obtain ⟨a2, g, rfl, hg1, hR2⟩ := H2.out.cells_ hlt
        have hfd := hD.out f (List.mem_of_getElem? hf1)
        obtain ⟨p0, p1, p2, p3, p4, p5⟩ := (hR1 wr hb).2
        have hal := fun o => hb.alloc hb.size o
        have r0 := fun o => (hR2 (wr.alloc o) (hal o)).2.1
        have r1 := fun o => (hR2 (wr.alloc o) (hal o)).2.2.1
        have r2 := fun o => (hR2 (wr.alloc o) (hal o)).2.2.2.1
        have r3 := fun o => (hR2 (wr.alloc o) (hal o)).2.2.2.2.1
        have r4 := fun o => (hR2 (wr.alloc o) (hal o)).2.2.2.2.2.1
        have r5 := fun o => (hR2 (wr.alloc o) (hal o)).2.2.2.2.2.2
        have hal2 : ∀ o o', Below w.heap.size w ((wr.alloc o).alloc o') := fun o o' => (hal o).alloc (by have := hb.size; simp; omega) o'
        have O1 := Lib.hid fun o o' => (hR1 _ (hal2 o o')).1
        have O2 := Lib.hid fun o o' => (hR2 _ (hal2 o o')).1
        have HAL := Lib.hid hal2
        have hgo : f.abs = g.abs → (l.map M.Fr.abs).take (j + 1) = (m.map M.Fr.abs).take (j + 1) := fun e => by rw [take_map_succ _ l j f hf1, take_map_succ _ m j g hg1, HE.out, e]
        have hst : ¬ f.abs = g.abs → q = false := fun hne => by
          rw [Bool.eq_false_iff]
          intro hq1
          have e := hQ.out.1 hq1
          have e2 : (l.map M.Fr.abs)[j]? = (m.map M.Fr.abs)[j]? := by rw [e]
          rw [List.getElem?_map, List.getElem?_map, hf1, hg1] at e2
          exact hne (by simpa using e2)
        have HGO := Lib.hid hgo
        have HST := Lib.hid hst
        clear hf1 hg1 hR1 hR2 hal hal2 hgo hst
        by_cases hfg : f.abs = g.abs
        · have hq1 := Lib.hid (show true = true ↔ f.abs = g.abs from ⟨fun _ => hfg, fun _ => rfl⟩)
          have HFG := Lib.hid hfg
          clear hfg
          go_wp2_with (go_at_call 17; refine (same_any f g hfd _ (O1.out _ _) (O2.out _ _) true hq1.out).mono ?_; rintro e w1 ⟨rfl, hb1⟩)
          go_roundw
          case rel => exact ⟨j + 1, by omega, by go_num, HGO.out HFG.out, (HAL.out _ _).trans (hb1.mono (HAL.out _ _).size)⟩
          case measure => simp [intOf]; omega
        · have hq1 := Lib.hid (show false = true ↔ f.abs = g.abs from ⟨(fun h => nomatch h), (fun h => absurd h hfg)⟩)
          have hq2 := Lib.hid (HST.out hfg)
          clear hfg
          go_wp2_with (go_at_call 17; refine (same_any f g hfd _ (O1.out _ _) (O2.out _ _) false hq1.out).mono ?_; rintro e w1 ⟨rfl, hb1⟩)
          go_ret
          exact ⟨ret_one (bool_of hq2.out.symm), (HAL.out _ _).trans (hb1.mono (HAL.out _ _).size)⟩
      · have hT : q = true := hQ.out.2 (by
          have h3 := HE.out
          rw [List.take_of_length_le (by rw [List.length_map, hl1.out]; omega), List.take_of_length_le (by rw [List.length_map, hl2.out]; omega)] at h3
          exact h3)
        have hq2 := Lib.hid hT
        clear hT
        go_wp2
        go_ret
        exact ⟨ret_one (bool_of hq2.out.symm), hb⟩
  · have hF : q = false := by
      rw [Bool.eq_false_iff]
      intro h
      have e := congrArg List.length (hQ.out.1 h)
      rw [List.length_map, List.length_map, hl1.out, hl2.out] at e
      exact hne e
    have hq2 := Lib.hid hF
    have hne2 : ((n1 : Int) != (n2 : Int)) = true := by
      rw [bne_iff_ne]
      omega
    clear h1 h2 hne hF
    go_enter Tryd.func29, Tryd.ntmps29
    go_wp2
    go_ret
    exact ⟨ret_one (bool_of hq2.out.symm), Below.refl _ _⟩

set_option maxRecDepth 100000 in
theorem refSames (A1 A2 : Option Addr) (n1 n2 c1 c2 : Nat) (l m : List M.Fr) (hn : n1 ≤ 140737488355328) (hd : ∀ f ∈ l, f.data.length ≤ 140737488355328) (w : World) (h1 : Frs w A1 n1 l) (h2 : Frs w A2 n2 m) (q : Bool) (hq : q = true ↔ l.map M.Fr.abs = m.map M.Fr.abs) :
    Calls Tryd.prog 10 #[.slice A1 n1 c1, .slice A2 n2 c2] w fun e w' => e = .returned (.bool q) ∧ Below w.heap.size w w' := by
  have H := Lib.hid (sameFrames_any A1 A2 n1 n2 c1 c2 l m hn hd w h1 h2 q hq)
  clear h1 h2 hq hd
  go_enter Tryd.func10, Tryd.ntmps10
  go_wp2_with (go_at_call 29; refine H.out.mono ?_; rintro e w1 ⟨rfl, hb1⟩)
  go_ret
  exact ⟨rfl, hb1⟩
end Go.Proofs.YtlfdpcddbnkpjaaDoor
