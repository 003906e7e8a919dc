/-
  The walk of queue.Take.
-/
import Derived.Test.YtlfdpcddbnkpjaaDoorQueueW8
namespace Go.Proofs.YtlfdpcddbnkpjaaDoor
open Go.RowKit Go.ChangeShapes Go.WideShapes

def M.Fr.agg (f : M.Fr) : Value := .agg #[.int .i64 f.id, .bool f.long, .bool f.fast, .bool f.remote, .int .i64 f.size, .slice f.A f.data.length f.c]
def M.Frm.zero : M.Frm := ⟨0, false, false, false, 0, []⟩
def M.Fr.zero : M.Fr := ⟨0, false, false, false, 0, [], none, 0⟩
theorem zero_ok (w : World) : M.Fr.zero.ok w := Reads.none_

/-- queue.Take. -/
def M.qtake (l : List M.Frm) : M.Frm × List M.Frm × Int :=
  if M.qchk l ≠ 0 then (M.Frm.zero, [], M.qchk l) else match l with
    | [] => (M.Frm.zero, [], 8)
    | f :: r => (f, r, 0)

theorem Frs.tail {w : World} {a : Addr} {n : Nat} {x : M.Fr} {r : List M.Fr} (h : Frs w (some a) (n + 1) (x :: r)) : Frs w (some (a.add 6)) n r := by
  refine ⟨⟨?_, fun hn => ?_⟩, fun f hf => h.2 f (List.mem_cons_of_mem _ hf)⟩
  · have := h.1.1
    rw [flat_length] at this ⊢
    simp at this
    omega
  · obtain ⟨ad, e, hb, hc⟩ := h.1.2 (Nat.succ_pos _)
    cases e
    refine ⟨_, rfl, by rw [block_of_add]; exact hb, fun j u hu => ?_⟩
    rw [add_of_add]
    refine hc (6 + j) u ?_
    rw [List.flatMap_cons, List.getElem?_append_right (by rw [M.Fr.cells_length]; omega), M.Fr.cells_length, show 6 + j - 6 = j by omega]
    exact hu
theorem OwnQ.head {base n : Nat} {w : World} {g0 c : Nat} {x : M.Fr} {r : List M.Fr} (h : OwnQ base w (.slice (some ⟨g0, 0, none⟩) n c) (x :: r)) (hn : (x :: r).length = n) :
    w.cell? ⟨g0, 0, none⟩ = some (.int .i64 x.id) ∧ w.cell? ⟨g0, 1, none⟩ = some (.bool x.long) ∧ w.cell? ⟨g0, 2, none⟩ = some (.bool x.fast) ∧ w.cell? ⟨g0, 3, none⟩ = some (.bool x.remote) ∧ w.cell? ⟨g0, 4, none⟩ = some (.int .i64 x.size) ∧ w.cell? ⟨g0, 5, none⟩ = some (.slice x.A x.data.length x.c) := by
  subst hn
  obtain ⟨y0, y1, y2, y3, y4, y5, _⟩ := h.at6 (i := 0) (Nat.succ_pos _)
  exact ⟨y0, y1, y2, y3, y4, y5⟩
theorem OwnQ.set_below {base b : Nat} {w : World} {v : Value} {l : List M.Fr} (h : OwnQ base w v l) (hb : b < base) (v0 v1 v2 v3 v4 v5 : Value) : OwnQ base ((((((w.setCell ⟨b, 0, none⟩ v0).setCell ⟨b, 1, none⟩ v1).setCell ⟨b, 2, none⟩ v2).setCell ⟨b, 3, none⟩ v3).setCell ⟨b, 4, none⟩ v4).setCell ⟨b, 5, none⟩ v5) v l := by
  have one : ∀ (w : World) (i : Nat) (u : Value), OwnQ base w v l → OwnQ base (w.setCell ⟨b, i, none⟩ u) v l := fun w i u h => ⟨ownsRow_setCell_below h.1 hb u, fun g hg => ownsRow_setCell_below (h.2 g hg) hb u⟩
  exact one _ _ _ (one _ _ _ (one _ _ _ (one _ _ _ (one _ _ _ (one _ _ _ h)))))
theorem OwnQ.rest {base n : Nat} {w : World} {g0 c : Nat} {x : M.Fr} {r : List M.Fr} (h : OwnQ base w (.slice (some ⟨g0, 0, none⟩) n c) (x :: r)) (hn : (x :: r).length = n) : Frs w (some ⟨g0, 6, none⟩) (n - 1) r ∧ x.ok w := by
  obtain ⟨A, c', hv, hf⟩ := h.slice
  injection hv with hA _ _
  subst hA
  subst hn
  exact ⟨hf.tail, hf.2 x (by simp)⟩
theorem cons_of {l : List M.Fr} {n : Nat} (h : l.length = n) (hn : 0 < n) : ∃ x r, l = x :: r := by
  cases l with
  | nil => simp at h; omega
  | cons x r => exact ⟨x, r, rfl⟩
theorem Frs.none_ (w : World) (A : Option Addr) : Frs w A 0 [] := ⟨⟨by simp, fun h => absurd h (by omega)⟩, fun f hf => by cases hf⟩

theorem below_set6 {B b : Nat} {w w1 : World} (h : Below B w w1) (hb : B ≤ b) (v0 v1 v2 v3 v4 v5 : Value) : Below B w ((((((w1.setCell ⟨b, 0, none⟩ v0).setCell ⟨b, 1, none⟩ v1).setCell ⟨b, 2, none⟩ v2).setCell ⟨b, 3, none⟩ v3).setCell ⟨b, 4, none⟩ v4).setCell ⟨b, 5, none⟩ v5) :=
  (((((h.setCell hb _).setCell hb _).setCell hb _).setCell hb _).setCell hb _).setCell hb _

set_option maxRecDepth 100000 in
set_option maxHeartbeats 1600000 in
theorem qtake_any (A : Option Addr) (n c : Nat) (l : List M.Fr) (hd : ∀ f ∈ l, f.data.length ≤ 140737488355328) (w : World) (h : Frs w A n l) :
    Calls Tryd.prog 14 #[.slice A n c] w fun e w' =>
      ∃ (x : M.Fr) (A' : Option Addr) (m c' : Nat) (l' : List M.Fr) (z : Int), e = .returned (.tuple #[.agg #[.int .i64 x.id, .bool x.long, .bool x.fast, .bool x.remote, .int .i64 x.size, .slice x.A x.data.length x.c], .slice A' m c', .int .i64 z]) ∧ Frs w' A' m l' ∧ x.ok w' ∧ (x.abs, l'.map M.Fr.abs, z) = M.qtake (l.map M.Fr.abs) ∧ Below w.heap.size w w' := by
  have hlen := h.len
  have hres : Tryd.f14.results = #[.cell 2 30, .tmp 3, .tmp 4] := by kernel_rfl
  have hbox : ∀ (o : Obj), Below w.heap.size w (w.alloc o) := fun o => (Below.refl _ _).alloc (Nat.le_refl _) _
  obtain ⟨y, hy⟩ : ∃ y, y = M.qchk (l.map M.Fr.abs) := ⟨_, rfl⟩
  by_cases h0 : y = 0
  · subst h0
    have hs := (M.qchk_zero).1 hy.symm
    have hn16 : n ≤ 16 := by
      have := hs.1
      rw [List.length_map, hlen] at this
      exact this
    rcases Nat.eq_zero_or_pos n with rfl | hpos
    · have hl0 : l = [] := List.eq_nil_of_length_eq_zero hlen
      have hq : (M.Fr.zero.abs, ([] : List M.Fr).map M.Fr.abs, (8 : Int)) = M.qtake (l.map M.Fr.abs) := by
        unfold M.qtake
        rw [← hy, if_neg (by simp), hl0]
        rfl
      have H := Lib.hid h
      have HB := Lib.hid hbox
      have HY := Lib.hid hy
      have HQ := Lib.hid hq
      clear hy h hbox hd hq hl0 hs hlen
      go_enter Tryd.func14, Tryd.ntmps14
      go_wp2_with (go_at_call 15; refine (qcheck_any A 0 c l _ (H.out.below (HB.out _)) 0 HY.out).mono ?_; rintro e w1 ⟨rfl, hb1⟩; have hbe := Lib.hid ((HB.out _).trans (hb1.mono (HB.out _).size)); obtain ⟨x0, x1, x2, x3, x4, x5, z0, z1, z2, z3, z4, z5⟩ := blk6 ((Blk.new w 30 #[.int .i64 0, .bool false, .bool false, .bool false, .int .i64 0, .slice none 0 0]).below hb1 (Blk.new w _ _).lt))
      refine bodyPost_ret (v := .tuple #[.agg #[.int .i64 0, .bool false, .bool false, .bool false, .int .i64 0, .slice none 0 0], .slice none 0 0, .int .i64 8]) ?_ rfl ?_
      · simp only [results, hres]
        go_simp
      · exact ⟨M.Fr.zero, none, 0, 0, [], 8, rfl, Frs.none_ _ _, zero_ok _, HQ.out, below_set6 hbe.out (Nat.le_refl _) _ _ _ _ _ _⟩
    · have H := Lib.hid h
      have HB := Lib.hid hbox
      have HY := Lib.hid hy
      have HD := Lib.hid hd
      have hl := Lib.hid hlen
      have hn48 : n * 48 ≤ 140737488355328 := by omega
      have hp1 : (0 : Int) < (n : Int) := by omega
      have hp2 : (1 : Int) ≤ (n : Int) := by omega
      have ht0 : ((n : Int) == 0) = false := by rw [beq_eq_false_iff_ne]; omega
      clear hy h hbox hd hs hlen
      go_enter Tryd.func14, Tryd.ntmps14
      go_wp2_with (first
        | (go_at_call 15; refine (qcheck_any A n c l _ (H.out.below (HB.out _)) 0 HY.out).mono ?_; rintro e w1 ⟨rfl, hb1⟩; have hbe := Lib.hid ((HB.out _).trans (hb1.mono (HB.out _).size)); have HK1 := Lib.hid ((Blk.new w 30 #[.int .i64 0, .bool false, .bool false, .bool false, .int .i64 0, .slice none 0 0]).below hb1 (Blk.new w _ _).lt))
        | (go_at_call 25; refine (own_any A n c l hn48 HD.out _ (H.out.below hbe.out)).mono ?_; rintro e w4 ⟨v3, l3, rfl, ho3, ha3, hg3, hb4⟩; have HA3 := Lib.hid ha3; have HLN := Lib.hid (len_of ha3 hl.out); have HQ3 := Lib.hid (show OwnQ w1.heap.size w4 v3 l3 from ⟨(len_of ha3 hl.out).symm ▸ ho3, hg3⟩); obtain ⟨g0, c3, rfl, hg0, hc3⟩ := HQ3.out.formN (len_of ha3 hl.out) hpos; obtain ⟨x0, x1, x2, x3, x4, x5, z0, z1, z2, z3, z4, z5⟩ := blk6 (HK1.out.below hb4 HK1.out.lt); have HB4 := Lib.hid (hbe.out.trans (hb4.mono hbe.out.size)); clear ho3 hg3 ha3))
      obtain ⟨x, r, rfl⟩ := cons_of HLN.out hpos
      obtain ⟨y0, y1, y2, y3, y4, y5⟩ := HQ3.out.head HLN.out
      have hgw : g0 ≠ w.heap.size := by
        have := hbe.out.size
        have := HK1.out.lt
        omega
      have hqt : (x.abs, r.map M.Fr.abs, (0 : Int)) = M.qtake (l.map M.Fr.abs) := by
        unfold M.qtake
        rw [← HY.out, if_neg (by simp), ← HA3.out]
        rfl
      have HQT := Lib.hid hqt
      have hwb : w.heap.size < w1.heap.size := HK1.out.lt
      have hncap : n ≤ c3 := by
        rcases HQ3.out.1.2 with ⟨h, _⟩ | ⟨g, cap, cur, h, _, _, h2, _⟩
        · cases h
        · injection h with _ _ h5
          subst h5
          have := HLN.out
          omega
      clear hqt
      by_cases hc1 : c3 = 1
      · subst hc1
        obtain rfl : n = 1 := by omega
        have hr : r = [] := by
          have := HLN.out
          simpa using this
        have HRN := Lib.hid hr
        clear hr
        go_region
        go_wp2
        refine bodyPost_ret (v := .tuple #[.agg #[.int .i64 x.id, .bool x.long, .bool x.fast, .bool x.remote, .int .i64 x.size, .slice x.A x.data.length x.c], .slice (some ⟨g0, 0, none⟩) 0 0, .int .i64 0]) ?_ rfl ?_
        · simp only [results, hres]
          go_simp
        · have hfin := ((HQ3.out.set_below hwb (.int .i64 x.id) (.bool x.long) (.bool x.fast) (.bool x.remote) (.int .i64 x.size) (.slice x.A x.data.length x.c)).drew).rest HLN.out
          exact ⟨x, _, 0, 0, r, 0, rfl, by rw [HRN.out]; exact Frs.none_ _ _, hfin.2, HQT.out, (below_set6 HB4.out (Nat.le_refl _) _ _ _ _ _ _).drew⟩
      · go_region
        go_wp2
        refine bodyPost_ret (v := .tuple #[.agg #[.int .i64 x.id, .bool x.long, .bool x.fast, .bool x.remote, .int .i64 x.size, .slice x.A x.data.length x.c], .slice (some ⟨g0, 6, none⟩) (n - 1) (c3 - 1), .int .i64 0]) ?_ rfl ?_
        · simp only [results, hres]
          go_simp
        · have hfin := ((HQ3.out.set_below hwb (.int .i64 x.id) (.bool x.long) (.bool x.fast) (.bool x.remote) (.int .i64 x.size) (.slice x.A x.data.length x.c)).drew).rest HLN.out
          exact ⟨x, _, n - 1, c3 - 1, r, 0, rfl, hfin.1, hfin.2, HQT.out, (below_set6 HB4.out (Nat.le_refl _) _ _ _ _ _ _).drew⟩
  · have hy2 : (y != 0) = true := by rw [bne_iff_ne]; exact h0
    have hq : (M.Fr.zero.abs, ([] : List M.Fr).map M.Fr.abs, y) = M.qtake (l.map M.Fr.abs) := by
      unfold M.qtake
      rw [← hy, if_pos h0]
      rfl
    have H := Lib.hid h
    have HB := Lib.hid hbox
    have HY := Lib.hid hy
    have HQ := Lib.hid hq
    clear hy h hbox hd h0 hq
    go_enter Tryd.func14, Tryd.ntmps14
    go_wp2_with (go_at_call 15; refine (qcheck_any A n c l _ (H.out.below (HB.out _)) y HY.out).mono ?_; rintro e w1 ⟨rfl, hb1⟩; have hbe := Lib.hid ((HB.out _).trans (hb1.mono (HB.out _).size)); obtain ⟨x0, x1, x2, x3, x4, x5, z0, z1, z2, z3, z4, z5⟩ := blk6 ((Blk.new w 30 #[.int .i64 0, .bool false, .bool false, .bool false, .int .i64 0, .slice none 0 0]).below hb1 (Blk.new w _ _).lt))
    refine bodyPost_ret (v := .tuple #[.agg #[.int .i64 0, .bool false, .bool false, .bool false, .int .i64 0, .slice none 0 0], .slice none 0 0, .int .i64 y]) ?_ rfl ?_
    · simp only [results, hres]
      go_simp
    · exact ⟨M.Fr.zero, none, 0, 0, [], y, rfl, Frs.none_ _ _, zero_ok _, HQ.out, below_set6 hbe.out (Nat.le_refl _) _ _ _ _ _ _⟩
end Go.Proofs.YtlfdpcddbnkpjaaDoor
