/-
  The walk of the document's CheckQueue.
-/
import Derived.Test.YtlfdpcddbnkpjaaDoorQueueW1
import Derived.Test.YtlfdpcddbnkpjaaDoorFrmW5
import Derived.Test.YtlfdpcddbnkpjaaDoorFrmW2
namespace Go.Proofs.YtlfdpcddbnkpjaaDoor
open Go.RowKit Go.ChangeShapes Go.WideShapes

theorem Frs.block_ {w : World} {a : Addr} {n : Nat} {l : List M.Fr} (h : Frs w (some a) n l) (hn : 0 < n) : a.block < w.heap.size := by
  obtain ⟨ad, e, hb, _⟩ := h.1.2 hn
  cases e
  exact hb

theorem less_nil (a : List UInt8) : Op.bytesLess a [] = false := by cases a <;> rfl

/-- The name of the frame ahead of place j, as the scan keeps it. -/
def M.lastOf (l : List M.Frm) (j : Nat) : List UInt8 := match j with
  | 0 => []
  | k + 1 => match l[k]? with | some f => f.name | none => []

/-- What the drawn statement of CheckQueue keeps: the boxed frame, the frame ahead, the table. -/
structure QS (w : World) (b : Nat) (p : Addr) (f g : M.Fr) (wx : World) : Prop where
  box : wx.cell? ⟨b, 0, none⟩ = some (.int .i64 f.id) ∧ wx.cell? ⟨b, 1, none⟩ = some (.bool f.long) ∧ wx.cell? ⟨b, 2, none⟩ = some (.bool f.fast) ∧ wx.cell? ⟨b, 3, none⟩ = some (.bool f.remote) ∧ wx.cell? ⟨b, 4, none⟩ = some (.int .i64 f.size) ∧ wx.cell? ⟨b, 5, none⟩ = some (.slice f.A f.data.length f.c)
  row : wx.cell? p = some (.int .i64 g.id) ∧ wx.cell? ⟨p.block, p.off + 1, none⟩ = some (.bool g.long) ∧ wx.cell? ⟨p.block, p.off + 2, none⟩ = some (.bool g.fast) ∧ wx.cell? ⟨p.block, p.off + 3, none⟩ = some (.bool g.remote) ∧ wx.cell? ⟨p.block, p.off + 4, none⟩ = some (.int .i64 g.size) ∧ wx.cell? ⟨p.block, p.off + 5, none⟩ = some (.slice g.A g.data.length g.c)
  tab : Tab2 wx
  lt : b < wx.heap.size
  plt : p.block < wx.heap.size
  bel : Below w.heap.size w wx

theorem QS.flat {w wx : World} {b : Nat} {p : Addr} {f g : M.Fr} (h : QS w b p f g wx) : wx.cell? ⟨b, 0, none⟩ = some (.int .i64 f.id) ∧ wx.cell? ⟨b, 1, none⟩ = some (.bool f.long) ∧ wx.cell? ⟨b, 2, none⟩ = some (.bool f.fast) ∧ wx.cell? ⟨b, 3, none⟩ = some (.bool f.remote) ∧ wx.cell? ⟨b, 4, none⟩ = some (.int .i64 f.size) ∧ wx.cell? ⟨b, 5, none⟩ = some (.slice f.A f.data.length f.c) ∧ wx.cell? p = some (.int .i64 g.id) ∧ wx.cell? ⟨p.block, p.off + 1, none⟩ = some (.bool g.long) ∧ wx.cell? ⟨p.block, p.off + 2, none⟩ = some (.bool g.fast) ∧ wx.cell? ⟨p.block, p.off + 3, none⟩ = some (.bool g.remote) ∧ wx.cell? ⟨p.block, p.off + 4, none⟩ = some (.int .i64 g.size) ∧ wx.cell? ⟨p.block, p.off + 5, none⟩ = some (.slice g.A g.data.length g.c) ∧ Tab2 wx ∧ b < wx.heap.size ∧ Below w.heap.size w wx := by
  obtain ⟨⟨b0, b1, b2, b3, b4, b5⟩, ⟨r0, r1, r2, r3, r4, r5⟩, t, l, _, be⟩ := h
  exact ⟨b0, b1, b2, b3, b4, b5, r0, r1, r2, r3, r4, r5, t, l, be⟩
theorem QS.drew {w wx : World} {b : Nat} {p : Addr} {f g : M.Fr} (h : QS w b p f g wx) : QS w b p f g wx.drew := ⟨h.box, h.row, h.tab, h.lt, h.plt, h.bel.drew⟩
theorem QS.step {w wx wy : World} {b : Nat} {p : Addr} {f g : M.Fr} (h : QS w b p f g wx) (hb : Below wx.heap.size wx wy) : QS w b p f g wy := by
  obtain ⟨⟨b0, b1, b2, b3, b4, b5⟩, ⟨r0, r1, r2, r3, r4, r5⟩, t, l, pl, be⟩ := h
  have e : ∀ (q : Addr), q.block < wx.heap.size → wy.cell? q = wx.cell? q := fun q hq => hb.cell hq
  exact ⟨⟨(e _ l).trans b0, (e _ l).trans b1, (e _ l).trans b2, (e _ l).trans b3, (e _ l).trans b4, (e _ l).trans b5⟩, ⟨(e _ pl).trans r0, (e ⟨p.block, p.off + 1, none⟩ pl).trans r1, (e ⟨p.block, p.off + 2, none⟩ pl).trans r2, (e ⟨p.block, p.off + 3, none⟩ pl).trans r3, (e ⟨p.block, p.off + 4, none⟩ pl).trans r4, (e ⟨p.block, p.off + 5, none⟩ pl).trans r5⟩,
    t.below hb, Nat.lt_of_lt_of_le l hb.size, Nat.lt_of_lt_of_le pl hb.size, be.trans (hb.mono be.size)⟩
theorem QS.start {w wr w1 : World} {t : TypeId} {p : Addr} {f g : M.Fr} (hb : Below (wr.alloc (.cells #[.int .i64 f.id, .bool f.long, .bool f.fast, .bool f.remote, .int .i64 f.size, .slice f.A f.data.length f.c] t)).heap.size (wr.alloc (.cells #[.int .i64 f.id, .bool f.long, .bool f.fast, .bool f.remote, .int .i64 f.size, .slice f.A f.data.length f.c] t)) w1)
    (hal : Below w.heap.size w (wr.alloc (.cells #[.int .i64 f.id, .bool f.long, .bool f.fast, .bool f.remote, .int .i64 f.size, .slice f.A f.data.length f.c] t))) (hp : p.block < w.heap.size) (hr : At6 w1 p g) (ht : Tab2 w) : QS w wr.heap.size p f g w1 := by
  have be := hal.trans (hb.mono hal.size)
  refine ⟨⟨box_cell hb 0, box_cell hb 1, box_cell hb 2, box_cell hb 3, box_cell hb 4, box_cell hb 5⟩, hr, ht.below be, ?_, Nat.lt_of_lt_of_le hp be.size, be⟩
  have := hb.size
  simp only [World.size_alloc] at this
  omega
theorem two_less {a b : ByteArray} {l m : List UInt8} {q : Bool} (ha : a.data.toList = l) (hb : b.data.toList = m) (h : Op.bytesLess l m = q) : Op.bytesLess a.toList b.toList = q := by
  rw [list_data, list_data, ha, hb]
  exact h

theorem lastOf_succ {l : List M.Fr} {j : Nat} {f : M.Fr} (h : l[j]? = some f) : M.lastOf (l.map M.Fr.abs) (j + 1) = f.abs.name := by
  show (match (l.map M.Fr.abs)[j]? with | some f => f.name | none => []) = _
  rw [List.getElem?_map, h]
  rfl
theorem good_succ {l : List M.Fr} {j : Nat} {f : M.Fr} (hg : ∀ k f, k < j → l[k]? = some f → f.abs.chk = 0) (h : l[j]? = some f) (hc : f.abs.chk = 0) : ∀ k f, k < j + 1 → l[k]? = some f → f.abs.chk = 0 := by
  intro k f' hk hf
  rcases Nat.lt_or_ge k j with h1 | h1
  · exact hg k f' h1 hf
  · obtain rfl : k = j := by omega
    rw [h] at hf
    cases hf
    exact hc

set_option maxRecDepth 100000 in
set_option maxHeartbeats 3200000 in
theorem refQueue_any (A : Option Addr) (n c : Nat) (l : List M.Fr) (w : World) (h : Frs w A n l) (ht : Tab2 w) (z : Int) (hz : z = M.qchk (l.map M.Fr.abs)) :
    Calls Tryd.prog 7 #[.slice A n c] w fun e w' => e = .returned (.int .i64 z) ∧ Below w.heap.size w w' := by
  have hl := Lib.hid h.len
  have HT := Lib.hid ht
  clear ht
  by_cases hn : 16 < n
  · have hZ : z = 2 := by
      rw [hz, M.qchk, if_pos (by rw [List.length_map, hl.out]; exact hn)]
    have HZ := Lib.hid hZ
    clear h hz hZ
    go_enter Tryd.func7, Tryd.ntmps7
    go_wp2
    go_ret
    exact ⟨ret_one (int_of HZ.out.symm), Below.refl _ _⟩
  · have hZ : z = M.qscan [] (l.map M.Fr.abs) := by
      rw [hz, M.qchk, if_neg (by rw [List.length_map, hl.out]; exact hn)]
    have HZ := Lib.hid hZ
    have H := Lib.hid h
    clear h hz hZ
    go_enter Tryd.func7, Tryd.ntmps7
    go_wp2
    go_loopw [11] (fun i wr => ∃ (j : Nat), j ≤ n ∧ i = .int .i64 j ∧ z = M.qscan (M.lastOf (l.map M.Fr.abs) j) ((l.map M.Fr.abs).drop j) ∧ (∀ k f, k < j → l[k]? = some f → f.abs.chk = 0) ∧ Below w.heap.size w wr) (fun i _ => n - (intOf i).toNat)
    case atStart => exact ⟨0, Nat.zero_le _, rfl, HZ.out, fun k f hk => by omega, Below.refl _ _⟩
    case round =>
      obtain ⟨j, hj, rfl, hs, hgood, hb⟩ := hrel
      by_cases hlt : j < n
      · obtain ⟨a, f, rfl, hf, hR⟩ := H.out.cells_ hlt
        obtain ⟨p0, p1, p2, p3, p4, p5⟩ := (hR wr hb).2
        have hal := fun o => hb.alloc hb.size o
        rw [drop_map_at hf, M.qscan_cons] at hs
        have HAL := Lib.hid hal
        have HS := Lib.hid hs
        have HF := Lib.hid hf
        have HG := Lib.hid hgood
        clear hR hf hal hs hgood
        by_cases hck : f.abs.chk = 0
        · have hck2 : ∀ w, Calls Tryd.prog 18 #[f.val] w fun e w' => e = .returned (.int .i64 0) ∧ Below w.heap.size w w' := fun w => (refCheck_any f.id f.long f.fast f.remote f.size f.A f.data.length f.c w).mono fun e w' h => by rw [show M.fchk f.id f.long f.fast f.remote f.size f.data.length = 0 from hck] at h; exact h
          have HCK := Lib.hid hck
          have HCK2 := Lib.hid hck2
          clear hck hck2
          go_upto_region 9 with (go_at_call 18; refine (HCK2.out _).mono ?_; rintro e w1 ⟨rfl, hb1⟩)
          rcases Nat.eq_zero_or_pos j with rfl | hpos
          · have hg0 : (decide ((0 : Int) < ((0 : Nat) : Int))) = false := by decide
            go_quiet (fail)
            go_wp2
            go_roundw
            case rel =>
              refine ⟨1, by omega, rfl, ?_, ?_, below_drewN ((HAL.out _).trans (hb1.mono (HAL.out _).size)) _⟩
              · rw [HS.out, if_neg (fun h => h HCK.out), if_neg (by rw [show M.lastOf (l.map M.Fr.abs) 0 = [] from rfl, less_nil]; exact Bool.false_ne_true), lastOf_succ HF.out]
              · exact good_succ HG.out HF.out HCK.out
            case measure => simp [intOf]; omega
          · obtain ⟨k, rfl⟩ : ∃ k, j = k + 1 := ⟨j - 1, by omega⟩
            obtain ⟨a', g, ha', hg, hR'⟩ := H.out.cells_ (show k < n by omega)
            cases ha'
            have hab : a.block < w.heap.size := H.out.block_ (by omega)
            have hCg : g.abs.chk = 0 := HG.out k g (Nat.lt_succ_self k) hg
            have HCG := Lib.hid (show M.fchk g.id g.long g.fast g.remote g.size g.data.length = 0 from hCg)
            have HCK3 := Lib.hid (show M.fchk f.id f.long f.fast f.remote f.size f.data.length = 0 from HCK.out)
            have hS1 : QS w wr.heap.size (a.add (k * 6)) f g w1 := QS.start hb1 (HAL.out _) (by rw [block_of_add]; exact hab) (hR' w1 ((HAL.out _).trans (hb1.mono (HAL.out _).size))).2 HT.out
            have hlast : M.lastOf (l.map M.Fr.abs) (k + 1) = g.abs.name := by
              show (match (l.map M.Fr.abs)[k]? with | some f => f.name | none => []) = _
              rw [List.getElem?_map, hg]
              rfl
            have HLA := Lib.hid hlast
            have HGG := Lib.hid hg
            have hg1 : decide ((0 : Int) < ((k + 1 : Nat) : Int)) = true := decide_eq_true (by omega)
            have hw1 : IntKind.i64.wrap (((k + 1 : Nat) : Int) - 1) = ((k : Nat) : Int) := by rw [IntWalk.i64_in _ (by omega)]; omega
            have hw2 : IntKind.i64.wrap ((k : Int) + 1 - 1) = ((k : Nat) : Int) := by rw [IntWalk.i64_in _ (by omega)]; omega
            have hw3 : IntKind.i64.wrap (k : Int) = ((k : Nat) : Int) := by rw [IntWalk.i64_in _ (by omega)]
            have hk0 : (0 : Int) ≤ (k : Int) := by omega
            have hk1 : (k : Int) < (n : Int) := by omega
            have hk2 : (k : Int).toNat = k := by omega
            clear hR' hg hCg hlast
            by_cases hlo : Op.bytesLess f.abs.name g.abs.name = true
            · have HLO := Lib.hid hlo
              clear hlo
              go_region_held3 (fun wx => wx.cell? ⟨wr.heap.size, 0, none⟩ = some (.int .i64 f.id) ∧ wx.cell? ⟨wr.heap.size, 1, none⟩ = some (.bool f.long) ∧ wx.cell? ⟨wr.heap.size, 2, none⟩ = some (.bool f.fast) ∧ wx.cell? ⟨wr.heap.size, 3, none⟩ = some (.bool f.remote) ∧ wx.cell? ⟨wr.heap.size, 4, none⟩ = some (.int .i64 f.size) ∧ wx.cell? ⟨wr.heap.size, 5, none⟩ = some (.slice f.A f.data.length f.c) ∧ wx.cell? (a.add (k * 6)) = some (.int .i64 g.id) ∧ wx.cell? ⟨(a.add (k * 6)).block, (a.add (k * 6)).off + 1, none⟩ = some (.bool g.long) ∧ wx.cell? ⟨(a.add (k * 6)).block, (a.add (k * 6)).off + 2, none⟩ = some (.bool g.fast) ∧ wx.cell? ⟨(a.add (k * 6)).block, (a.add (k * 6)).off + 3, none⟩ = some (.bool g.remote) ∧ wx.cell? ⟨(a.add (k * 6)).block, (a.add (k * 6)).off + 4, none⟩ = some (.int .i64 g.size) ∧ wx.cell? ⟨(a.add (k * 6)).block, (a.add (k * 6)).off + 5, none⟩ = some (.slice g.A g.data.length g.c) ∧ Tab2 wx ∧ wr.heap.size < wx.heap.size ∧ Below w.heap.size w wx)
              (first | exact hS1.flat | exact hS1.drew.flat | exact hS2.flat | exact hS3.flat | exact hS2.drew.flat | exact hS3.drew.flat)
              (first
                | (go_at_call_of 19 (Value.agg #[.int .i64 f.id, .bool f.long, .bool f.fast, .bool f.remote, .int .i64 f.size, .slice f.A f.data.length f.c]); refine (nameOf_any f.id f.long f.fast f.remote f.size f.A f.data.length f.c _ HCK3.out hS1.drew.tab).mono ?_; rintro e w2 ⟨s1, hs1, rfl, hb2⟩; have hS2 := hS1.drew.step hb2; have HS1 := Lib.hid hs1; clear hs1)
                | (go_at_call_of 19 (Value.agg #[.int .i64 g.id, .bool g.long, .bool g.fast, .bool g.remote, .int .i64 g.size, .slice g.A g.data.length g.c]); refine (nameOf_any g.id g.long g.fast g.remote g.size g.A g.data.length g.c _ HCG.out hS2.tab).mono ?_; rintro e w3 ⟨s2, hs2, rfl, hb3⟩; have hS3 := hS2.step hb3; have hbl : Op.bytesLess s1.toList s2.toList = true := two_less HS1.out hs2 HLO.out; clear hs2))
              go_wp2
              go_ret
              refine ⟨ret_one (int_of ?_), hS3.bel⟩
              rw [HS.out, HLA.out, if_neg (fun h => h HCK.out), if_pos HLO.out]
            · have hlo2 : Op.bytesLess f.abs.name g.abs.name = false := by simpa using hlo
              have HLO := Lib.hid hlo2
              clear hlo hlo2
              go_region_held3 (fun wx => wx.cell? ⟨wr.heap.size, 0, none⟩ = some (.int .i64 f.id) ∧ wx.cell? ⟨wr.heap.size, 1, none⟩ = some (.bool f.long) ∧ wx.cell? ⟨wr.heap.size, 2, none⟩ = some (.bool f.fast) ∧ wx.cell? ⟨wr.heap.size, 3, none⟩ = some (.bool f.remote) ∧ wx.cell? ⟨wr.heap.size, 4, none⟩ = some (.int .i64 f.size) ∧ wx.cell? ⟨wr.heap.size, 5, none⟩ = some (.slice f.A f.data.length f.c) ∧ wx.cell? (a.add (k * 6)) = some (.int .i64 g.id) ∧ wx.cell? ⟨(a.add (k * 6)).block, (a.add (k * 6)).off + 1, none⟩ = some (.bool g.long) ∧ wx.cell? ⟨(a.add (k * 6)).block, (a.add (k * 6)).off + 2, none⟩ = some (.bool g.fast) ∧ wx.cell? ⟨(a.add (k * 6)).block, (a.add (k * 6)).off + 3, none⟩ = some (.bool g.remote) ∧ wx.cell? ⟨(a.add (k * 6)).block, (a.add (k * 6)).off + 4, none⟩ = some (.int .i64 g.size) ∧ wx.cell? ⟨(a.add (k * 6)).block, (a.add (k * 6)).off + 5, none⟩ = some (.slice g.A g.data.length g.c) ∧ Tab2 wx ∧ wr.heap.size < wx.heap.size ∧ Below w.heap.size w wx)
              (first | exact hS1.flat | exact hS1.drew.flat | exact hS2.flat | exact hS3.flat | exact hS2.drew.flat | exact hS3.drew.flat)
              (first
                | (go_at_call_of 19 (Value.agg #[.int .i64 f.id, .bool f.long, .bool f.fast, .bool f.remote, .int .i64 f.size, .slice f.A f.data.length f.c]); refine (nameOf_any f.id f.long f.fast f.remote f.size f.A f.data.length f.c _ HCK3.out hS1.drew.tab).mono ?_; rintro e w2 ⟨s1, hs1, rfl, hb2⟩; have hS2 := hS1.drew.step hb2; have HS1 := Lib.hid hs1; clear hs1)
                | (go_at_call_of 19 (Value.agg #[.int .i64 g.id, .bool g.long, .bool g.fast, .bool g.remote, .int .i64 g.size, .slice g.A g.data.length g.c]); refine (nameOf_any g.id g.long g.fast g.remote g.size g.A g.data.length g.c _ HCG.out hS2.tab).mono ?_; rintro e w3 ⟨s2, hs2, rfl, hb3⟩; have hS3 := hS2.step hb3; have hbl : Op.bytesLess s1.toList s2.toList = false := two_less HS1.out hs2 HLO.out; clear hs2))
              go_wp2
              go_roundw
              case rel =>
                refine ⟨k + 2, by omega, by go_num, ?_, ?_, hS3.bel⟩
                · rw [HS.out, HLA.out, if_neg (fun h => h HCK.out), if_neg (by rw [HLO.out]; exact Bool.false_ne_true), lastOf_succ HF.out]
                · exact good_succ HG.out HF.out HCK.out
              case measure => simp [intOf]; omega
        · have HCK := Lib.hid hck
          obtain ⟨y, hy⟩ : ∃ y, M.fchk f.id f.long f.fast f.remote f.size f.data.length = y := ⟨_, rfl⟩
          have hy0 : y ≠ 0 := by rw [← hy]; exact hck
          have hy2 : (y != 0) = true := by rw [bne_iff_ne]; exact hy0
          have hck2 : ∀ w, Calls Tryd.prog 18 #[f.val] w fun e w' => e = .returned (.int .i64 y) ∧ Below w.heap.size w w' := fun w => (refCheck_any f.id f.long f.fast f.remote f.size f.A f.data.length f.c w).mono fun e w' h => by rw [hy] at h; exact h
          have HCK2 := Lib.hid hck2
          have HY := Lib.hid hy
          clear hck hy hck2 hy0
          go_wp2_with (go_at_call 18; refine (HCK2.out _).mono ?_; rintro e w1 ⟨rfl, hb1⟩)
          go_ret
          refine ⟨ret_one (int_of ?_), (HAL.out _).trans (hb1.mono (HAL.out _).size)⟩
          rw [HS.out, if_pos HCK.out]
          exact HY.out.symm
      · have e : (l.map M.Fr.abs).drop j = [] := List.drop_eq_nil_of_le (by rw [List.length_map, hl.out]; omega)
        rw [e] at hs
        have HS := Lib.hid hs
        clear e hs
        go_wp2
        go_ret
        exact ⟨ret_one (int_of HS.out.symm), hb⟩
end Go.Proofs.YtlfdpcddbnkpjaaDoor
