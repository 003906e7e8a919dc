/-
  Queues in memory of the call's own; one frame put into such a queue (slices.Insert); a boxed frame kept over calls.
-/
import Derived.Test.YtlfdpcddbnkpjaaDoorIns
import Derived.Test.YtlfdpcddbnkpjaaDoorQueueW5
import Derived.Test.YtlfdpcddbnkpjaaDoorQueuePlain
namespace Go.Proofs.YtlfdpcddbnkpjaaDoor
open Go.RowKit Go.ChangeShapes Go.WideShapes

/-- A queue whose frames, and their bytes, are the call's own. -/
def OwnQ (base : Nat) (w : World) (v : Value) (l : List M.Fr) : Prop := w.ownsRow base 30 6 v l.length (l.flatMap M.Fr.cells) ∧ ∀ g ∈ l, g.own base w

theorem OwnQ.nil_ (base : Nat) (w : World) : OwnQ base w (.slice none 0 0) [] := ⟨World.ownsRow_nil _ _ _ _, fun g h => by cases h⟩
theorem OwnQ.step {base : Nat} {w w' : World} {v : Value} {l : List M.Fr} (h : OwnQ base w v l) (hb : Below w.heap.size w w') : OwnQ base w' v l := ⟨own_kept h.1 hb, fun g hg => own_kept (h.2 g hg) hb⟩
theorem OwnQ.drew {base : Nat} {w : World} {v : Value} {l : List M.Fr} (h : OwnQ base w v l) : OwnQ base w.drew v l := h
theorem OwnQ.weaken {base base' : Nat} {w : World} {v : Value} {l : List M.Fr} (h : OwnQ base w v l) (hb : base' ≤ base) : OwnQ base' w v l := ⟨own_weaken h.1 hb, fun g hg => own_weaken (h.2 g hg) hb⟩
theorem OwnQ.slice {base : Nat} {w : World} {v : Value} {l : List M.Fr} (h : OwnQ base w v l) : ∃ A c, v = .slice A l.length c ∧ Frs w A l.length l := by
  obtain ⟨A, c, rfl, hr⟩ := own_slice h.1
  exact ⟨A, c, rfl, hr, fun f hf => (h.2 f hf).ok⟩

theorem flat_cells {l : List M.Fr} : ∀ u ∈ l.flatMap M.Fr.cells, u.oneCell' = true := by
  intro u hu
  obtain ⟨f, _, hf⟩ := List.mem_flatMap.1 hu
  exact six_cells f u hf

theorem flat_take (l : List M.Fr) (i : Nat) : (l.flatMap M.Fr.cells).take (i * 6) = (l.take i).flatMap M.Fr.cells := by
  induction l generalizing i with
  | nil => simp
  | cons f r ih =>
    cases i with
    | zero => simp
    | succ i =>
      rw [List.flatMap_cons, List.take_succ_cons, List.flatMap_cons, ← ih, show (i + 1) * 6 = f.cells.length + i * 6 by rw [M.Fr.cells_length]; omega, List.take_length_add_append]

theorem flat_drop (l : List M.Fr) (i : Nat) : (l.flatMap M.Fr.cells).drop (i * 6) = (l.drop i).flatMap M.Fr.cells := by
  induction l generalizing i with
  | nil => simp
  | cons f r ih =>
    cases i with
    | zero => simp
    | succ i =>
      rw [List.flatMap_cons, List.drop_succ_cons, ← ih, show (i + 1) * 6 = f.cells.length + i * 6 by rw [M.Fr.cells_length]; omega, List.drop_length_add_append]

theorem insq2_any (base : Nat) (v : Value) (l : List M.Fr) (i : Nat) (g : M.Fr) (w0 : World) (hi : i ≤ l.length) (hn : (l.length + 1) * 48 ≤ 140737488355328) (hQ : OwnQ base w0 v l) (hg : g.own base w0) (hB : base ≤ w0.heap.size) :
    Calls Tryd.prog 26 #[v, .int .i64 i, .slice (some ⟨w0.heap.size, 0, none⟩) 1 1] (w0.alloc (.cells #[.int .i64 g.id, .bool g.long, .bool g.fast, .bool g.remote, .int .i64 g.size, .slice g.A g.data.length g.c] 30)) fun e w' =>
      ∃ v', e = .returned v' ∧ OwnQ base w' v' (l.take i ++ g :: l.drop i) ∧ Below base w0 w' ∧ (w0.alloc (.cells #[.int .i64 g.id, .bool g.long, .bool g.fast, .bool g.remote, .int .i64 g.size, .slice g.A g.data.length g.c] 30)).grownBy w' v.ownBlock := by
  have hlt : ∀ k, v.ownBlock = some k → base ≤ k ∧ k < w0.heap.size := hQ.1.lt
  refine (insert_any base v l.length i _ g.cells w0.heap.size _ hi hn (hQ.1.alloc _) flat_cells (Blk.new w0 _ _) rfl (six_cells g) (fun e => ?_) (by simp; omega)).mono fun e w' ⟨v', he, ho, hgr⟩ => ⟨v', he, ⟨?_, ?_⟩, ?_, hgr⟩
  · have := (hlt _ e).2
    omega
  · rw [flat_take, flat_drop] at ho
    have e1 : (l.take i ++ g :: l.drop i).length = l.length + 1 := by simp; omega
    have e2 : (l.take i ++ g :: l.drop i).flatMap M.Fr.cells = (l.take i).flatMap M.Fr.cells ++ g.cells ++ (l.drop i).flatMap M.Fr.cells := by simp
    rw [e1, e2]
    exact ho
  · intro x hx
    have hx2 : x.own base w0 := by
      rcases List.mem_append.1 hx with hx | hx
      · exact hQ.2 x (List.mem_of_mem_take hx)
      · rcases List.mem_cons.1 hx with rfl | hx
        · exact hg
        · exact hQ.2 x (List.mem_of_mem_drop hx)
    exact (World.ownsRow.alloc hx2 _).kept hgr (own_apart hx2 hQ.1 (by decide))
  · exact ((Below.refl base w0).alloc hB _).grown hgr (by simp; omega) (fun k hk => (hlt k hk).1)

theorem insq_any (base : Nat) (v : Value) (l : List M.Fr) (i : Nat) (g : M.Fr) (w0 : World) (hi : i ≤ l.length) (hn : (l.length + 1) * 48 ≤ 140737488355328) (hQ : OwnQ base w0 v l) (hg : g.own base w0) (hB : base ≤ w0.heap.size) :
    Calls Tryd.prog 26 #[v, .int .i64 i, .slice (some ⟨w0.heap.size, 0, none⟩) 1 1] (w0.alloc (.cells #[.int .i64 g.id, .bool g.long, .bool g.fast, .bool g.remote, .int .i64 g.size, .slice g.A g.data.length g.c] 30)) fun e w' =>
      ∃ v', e = .returned v' ∧ OwnQ base w' v' (l.take i ++ g :: l.drop i) ∧ Below base w0 w' :=
  (insq2_any base v l i g w0 hi hn hQ hg hB).mono fun _ _ ⟨v', he, hq, hb, _⟩ => ⟨v', he, hq, hb⟩

theorem OwnQ.alloc {base : Nat} {w : World} {v : Value} {l : List M.Fr} (h : OwnQ base w v l) (o : Obj) : OwnQ base (w.alloc o) v l := h.step ((Below.refl _ _).alloc (Nat.le_refl _) _)

/-- A boxed frame, kept. -/
structure BoxF (w : World) (b : Nat) (f : M.Fr) (wx : World) : Prop where
  box : wx.cell? ⟨b, 0, none⟩ = some (.int .i64 f.id) ∧ wx.cell? ⟨b, 1, none⟩ = some (.bool f.long) ∧ wx.cell? ⟨b, 2, none⟩ = some (.bool f.fast) ∧ wx.cell? ⟨b, 3, none⟩ = some (.bool f.remote) ∧ wx.cell? ⟨b, 4, none⟩ = some (.int .i64 f.size) ∧ wx.cell? ⟨b, 5, none⟩ = some (.slice f.A f.data.length f.c)
  lt : b < wx.heap.size
  bel : Below w.heap.size w wx

theorem BoxF.flat {w wx : World} {b : Nat} {f : M.Fr} (h : BoxF w b f wx) : wx.cell? ⟨b, 0, none⟩ = some (.int .i64 f.id) ∧ wx.cell? ⟨b, 1, none⟩ = some (.bool f.long) ∧ wx.cell? ⟨b, 2, none⟩ = some (.bool f.fast) ∧ wx.cell? ⟨b, 3, none⟩ = some (.bool f.remote) ∧ wx.cell? ⟨b, 4, none⟩ = some (.int .i64 f.size) ∧ wx.cell? ⟨b, 5, none⟩ = some (.slice f.A f.data.length f.c) ∧ b < wx.heap.size ∧ Below w.heap.size w wx := by
  obtain ⟨⟨b0, b1, b2, b3, b4, b5⟩, l, be⟩ := h
  exact ⟨b0, b1, b2, b3, b4, b5, l, be⟩
theorem BoxF.drew {w wx : World} {b : Nat} {f : M.Fr} (h : BoxF w b f wx) : BoxF w b f wx.drew := ⟨h.box, h.lt, h.bel.drew⟩
theorem BoxF.step {w wx wy : World} {b : Nat} {f : M.Fr} (h : BoxF w b f wx) (hb : Below wx.heap.size wx wy) : BoxF w b f wy := by
  obtain ⟨⟨b0, b1, b2, b3, b4, b5⟩, l, be⟩ := h
  have e : ∀ (q : Addr), q.block < wx.heap.size → wy.cell? q = wx.cell? q := fun q hq => hb.cell hq
  exact ⟨⟨(e _ l).trans b0, (e _ l).trans b1, (e _ l).trans b2, (e _ l).trans b3, (e _ l).trans b4, (e _ l).trans b5⟩, Nat.lt_of_lt_of_le l hb.size, be.trans (hb.mono be.size)⟩
theorem BoxF.stepB {w wx wy : World} {b B : Nat} {f : M.Fr} (h : BoxF w b f wx) (hb : Below B wx wy) (hbB : b < B) (hB : w.heap.size ≤ B) : BoxF w b f wy := by
  obtain ⟨⟨b0, b1, b2, b3, b4, b5⟩, l, be⟩ := h
  have e : ∀ (q : Addr), q.block < B → wy.cell? q = wx.cell? q := fun q hq => hb.cell hq
  exact ⟨⟨(e _ hbB).trans b0, (e _ hbB).trans b1, (e _ hbB).trans b2, (e _ hbB).trans b3, (e _ hbB).trans b4, (e _ hbB).trans b5⟩, Nat.lt_of_lt_of_le l hb.size, be.trans (hb.mono hB)⟩
theorem BoxF.alloc {w wx : World} {b : Nat} {f : M.Fr} (h : BoxF w b f wx) (o : Obj) : BoxF w b f (wx.alloc o) := h.step ((Below.refl _ _).alloc (Nat.le_refl _) _)
theorem BoxF.grown {w wx wy : World} {b : Nat} {f : M.Fr} {row : Option Nat} (h : BoxF w b f wx) (hg : wx.grownBy wy row) (hne : some b ≠ row) (hbel : Below w.heap.size w wy) : BoxF w b f wy := by
  obtain ⟨⟨b0, b1, b2, b3, b4, b5⟩, l, _⟩ := h
  exact ⟨⟨hg.cell b0 hne, hg.cell b1 hne, hg.cell b2 hne, hg.cell b3 hne, hg.cell b4 hne, hg.cell b5 hne⟩, Nat.lt_of_lt_of_le l hg.size, hbel⟩
theorem BoxF.start {w wr : World} {t : TypeId} {f : M.Fr} (hr : Below w.heap.size w wr) : BoxF w wr.heap.size f (wr.alloc (.cells #[.int .i64 f.id, .bool f.long, .bool f.fast, .bool f.remote, .int .i64 f.size, .slice f.A f.data.length f.c] t)) := by
  have hB := Blk.new wr t #[.int .i64 f.id, .bool f.long, .bool f.fast, .bool f.remote, .int .i64 f.size, .slice f.A f.data.length f.c]
  exact ⟨⟨hB.cell 0, hB.cell 1, hB.cell 2, hB.cell 3, hB.cell 4, hB.cell 5⟩, hB.lt, hr.alloc hr.size _⟩
theorem BoxF.same {w w0 : World} {b : Nat} {t : TypeId} {f : M.Fr} {wx : World} (h : BoxF w b f (w0.alloc (.cells #[.int .i64 f.id, .bool f.long, .bool f.fast, .bool f.remote, .int .i64 f.size, .slice f.A f.data.length f.c] t))) (e : w0.alloc (.cells #[.int .i64 f.id, .bool f.long, .bool f.fast, .bool f.remote, .int .i64 f.size, .slice f.A f.data.length f.c] t) = wx) : BoxF w b f wx := e ▸ h
end Go.Proofs.YtlfdpcddbnkpjaaDoor
