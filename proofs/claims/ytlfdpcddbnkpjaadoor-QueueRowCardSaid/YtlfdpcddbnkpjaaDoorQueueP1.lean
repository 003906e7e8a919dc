/-
  Small words that the walks of the law QueuePut share.
-/
import Derived.Test.YtlfdpcddbnkpjaaDoorQueueP0
import Derived.Deep.DeepCutAuto
namespace Go.Proofs.YtlfdpcddbnkpjaaDoor
open Go.RowKit Go.ChangeShapes Go.WideShapes
theorem head_at {w : World} {a : Addr} {n : Nat} {l : List M.Fr} (h : Frs w (some a) n l) (hn : 0 < n) : ∃ y r, l = y :: r ∧ r.length = n - 1 ∧ Frs w (some (a.add 6)) (n - 1) r ∧ ∀ wx, Below w.heap.size w wx → y.ok wx ∧ At6 wx a y := by
  obtain ⟨y, r, rfl⟩ := cons_of h.len hn
  obtain ⟨ad, f, e, hf, hR⟩ := h.cells_ hn
  cases e
  cases hf
  have hl := h.len
  obtain ⟨m, rfl⟩ : ∃ m, n = m + 1 := ⟨n - 1, by omega⟩
  refine ⟨y, r, rfl, by simpa using hl, h.tail, fun wx hb => ?_⟩
  have := hR wx hb
  have e3 : a.add (0 * 6) = a := by simp [Addr.add]
  rw [e3] at this
  exact this
theorem BoxF.flatA {w wx : World} {b : Nat} {x y : M.Fr} {a : Addr} (h : BoxF w b x wx) (k : At6 wx a y) :
    wx.cell? ⟨b, 0, none⟩ = some (.int .i64 x.id) ∧ wx.cell? ⟨b, 1, none⟩ = some (.bool x.long) ∧ wx.cell? ⟨b, 2, none⟩ = some (.bool x.fast) ∧ wx.cell? ⟨b, 3, none⟩ = some (.bool x.remote) ∧ wx.cell? ⟨b, 4, none⟩ = some (.int .i64 x.size) ∧ wx.cell? ⟨b, 5, none⟩ = some (.slice x.A x.data.length x.c) ∧
    wx.cell? a = some (.int .i64 y.id) ∧ wx.cell? ⟨a.block, a.off + 1, none⟩ = some (.bool y.long) ∧ wx.cell? ⟨a.block, a.off + 2, none⟩ = some (.bool y.fast) ∧ wx.cell? ⟨a.block, a.off + 3, none⟩ = some (.bool y.remote) ∧ wx.cell? ⟨a.block, a.off + 4, none⟩ = some (.int .i64 y.size) ∧ wx.cell? ⟨a.block, a.off + 5, none⟩ = some (.slice y.A y.data.length y.c) ∧ b < wx.heap.size ∧ Below w.heap.size w wx := by
  obtain ⟨⟨b0, b1, b2, b3, b4, b5⟩, l, be⟩ := h
  obtain ⟨c0, c1, c2, c3, c4, c5⟩ := k
  exact ⟨b0, b1, b2, b3, b4, b5, c0, c1, c2, c3, c4, c5, l, be⟩
theorem qtake_nil {l : List M.Frm} (h : l = []) : M.qtake l = (M.Frm.zero, [], 8) := by subst h; kernel_rfl
theorem qtake_cons {f : M.Frm} {r : List M.Frm} (h : 0 = M.qchk (f :: r)) : M.qtake (f :: r) = (f, r, 0) := by
  unfold M.qtake
  rw [← h, if_neg (by simp)]
theorem own_q {base n : Nat} {w : World} {v : Value} {l : List M.Fr} (hl : l.length = n) (ho : w.ownsRow base 30 6 v n (l.flatMap M.Fr.cells)) (hg : ∀ g ∈ l, g.own base w) : OwnQ base w v l := ⟨hl.symm ▸ ho, hg⟩
theorem small16 {n : Nat} (h : n ≤ 16) : n ≤ 140737488355328 := by omega
theorem zero_data {x : M.Fr} (h : x.abs = M.Frm.zero) : x.data.length ≤ 140737488355328 := by
  have : x.data = [] := congrArg M.Frm.data h
  rw [this]
  simp
end Go.Proofs.YtlfdpcddbnkpjaaDoor
