/-
  What the walk of the law QueuePut carries: the frames and queues that were made, kept over calls; noFrame; a queue's copy with one frame written over.
-/
import Derived.Test.YtlfdpcddbnkpjaaDoorQueueMerge
namespace Go.Proofs.YtlfdpcddbnkpjaaDoor
open Go.RowKit Go.ChangeShapes Go.WideShapes

theorem noFrame_any (f : M.Fr) (hn : f.data.length ≤ 140737488355328) (w : World) (hf : f.ok w) (q : Bool) (hq : q = true ↔ f.abs = M.Frm.zero) :
    Calls Tryd.prog 16 #[.agg #[.int .i64 f.id, .bool f.long, .bool f.fast, .bool f.remote, .int .i64 f.size, .slice f.A f.data.length f.c]] w fun e w' => e = .returned (.bool q) ∧ Below w.heap.size w w' := by
  have hbox := (Below.refl w.heap.size w).alloc (Nat.le_refl _) (.cells #[.int .i64 f.id, .bool f.long, .bool f.fast, .bool f.remote, .int .i64 f.size, .slice f.A f.data.length f.c] 30)
  have HB := Lib.hid hbox
  have HF := Lib.hid (hf.below hbox)
  have HQ := Lib.hid (show q = true ↔ f.abs = M.Fr.zero.abs from hq)
  clear hf hq hbox
  go_enter Tryd.func16, Tryd.ntmps16
  go_wp2_with (go_at_call 17; refine (same_any f M.Fr.zero hn _ HF.out (zero_ok _) q HQ.out).mono ?_; rintro e w1 ⟨rfl, hb1⟩)
  go_ret
  exact ⟨rfl, HB.out.trans (hb1.mono HB.out.size)⟩

/-- What is carried: the boxed frame, its bytes, the copy, the two answers, what was taken. -/
structure PQS (w : World) (f : M.Fr) (Ao : Option Addr) (no : Nat) (lo : List M.Fr) (Ap : Option Addr) (np : Nat) (lp : List M.Fr) (Ar : Option Addr) (nr : Nat) (lr : List M.Fr) (At : Option Addr) (nt : Nat) (lt : List M.Fr) (x : M.Fr) (wx : World) : Prop where
  box : BoxF w w.heap.size f wx
  o : Frs wx Ao no lo
  p : Frs wx Ap np lp
  r : Frs wx Ar nr lr
  t : Frs wx At nt lt
  x : x.ok wx
theorem PQS.step {w wx wy : World} {f : M.Fr} {Ao : Option Addr} {no : Nat} {lo : List M.Fr} {Ap : Option Addr} {np : Nat} {lp : List M.Fr} {Ar : Option Addr} {nr : Nat} {lr : List M.Fr} {At : Option Addr} {nt : Nat} {lt : List M.Fr} {x : M.Fr}
    (h : PQS w f Ao no lo Ap np lp Ar nr lr At nt lt x wx) (hb : Below wx.heap.size wx wy) : PQS w f Ao no lo Ap np lp Ar nr lr At nt lt x wy :=
  ⟨h.box.step hb, h.o.below hb, h.p.below hb, h.r.below hb, h.t.below hb, h.x.below hb⟩
theorem PQS.alloc {w wx : World} {f : M.Fr} {Ao : Option Addr} {no : Nat} {lo : List M.Fr} {Ap : Option Addr} {np : Nat} {lp : List M.Fr} {Ar : Option Addr} {nr : Nat} {lr : List M.Fr} {At : Option Addr} {nt : Nat} {lt : List M.Fr} {x : M.Fr}
    (h : PQS w f Ao no lo Ap np lp Ar nr lr At nt lt x wx) (o : Obj) : PQS w f Ao no lo Ap np lp Ar nr lr At nt lt x (wx.alloc o) := h.step ((Below.refl _ _).alloc (Nat.le_refl _) _)

/-- A row of a queue's cells with one frame written over. -/
theorem row_set {base n : Nat} {w : World} {g0 c : Nat} {l : List M.Fr} (h : w.ownsRow base 30 6 (.slice (some ⟨g0, 0, none⟩) n c) n (l.flatMap M.Fr.cells)) {i : Nat} (hi : i < l.length) (g : M.Fr) :
    World.ownsRow ((((((w.setCell ⟨g0, i * 6, none⟩ (.int .i64 g.id)).setCell ⟨g0, i * 6 + 1, none⟩ (.bool g.long)).setCell ⟨g0, i * 6 + 2, none⟩ (.bool g.fast)).setCell ⟨g0, i * 6 + 3, none⟩ (.bool g.remote)).setCell ⟨g0, i * 6 + 4, none⟩ (.int .i64 g.size)).setCell ⟨g0, i * 6 + 5, none⟩ (.slice g.A g.data.length g.c)) base 30 6 (.slice (some ⟨g0, 0, none⟩) n c) n ((l.set i g).flatMap M.Fr.cells) ∧
    Below base w ((((((w.setCell ⟨g0, i * 6, none⟩ (.int .i64 g.id)).setCell ⟨g0, i * 6 + 1, none⟩ (.bool g.long)).setCell ⟨g0, i * 6 + 2, none⟩ (.bool g.fast)).setCell ⟨g0, i * 6 + 3, none⟩ (.bool g.remote)).setCell ⟨g0, i * 6 + 4, none⟩ (.int .i64 g.size)).setCell ⟨g0, i * 6 + 5, none⟩ (.slice g.A g.data.length g.c)) := by
  obtain ⟨o1, k1⟩ := h.stored (i * 6) (.int .i64 g.id)
  obtain ⟨o2, k2⟩ := o1.stored (i * 6 + 1) (.bool g.long)
  obtain ⟨o3, k3⟩ := o2.stored (i * 6 + 2) (.bool g.fast)
  obtain ⟨o4, k4⟩ := o3.stored (i * 6 + 3) (.bool g.remote)
  obtain ⟨o5, k5⟩ := o4.stored (i * 6 + 4) (.int .i64 g.size)
  obtain ⟨o6, k6⟩ := o5.stored (i * 6 + 5) (.slice g.A g.data.length g.c)
  have k := only_trans (only_trans (only_trans (only_trans (only_trans k1 k2) k3) k4) k5) k6
  rw [flat_set g l i hi] at o6
  have hl := h.lt g0 rfl
  exact ⟨o6, (Below.refl base w).grown k (by omega) (fun r hr => by injection hr with hr; omega)⟩
theorem row_form {base n size e : Nat} {w : World} {v : Value} {xs : List Value} (h : w.ownsRow base e size v n xs) (hl : 0 < n) : ∃ g0 c, v = .slice (some ⟨g0, 0, none⟩) n c ∧ base ≤ g0 ∧ c ≤ 9223372036854775807 := by
  rcases h.2 with ⟨_, h0⟩ | ⟨g, cap, cur, hv, hb, _, _, hm, _⟩
  · omega
  · exact ⟨g, cap, hv, hb, hm⟩
theorem row_at6 {base n : Nat} {w : World} {g0 c : Nat} {l : List M.Fr} (h : w.ownsRow base 30 6 (.slice (some ⟨g0, 0, none⟩) n c) n (l.flatMap M.Fr.cells)) (hn : l.length = n) {i : Nat} (hi : i < n) : ∃ x : M.Fr,
    w.cell? ⟨g0, i * 6, none⟩ = some (.int .i64 x.id) ∧ w.cell? ⟨g0, i * 6 + 1, none⟩ = some (.bool x.long) ∧ w.cell? ⟨g0, i * 6 + 2, none⟩ = some (.bool x.fast) ∧ w.cell? ⟨g0, i * 6 + 3, none⟩ = some (.bool x.remote) ∧ w.cell? ⟨g0, i * 6 + 4, none⟩ = some (.int .i64 x.size) ∧ w.cell? ⟨g0, i * 6 + 5, none⟩ = some (.slice x.A x.data.length x.c) ∧
    w.frozen? ⟨g0, i * 6, none⟩ = false ∧ w.frozen? ⟨g0, i * 6 + 1, none⟩ = false ∧ w.frozen? ⟨g0, i * 6 + 2, none⟩ = false ∧ w.frozen? ⟨g0, i * 6 + 3, none⟩ = false ∧ w.frozen? ⟨g0, i * 6 + 4, none⟩ = false ∧ w.frozen? ⟨g0, i * 6 + 5, none⟩ = false := by
  have hil : i < l.length := by omega
  have e : ∀ k, k < 6 → w.cell? ⟨g0, i * 6 + k, none⟩ = l[i].cells[k]? := fun k hk => by
    rw [h.cellAt (i * 6 + k) (by omega), flat_at l i hil k hk]
  exact ⟨l[i], e 0 (by decide), e 1 (by decide), e 2 (by decide), e 3 (by decide), e 4 (by decide), e 5 (by decide), h.frozenAt _, h.frozenAt _, h.frozenAt _, h.frozenAt _, h.frozenAt _, h.frozenAt _⟩
theorem frs_set {w w' : World} {base n : Nat} {A : Option Addr} {c : Nat} {l : List M.Fr} {f : M.Fr} {i : Nat} (ho : w'.ownsRow base 30 6 (.slice A n c) n ((l.set i f).flatMap M.Fr.cells)) (hl : ∀ x ∈ l, x.ok w) (hf : f.ok w) (hb : Below w.heap.size w w') : Frs w' A n (l.set i f) := by
  refine ⟨Reads.of_own ho, fun x hx => ?_⟩
  rcases List.mem_or_eq_of_mem_set hx with hx | rfl
  · exact (hl x hx).below hb
  · exact hf.below hb
end Go.Proofs.YtlfdpcddbnkpjaaDoor
