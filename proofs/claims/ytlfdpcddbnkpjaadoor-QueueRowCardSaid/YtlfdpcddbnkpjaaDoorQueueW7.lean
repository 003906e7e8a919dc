/-
  The walk of queue.Renew.
-/
import Derived.Test.YtlfdpcddbnkpjaaDoorQueueW6
namespace Go.Proofs.YtlfdpcddbnkpjaaDoor
open Go.RowKit Go.ChangeShapes Go.WideShapes

theorem names_eqb {a b : ByteArray} {l m : List UInt8} (ha : a.data.toList = l) (hb : b.data.toList = m) (h : l = m) : (a.toList == b.toList) = true := by
  rw [list_data, list_data, ha, hb, h]
  exact beq_self_eq_true m
theorem names_neb {a b : ByteArray} {l m : List UInt8} (ha : a.data.toList = l) (hb : b.data.toList = m) (h : l ≠ m) : (a.toList == b.toList) = false := by
  rw [list_data, list_data, ha, hb]
  exact beq_eq_false_iff_ne.2 h

theorem nameAt_none {t : List UInt8} : ∀ {l : List M.Frm}, (∀ (k : Nat) (f : M.Frm), l[k]? = some f → f.name ≠ t) → M.nameAt t l = none
  | [], _ => rfl
  | f :: r, h => by
    have h0 := h 0 f rfl
    rw [M.nameAt, if_neg h0, nameAt_none (l := r) fun k g hg => h (k + 1) g hg]
    rfl
theorem nameAt_some {t : List UInt8} : ∀ {l : List M.Frm} {i : Nat} {f : M.Frm}, (∀ (k : Nat) (f : M.Frm), k < i → l[k]? = some f → f.name ≠ t) → l[i]? = some f → f.name = t → M.nameAt t l = some i
  | [], i, f, _, hi, _ => by cases hi
  | g :: r, 0, f, h, hi, ht => by
    cases hi
    rw [M.nameAt, if_pos ht]
  | g :: r, i + 1, f, h, hi, ht => by
    have h0 := h 0 g (Nat.succ_pos _) rfl
    rw [M.nameAt, if_neg h0, nameAt_some (l := r) (i := i) (f := f) (fun k x hk hx => h (k + 1) x (by omega) hx) hi ht]
    rfl

theorem names_of {l : List M.Fr} {j : Nat} {t : List UInt8} (h : ∀ (k : Nat) (f : M.Fr), k < j → l[k]? = some f → f.abs.name ≠ t) : ∀ (k : Nat) (f : M.Frm), k < j → (l.map M.Fr.abs)[k]? = some f → f.name ≠ t := by
  intro k f hk hf
  rw [List.getElem?_map] at hf
  obtain ⟨b, hb, rfl⟩ := Option.map_eq_some_iff.1 hf
  exact h k b hk hb

theorem set_right (a b : List Value) (k : Nat) (h : a.length = 6) (u : Value) : (a ++ b).set (6 + k) u = a ++ b.set k u := by
  rw [List.set_append, if_neg (by omega)]
  congr 2
  omega
theorem flat_set (g : M.Fr) : ∀ (l : List M.Fr) (i : Nat), i < l.length →
    ((((((l.flatMap M.Fr.cells).set (i * 6) (.int .i64 g.id)).set (i * 6 + 1) (.bool g.long)).set (i * 6 + 2) (.bool g.fast)).set (i * 6 + 3) (.bool g.remote)).set (i * 6 + 4) (.int .i64 g.size)).set (i * 6 + 5) (.slice g.A g.data.length g.c) = (l.set i g).flatMap M.Fr.cells
  | [], i, h => by cases h
  | f :: r, 0, _ => by
    rw [List.flatMap_cons, List.set_cons_zero, List.flatMap_cons]
    simp [M.Fr.cells]
  | f :: r, i + 1, h => by
    have ih := flat_set g r i (by simpa using h)
    rw [List.flatMap_cons, List.set_cons_succ, List.flatMap_cons, ← ih]
    have hc : f.cells.length = 6 := rfl
    rw [show (i + 1) * 6 = 6 + i * 6 by omega, Nat.add_assoc, Nat.add_assoc, Nat.add_assoc, Nat.add_assoc, Nat.add_assoc, set_right _ _ _ hc, set_right _ _ _ hc, set_right _ _ _ hc, set_right _ _ _ hc, set_right _ _ _ hc, set_right _ _ _ hc]

/-- One frame of an owned queue written over. -/
theorem OwnQ.setAt {base : Nat} {w : World} {g0 c : Nat} {l : List M.Fr} (h : OwnQ base w (.slice (some ⟨g0, 0, none⟩) l.length c) l) {i : Nat} (hi : i < l.length) {g : M.Fr} (hg : g.own base w) :
    OwnQ base ((((((w.setCell ⟨g0, i * 6, none⟩ (.int .i64 g.id)).setCell ⟨g0, i * 6 + 1, none⟩ (.bool g.long)).setCell ⟨g0, i * 6 + 2, none⟩ (.bool g.fast)).setCell ⟨g0, i * 6 + 3, none⟩ (.bool g.remote)).setCell ⟨g0, i * 6 + 4, none⟩ (.int .i64 g.size)).setCell ⟨g0, i * 6 + 5, none⟩ (.slice g.A g.data.length g.c)) (.slice (some ⟨g0, 0, none⟩) l.length c) (l.set i g) ∧
    Below base w ((((((w.setCell ⟨g0, i * 6, none⟩ (.int .i64 g.id)).setCell ⟨g0, i * 6 + 1, none⟩ (.bool g.long)).setCell ⟨g0, i * 6 + 2, none⟩ (.bool g.fast)).setCell ⟨g0, i * 6 + 3, none⟩ (.bool g.remote)).setCell ⟨g0, i * 6 + 4, none⟩ (.int .i64 g.size)).setCell ⟨g0, i * 6 + 5, none⟩ (.slice g.A g.data.length g.c)) := by
  obtain ⟨o1, k1⟩ := h.1.stored (i * 6) (.int .i64 g.id)
  obtain ⟨o2, k2⟩ := o1.stored (i * 6 + 1) (.bool g.long)
  obtain ⟨o3, k3⟩ := o2.stored (i * 6 + 2) (.bool g.fast)
  obtain ⟨o4, k4⟩ := o3.stored (i * 6 + 3) (.bool g.remote)
  obtain ⟨o5, k5⟩ := o4.stored (i * 6 + 4) (.int .i64 g.size)
  obtain ⟨o6, k6⟩ := o5.stored (i * 6 + 5) (.slice g.A g.data.length g.c)
  have k := only_trans (only_trans (only_trans (only_trans (only_trans k1 k2) k3) k4) k5) k6
  rw [flat_set g l i hi] at o6
  have hl := h.1.lt g0 rfl
  refine ⟨⟨by rw [List.length_set]; exact o6, fun x hx => ?_⟩, (Below.refl base w).grown k (by omega) (fun r hr => by injection hr with hr; omega)⟩
  have hx2 : x.own base w := by
    rcases List.mem_or_eq_of_mem_set hx with hx | rfl
    · exact h.2 x hx
    · exact hg
  have ha := own_apart hx2 h.1 (by decide)
  exact World.ownsRow.kept hx2 k (by simpa [Value.ownBlock] using ha)
end Go.Proofs.YtlfdpcddbnkpjaaDoor
