/-
  The table of math/bits that the call reads, out of what the row lists; what each argument weighs.
-/
import Derived.Test.YtlfdpcddbnkpjaaDoorRows
import Derived.Test.YtlfdpcddbnkpjaaDoorFmt2
import Derived.Test.YtlfdpcddbnkpjaaDoorOpen
import Derived.Lib.LaidU8
import Derived.LaidMore
namespace Go.Proofs.YtlfdpcddbnkpjaaDoor
open Go.RowKit Go.Lib Go.ChangeShapes Go.WideShapes

theorem tab2_of_reads {w : World} (h : VarReads Tryd.prog w "math/bits.deBruijn64tab" Rows.laid_math_bits_deBruijn64tab) : Tab2 w := by
  obtain ⟨g, t, cs, fuel, p, hg, hty, hvar, hd⟩ := h
  obtain rfl := Option.some.inj ((show Tryd.prog.globalNamed "math/bits.deBruijn64tab" = some 3 by kernel_rfl).symm.trans hg)
  obtain rfl := Option.some.inj ((show (Tryd.prog.globals[3]?).map (·.type) = some 112 by kernel_rfl).symm.trans hty)
  obtain ⟨fuel', d, q, hdi, he⟩ := array_elem (P := Tryd.prog) (t := 112) (e := 5) (n := 64) (by kernel_rfl) hd 1 (by decide)
  have hd1 : d = .lit (.int .u8 1) := by
    have := hdi
    simp at this
    exact this.symm
  subst hd1
  rw [show Tryd.prog.cellsOf 5 = 1 from by kernel_rfl] at he
  obtain ⟨n, hcs, hx, _⟩ := DataW.trod_int Tryd.underlying5 he
  have hn : n = 1 := by
    have := congrArg Prod.fst hx
    simpa using this.symm
  subst hn
  have e0 := congrArg (·[0]?) hcs
  simp only [List.getElem?_take, List.getElem?_drop] at e0
  unfold Tab2
  rw [World.var?_cell hg hvar 1, ← Array.getElem?_toList]
  simpa using e0

theorem each_weights {H : Type} {P : Program} {ts : List TypeId} {ds : List (DataW H)} (h : (DataW.weightsEach P ts ds).all (· ≤ reachBytes) = true) {j : Nat} {t : TypeId} {d : DataW H} (ht : ts[j]? = some t) (hd : ds[j]? = some d) : ∀ k ∈ d.weights P t, k ≤ reachBytes := by
  intro k hk
  have := List.all_eq_true.1 h k (DataW.weights_mem_each ht hd k hk)
  simpa using this
theorem reach_le {n : Nat} (h : n ≤ reachBytes) : n ≤ 140737488355328 := by
  unfold reachBytes at h
  omega
theorem reach48 {n : Nat} (h : n * 48 ≤ reachBytes) : n * 48 ≤ 140737488355328 ∧ n ≤ 140737488355328 := by
  unfold reachBytes at h
  omega
end Go.Proofs.YtlfdpcddbnkpjaaDoor
