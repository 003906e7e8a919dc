/-
  Arguments opened at the level of cells: bytes, numbers, bools; how much they weigh. Of whatever program.
-/
import Derived.Test.YtlfdpcddbnkpjaaDoorPost
import Derived.Deep.Slices
import Derived.Deep.Fields
import Derived.SizedLaws
namespace Go.Proofs.YtlfdpcddbnkpjaaDoor
open Go.RowKit Go.WideShapes Go.ChangeShapes
section
variable {H : Type} {enc : TypeId × Value → H} {P : Program} {W : World}

/-- A slice of bytes, nil too, as cells. -/
theorem bytes_trod {t e : TypeId} {fuel : Nat} {cs : List Value} {x : DataW H × List MemPlace} (ht : P.underlying t = some (.slice e)) (he : P.underlying e = some (.int .u8)) (hc : P.cellsOf e = 1) (hB : P.bytesOf e = 1)
    (hf : DataW.trod enc P W 0 (fun _ => true) true fuel t cs = some x) :
    ∃ (A : Option Addr) (n cap : Nat) (xs : List UInt8), cs = [.slice A n cap] ∧ Reads W W.heap.size 1 A n (xs.map fun b => .int .u8 b.toNat) ∧ n ≤ cap ∧ cap ≤ maxLen ∧ ((∀ k ∈ x.1.weights P t, k ≤ reachBytes) → cap ≤ reachBytes) := by
  rcases open_ints ht he hc hf with ⟨hcs, _⟩ | ⟨a, n, cap, zs, hcs, _, hl, hm, hz, hx, hcell, hw⟩
  · exact ⟨none, 0, 0, [], hcs, Reads.none_, Nat.le_refl _, by unfold maxLen; omega, fun _ => by unfold reachBytes; omega⟩
  · have hzl : zs.length = cap := by simpa using hz
    have hlen : (zs.take n).length = n := by rw [List.length_take]; omega
    refine ⟨some a, n, cap, (zs.take n).map fun z => UInt8.ofNat z.toNat, hcs, ⟨by simp; omega, fun hn => ⟨a, rfl, ?_, fun j u hu => ?_⟩⟩, hl, hm, fun hk => ?_⟩
    · have h0 := World.block_lt_of_cell? W _ (hcell 0 (by omega))
      rw [block_of_add] at h0
      exact h0
    · rw [List.map_map, List.getElem?_map] at hu
      obtain ⟨z, hzj, rfl⟩ := Option.map_eq_some_iff.1 hu
      have hjl : j < (zs.take n).length := (List.getElem?_eq_some_iff.1 hzj).1
      rw [List.getElem?_take_of_lt (by omega)] at hzj
      have hjz : j < zs.length := (List.getElem?_eq_some_iff.1 hzj).1
      have hcj := hcell j hjz
      rw [List.getD_eq_getElem?_getD, hzj] at hcj
      rw [hcj]
      have hwz := hw z (List.mem_of_getElem? hzj)
      have hb : 0 ≤ z ∧ z ≤ 255 := by simpa [Lit.wf, IntKind.min, IntKind.max, IntKind.signed, IntKind.bits] using hwz
      simp only [Option.getD_some, Function.comp]
      congr 2
      rw [UInt8.toNat_ofNat_of_lt' (show z.toNat < 256 by omega)]
      omega
    · have h1 := hk ((zs.take n).length + (zs.drop n).length) (by
        rw [hx]
        simp [DataW.weights, ht, hB, lits])
      rw [← List.length_append, List.take_append_drop, hzl] at h1
      exact h1

theorem weights_field {t : TypeId} {fs : Array Field} {ys : List (DataW H)} (ht : P.underlying t = some (.struct fs)) (hw : ∀ k ∈ (DataW.agg ys).weights P t, k ≤ reachBytes) {j : Nat} {f : Field} {y : DataW H} (hf : fs[j]? = some f) (hy : ys[j]? = some y) :
    ∀ k ∈ y.weights P f.type, k ≤ reachBytes := by
  intro k hk
  refine hw k ?_
  have h1 : (fs.toList.map (·.type))[j]? = some f.type := by
    rw [List.getElem?_map, Array.getElem?_toList, hf]
    rfl
  simp only [DataW.weights, ht]
  exact DataW.weights_mem_each h1 hy k hk

theorem weights_all {e : TypeId} {l : List (DataW H)} {d : DataW H} (h : d ∈ l) : ∀ k ∈ d.weights P e, k ∈ DataW.weightsAll P e l := by
  intro k hk
  induction l with
  | nil => cases h
  | cons x r ih =>
    simp only [DataW.weightsAll, List.mem_append]
    rcases List.mem_cons.1 h with rfl | h
    · exact .inl hk
    · exact .inr (ih h)

theorem weights_elem {t e : TypeId} {l s : List (DataW H)} (ht : P.underlying t = some (.slice e)) (hw : ∀ k ∈ (DataW.slice l s).weights P t, k ≤ reachBytes) {d : DataW H} (hd : d ∈ l) : ∀ k ∈ d.weights P e, k ≤ reachBytes := by
  intro k hk
  refine hw k ?_
  simp only [DataW.weights, ht, List.mem_cons, List.mem_append]
  exact .inr (.inl (weights_all hd k hk))

theorem weights_size {t e : TypeId} {l s : List (DataW H)} (ht : P.underlying t = some (.slice e)) (hw : ∀ k ∈ (DataW.slice l s).weights P t, k ≤ reachBytes) : (l.length + s.length) * P.bytesOf e ≤ reachBytes :=
  hw _ (by simp [DataW.weights, ht])

/-- One list of what each number below n has. -/
theorem list_of_each {α : Type} {Q : Nat → α → Prop} : ∀ n, (∀ i, i < n → ∃ a, Q i a) → ∃ l : List α, l.length = n ∧ ∀ i a, l[i]? = some a → Q i a
  | 0, _ => ⟨[], rfl, fun i a h => by simp at h⟩
  | n + 1, h => by
    obtain ⟨l, hl, hq⟩ := list_of_each n fun i hi => h i (by omega)
    obtain ⟨a, ha⟩ := h n (by omega)
    refine ⟨l ++ [a], by simp [hl], fun i b hb => ?_⟩
    rcases Nat.lt_or_ge i n with h1 | h1
    · rw [List.getElem?_append_left (by omega)] at hb
      exact hq i b hb
    · rw [List.getElem?_append_right (by omega)] at hb
      have h2 : i - l.length < 1 := (List.getElem?_eq_some_iff.1 hb).1
      obtain rfl : i = n := by omega
      rw [hl, Nat.sub_self] at hb
      simp at hb
      exact hb ▸ ha
end
end Go.Proofs.YtlfdpcddbnkpjaaDoor
