/-
  A frame and a slice of frames that came in.
-/
import Derived.Test.YtlfdpcddbnkpjaaDoorOpen
import Derived.Test.YtlfdpcddbnkpjaaDoorFrmRow
namespace Go.Proofs.YtlfdpcddbnkpjaaDoor
open Go.RowKit Go.WideShapes Go.ChangeShapes Go.Deep
section
variable {H : Type} {enc : TypeId × Value → H} {W : World}
theorem Tryd.cellsU8 : Tryd.prog.cellsOf 5 = 1 := by kernel_rfl
theorem Tryd.bytesU8 : Tryd.prog.bytesOf 5 = 1 := by kernel_rfl
theorem Tryd.cellsFrame : Tryd.prog.cellsOf 30 = 6 := by kernel_rfl
theorem Tryd.bytesFrame : Tryd.prog.bytesOf 30 = 48 := by kernel_rfl


set_option maxRecDepth 100000 in
theorem frame_trod {fuel : Nat} {cs : List Value} {x : DataW H × List MemPlace} (hf : DataW.trod enc Tryd.prog W 0 (fun _ => true) true fuel 30 cs = some x) (hz : ∀ k ∈ x.1.weights Tryd.prog 30, k ≤ reachBytes) :
    ∃ f : M.Fr, cs = f.cells ∧ f.ok W ∧ f.data.length ≤ reachBytes := by
  obtain ⟨ys, m, _, hx, hl, hyl, hg⟩ := DataW.trod_struct Tryd.underlying30 hf
  rw [Tryd.cellsFrame] at hl
  match cs, hl with
  | [c0, c1, c2, c3, c4, c5], _ =>
    match ys, hyl with
    | [y0, y1, y2, y3, y4, y5], _ =>
      have g0 := hg 0 _ rfl
      have g1 := hg 1 _ rfl
      have g2 := hg 2 _ rfl
      have g3 := hg 3 _ rfl
      have g4 := hg 4 _ rfl
      have g5 := hg 5 _ rfl
      simp only [List.getElem?_cons_zero, List.getElem?_cons_succ] at g0 g1 g2 g3 g4 g5
      obtain ⟨i0, e0, -, -⟩ := DataW.trod_int Tryd.underlying3 g0
      obtain ⟨b1, e1, -⟩ := DataW.trod_bool Tryd.underlying4 g1
      obtain ⟨b2, e2, -⟩ := DataW.trod_bool Tryd.underlying4 g2
      obtain ⟨b3, e3, -⟩ := DataW.trod_bool Tryd.underlying4 g3
      obtain ⟨i4, e4, -, -⟩ := DataW.trod_int Tryd.underlying3 g4
      obtain ⟨A, n, cap, xs, e5, hR, hn, _, hw⟩ := bytes_trod Tryd.underlying28 Tryd.underlying5 Tryd.cellsU8 Tryd.bytesU8 g5
      have hxl : xs.length = n := by
        have := hR.1
        simpa using this
      rw [hx] at hz
      have hw2 := hw (weights_field Tryd.underlying30 hz (j := 5) rfl rfl)
      refine ⟨⟨i0, b1, b2, b3, i4, xs, A, cap⟩, ?_, ?_, ?_⟩
      · simp only [M.Fr.cells]
        rw [hxl]
        injection e0 with e0
        injection e1 with e1
        injection e2 with e2
        injection e3 with e3
        injection e4 with e4
        injection e5 with e5
        rw [e0, e1, e2, e3, e4, e5]
      · show SliceBytes W A xs.length xs
        rw [hxl]
        exact hR
      · show xs.length ≤ _
        omega


set_option maxRecDepth 100000 in
theorem frames_trod {fuel : Nat} {cs : List Value} {x : DataW H × List MemPlace} (hf : DataW.trod enc Tryd.prog W 0 (fun _ => true) true fuel 22 cs = some x) (hz : ∀ k ∈ x.1.weights Tryd.prog 22, k ≤ reachBytes) :
    ∃ (A : Option Addr) (n cap : Nat) (l : List M.Fr), cs = [.slice A n cap] ∧ Frs W A n l ∧ n ≤ cap ∧ n * 48 ≤ reachBytes ∧ ∀ f ∈ l, f.data.length ≤ reachBytes := by
  rcases open_slice Tryd.underlying22 hf with ⟨hcs, _⟩ | ⟨a, len, cap, m, n, D, Pl, hcs, _, hl, _, hm, hx, hi⟩
  · exact ⟨none, 0, 0, [], hcs, ⟨Reads.none_, fun f hf => by cases hf⟩, Nat.le_refl _, by unfold reachBytes; omega, fun f hf => by cases hf⟩
  · have hm2 : m = cap := by simpa using hm
    subst hm2
    rw [hx] at hz
    have hsz := weights_size Tryd.underlying22 hz
    rw [Tryd.bytesFrame] at hsz
    simp only [List.length_map, List.length_range] at hsz
    obtain ⟨l, hll, hq⟩ := list_of_each (Q := fun i (f : M.Fr) => (∀ j, j < 6 → W.cell? (a.add (i * 6 + j)) = f.cells[j]?) ∧ f.ok W ∧ f.data.length ≤ reachBytes) len fun i hlt => by
      obtain ⟨cs', hc, ht⟩ := hi i (by omega)
      rw [Tryd.cellsFrame] at hc
      obtain ⟨f, rfl, hok, hle⟩ := frame_trod ht (weights_elem Tryd.underlying22 hz (List.mem_map.2 ⟨i, by simpa using hlt, rfl⟩))
      refine ⟨f, fun j hj => ?_, hok, hle⟩
      have := (World.cells?_some hc).2.2 j hj
      rw [add_of_add] at this
      exact this
    refine ⟨some a, len, m, l, hcs, ⟨⟨by rw [flat_length, hll], fun hn => ⟨a, rfl, ?_, fun j u hu => ?_⟩⟩, fun f hf => ?_⟩, hl, by omega, fun f hf => ?_⟩
    · obtain ⟨f, hf⟩ : ∃ f, l[0]? = some f := ⟨_, List.getElem?_eq_getElem (by omega)⟩
      have h0 := (hq 0 f hf).1 0 (by decide)
      have h1 := World.block_lt_of_cell? W _ (h0.trans (rfl : f.cells[0]? = some (.int .i64 f.id)))
      rw [block_of_add] at h1
      exact h1
    · have hj : j < l.length * 6 := by
        have := (List.getElem?_eq_some_iff.1 hu).1
        rwa [flat_length] at this
      have hj2 : j / 6 < l.length := by omega
      have e : j = j / 6 * 6 + j % 6 := by omega
      rw [e] at hu ⊢
      rw [flat_at l (j / 6) hj2 (j % 6) (Nat.mod_lt _ (by decide))] at hu
      rw [(hq (j / 6) _ (List.getElem?_eq_getElem hj2)).1 (j % 6) (Nat.mod_lt _ (by decide))]
      exact hu
    · obtain ⟨i, hi⟩ := List.mem_iff_getElem?.1 hf
      exact (hq i f hi).2.1
    · obtain ⟨i, hi⟩ := List.mem_iff_getElem?.1 hf
      exact (hq i f hi).2.2


set_option maxRecDepth 100000 in
theorem open_frames {r : Reach} {b0 : Nat} {v : Value} {d : DataW H} {p : List MemPlace} (hv : Value.okWide Tryd.prog W r b0 22 v) (h : DataW.Trod enc Tryd.prog W 0 (fun _ => true) true 22 v d p) (hz : ∀ k ∈ d.weights Tryd.prog 22, k ≤ reachBytes) :
    ∃ (A : Option Addr) (n cap : Nat) (l : List M.Fr), v = .slice A n cap ∧ Frs W A n l ∧ n ≤ cap ∧ n * 48 ≤ reachBytes ∧ ∀ f ∈ l, f.data.length ≤ reachBytes := by
  obtain ⟨A, n, cap, rfl⟩ := okWide_slice Tryd.underlying22 hv
  obtain ⟨fuel, hf⟩ := h
  obtain ⟨A', n', cap', l, hcs, h1, h2, h3, h4⟩ := frames_trod hf hz
  simp only [Value.cells] at hcs
  injection hcs with hcs
  injection hcs with e1 e2 e3
  subst e1 e2 e3
  exact ⟨_, _, _, l, rfl, h1, h2, h3, h4⟩


set_option maxRecDepth 100000 in
theorem open_frame {r : Reach} {b0 : Nat} {v : Value} {d : DataW H} {p : List MemPlace} (hv : Value.okWide Tryd.prog W r b0 30 v) (h : DataW.Trod enc Tryd.prog W 0 (fun _ => true) true 30 v d p) (hz : ∀ k ∈ d.weights Tryd.prog 30, k ≤ reachBytes) :
    ∃ f : M.Fr, v = f.val ∧ f.ok W ∧ f.data.length ≤ reachBytes := by
  obtain ⟨cs, rfl, hsz⟩ := okWide_struct Tryd.underlying30 hv
  obtain ⟨fuel, hf⟩ := h
  obtain ⟨f, hcs, h1, h2⟩ := frame_trod hf hz
  refine ⟨f, ?_, h1, h2⟩
  have e : cs.toList = f.cells := by simpa [Value.cells] using hcs
  show Value.agg cs = Value.agg #[_, _, _, _, _, _]
  congr 1
  apply Array.ext'
  exact e
end
end Go.Proofs.YtlfdpcddbnkpjaaDoor
