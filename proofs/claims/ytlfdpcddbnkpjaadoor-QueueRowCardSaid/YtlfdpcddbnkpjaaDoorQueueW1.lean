/-
  The walk of queue.Check.
-/
import Derived.Test.YtlfdpcddbnkpjaaDoorFrmRow
import Derived.Test.YtlfdpcddbnkpjaaDoorFrmW4
namespace Go.Proofs.YtlfdpcddbnkpjaaDoor
open Go.RowKit Go.ChangeShapes Go.WideShapes

/-- Names in order so far, and what is wrong first. -/
def M.qscan : List UInt8 → List M.Frm → Int
  | _, [] => 0
  | last, f :: r => if f.chk ≠ 0 then f.chk else if Op.bytesLess f.name last = true then 4 else M.qscan f.name r
def M.qchk (l : List M.Frm) : Int := if 16 < l.length then 2 else M.qscan [] l

theorem M.qscan_cons (last : List UInt8) (f : M.Frm) (r : List M.Frm) : M.qscan last (f :: r) = if f.chk ≠ 0 then f.chk else if Op.bytesLess f.name last = true then 4 else M.qscan f.name r := rfl

theorem list_data (s : ByteArray) : s.toList = s.data.toList := ByteArray.toList_eq s

theorem less_of {a b : ByteArray} {l : List UInt8} (h : a.data.toList = l) (hl : Op.bytesLess l b.data.toList = true) : Op.bytesLess a.toList b.toList = true := by
  rw [list_data, list_data, h]
  exact hl
theorem nless_of {a b : ByteArray} {l : List UInt8} (h : a.data.toList = l) (hl : ¬ Op.bytesLess l b.data.toList = true) : Op.bytesLess a.toList b.toList = false := by
  rw [list_data, list_data, h]
  simpa using hl

theorem drop_map_at {l : List M.Fr} {j : Nat} {f : M.Fr} (h : l[j]? = some f) : (l.map M.Fr.abs).drop j = f.abs :: (l.map M.Fr.abs).drop (j + 1) := by
  have h2 : (l.map M.Fr.abs)[j]? = some f.abs := by rw [List.getElem?_map, h]; rfl
  obtain ⟨hj, he⟩ := List.getElem?_eq_some_iff.1 h2
  rw [List.drop_eq_getElem_cons hj, he]

set_option maxRecDepth 100000 in
set_option maxHeartbeats 1600000 in
theorem qcheck_any (A : Option Addr) (n c : Nat) (l : List M.Fr) (w : World) (h : Frs w A n l) (z : Int) (hz : z = M.qchk (l.map M.Fr.abs)) :
    Calls Tryd.prog 15 #[.slice A n c] w fun e w' => e = .returned (.int .i64 z) ∧ Below w.heap.size w w' := by
  have hl := Lib.hid h.len
  by_cases hn : 16 < n
  · have hZ : z = 2 := by
      rw [hz, M.qchk, if_pos (by rw [List.length_map, hl.out]; exact hn)]
    have HZ := Lib.hid hZ
    clear h hz hZ
    go_enter Tryd.func15, Tryd.ntmps15
    go_wp2
    go_ret
    exact ⟨ret_one (int_of HZ.out.symm), Below.refl _ _⟩
  · have hZ : z = M.qscan [] (l.map M.Fr.abs) := by
      rw [hz, M.qchk, if_neg (by rw [List.length_map, hl.out]; exact hn)]
    have HZ := Lib.hid hZ
    have H := Lib.hid h
    clear h hz hZ
    go_enter Tryd.func15, Tryd.ntmps15
    go_wp2
    go_loopw [3, 13] (fun v i wr => ∃ (j : Nat) (s : ByteArray), j ≤ n ∧ i = .int .i64 j ∧ v = .string s ∧ z = M.qscan s.data.toList ((l.map M.Fr.abs).drop j) ∧ Below w.heap.size w wr) (fun _ i _ => n - (intOf i).toNat)
    case atStart => exact ⟨0, ⟨#[]⟩, Nat.zero_le _, rfl, rfl, HZ.out, Below.refl _ _⟩
    case round =>
      obtain ⟨j, s, hj, rfl, rfl, hs, hb⟩ := hrel
      by_cases hlt : j < n
      · obtain ⟨a, f, rfl, hf, hR⟩ := H.out.cells_ hlt
        obtain ⟨p0, p1, p2, p3, p4, p5⟩ := (hR wr hb).2
        have hal := fun o => hb.alloc hb.size o
        rw [drop_map_at hf, M.qscan_cons] at hs
        have HAL := Lib.hid hal
        have HS := Lib.hid hs
        clear hR hf hal hs
        by_cases hck : f.abs.chk = 0
        · have hck2 : M.fchk f.id f.long f.fast f.remote f.size f.data.length = 0 := hck
          have HCK := Lib.hid hck
          have HCK2 := Lib.hid hck2
          clear hck hck2
          by_cases hlo : Op.bytesLess f.abs.name s.data.toList = true
          · have HLO := Lib.hid hlo
            clear hlo
            go_wp2_with (go_at_call 32; refine (name_good f.id f.long f.fast f.remote f.size f.A f.data.length f.c _ HCK2.out).mono ?_; rintro e w1 ⟨s1, hs1, rfl, hb1⟩; have hbl : Op.bytesLess s1.toList s.toList = true := less_of hs1 HLO.out; have HS1 := Lib.hid hs1; clear hs1)
            go_ret
            refine ⟨ret_one (int_of ?_), (HAL.out _).trans (hb1.mono (HAL.out _).size)⟩
            rw [HS.out, if_neg (fun h => h HCK.out), if_pos HLO.out]
          · have HLO := Lib.hid hlo
            clear hlo
            go_wp2_with (go_at_call 32; refine (name_good f.id f.long f.fast f.remote f.size f.A f.data.length f.c _ HCK2.out).mono ?_; rintro e w1 ⟨s1, hs1, rfl, hb1⟩; have hbl : Op.bytesLess s1.toList s.toList = false := nless_of hs1 HLO.out; have HS1 := Lib.hid hs1; clear hs1)
            go_roundw
            case rel =>
              refine ⟨j + 1, s1, by omega, by go_num, rfl, ?_, (HAL.out _).trans (hb1.mono (HAL.out _).size)⟩
              rw [HS.out, if_neg (fun h => h HCK.out), if_neg HLO.out, HS1.out]
              rfl
            case measure => simp [intOf]; omega
        · have HCK := Lib.hid hck
          obtain ⟨y, hy⟩ : ∃ y, M.fchk f.id f.long f.fast f.remote f.size f.data.length = y := ⟨_, rfl⟩
          have hy0 : y ≠ 0 := by rw [← hy]; exact hck
          have hy2 : (y != 0) = true := by rw [bne_iff_ne]; exact hy0
          have HY := Lib.hid hy
          have HY0 := Lib.hid hy0
          clear hck hy hy0
          go_wp2_with (go_at_call 32; refine (name_bad f.id f.long f.fast f.remote f.size f.A f.data.length f.c _ y HY.out HY0.out).mono ?_; rintro e w1 ⟨rfl, hb1⟩)
          go_ret
          refine ⟨ret_one (int_of ?_), (HAL.out _).trans (hb1.mono (HAL.out _).size)⟩
          rw [HS.out, if_pos HCK.out]
          exact HY.out.symm
      · have e : (l.map M.Fr.abs).drop j = [] := List.drop_eq_nil_of_le (by rw [List.length_map, hl.out]; omega)
        rw [e] at hs
        have HS := Lib.hid hs
        clear e hs
        go_wp2
        go_ret
        exact ⟨ret_one (int_of HS.out.symm), hb⟩
end Go.Proofs.YtlfdpcddbnkpjaaDoor
