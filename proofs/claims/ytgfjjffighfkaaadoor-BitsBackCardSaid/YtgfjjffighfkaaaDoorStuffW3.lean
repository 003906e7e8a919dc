/-
  The walks of stuff.Put (whatever the row) and stuff.Take (of a right row), and of the law StuffTurned with its closed fact.
-/
import Derived.Test.YtgfjjffighfkaaaDoorStuffW2
import Derived.Test.YtgfjjffighfkaaaDoorBitsW2
namespace Go.Proofs.YtgfjjffighfkaaaDoor
open Go.RowKit Go.ChangeShapes Go.WideShapes Go.Shelf

theorem put_good (s : ByteArray) (l : List UInt8) (hl : s.data.toList = l) (h : M.chk l = 0) (w : World) :
    Calls Tryd.prog 6 #[.string s] w fun e w' => e = .returned (.tuple #[sv (M.put l), .int .i64 0]) ∧ Below w.heap.size w w' := by
  have hsz : s.size = l.length := by rw [← hl, Array.length_toList]; rfl
  have hz := M.chk_zero h
  refine put_go s l hl hz.1 w fun w => (check_any s l hl (by omega) w).mono fun e w' hp => ?_
  rw [h] at hp
  exact hp

set_option maxHeartbeats 400000 in
theorem put_bad (s : ByteArray) (l : List UInt8) (hl : s.data.toList = l) (hs : s.size ≤ 9223372036854775807) (h : M.chk l ≠ 0) (w : World) :
    Calls Tryd.prog 6 #[.string s] w fun e w' => e = .returned (.tuple #[sv [], .int .i64 (M.chk l)]) ∧ Below w.heap.size w w' := by
  have hC := Lib.hid (check_any s l hl hs w)
  obtain ⟨q, hq⟩ : ∃ q, q = M.chk l := ⟨_, rfl⟩
  rw [← hq] at hC h ⊢
  have ht : (q != 0) = true := by rw [bne_iff_ne]; exact h
  clear h hq hl
  go_enter Tryd.func6, Tryd.ntmps6
  go_wp2_with fail
  refine hC.out.mono ?_
  rintro e w1 ⟨rfl, hb1⟩
  go_wp2
  go_ret2
  exact ⟨rfl, hb1⟩

/-- A reader at the start. -/
def RS0 : M.RS := ⟨0, 0, 0, 0⟩

set_option maxHeartbeats 400000 in
theorem stuffTake_ok (s : ByteArray) (l : List UInt8) (hl : s.data.toList = l) (h : M.chk l = 0) (k : Nat) (hk : k ≤ 1000) (out : List UInt8) (R : M.RS) (hT : M.take l k RS0 [] = (out, R)) (hR : R.code = 0) (w : World) :
    Calls Tryd.prog 23 #[.string s, .int .i64 k] w fun e w' => e = .returned (.tuple #[sv out, .int .i64 R.pos, .int .i64 0]) ∧ Below w.heap.size w w' := by
  have hsz : s.size = l.length := by rw [← hl, Array.length_toList]; rfl
  have hz := M.chk_zero h
  have hC := Lib.hid (check_any s l hl (by omega) w)
  rw [h] at hC
  have hl1 := hz.1
  have HL := Lib.hid hl
  have HT := Lib.hid hT
  have HR := Lib.hid hR
  clear hl hT hR hsz hz h
  go_enter Tryd.func23, Tryd.ntmps23
  go_wp2_with fail
  refine hC.out.mono ?_
  rintro e w1 ⟨rfl, hb1⟩
  go_wp2_with fail
  have hBlk : Blk (w1.alloc (.cells (rc s RS0 []) 73)) w1.heap.size 73 (rc s RS0 []) := Blk.new _ _ _
  refine (take_any _ w1.heap.size 73 (by decide) s l HL.out hl1 RS0 (Nat.zero_le _) (Nat.zero_le _) [] hBlk k hk).mono ?_
  rw [HT.out]
  rintro e w2 ⟨rfl, hB2, hg2⟩
  have c1 : w2.cell? ⟨w1.heap.size, 1, none⟩ = some (.int .i64 R.pos) := hB2.cell 1
  have c2 : w2.cell? ⟨w1.heap.size, 2, none⟩ = some (.int .i64 0) := by rw [← HR.out]; exact hB2.cell 2
  go_wp2
  go_quiet (fail)
  go_wp2
  go_ret3
  refine ⟨rfl, ?_⟩
  exact below_drewN (below_only (hb1.alloc hb1.size _) hg2 (by have := hb1.size; simp; omega) hb1.size) _

/-- The same at plain numbers. -/
theorem stuffTake_at (s : ByteArray) (l : List UInt8) (hl : s.data.toList = l) (h : M.chk l = 0) (k : Nat) (hk : k ≤ 1000) (out : List UInt8) (R : M.RS) (hT : M.take l k RS0 [] = (out, R)) (hR : R.code = 0) (K Z : Int) (v : Value) (hK : K = (k : Int)) (hZ : Z = (R.pos : Int)) (hv : v = sv out) (w : World) :
    Calls Tryd.prog 23 #[.string s, .int .i64 K] w fun e w' => e = .returned (.tuple #[v, .int .i64 Z, .int .i64 0]) ∧ Below w.heap.size w w' := by
  subst hK hZ hv
  exact stuffTake_ok s l hl h k hk out R hT hR w

theorem st_row : ((⟨#[49, 49, 49, 49, 49, 48, 48, 48, 48, 48, 49, 49, 49]⟩ : ByteArray) ++ ⟨#[49]⟩).data.toList = [49, 49, 49, 49, 49, 48, 48, 48, 48, 48, 49, 49, 49, 49] := by decide +kernel
theorem st_chk1 : M.chk [49, 49, 49, 49, 49, 48, 48, 48, 48, 49, 49] = 0 := by decide +kernel
theorem st_chk2 : M.chk [49, 49, 49, 49, 49, 48, 48, 48, 48, 48, 49, 49, 49, 49] = 0 := by decide +kernel
theorem st_put : M.put [49, 49, 49, 49, 49, 48, 48, 48, 48, 49, 49] = [49, 49, 49, 49, 49, 48, 48, 48, 48, 48, 49, 49, 49] := by decide +kernel
theorem st_take : M.take [49, 49, 49, 49, 49, 48, 48, 48, 48, 48, 49, 49, 49, 49] 11 RS0 [] = ([49, 49, 49, 49, 49, 48, 48, 48, 48, 49, 49], ⟨13, 0, 49, 3⟩) := by rfl
theorem st_1 (w : World) : Calls Tryd.prog 6 #[.string ⟨#[49, 49, 49, 49, 49, 48, 48, 48, 48, 49, 49]⟩] w fun e w' => e = .returned (.tuple #[.string ⟨#[49, 49, 49, 49, 49, 48, 48, 48, 48, 48, 49, 49, 49]⟩, .int .i64 0]) ∧ Below w.heap.size w w' := by
  have h := put_good ⟨#[49, 49, 49, 49, 49, 48, 48, 48, 48, 49, 49]⟩ _ rfl st_chk1 w
  rw [st_put] at h
  exact h
theorem st_2 (w : World) : Calls Tryd.prog 23 #[.string (⟨#[49, 49, 49, 49, 49, 48, 48, 48, 48, 48, 49, 49, 49]⟩ ++ ⟨#[49]⟩), .int .i64 11] w fun e w' => e = .returned (.tuple #[.string ⟨#[49, 49, 49, 49, 49, 48, 48, 48, 48, 49, 49]⟩, .int .i64 13, .int .i64 0]) ∧ Below w.heap.size w w' :=
  stuffTake_at _ _ st_row st_chk2 11 (by decide) _ _ st_take rfl 11 13 (.string ⟨#[49, 49, 49, 49, 49, 48, 48, 48, 48, 49, 49]⟩) rfl rfl rfl w

set_option maxHeartbeats 400000 in
theorem stuffed_any (w : World) : Calls Tryd.prog 7 #[] w fun e w' => e = .returned (.bool true) ∧ Below w.heap.size w w' := by
  go_enter Tryd.func7, Tryd.ntmps7
  go_wp2_with fail
  refine (st_1 w).mono ?_
  rintro e w1 ⟨rfl, hb1⟩
  go_wp2_with fail
  refine (st_2 w1).mono ?_
  rintro e w2 ⟨rfl, hb2⟩
  go_wp2
  go_ret
  exact ⟨rfl, hb1.trans (hb2.mono hb1.size)⟩

theorem tabs_up {w w1 : World} (hT : Lib.Utf8Tabs 0 1 w) (hb : Below w.heap.size w w1) : ∀ w2, Below w1.heap.size w1 w2 → Lib.Utf8Tabs 0 1 w2 :=
  fun _ h => Utf8Tabs_below (Utf8Tabs_below hT hb) h
theorem below_up {w w1 w2 : World} (h : Below w.heap.size w w1) (k : Below w1.heap.size w1 w2) : Below w.heap.size w w2 := h.trans (k.mono h.size)

set_option maxHeartbeats 800000 in
theorem lawStuffTurned (s : ByteArray) (l : List UInt8) (hl : s.data.toList = l) (hs : s.size ≤ 9223372036854775807) (w : World) (hT : Lib.Utf8Tabs 0 1 w) :
    Calls Tryd.prog 3 #[.string s] w fun e w' => e = .returned (.bool true) ∧ Below w.heap.size w w' := by
  have HSt := Lib.hid stuffed_any
  by_cases h0 : M.chk l = 0
  · have hP := Lib.hid (put_good s l hl h0 w)
    have hz := M.chk_zero h0
    have hlp : (M.put l).length ≤ 2000 := by have := M.length_put l; omega
    by_cases h1 : 1000 < (M.put l).length
    · obtain ⟨p, hp⟩ : ∃ p, p = M.put l := ⟨_, rfl⟩
      rw [← hp] at hP h1
      unfold sv at hP
      obtain ⟨ps, hps⟩ : ∃ ps : ByteArray, ps = ⟨p.toArray⟩ := ⟨_, rfl⟩
      rw [← hps] at hP
      have hsz : 1000 < ps.size := by rw [hps]; simpa [ByteArray.size] using h1
      clear h0 hz hlp hl hT hp hps h1
      go_enter Tryd.func3, Tryd.ntmps3
      go_wp2_with fail
      refine hP.out.mono ?_
      rintro e w1 ⟨rfl, hb1⟩
      go_wp2_with fail
      refine (HSt.out w1).mono ?_
      rintro e w2 ⟨rfl, hb2⟩
      go_wp2_with fail
      refine (HSt.out w2).mono ?_
      rintro e w3 ⟨rfl, hb3⟩
      go_wp2
      go_ret
      exact ⟨rfl, below_up (below_up hb1 hb2) hb3⟩
    · have h2 : M.chk (M.put l) = 0 := M.chk_of (by omega) (M.put_bits hz.2)
      have h3 : M.chk (l.map M.oth) = 0 := M.chk_oth l h0
      have h4 := M.put_oth hz.2
      have hP2 := Lib.hid (fun w => put_good ⟨(l.map M.oth).toArray⟩ (l.map M.oth) rfl h3 w)
      rw [h4] at hP2
      have hU1 := Lib.hid (fun w hT => turned_good s l hl h0 w hT)
      have hU2 := Lib.hid (fun w hT => turned_good ⟨(M.put l).toArray⟩ (M.put l) rfl h2 w hT)
      obtain ⟨ps, hps⟩ : ∃ ps : ByteArray, ps = ⟨(M.put l).toArray⟩ := ⟨_, rfl⟩
      have hsz : ps.size ≤ 1000 := by rw [hps]; simp only [ByteArray.size, List.size_toArray]; omega
      obtain ⟨ts, hts⟩ : ∃ ts : ByteArray, ts = ⟨(l.map M.oth).toArray⟩ := ⟨_, rfl⟩
      obtain ⟨us, hus⟩ : ∃ us : ByteArray, us = ⟨((M.put l).map M.oth).toArray⟩ := ⟨_, rfl⟩
      unfold sv at hP hP2 hU1 hU2
      rw [← hps] at hP hU2
      rw [← hts] at hP2 hU1
      rw [← hus] at hP2 hU2
      clear h0 hz hlp hl hps hts hus h1 h2 h3 h4
      have HT := Lib.hid hT
      clear hT
      go_enter Tryd.func3, Tryd.ntmps3
      go_wp2_with fail
      refine hP.out.mono ?_
      rintro e w1 ⟨rfl, hb1⟩
      go_wp2_with fail
      refine (HSt.out w1).mono ?_
      rintro e w2 ⟨rfl, hb2⟩
      have hb2' := below_up hb1 hb2
      go_wp2_with fail
      refine (hU1.out w2 (tabs_up HT.out hb2')).mono ?_
      rintro e w3 ⟨rfl, hb3⟩
      have hb3' := below_up hb2' hb3
      go_wp2_with fail
      refine (hP2.out w3).mono ?_
      rintro e w4 ⟨rfl, hb4⟩
      have hb4' := below_up hb3' hb4
      go_wp2_with fail
      refine (hU2.out w4 (tabs_up HT.out hb4')).mono ?_
      rintro e w5 ⟨rfl, hb5⟩
      go_wp2
      go_ret
      exact ⟨rfl, below_up hb4' hb5⟩
  · have hP := Lib.hid (put_bad s l hl hs h0 w)
    obtain ⟨q, hq⟩ : ∃ q, q = M.chk l := ⟨_, rfl⟩
    rw [← hq] at hP h0
    have ht : (q != 0) = true := by rw [bne_iff_ne]; exact h0
    unfold sv at hP
    clear h0 hq hl hT
    go_enter Tryd.func3, Tryd.ntmps3
    go_wp2_with fail
    refine hP.out.mono ?_
    rintro e w1 ⟨rfl, hb1⟩
    go_wp2_with fail
    refine (HSt.out w1).mono ?_
    rintro e w2 ⟨rfl, hb2⟩
    go_wp2_with fail
    refine (HSt.out w2).mono ?_
    rintro e w3 ⟨rfl, hb3⟩
    go_wp2
    go_ret
    exact ⟨rfl, below_up (below_up hb1 hb2) hb3⟩
end Go.Proofs.YtgfjjffighfkaaaDoor
