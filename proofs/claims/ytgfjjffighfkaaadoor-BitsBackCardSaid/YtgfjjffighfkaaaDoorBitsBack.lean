/-
  The walk of the law BitsBack.
-/
import Derived.Test.YtgfjjffighfkaaaDoorBitsW3
import Derived.Test.YtgfjjffighfkaaaDoorStuffW3
namespace Go.Proofs.YtgfjjffighfkaaaDoor
open Go.RowKit Go.ChangeShapes Go.WideShapes Go.Shelf

theorem chk_nil : M.chk [] = 0 := by decide

/-- What the first part of the law comes to: the row, its error, its number. -/
theorem back1 (n size : Int) (hn : -9223372036854775808 ≤ n ∧ n ≤ 9223372036854775807) : ∃ (s1 : ByteArray) (e1 m1 : Int), (∀ w, Calls Tryd.prog 9 #[.int .i64 n, .int .i64 size] w fun e w' => e = .returned (.tuple #[.string s1, .int .i64 e1]) ∧ Below w.heap.size w w') ∧
    (∀ w, Calls Tryd.prog 10 #[.string s1] w fun e w' => e = .returned (.tuple #[.int .i64 m1, .int .i64 0]) ∧ Below w.heap.size w w') ∧
    ((e1 = 0 ∧ m1 = n ∧ (s1.size : Int) = size) ∨ (e1 != 0) = true ∧ (e1 == 0) = false) := by
  by_cases h : M.rowE n size = 0
  · unfold M.rowE at h
    by_cases h1 : size < 0 ∨ 62 < size
    · rw [if_pos h1] at h; cases h
    · rw [if_neg h1] at h
      by_cases h2 : n < 0 ∨ ¬ n.toNat < 2 ^ size.toNat
      · rw [if_pos h2] at h; cases h
      · obtain ⟨N, rfl⟩ : ∃ N : Nat, n = N := ⟨n.toNat, by omega⟩
        obtain ⟨k, rfl⟩ : ∃ k : Nat, size = k := ⟨size.toNat, by omega⟩
        have hN : N < 2 ^ k := by
          simp only [Int.toNat_natCast, not_or, Decidable.not_not] at h2
          exact h2.2
        have hk : k ≤ 62 := by omega
        have hb := M.wr_bits N k
        have hl := M.length_wr N k
        refine ⟨⟨(M.wr N k).toArray⟩, 0, N, fun w => row_good N k hk hN w, fun w => ?_, .inl ⟨rfl, rfl, ?_⟩⟩
        · have h4 := number_good ⟨(M.wr N k).toArray⟩ (M.wr N k) rfl (M.chk_of (by omega) hb) (by omega) w
          rw [M.rd_wr, Nat.mod_eq_of_lt hN] at h4
          exact h4
        · simp [ByteArray.size, hl]
  · refine ⟨⟨#[]⟩, M.rowE n size, 0, fun w => row_bad n size h w, fun w => number_good ⟨#[]⟩ [] rfl chk_nil (by decide) w, .inr ⟨?_, ?_⟩⟩
    · rw [bne_iff_ne]; exact h
    · rw [beq_eq_false_iff_ne]; exact h

theorem slice_of_own {e : Ending} {w w' : World} {v : Value} {q : Value} {k : Nat} {ys : List UInt8} (he : e = .returned (.tuple #[v, q])) (ho : w'.ownsRow w.heap.size 5 1 v k (ys.map bv)) (hb : Below w.heap.size w w') :
    ∃ ao co, e = .returned (.tuple #[.slice ao k co, q]) ∧ SliceBytes w' ao k ys ∧ Below w.heap.size w w' := by
  have hv : ∃ ao co, v = .slice ao k co := by
    rcases ho.2 with ⟨rfl, rfl⟩ | ⟨g, cap, cur, rfl, _⟩
    · exact ⟨_, _, rfl⟩
    · exact ⟨_, _, rfl⟩
  obtain ⟨ao, co, rfl⟩ := hv
  exact ⟨ao, co, he, Reads.of_own ho, hb⟩

/-- The second part: bytes there and back. -/
theorem back2 (A : Option Addr) (n cap : Nat) (xs : List UInt8) (w0 : World) (hA : SliceBytes w0 A n xs) : ∃ (s2 : ByteArray) (e2 : Int) (k : Nat) (ys : List UInt8),
    (∀ w, Below w0.heap.size w0 w → Calls Tryd.prog 12 #[.slice A n cap] w fun e w' => e = .returned (.tuple #[.string s2, .int .i64 e2]) ∧ Below w.heap.size w w') ∧
    (∀ w, Calls Tryd.prog 13 #[.string s2] w fun e w' => ∃ ao co, e = .returned (.tuple #[.slice ao k co, .int .i64 0]) ∧ SliceBytes w' ao k ys ∧ Below w.heap.size w w') ∧
    ((e2 = 0 ∧ k = n ∧ ys = xs ∧ n ≤ 125) ∨ (e2 == 0) = false) := by
  by_cases h : n ≤ 125
  · have hl := hA.len
    refine ⟨⟨(M.ofBytes xs).toArray⟩, 0, n, xs, fun w hb => of_good A n cap xs h w (hA.below hb), fun w => ?_, .inl ⟨rfl, rfl, rfl, h⟩⟩
    have h1 := bytes_good ⟨(M.ofBytes xs).toArray⟩ (M.ofBytes xs) rfl (M.chk_of (by rw [M.length_ofBytes]; omega) (M.ofBytes_bits xs)) n (by rw [M.length_ofBytes, hl]) w
    rw [show M.toBytes (M.ofBytes xs) n = xs from by rw [← hl]; exact M.toBytes_ofBytes xs] at h1
    exact h1.mono fun e w' ⟨v, he, ho, hb⟩ => slice_of_own he ho hb
  · exact ⟨⟨#[]⟩, 2, 0, [], fun w _ => of_bad A n cap (by omega) w, fun w => (bytes_good ⟨#[]⟩ [] rfl chk_nil 0 rfl w).mono fun e w' ⟨v, he, ho, hb⟩ => slice_of_own he ho hb, .inr rfl⟩

set_option maxHeartbeats 8000000 in
set_option maxRecDepth 100000 in
theorem lawBitsBack (n size : Int) (hn : -9223372036854775808 ≤ n ∧ n ≤ 9223372036854775807) (A : Option Addr) (ln cap : Nat) (xs : List UInt8) (s : ByteArray) (l : List UInt8) (hl : s.data.toList = l) (hs : s.size ≤ 9223372036854775807) (w : World)
    (hA : SliceBytes w A ln xs) (hT : Lib.Utf8Tabs 0 1 w) :
    Calls Tryd.prog 4 #[.int .i64 n, .int .i64 size, .slice A ln cap, .string s] w fun e w' => e = .returned (.bool true) ∧ Below w.heap.size w w' := by
  obtain ⟨s1, e1, m1, hRow, hNum, hc1⟩ := back1 n size hn
  obtain ⟨s2, e2, k, ys, hOf, hBytes, hc2⟩ := back2 A ln cap xs w hA
  have HRow := Lib.hid hRow
  have HNum := Lib.hid hNum
  have HOf := Lib.hid hOf
  have HBytes := Lib.hid hBytes
  have HRo := Lib.hid rowed_any
  clear hRow hNum hOf hBytes hn
  have HT := Lib.hid hT
  have HA := Lib.hid hA
  clear hT hA
  by_cases h0 : M.chk l = 0
  · have hz := M.chk_zero h0
    have hU1 := Lib.hid (fun w hT => turned_good s l hl h0 w hT)
    have hU2 := Lib.hid (fun w hT => turned_good ⟨(l.map M.oth).toArray⟩ (l.map M.oth) rfl (M.chk_oth l h0) w hT)
    have hR1 := Lib.hid (fun w => run_good s l hl h0 w)
    have hR2 := Lib.hid (fun w => run_good ⟨(l.map M.oth).toArray⟩ (l.map M.oth) rfl (M.chk_oth l h0) w)
    rw [M.run_oth] at hR2
    rw [M.map_oth_oth] at hU2
    unfold sv at hU1 hU2
    rw [show (⟨l.toArray⟩ : ByteArray) = s from by rw [← hl]] at hU2
    obtain ⟨ts, hts⟩ : ∃ ts : ByteArray, ts = ⟨(l.map M.oth).toArray⟩ := ⟨_, rfl⟩
    rw [← hts] at hU1 hU2 hR2
    clear hts hz h0 hl
    rcases hc1 with ⟨rfl, rfl, rfl⟩ | ⟨hx1, hx2⟩
    all_goals rcases hc2 with ⟨rfl, rfl, rfl, hn125⟩ | hy
    · go_enter Tryd.func4, Tryd.ntmps4
      go_wp2_with fail
      refine (HRow.out w).mono ?_
      rintro e w1 ⟨rfl, hb1⟩
      go_wp2_with fail
      refine (HNum.out w1).mono ?_
      rintro e w2 ⟨rfl, hb2⟩
      have hb2' := below_up hb1 hb2
      go_wp2_with fail
      refine (HRo.out w2).mono ?_
      rintro e w3 ⟨rfl, hb3⟩
      have hb3' := below_up hb2' hb3
      go_wp2_with fail
      refine (HOf.out w3 hb3').mono ?_
      rintro e w4 ⟨rfl, hb4⟩
      have hb4' := below_up hb3' hb4
      go_wp2_with fail
      refine (HBytes.out w4).mono ?_
      rintro e w5 ⟨ao, co, rfl, hv, hb5⟩
      have HV := Lib.hid hv
      clear hv
      have hb5' := below_up hb4' hb5
      go_wp2_with fail
      refine (equal_same ao A k co cap ys (by omega) w5 HV.out (HA.out.below hb5')).mono ?_
      rintro e w6 ⟨rfl, hb6⟩
      have hb6' := below_up hb5' hb6
      go_wp2_with fail
      refine (hU1.out w6 (tabs_up HT.out hb6')).mono ?_
      rintro e w7 ⟨rfl, hb7⟩
      have hb7' := below_up hb6' hb7
      go_wp2_with fail
      refine (hU2.out w7 (tabs_up HT.out hb7')).mono ?_
      rintro e w8 ⟨rfl, hb8⟩
      have hb8' := below_up hb7' hb8
      go_wp2_with fail
      refine (hR2.out w8).mono ?_
      rintro e w9 ⟨rfl, hb9⟩
      have hb9' := below_up hb8' hb9
      go_wp2_with fail
      refine (hR1.out w9).mono ?_
      rintro e w10 ⟨rfl, hb10⟩
      go_wp2
      go_ret
      exact ⟨rfl, below_up hb9' hb10⟩
    · go_enter Tryd.func4, Tryd.ntmps4
      go_wp2_with fail
      refine (HRow.out w).mono ?_
      rintro e w1 ⟨rfl, hb1⟩
      go_wp2_with fail
      refine (HNum.out w1).mono ?_
      rintro e w2 ⟨rfl, hb2⟩
      have hb2' := below_up hb1 hb2
      go_wp2_with fail
      refine (HRo.out w2).mono ?_
      rintro e w3 ⟨rfl, hb3⟩
      have hb3' := below_up hb2' hb3
      go_wp2_with fail
      refine (HOf.out w3 hb3').mono ?_
      rintro e w4 ⟨rfl, hb4⟩
      have hb4' := below_up hb3' hb4
      go_wp2_with fail
      refine (HBytes.out w4).mono ?_
      rintro e w5 ⟨ao, co, rfl, hv, hb5⟩
      have HV := Lib.hid hv
      clear hv
      have hb5' := below_up hb4' hb5
      go_wp2_with fail
      refine (hU1.out w5 (tabs_up HT.out hb5')).mono ?_
      rintro e w7 ⟨rfl, hb7⟩
      have hb7' := below_up hb5' hb7
      go_wp2_with fail
      refine (hU2.out w7 (tabs_up HT.out hb7')).mono ?_
      rintro e w8 ⟨rfl, hb8⟩
      have hb8' := below_up hb7' hb8
      go_wp2_with fail
      refine (hR2.out w8).mono ?_
      rintro e w9 ⟨rfl, hb9⟩
      have hb9' := below_up hb8' hb9
      go_wp2_with fail
      refine (hR1.out w9).mono ?_
      rintro e w10 ⟨rfl, hb10⟩
      go_wp2
      go_ret
      exact ⟨rfl, below_up hb9' hb10⟩
    · go_enter Tryd.func4, Tryd.ntmps4
      go_wp2_with fail
      refine (HRow.out w).mono ?_
      rintro e w1 ⟨rfl, hb1⟩
      go_wp2_with fail
      refine (HNum.out w1).mono ?_
      rintro e w2 ⟨rfl, hb2⟩
      have hb2' := below_up hb1 hb2
      go_wp2_with fail
      refine (HRo.out w2).mono ?_
      rintro e w3 ⟨rfl, hb3⟩
      have hb3' := below_up hb2' hb3
      go_wp2_with fail
      refine (HOf.out w3 hb3').mono ?_
      rintro e w4 ⟨rfl, hb4⟩
      have hb4' := below_up hb3' hb4
      go_wp2_with fail
      refine (HBytes.out w4).mono ?_
      rintro e w5 ⟨ao, co, rfl, hv, hb5⟩
      have HV := Lib.hid hv
      clear hv
      have hb5' := below_up hb4' hb5
      go_wp2_with fail
      refine (equal_same ao A k co cap ys (by omega) w5 HV.out (HA.out.below hb5')).mono ?_
      rintro e w6 ⟨rfl, hb6⟩
      have hb6' := below_up hb5' hb6
      go_wp2_with fail
      refine (hU1.out w6 (tabs_up HT.out hb6')).mono ?_
      rintro e w7 ⟨rfl, hb7⟩
      have hb7' := below_up hb6' hb7
      go_wp2_with fail
      refine (hU2.out w7 (tabs_up HT.out hb7')).mono ?_
      rintro e w8 ⟨rfl, hb8⟩
      have hb8' := below_up hb7' hb8
      go_wp2_with fail
      refine (hR2.out w8).mono ?_
      rintro e w9 ⟨rfl, hb9⟩
      have hb9' := below_up hb8' hb9
      go_wp2_with fail
      refine (hR1.out w9).mono ?_
      rintro e w10 ⟨rfl, hb10⟩
      go_wp2
      go_ret
      exact ⟨rfl, below_up hb9' hb10⟩
    · go_enter Tryd.func4, Tryd.ntmps4
      go_wp2_with fail
      refine (HRow.out w).mono ?_
      rintro e w1 ⟨rfl, hb1⟩
      go_wp2_with fail
      refine (HNum.out w1).mono ?_
      rintro e w2 ⟨rfl, hb2⟩
      have hb2' := below_up hb1 hb2
      go_wp2_with fail
      refine (HRo.out w2).mono ?_
      rintro e w3 ⟨rfl, hb3⟩
      have hb3' := below_up hb2' hb3
      go_wp2_with fail
      refine (HOf.out w3 hb3').mono ?_
      rintro e w4 ⟨rfl, hb4⟩
      have hb4' := below_up hb3' hb4
      go_wp2_with fail
      refine (HBytes.out w4).mono ?_
      rintro e w5 ⟨ao, co, rfl, hv, hb5⟩
      have HV := Lib.hid hv
      clear hv
      have hb5' := below_up hb4' hb5
      go_wp2_with fail
      refine (hU1.out w5 (tabs_up HT.out hb5')).mono ?_
      rintro e w7 ⟨rfl, hb7⟩
      have hb7' := below_up hb5' hb7
      go_wp2_with fail
      refine (hU2.out w7 (tabs_up HT.out hb7')).mono ?_
      rintro e w8 ⟨rfl, hb8⟩
      have hb8' := below_up hb7' hb8
      go_wp2_with fail
      refine (hR2.out w8).mono ?_
      rintro e w9 ⟨rfl, hb9⟩
      have hb9' := below_up hb8' hb9
      go_wp2_with fail
      refine (hR1.out w9).mono ?_
      rintro e w10 ⟨rfl, hb10⟩
      go_wp2
      go_ret
      exact ⟨rfl, below_up hb9' hb10⟩
  · have hU1 := Lib.hid (fun w => turned_bad s l hl hs h0 w)
    obtain ⟨q, hq⟩ : ∃ q, q = M.chk l := ⟨_, rfl⟩
    rw [← hq] at hU1 h0
    have htq : (q != 0) = true := by rw [bne_iff_ne]; exact h0
    unfold sv at hU1
    clear h0 hq hl
    rcases hc1 with ⟨rfl, rfl, rfl⟩ | ⟨hx1, hx2⟩
    all_goals rcases hc2 with ⟨rfl, rfl, rfl, hn125⟩ | hy
    · go_enter Tryd.func4, Tryd.ntmps4
      go_wp2_with fail
      refine (HRow.out w).mono ?_
      rintro e w1 ⟨rfl, hb1⟩
      go_wp2_with fail
      refine (HNum.out w1).mono ?_
      rintro e w2 ⟨rfl, hb2⟩
      have hb2' := below_up hb1 hb2
      go_wp2_with fail
      refine (HRo.out w2).mono ?_
      rintro e w3 ⟨rfl, hb3⟩
      have hb3' := below_up hb2' hb3
      go_wp2_with fail
      refine (HOf.out w3 hb3').mono ?_
      rintro e w4 ⟨rfl, hb4⟩
      have hb4' := below_up hb3' hb4
      go_wp2_with fail
      refine (HBytes.out w4).mono ?_
      rintro e w5 ⟨ao, co, rfl, hv, hb5⟩
      have HV := Lib.hid hv
      clear hv
      have hb5' := below_up hb4' hb5
      go_wp2_with fail
      refine (equal_same ao A k co cap ys (by omega) w5 HV.out (HA.out.below hb5')).mono ?_
      rintro e w6 ⟨rfl, hb6⟩
      have hb6' := below_up hb5' hb6
      go_wp2_with fail
      refine (hU1.out w6).mono ?_
      rintro e w7 ⟨rfl, hb7⟩
      go_wp2
      go_ret
      exact ⟨rfl, below_up hb6' hb7⟩
    · go_enter Tryd.func4, Tryd.ntmps4
      go_wp2_with fail
      refine (HRow.out w).mono ?_
      rintro e w1 ⟨rfl, hb1⟩
      go_wp2_with fail
      refine (HNum.out w1).mono ?_
      rintro e w2 ⟨rfl, hb2⟩
      have hb2' := below_up hb1 hb2
      go_wp2_with fail
      refine (HRo.out w2).mono ?_
      rintro e w3 ⟨rfl, hb3⟩
      have hb3' := below_up hb2' hb3
      go_wp2_with fail
      refine (HOf.out w3 hb3').mono ?_
      rintro e w4 ⟨rfl, hb4⟩
      have hb4' := below_up hb3' hb4
      go_wp2_with fail
      refine (HBytes.out w4).mono ?_
      rintro e w5 ⟨ao, co, rfl, hv, hb5⟩
      have HV := Lib.hid hv
      clear hv
      have hb5' := below_up hb4' hb5
      go_wp2_with fail
      refine (hU1.out w5).mono ?_
      rintro e w7 ⟨rfl, hb7⟩
      go_wp2
      go_ret
      exact ⟨rfl, below_up hb5' hb7⟩
    · go_enter Tryd.func4, Tryd.ntmps4
      go_wp2_with fail
      refine (HRow.out w).mono ?_
      rintro e w1 ⟨rfl, hb1⟩
      go_wp2_with fail
      refine (HNum.out w1).mono ?_
      rintro e w2 ⟨rfl, hb2⟩
      have hb2' := below_up hb1 hb2
      go_wp2_with fail
      refine (HRo.out w2).mono ?_
      rintro e w3 ⟨rfl, hb3⟩
      have hb3' := below_up hb2' hb3
      go_wp2_with fail
      refine (HOf.out w3 hb3').mono ?_
      rintro e w4 ⟨rfl, hb4⟩
      have hb4' := below_up hb3' hb4
      go_wp2_with fail
      refine (HBytes.out w4).mono ?_
      rintro e w5 ⟨ao, co, rfl, hv, hb5⟩
      have HV := Lib.hid hv
      clear hv
      have hb5' := below_up hb4' hb5
      go_wp2_with fail
      refine (equal_same ao A k co cap ys (by omega) w5 HV.out (HA.out.below hb5')).mono ?_
      rintro e w6 ⟨rfl, hb6⟩
      have hb6' := below_up hb5' hb6
      go_wp2_with fail
      refine (hU1.out w6).mono ?_
      rintro e w7 ⟨rfl, hb7⟩
      go_wp2
      go_ret
      exact ⟨rfl, below_up hb6' hb7⟩
    · go_enter Tryd.func4, Tryd.ntmps4
      go_wp2_with fail
      refine (HRow.out w).mono ?_
      rintro e w1 ⟨rfl, hb1⟩
      go_wp2_with fail
      refine (HNum.out w1).mono ?_
      rintro e w2 ⟨rfl, hb2⟩
      have hb2' := below_up hb1 hb2
      go_wp2_with fail
      refine (HRo.out w2).mono ?_
      rintro e w3 ⟨rfl, hb3⟩
      have hb3' := below_up hb2' hb3
      go_wp2_with fail
      refine (HOf.out w3 hb3').mono ?_
      rintro e w4 ⟨rfl, hb4⟩
      have hb4' := below_up hb3' hb4
      go_wp2_with fail
      refine (HBytes.out w4).mono ?_
      rintro e w5 ⟨ao, co, rfl, hv, hb5⟩
      have HV := Lib.hid hv
      clear hv
      have hb5' := below_up hb4' hb5
      go_wp2_with fail
      refine (hU1.out w5).mono ?_
      rintro e w7 ⟨rfl, hb7⟩
      go_wp2
      go_ret
      exact ⟨rfl, below_up hb5' hb7⟩
end Go.Proofs.YtgfjjffighfkaaaDoor
