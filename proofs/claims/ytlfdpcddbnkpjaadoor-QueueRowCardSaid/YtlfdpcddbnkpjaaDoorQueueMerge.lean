/-
  The walk of the law QueueMerge: it returns true.
-/
import Derived.Test.YtlfdpcddbnkpjaaDoorQueueV1
import Derived.Test.YtlfdpcddbnkpjaaDoorQueueV3
namespace Go.Proofs.YtlfdpcddbnkpjaaDoor
open Go.RowKit Go.ChangeShapes Go.WideShapes

theorem frs_put {w w' : World} {base m k : Nat} {v : Value} {l : List M.Fr} {f : M.Fr} (ho : w'.ownsRow base 30 6 v (m + 1) ((l.take k ++ f :: l.drop k).flatMap M.Fr.cells)) (hl : ∀ x ∈ l, x.ok w) (hf : f.ok w) (hb : Below w.heap.size w w') :
    ∃ A c, v = .slice A (m + 1) c ∧ m + 1 ≤ c ∧ Frs w' A (m + 1) (l.take k ++ f :: l.drop k) := by
  have hc : ∀ A c, v = .slice A (m + 1) c → m + 1 ≤ c := fun A c e => by
    rcases ho.2 with ⟨h, h0⟩ | ⟨g, cap, cur, h, _, _, h2, _⟩
    · omega
    · rw [e] at h
      injection h with _ _ h5
      subst h5
      exact h2
  obtain ⟨A, c, hv, hr⟩ := own_slice ho
  refine ⟨A, c, hv, hc A c hv, hr, fun x hx => ?_⟩
  have hx2 : x.ok w := by
    rcases List.mem_append.1 hx with hx | hx
    · exact hl x (List.mem_of_mem_take hx)
    · rcases List.mem_cons.1 hx with rfl | hx
      · exact hf
      · exact hl x (List.mem_of_mem_drop hx)
  exact hx2.below hb

theorem put_abs {l : List M.Fr} {f : M.Fr} {k n : Nat} {m : List M.Frm} (hl : l.map M.Fr.abs = m) (hn : l.length = n) (hk : k = M.atTo (l.map M.Fr.abs) f.abs.name n) : (l.take k ++ f :: l.drop k).map M.Fr.abs = M.qins m f.abs := by
  rw [← hl]
  refine map_put rfl rfl ?_
  rw [List.length_map, hn, hk]

set_option maxRecDepth 100000 in
set_option maxHeartbeats 3200000 in
theorem lawQueueMerge (A1 A2 : Option Addr) (n1 n2 c1 c2 : Nat) (l1 l2 : List M.Fr) (hnc1 : n1 ≤ c1) (hd1 : ∀ f ∈ l1, f.data.length ≤ 140737488355328) (hd2 : ∀ f ∈ l2, f.data.length ≤ 140737488355328) (w : World) (h1 : Frs w A1 n1 l1) (h2 : Frs w A2 n2 l2) (ht : Tab2 w) :
    Calls Tryd.prog 3 #[.slice A1 n1 c1, .slice A2 n2 c2] w fun e w' => e = .returned (.bool true) ∧ Below w.heap.size w w' := by
  have hl1 := Lib.hid h1.len
  have hl2 := Lib.hid h2.len
  obtain ⟨y1, hy1⟩ : ∃ y, y = M.qchk (l1.map M.Fr.abs) := ⟨_, rfl⟩
  obtain ⟨y2, hy2⟩ : ∃ y, y = M.qchk (l2.map M.Fr.abs) := ⟨_, rfl⟩
  have H1 := Lib.hid h1
  have H2 := Lib.hid h2
  have HD1 := Lib.hid hd1
  have HD2 := Lib.hid hd2
  have HT := Lib.hid ht
  have HY1 := Lib.hid hy1
  have HY2 := Lib.hid hy2
  by_cases e1 : y1 = 0
  · subst e1
    by_cases e2 : y2 = 0
    · subst e2
      have hs1 := (M.qchk_zero).1 hy1.symm
      have hs2 := (M.qchk_zero).1 hy2.symm
      have hn1 : n1 ≤ 16 := by
        have := hs1.1
        rw [List.length_map, hl1.out] at this
        exact this
      have hn2 : n2 ≤ 16 := by
        have := hs2.1
        rw [List.length_map, hl2.out] at this
        exact this
      have HS1 := Lib.hid hs1.2
      have HS2 := Lib.hid hs2.2
      have hfl : ((l2.map M.Fr.abs).foldl M.qins (l1.map M.Fr.abs)).length = n1 + n2 := by rw [foldl_len, List.length_map, List.length_map, hl1.out, hl2.out]
      obtain ⟨x, hx⟩ : ∃ x : Nat, x = n1 + n2 - 16 := ⟨_, rfl⟩
      have hr : (((l2.map M.Fr.abs).foldl M.qins (l1.map M.Fr.abs)).take 16, (x : Int), (0 : Int)) = M.qmerge (l1.map M.Fr.abs) (l2.map M.Fr.abs) := by
        unfold M.qmerge
        rw [← hy1, ← hy2, if_neg (by simp), if_neg (by simp), hfl, hx]
      have HR := Lib.hid hr
      have HX := Lib.hid hx
      have HFL := Lib.hid hfl
      clear h1 h2 hd1 hd2 hy1 hy2 hs1 hs2 ht hr hx hfl
      go_enter Tryd.func3, Tryd.ntmps3
      go_wp2_with (first
        | (go_at_call 6; refine (qmerge_any A1 A2 n1 n2 c1 c2 l1 l2 HD1.out HD2.out _ H1.out H2.out _ (x : Int) 0 HR.out).mono ?_; rintro e w1 ⟨Am, m, cm, lm, rfl, hfm, hqm, hdm, hb1⟩; have HFM := Lib.hid hfm; have HQM := Lib.hid hqm; have HDM := Lib.hid hdm; have HB1 := Lib.hid hb1; clear hfm hqm hdm)
        | (go_at_call_of 7 (Value.slice A1 n1 c1); refine (refQueue_any A1 n1 c1 l1 _ (H1.out.below HB1.out) (HT.out.below HB1.out) 0 HY1.out).mono ?_; rintro e w2 ⟨rfl, hb2⟩; have HB2 := Lib.hid (HB1.out.trans (hb2.mono HB1.out.size)))
        | (go_at_call_of 7 (Value.slice A2 n2 c2); refine (refQueue_any A2 n2 c2 l2 _ (H2.out.below HB2.out) (HT.out.below HB2.out) 0 HY2.out).mono ?_; rintro e w3 ⟨rfl, hb3⟩; have HB3 := Lib.hid (HB2.out.trans (hb3.mono HB2.out.size)))
        | (go_at_call 8; refine (queued_any _).mono ?_; rintro e w4 ⟨rfl, hb4⟩; have HB4 := Lib.hid (HB3.out.trans (hb4.mono HB3.out.size))))
      go_loopw [9, 50] (fun v i wr => ∃ (j m' : Nat) (A : Option Addr) (c : Nat) (lo : List M.Fr), j ≤ n2 ∧ i = .int .i64 j ∧ m' = n1 + j ∧ v = .slice A m' c ∧ m' ≤ c ∧ lo.length = m' ∧ Frs wr A m' lo ∧ lo.map M.Fr.abs = ((l2.map M.Fr.abs).take j).foldl M.qins (l1.map M.Fr.abs) ∧ Below w4.heap.size w4 wr) (fun _ i _ => n2 - (intOf i).toNat)
      case atStart => exact ⟨0, n1, A1, c1, l1, Nat.zero_le _, rfl, rfl, rfl, hnc1, hl1.out, H1.out.below HB4.out, rfl, Below.refl _ _⟩
      case round =>
        obtain ⟨j, m', A, c, lo, hj, rfl, hm, rfl, hmc, hlo, hF, habs, hb⟩ := hrel
        have HM := Lib.hid hm
        have hm32 : m' ≤ 1000000 := by omega
        have HLO := Lib.hid hlo
        have HF := Lib.hid hF
        have HAB := Lib.hid habs
        have hsrt : M.Srt (lo.map M.Fr.abs) := by
          rw [habs]
          exact foldl_srt HS1.out fun f hf => HS2.out.1 f (List.mem_of_mem_take hf)
        have HSR := Lib.hid hsrt
        have HB5 := Lib.hid (HB4.out.trans (hb.mono HB4.out.size))
        clear hm hlo hF habs hsrt
        by_cases hlt : j < n2
        · obtain ⟨a, f, rfl, hf, hR⟩ := H2.out.cells_ hlt
          obtain ⟨p0, p1, p2, p3, p4, p5⟩ := (hR _ HB5.out).2
          have HFF := Lib.hid hf
          have HKF := Lib.hid (srt_good HS2.out f (List.mem_of_getElem? hf))
          have HFO := Lib.hid fun o => (hR (wr.alloc o) (HB5.out.alloc HB5.out.size o)).1
          have HAL := Lib.hid fun o => (Below.refl wr.heap.size wr).alloc (Nat.le_refl _) o
          clear hf hR
          go_wp2_with (go_at_call 9; refine (putFrame_any A m' c lo f hm32 _ (HF.out.below (HAL.out _)) (HFO.out _) (srt_good HSR.out) HKF.out (HT.out.below (HB5.out.alloc HB5.out.size _))).mono ?_; rintro e w6 ⟨v6, k, rfl, hk, hkm, ho6, hb6⟩; obtain ⟨A6, c6, rfl, hmc6, hF6⟩ := frs_put ho6 (HF.out.below (HAL.out _)).2 (HFO.out _) hb6; have HF6 := Lib.hid hF6; have HK := Lib.hid hk; have HB6 := Lib.hid ((hb.alloc hb.size _).trans (hb6.mono (hb.alloc hb.size _).size)); clear ho6 hF6 hk)
          go_roundw
          case rel => exact ⟨j + 1, m' + 1, A6, c6, _, by omega, by go_num, by have := HM.out; omega, rfl, hmc6, len_ins HLO.out hkm, HF6.out, by rw [put_abs HAB.out HLO.out HK.out, foldl_take_at HFF.out], HB6.out⟩
          case measure => simp [intOf]; omega
        · obtain rfl : j = n2 := by omega
          have hfull : lo.map M.Fr.abs = (l2.map M.Fr.abs).foldl M.qins (l1.map M.Fr.abs) := by
            rw [HAB.out, List.take_of_length_le (by rw [List.length_map, hl2.out]; exact Nat.le_refl _)]
          obtain ⟨k, hk⟩ : ∃ k : Nat, k = min m' 16 := ⟨_, rfl⟩
          have hmn : min (m' : Int) 16 = (k : Int) := by omega
          have hx2 : (x : Int) = (m' : Int) - (k : Int) := by
            have := HX.out
            have := HM.out
            omega
          have hsub : ((x : Int) == (m' : Int) - (k : Int)) = true := by rw [beq_iff_eq]; exact hx2
          have hkm : k ≤ m' := by omega
          have hkc : (k : Int) ≤ (c : Int) := by omega
          have hq : true = true ↔ lm.map M.Fr.abs = (lo.take k).map M.Fr.abs := ⟨fun _ => by
            rw [HQM.out, List.map_take, hfull]
            rcases Nat.lt_or_ge 16 m' with h | h
            · congr 1
              omega
            · rw [List.take_of_length_le (by rw [← hfull, List.length_map, HLO.out]; omega), List.take_of_length_le (by rw [← hfull, List.length_map, HLO.out]; omega)], fun _ => rfl⟩
          have HQQ := Lib.hid hq
          have hmm : m ≤ 140737488355328 := by
            have h1 := HFM.out.len
            have h2 := congrArg List.length HQM.out
            rw [List.length_map, List.length_take] at h2
            omega
          clear hfull hk hx2 hq
          go_wp2_with (go_at_call 10; refine (refSames Am A m k cm c lm (lo.take k) hmm HDM.out _ ((HFM.out.below (hb2.trans ((hb3.trans (hb4.mono hb3.size)).mono hb2.size))).below hb) (HF.out.take_ hkm) true HQQ.out).mono ?_; rintro e w6 ⟨rfl, hb6⟩; have HB6 := Lib.hid (HB5.out.trans (hb6.mono HB5.out.size)))
          go_ret
          exact ⟨rfl, HB6.out⟩
    · have hne : (y2 != 0) = true := by rw [bne_iff_ne]; assumption
      have hr : (([] : List M.Frm), (0 : Int), y2) = M.qmerge (l1.map M.Fr.abs) (l2.map M.Fr.abs) := by
        unfold M.qmerge
        rw [← hy1, ← hy2, if_neg (by simp), if_pos e2]
      have HR := Lib.hid hr
      clear h1 h2 hd1 hd2 hy1 hy2 ht hr e2
      go_enter Tryd.func3, Tryd.ntmps3
      go_wp2_with (first
        | (go_at_call 6; refine (qmerge_any A1 A2 n1 n2 c1 c2 l1 l2 HD1.out HD2.out _ H1.out H2.out _ 0 y2 HR.out).mono ?_; rintro e w1 ⟨Am, m, cm, lm, rfl, hfm, hqm, hdm, hb1⟩; obtain rfl : m = 0 := hfm.len.symm.trans (len_abs hqm); have HB1 := Lib.hid hb1; clear hfm hqm hdm)
        | (go_at_call_of 7 (Value.slice A1 n1 c1); refine (refQueue_any A1 n1 c1 l1 _ (H1.out.below HB1.out) (HT.out.below HB1.out) 0 HY1.out).mono ?_; rintro e w2 ⟨rfl, hb2⟩; have HB2 := Lib.hid (HB1.out.trans (hb2.mono HB1.out.size)))
        | (go_at_call_of 7 (Value.slice A2 n2 c2); refine (refQueue_any A2 n2 c2 l2 _ (H2.out.below HB2.out) (HT.out.below HB2.out) y2 HY2.out).mono ?_; rintro e w3 ⟨rfl, hb3⟩; have HB3 := Lib.hid (HB2.out.trans (hb3.mono HB2.out.size)))
        | (go_at_call 8; refine (queued_any _).mono ?_; rintro e w4 ⟨rfl, hb4⟩; first | (have HB5 := Lib.hid (HB4.out.trans (hb4.mono HB4.out.size))) | (have HB4 := Lib.hid (HB3.out.trans (hb4.mono HB3.out.size)))))
      go_ret
      exact ⟨rfl, HB5.out⟩
  · have hne : (y1 != 0) = true := by rw [bne_iff_ne]; assumption
    have hr : (([] : List M.Frm), (0 : Int), y1) = M.qmerge (l1.map M.Fr.abs) (l2.map M.Fr.abs) := by
      unfold M.qmerge
      rw [← hy1, if_pos e1]
    have HR := Lib.hid hr
    clear h1 h2 hd1 hd2 hy1 hy2 ht hr e1
    go_enter Tryd.func3, Tryd.ntmps3
    go_wp2_with (first
      | (go_at_call 6; refine (qmerge_any A1 A2 n1 n2 c1 c2 l1 l2 HD1.out HD2.out _ H1.out H2.out _ 0 y1 HR.out).mono ?_; rintro e w1 ⟨Am, m, cm, lm, rfl, hfm, hqm, hdm, hb1⟩; obtain rfl : m = 0 := hfm.len.symm.trans (len_abs hqm); have HB1 := Lib.hid hb1; clear hfm hqm hdm)
      | (go_at_call_of 7 (Value.slice A1 n1 c1); refine (refQueue_any A1 n1 c1 l1 _ (H1.out.below HB1.out) (HT.out.below HB1.out) y1 HY1.out).mono ?_; rintro e w2 ⟨rfl, hb2⟩; have HB2 := Lib.hid (HB1.out.trans (hb2.mono HB1.out.size)))
      | (go_at_call 8; refine (queued_any _).mono ?_; rintro e w4 ⟨rfl, hb4⟩; first | (have HB5 := Lib.hid (HB4.out.trans (hb4.mono HB4.out.size))) | (have HB4 := Lib.hid (HB2.out.trans (hb4.mono HB2.out.size)))))
    go_ret
    exact ⟨rfl, HB5.out⟩
end Go.Proofs.YtlfdpcddbnkpjaaDoor
