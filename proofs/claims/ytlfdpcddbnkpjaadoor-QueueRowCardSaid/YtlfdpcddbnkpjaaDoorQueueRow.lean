/-
  The walk of the law QueueRow: it returns true.
-/
import Derived.Test.YtlfdpcddbnkpjaaDoorQueueR3
import Derived.Test.YtlfdpcddbnkpjaaDoorQueueP1
namespace Go.Proofs.YtlfdpcddbnkpjaaDoor
open Go.RowKit Go.ChangeShapes Go.WideShapes

theorem OwnQ.kept {base : Nat} {w w' : World} {v : Value} {l : List M.Fr} {row : Option Nat} {base' m : Nat} {vw : Value} {xs : List Value} (h : OwnQ base w v l) (hw : w.ownsRow base' 30 6 vw m xs) (hg : w.grownBy w' row) (hr : row = vw.ownBlock) (hne : v.ownBlock = none ∨ v.ownBlock ≠ row) : OwnQ base w' v l :=
  ⟨h.1.kept hg hne, fun g hgl => (h.2 g hgl).kept hg (by rw [hr]; exact own_apart (h.2 g hgl) hw (by decide))⟩

theorem row_step {w wr w2 w3 : World} {o o2 : Obj} {vw v7 v2 : Value} {l7 lw : List M.Fr} {m : Nat} (hw : wr.ownsRow w.heap.size 30 6 vw m (lw.flatMap M.Fr.cells)) (hb : Below w.heap.size w wr) (hb2 : Below (wr.alloc o).heap.size (wr.alloc o) w2) (hq7 : OwnQ (wr.alloc o).heap.size w2 v7 l7)
    (hgrow : (w2.alloc o2).grownBy w3 vw.ownBlock) (hlies : v2.ownBlock = vw.ownBlock ∨ v2.ownBlock = some (w2.alloc o2).heap.size) :
    OwnQ w.heap.size w3 v7 l7 ∧ (v7.ownBlock = none ∨ v7.ownBlock ≠ v2.ownBlock) ∧ Below w.heap.size w w3 := by
  have hs := hb.size
  have hs2 := hb2.size
  have hb3 := (hb.alloc hs o).trans (hb2.mono (by simp; omega))
  have hs3 := hb3.size
  have hw2 : w2.ownsRow w.heap.size 30 6 vw m (lw.flatMap M.Fr.cells) := own_kept (hw.alloc o) hb2
  have hwlt : ∀ g, vw.ownBlock = some g → g < wr.heap.size := fun g hg => (hw.lt g hg).2
  have h7 : ∀ g, v7.ownBlock = some g → wr.heap.size < g ∧ g < w2.heap.size := fun g hg => by
    have := hq7.1.lt g hg
    simp only [World.size_alloc] at this
    omega
  refine ⟨(OwnQ.kept ((hq7.weaken (by simp; omega)).alloc o2) (hw2.alloc o2) hgrow rfl ?_), ?_, ?_⟩
  · cases h : v7.ownBlock with
    | none => exact .inl rfl
    | some g =>
      refine .inr fun e => ?_
      have := hwlt g e.symm
      have := (h7 g h).1
      omega
  · cases h : v7.ownBlock with
    | none => exact .inl rfl
    | some g =>
      refine .inr fun e => ?_
      rcases hlies with h1 | h1
      · rw [h1] at e
        have := hwlt g e.symm
        have := (h7 g h).1
        omega
      · rw [h1] at e
        injection e with e
        simp only [World.size_alloc] at e
        have := (h7 g h).2
        omega
  · refine (hb3.alloc hs3 o2).grown hgrow (by simp; omega) fun k hk => (hw.lt k hk).1

theorem srt_foldl_nil {l : List M.Fr} (h : ∀ f ∈ l, f.abs.chk = 0) : M.Srt ((l.map M.Fr.abs).foldl M.qins []) := foldl_srt ⟨(fun f hf => nomatch hf), List.Pairwise.nil⟩ fun f hf => by
  obtain ⟨y, hy, rfl⟩ := List.mem_map.1 hf
  exact h y hy

theorem frs_row {w w' : World} {base m : Nat} {A : Option Addr} {c : Nat} {S : List M.Fr} {l : List M.Fr} {A0 : Option Addr} {n : Nat} (ho : w'.ownsRow base 30 6 (.slice A m c) m (S.flatMap M.Fr.cells)) (hS : ∀ x ∈ S, x ∈ l) (h : Frs w A0 n l) (hb : Below w.heap.size w w') : Frs w' A m S :=
  ⟨Reads.of_own ho, fun x hx => (h.2 x (hS x hx)).below hb⟩

theorem qput_cases {l : List M.Frm} {f : M.Frm} (hs : M.Srt l) (hl : l.length ≤ 16) : (f.chk = 0 ∧ l.length ≠ 16 ∧ M.qput l f = (M.qins l f, 0)) ∨ (∃ z, z ≠ 0 ∧ M.qput l f = ([], z)) := by
  have hz : M.qchk l = 0 := M.qchk_zero.2 ⟨hl, hs⟩
  unfold M.qput
  rw [hz, if_neg (by simp)]
  by_cases hc : f.chk = 0
  · rw [if_neg (by rw [hc]; simp)]
    by_cases h16 : l.length = 16
    · rw [if_pos h16]
      exact .inr ⟨11, by decide, rfl⟩
    · rw [if_neg h16]
      exact .inl ⟨hc, h16, rfl⟩
  · rw [if_pos hc]
    exact .inr ⟨f.chk, hc, rfl⟩

theorem foldl_snoc {l : List M.Frm} {f : M.Frm} {a : List M.Frm} : (l ++ [f]).foldl M.qins a = M.qins (l.foldl M.qins a) f := by rw [List.foldl_append]; rfl

set_option maxRecDepth 100000 in
set_option maxHeartbeats 6400000 in
theorem lawQueueRow (A : Option Addr) (n c : Nat) (l : List M.Fr) (hn48 : n * 48 ≤ 140737488355328) (hd : ∀ f ∈ l, f.data.length ≤ 140737488355328) (w : World) (h : Frs w A n l) (ht : Tab2 w) :
    Calls Tryd.prog 5 #[.slice A n c] w fun e w' => e = .returned (.bool true) ∧ Below w.heap.size w w' := by
  obtain ⟨i0, hi, hz0, hz1, hz2⟩ := info_parts Tryd.infoFrame
  have hl := Lib.hid h.len
  have H := Lib.hid h
  have HD := Lib.hid hd
  have HT := Lib.hid ht
  clear h hd ht
  go_enter Tryd.func5, Tryd.ntmps5
  go_wp2
  go_loopw [3, 4, 16] (fun vq vw i wr => ∃ (j m : Nat) (lq lw : List M.Fr) (Aq Aw : Option Addr) (cq cw : Nat), j ≤ n ∧ i = .int .i64 j ∧ vq = .slice Aq m cq ∧ vw = .slice Aw m cw ∧ m ≤ 16 ∧ lq.length = m ∧ lw.length = m ∧ OwnQ w.heap.size wr (.slice Aq m cq) lq ∧ wr.ownsRow w.heap.size 30 6 (.slice Aw m cw) m (lw.flatMap M.Fr.cells) ∧
    lq.map M.Fr.abs = (lw.map M.Fr.abs).foldl M.qins [] ∧ (∀ f ∈ lw, f.abs.chk = 0) ∧ (∀ f ∈ lw, f ∈ l) ∧ ((Value.slice Aq m cq).ownBlock = none ∨ (Value.slice Aq m cq).ownBlock ≠ (Value.slice Aw m cw).ownBlock) ∧ Below w.heap.size w wr) (fun _ _ i _ => n - (intOf i).toNat)
  case atStart => exact ⟨0, 0, [], [], none, none, 0, 0, Nat.zero_le _, rfl, rfl, rfl, Nat.zero_le _, rfl, rfl, OwnQ.nil_ _ _, World.ownsRow_nil _ _ _ _, rfl, (fun f hf => nomatch hf), (fun f hf => nomatch hf), .inl rfl, Below.refl _ _⟩
  case round =>
    obtain ⟨j, m, lq, lw, Aq, Aw, cq, cw, hj, rfl, rfl, rfl, hm, hlq, hlw, hQ, hW, hab, hck, hin, hne, hb⟩ := hrel
    have HLQ := Lib.hid hlq
    have HLW := Lib.hid hlw
    have HQ := Lib.hid hQ
    have HW := Lib.hid hW
    have HAB := Lib.hid hab
    have HCK := Lib.hid hck
    have HIN := Lib.hid hin
    have HNE := Lib.hid hne
    have HB := Lib.hid hb
    have hsr : M.Srt (lq.map M.Fr.abs) := by
      rw [hab]
      exact srt_foldl_nil hck
    have HSR := Lib.hid hsr
    have hFq : Frs wr Aq m lq := by
      obtain ⟨A', c', e, hF⟩ := hQ.sliceN hlq
      injection e with e1 _ _
      subst e1
      exact hF
    have HFQ := Lib.hid hFq
    clear hlq hlw hQ hW hab hck hin hne hsr hFq
    by_cases hlt : j < n
    · obtain ⟨a, f, rfl, hf, hR⟩ := H.out.cells_ hlt
      obtain ⟨p0, p1, p2, p3, p4, p5⟩ := (hR wr hb).2
      have hfd := HD.out f (List.mem_of_getElem? hf)
      have HFI := Lib.hid (List.mem_of_getElem? hf)
      have HFO := Lib.hid fun o => (hR (wr.alloc o) (hb.alloc hb.size o)).1
      have HXB := Lib.hid (@BoxF.start w wr 30 f hb)
      have HAL := Lib.hid fun o => (Below.refl wr.heap.size wr).alloc (Nat.le_refl _) o
      clear hf hR
      rcases qput_cases (f := f.abs) HSR.out (by rw [List.length_map, HLQ.out]; exact hm) with ⟨hc0, h16, hpq⟩ | ⟨z, hz, hpq⟩
      · have HC0 := Lib.hid hc0
        have HPQ := Lib.hid hpq.symm
        have hm15 : m < 16 := by
          rw [List.length_map, HLQ.out] at h16
          omega
        have q1 : m + 1 ≤ maxLen := by unfold maxLen; omega
        have q2 : (m + 1) * 48 ≤ 140737488355328 := by omega
        clear hc0 h16 hpq
        go_wp2_with (first
          | (go_at_call 12; refine (qput_any Aq m cq lq f (srt_data HSR.out) hfd _ (HFQ.out.below (HAL.out _)) (HFO.out _) _ 0 HPQ.out).mono ?_; rintro e w2 ⟨v7, l7, rfl, ho7, ha7, hb2⟩; have HO7 := Lib.hid ho7; have HA7 := Lib.hid ha7; have HX2 := Lib.hid (HXB.out.step hb2); obtain ⟨x0, x1, x2, x3, x4, x5, -, -⟩ := HX2.out.flat; have HW2 := Lib.hid (own_kept (World.ownsRow.alloc HW.out _) hb2); clear ho7 ha7)
          | (at_builtin; refine wpList_append_own_at _ rfl (.tmp 29) (.tmp 31) 22 rfl w.heap.size 30 i0 (.agg #[.int .i64 0, .bool false, .bool false, .bool false, .int .i64 0, .slice none 0 0]) 6 48 Tryd.underlying22 hi hz0 hz1 hz2 rfl (Nat.le_of_ble_eq_true rfl) _ _ _ rfl (HW2.out.alloc _) ⟨w2.heap.size, 0, none⟩ 1 1 f.cells rfl rfl (cell_new6 _ _ _) (six_cells f) q1 q2 (own_base HX2.out.bel _) ?_; intro v2 w3 hown2 hg2 _ hlie; have HO2 := Lib.hid hown2; have HST := Lib.hid (row_step HW.out HB.out hb2 HO7.out hg2 hlie); clear hown2 hg2 hlie))
        have hl7 : l7.length = m + 1 := (len_abs HA7.out).trans (by rw [M.length_qins, List.length_map, HLQ.out])
        obtain ⟨A7, c7, rfl, -⟩ := HST.out.1.sliceN hl7
        obtain ⟨A2, c2, rfl, -⟩ := own_slice HO2.out
        go_roundw
        case rel =>
          refine ⟨j + 1, m + 1, l7, lw ++ [f], A7, A2, c7, c2, by omega, by go_num, rfl, rfl, by omega, hl7, by rw [List.length_append, HLW.out]; rfl, HST.out.1, ?_, ?_, ?_, ?_, HST.out.2.1, HST.out.2.2⟩
          · have := HO2.out
            rw [List.flatMap_append, List.flatMap_cons, List.flatMap_nil, List.append_nil]
            exact this
          · rw [HA7.out, HAB.out, List.map_append, List.map_cons, List.map_nil, foldl_snoc]
          · intro x hx
            rcases List.mem_append.1 hx with hx | hx
            · exact HCK.out x hx
            · obtain rfl : x = f := List.mem_singleton.1 hx
              exact HC0.out
          · intro x hx
            rcases List.mem_append.1 hx with hx | hx
            · exact HIN.out x hx
            · obtain rfl : x = f := List.mem_singleton.1 hx
              exact HFI.out
        case measure => simp [intOf]; omega
      · have HPQ := Lib.hid hpq.symm
        have hz2 : (z == 0) = false := by rw [beq_eq_false_iff_ne]; exact hz
        clear hpq
        go_wp2_with (go_at_call 12; refine (qput_any Aq m cq lq f (srt_data HSR.out) hfd _ (HFQ.out.below (HAL.out _)) (HFO.out _) _ z HPQ.out).mono ?_; rintro e w2 ⟨v7, l7, rfl, ho7, ha7, hb2⟩; have HX2 := Lib.hid (HXB.out.step hb2); have HW2 := Lib.hid (own_kept (World.ownsRow.alloc HW.out _) hb2); have HQ2 := Lib.hid ((HQ.out.alloc _).step hb2); clear ho7 ha7)
        go_roundw
        case rel => exact ⟨j + 1, m, lq, lw, Aq, Aw, cq, cw, by omega, by go_num, rfl, rfl, hm, HLQ.out, HLW.out, HQ2.out, HW2.out, HAB.out, HCK.out, HIN.out, HNE.out, HX2.out.bel⟩
        case measure => simp [intOf]; omega
    · obtain rfl : j = n := by omega
      have HQC := Lib.hid (show (0 : Int) = M.qchk (lq.map M.Fr.abs) from (M.qchk_zero.2 ⟨by rw [List.length_map, HLQ.out]; exact hm, HSR.out⟩).symm)
      go_wp2_with (first
        | (go_at_call 8; refine (queued_any _).mono ?_; rintro e w2 ⟨rfl, hb2⟩; have HB2 := Lib.hid (HB.out.trans (hb2.mono HB.out.size)))
        | (go_at_call 15; refine (qcheck_any Aq m cq lq _ (HFQ.out.below hb2) 0 HQC.out).mono ?_; rintro e w3 ⟨rfl, hb3⟩; have HB3 := Lib.hid (HB2.out.trans (hb3.mono HB2.out.size)); have HW3 := Lib.hid (own_kept (own_kept HW.out hb2) hb3); have HQ3 := Lib.hid ((HQ.out.step hb2).step hb3))
        | (go_at_call 21; refine (sortrow_any w.heap.size m (.slice Aw m cw) lw _ hm HLW.out HW3.out HCK.out (HT.out.below HB3.out) HT.out.lt).mono ?_; rintro e w4 ⟨S, rfl, hS1, hS2, hS3, hS4⟩; have HS1 := Lib.hid hS1; have HB4 := Lib.hid (HB3.out.grown hS4 HB3.out.size fun k hk => (HW3.out.lt k hk).1); have HQ4 := Lib.hid (HQ3.out.kept HW3.out hS4 rfl HNE.out); have HFS := Lib.hid (frs_row hS3 (fun x hx => HIN.out x (hS2 x hx)) H.out HB4.out); have HCS := Lib.hid (show ∀ x ∈ S, x.abs.chk = 0 from fun x hx => HCK.out x (hS2 x hx)); clear hS1 hS2 hS3 hS4))
      have hSN : S.length = m := by
        have h1 := HFS.out.len
        exact h1
      have HSN := Lib.hid hSN
      have hsS : M.Srt (S.map M.Fr.abs) := by
        rw [HS1.out]
        exact srt_foldl_nil HCK.out
      have HSS := Lib.hid hsS
      have hF4 : Frs w4 Aq m lq := by
        obtain ⟨A', c', e, hF⟩ := HQ4.out.sliceN HLQ.out
        injection e with e1 _ _
        subst e1
        exact hF
      have HF4 := Lib.hid hF4
      have HEQ := Lib.hid (show lq.map M.Fr.abs = S.map M.Fr.abs from by rw [HAB.out, HS1.out])
      clear hSN hsS hF4 hb hj hlt
      go_loopw [3, 52] (fun v i wr => ∃ (j k c : Nat) (A : Option Addr) (lr : List M.Fr), j ≤ m ∧ i = .int .i64 j ∧ k = m - j ∧ v = .slice A k c ∧ Frs wr A k lr ∧ lr.map M.Fr.abs = (S.map M.Fr.abs).drop j ∧ Below w4.heap.size w4 wr) (fun _ i _ => m - (intOf i).toNat)
      case atStart => exact ⟨0, m, cq, Aq, lq, Nat.zero_le _, rfl, rfl, rfl, HF4.out, HEQ.out, Below.refl _ _⟩
      case round =>
        obtain ⟨j', k, c', A', lr, hj, rfl, hk, rfl, hF, hab, hb⟩ := hrel
        have HF := Lib.hid hF
        have HAR := Lib.hid hab
        have HK := Lib.hid hk
        have HB5 := Lib.hid (HB4.out.trans (hb.mono HB4.out.size))
        clear hF hab hk
        by_cases hlt : j' < m
        · obtain ⟨a, f, rfl, hf, hR⟩ := HFS.out.cells_ hlt
          obtain ⟨p0, p1, p2, p3, p4, p5⟩ := (hR wr hb).2
          have hdr := drop_map_at hf
          have hsd : M.Srt ((S.map M.Fr.abs).drop j') := ⟨fun g hg => HSS.out.1 g (List.mem_of_mem_drop hg), HSS.out.2.drop⟩
          have hq0 : (0 : Int) = M.qchk ((S.map M.Fr.abs).drop j') := (M.qchk_zero.2 ⟨by rw [List.length_drop, List.length_map, HSN.out]; omega, hsd⟩).symm
          have hqt : M.qtake (lr.map M.Fr.abs) = (f.abs, (S.map M.Fr.abs).drop (j' + 1), 0) := by
            rw [HAR.out, hdr]
            rw [hdr] at hq0
            exact qtake_cons hq0
          have HQT := Lib.hid hqt
          have hlrd : ∀ g ∈ lr, g.data.length ≤ 140737488355328 := srt_data (by rw [HAR.out]; exact hsd)
          have HLD := Lib.hid hlrd
          have hfd : f.data.length ≤ 140737488355328 := srt_data HSS.out f (List.mem_of_getElem? hf)
          have HXB := Lib.hid (@BoxF.start w wr 30 f HB5.out)
          have HAL := Lib.hid fun o => (Below.refl wr.heap.size wr).alloc (Nat.le_refl _) o
          have HFO := Lib.hid fun o => (hR (wr.alloc o) (hb.alloc hb.size o)).1
          have HBA := Lib.hid fun o => hb.alloc hb.size o
          clear hf hR hdr hsd hq0 hqt hlrd
          go_wp2_with (first
            | (go_at_call 14; refine (qtake_any A' k c' lr HLD.out _ (HF.out.below (HAL.out _))).mono ?_; rintro e w5 ⟨x, At, nt, ct, lt, zt, rfl, hft, hxo, hqt, hb5⟩; rw [HQT.out] at hqt; injection hqt with hqa hqb; injection hqb with hqb hqc; have hzc := hqc; subst hzc; have hxd : x.data.length ≤ 140737488355328 := Nat.le_trans (Nat.le_of_eq (congrArg (fun f : M.Frm => f.data.length) hqa)) hfd; have HQA := Lib.hid hqa; have HQB := Lib.hid hqb; have HFT := Lib.hid hft; have HXO := Lib.hid hxo; have HX5 := Lib.hid (HXB.out.step hb5); have HY5 := Lib.hid (@BoxF.start w w5 30 x HX5.out.bel); have HX6 := Lib.hid (HX5.out.alloc (.cells #[.int .i64 x.id, .bool x.long, .bool x.fast, .bool x.remote, .int .i64 x.size, .slice x.A x.data.length x.c] 30)); obtain ⟨x0, x1, x2, x3, x4, x5, -, -⟩ := HX6.out.flat; have HFO5 := Lib.hid (M.Fr.ok.below (HFO.out _) hb5); have HB6 := Lib.hid ((HBA.out _).trans (hb5.mono (HBA.out _).size)); clear hqa hqb hft hxo)
            | (go_at_call 24; refine (frameSame_any x f hxd _ (M.Fr.ok.below HXO.out ((Below.refl _ _).alloc (Nat.le_refl _) _)) (M.Fr.ok.below HFO5.out ((Below.refl _ _).alloc (Nat.le_refl _) _)) true ⟨fun _ => HQA.out, fun _ => rfl⟩).mono ?_; rintro e w7 ⟨rfl, hb7⟩; have HB7 := Lib.hid ((HB6.out.alloc HB6.out.size _).trans (hb7.mono (HB6.out.alloc HB6.out.size _).size)); have HF7 := Lib.hid ((HFT.out.below ((Below.refl _ _).alloc (Nat.le_refl _) _)).below hb7)))
          go_roundw
          case rel =>
            have hnt : nt = m - (j' + 1) := by
              have h1 := HF7.out.len
              have h2 := congrArg List.length HQB.out
              rw [List.length_map, List.length_drop, List.length_map, HSN.out] at h2
              omega
            exact ⟨j' + 1, nt, ct, At, lt, by omega, by go_num, hnt, rfl, HF7.out, HQB.out, HB7.out⟩
          case measure => simp [intOf]; omega
        · have hk0 : k = 0 := by
            have := HK.out
            omega
          subst hk0
          go_wp2
          go_ret
          exact ⟨rfl, HB5.out⟩
end Go.Proofs.YtlfdpcddbnkpjaaDoor
