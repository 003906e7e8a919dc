/-
  The walk of the law QueuePut, of a right queue (bad).
-/
import Derived.Test.YtlfdpcddbnkpjaaDoorQueueP1
import Derived.Deep.DeepCutAuto
namespace Go.Proofs.YtlfdpcddbnkpjaaDoor
open Go.RowKit Go.ChangeShapes Go.WideShapes
set_option maxRecDepth 100000 in
set_option maxHeartbeats 6400000 in
theorem queuePut_bad (A : Option Addr) (n c : Nat) (l : List M.Fr) (f : M.Fr) (hnc : n ≤ c) (hn48 : n * 48 ≤ 140737488355328) (hd : ∀ f ∈ l, f.data.length ≤ 140737488355328) (hfd : f.data.length ≤ 140737488355328) (w : World) (h : Frs w A n l) (hfo : f.ok w) (ht : Tab2 w) (hy : 0 = M.qchk (l.map M.Fr.abs)) (y : Int) (hck : f.abs.chk = y) (hy0 : y ≠ 0) :
    Calls Tryd.prog 4 #[.slice A n c, .agg #[.int .i64 f.id, .bool f.long, .bool f.fast, .bool f.remote, .int .i64 f.size, .slice f.A f.data.length f.c]] w fun e w' => e = .returned (.bool true) ∧ Below w.heap.size w w' := by
  have hl := Lib.hid h.len
  have hs := (M.qchk_zero).1 hy.symm
  have hn16 : n ≤ 16 := by
    have := hs.1
    rw [List.length_map, hl.out] at this
    exact this
  have HS := Lib.hid hs.2
  have hrp : (([] : List M.Frm), y) = M.qput (l.map M.Fr.abs) f.abs := by unfold M.qput; rw [← hy, if_neg (by simp), if_pos (by rw [hck]; exact hy0), hck]
  have hrr : (([] : List M.Frm), y) = M.qrenew (l.map M.Fr.abs) f.abs := by unfold M.qrenew; rw [← hy, if_neg (by simp), if_pos (by rw [hck]; exact hy0), hck]
  have HRP := Lib.hid (show ∀ lo : List M.Fr, lo.map M.Fr.abs = l.map M.Fr.abs → (([] : List M.Frm), y) = M.qput (lo.map M.Fr.abs) f.abs from fun lo e => by rw [e]; exact hrp)
  have HRR := Lib.hid (show ∀ lo : List M.Fr, lo.map M.Fr.abs = l.map M.Fr.abs → (([] : List M.Frm), y) = M.qrenew (lo.map M.Fr.abs) f.abs from fun lo e => by rw [e]; exact hrr)
  have HRR0 := Lib.hid hrr
  have HRP0 := Lib.hid hrp
  have HD := Lib.hid hd
  have HDO := Lib.hid (show ∀ lo : List M.Fr, lo.map M.Fr.abs = l.map M.Fr.abs → ∀ g ∈ lo, g.data.length ≤ 140737488355328 from fun lo e => data_of_abs e fun g hg => by
    obtain ⟨k, hk, rfl⟩ := List.mem_map.1 hg
    exact hd k hk)
  have H := Lib.hid h
  have HO := Lib.hid hfo
  have HT := Lib.hid ht
  have HY := Lib.hid hy
  have hbox : ∀ (o : Obj), Below w.heap.size w (w.alloc o) := fun o => (Below.refl _ _).alloc (Nat.le_refl _) _
  have HB := Lib.hid hbox
  clear hs hrp hrr hd h hfo ht hy hbox
  go_enter Tryd.func4, Tryd.ntmps4
  go_upto_if 91 with (first
    | (go_at_call 11; refine (ownFrames_any A n c l hn48 HD.out _ (H.out.below (HB.out _))).mono ?_; rintro e w1 ⟨v1, lo, rfl, ho1, ha1, hg1, hb1⟩; have HAO := Lib.hid ha1; have HLO := Lib.hid (len_of ha1 hl.out); have hQ1 := own_q (len_of ha1 hl.out) ho1 hg1; obtain ⟨Ao, co, rfl, hFo⟩ := hQ1.sliceN (len_of ha1 hl.out); have HFO := Lib.hid hFo; have HX1 := Lib.hid ((BoxF.start (Below.refl _ w)).step hb1); obtain ⟨x0, x1, x2, x3, x4, x5, -, -⟩ := HX1.out.flat; clear ho1 ha1 hg1 hQ1 hFo)
    | (go_at_call 12; refine (qput_any Ao n co lo f (HDO.out _ HAO.out) hfd _ HFO.out (HO.out.below HX1.out.bel) ([] : List M.Frm) y (HRP.out _ HAO.out)).mono ?_; rintro e w2 ⟨v2, lp, rfl, ho2, ha2, hb2⟩; obtain ⟨np, hnp⟩ : ∃ k, lp.length = k := ⟨_, rfl⟩; have HAP := Lib.hid ha2; have HNP := Lib.hid hnp; obtain ⟨Ap, cp, rfl, hFp⟩ := ho2.sliceN hnp; have HFP := Lib.hid hFp; have HX2 := Lib.hid (HX1.out.step hb2); clear x0 x1 x2 x3 x4 x5; obtain ⟨x0, x1, x2, x3, x4, x5, -, -⟩ := HX2.out.flat; clear ho2 ha2 hnp hFp)
    | (go_at_call 13; refine (qrenew_any Ao n co lo f (HDO.out _ HAO.out) hfd _ (HFO.out.below hb2) (HO.out.below HX2.out.bel) ([] : List M.Frm) y (HRR.out _ HAO.out)).mono ?_; rintro e w3 ⟨v3, lr, rfl, ho3, ha3, hb3⟩; obtain ⟨nr, hnr⟩ : ∃ k, lr.length = k := ⟨_, rfl⟩; have HAR := Lib.hid ha3; have HNR := Lib.hid hnr; obtain ⟨Ar, cr, rfl, hFr⟩ := ho3.sliceN hnr; have HFR := Lib.hid hFr; have HX3 := Lib.hid (HX2.out.step hb3); have HFO3 := Lib.hid ((HFO.out.below hb2).below hb3); have HFP3 := Lib.hid (HFP.out.below hb3); clear x0 x1 x2 x3 x4 x5 ho3 ha3 hnr hFr)
    | (go_at_call 14; refine (qtake_any Ao n co lo (HDO.out _ HAO.out) _ HFO3.out).mono ?_; rintro e w4 ⟨x, At, nt, ct, lt, zt, rfl, hft, hxo, hqt, hb4⟩; rw [HAO.out] at hqt; have HQT := Lib.hid hqt; have HS4 := Lib.hid (show PQS w f Ao n lo Ap np lp Ar nr lr At nt lt x w4 from ⟨HX3.out.step hb4, HFO3.out.below hb4, HFP3.out.below hb4, HFR.out.below hb4, hft, hxo⟩); have HXB4 := Lib.hid (@BoxF.start w w4 30 x HS4.out.box.bel); clear hqt hft hxo)
    | (go_at_call 7; refine (refQueue_any A n c l _ (H.out.below (HS4.out.alloc _).box.bel) (HT.out.below (HS4.out.alloc _).box.bel) 0 HY.out).mono ?_; rintro e w5 ⟨rfl, hb5⟩; have HS5 := Lib.hid ((HS4.out.alloc _).step hb5); have HXB5 := Lib.hid (HXB4.out.step hb5))
    | (go_at_call 8; refine (queued_any _).mono ?_; rintro e w6 ⟨rfl, hb6⟩; have HS6 := Lib.hid (HS5.out.step hb6); have HXB6 := Lib.hid (HXB5.out.step hb6))
    | (go_at_call 15; refine (qcheck_any A n c l _ (H.out.below HS6.out.box.bel) 0 HY.out).mono ?_; rintro e w7 ⟨rfl, hb7⟩; have HS7 := Lib.hid (HS6.out.step hb7); have HXB7 := Lib.hid (HXB6.out.step hb7))
    | (go_at_call 10; refine (refSames Ao A n n co c lo l (small16 hn16) (HDO.out _ HAO.out) _ HS7.out.o (H.out.below HS7.out.box.bel) true ⟨fun _ => HAO.out, fun _ => rfl⟩).mono ?_; rintro e w8 ⟨rfl, hb8⟩; have HS8 := Lib.hid (HS7.out.step hb8); have HXB8 := Lib.hid (HXB7.out.step hb8)))
  go_cut [] (fun wx => PQS w f Ao n lo Ap np lp Ar nr lr At nt lt x wx)
  case first =>
    rcases Nat.eq_zero_or_pos n with hn0 | hpos
    · subst hn0
      have hl0 : l = [] := List.eq_nil_of_length_eq_zero hl.out
      have hq3 := HQT.out.trans (qtake_nil (by rw [hl0]; rfl))
      injection hq3 with hqa hq4
      injection hq4 with hqb hqc
      subst hqc
      have hnt : nt = 0 := HS8.out.t.len.symm.trans (len_abs hqb)
      subst hnt
      have HQA := Lib.hid hqa
      have hxd : x.data.length ≤ 140737488355328 := by
        have : x.data = [] := congrArg M.Frm.data hqa
        rw [this]
        simp
      obtain ⟨x0, x1, x2, x3, x4, x5, -, -⟩ := HXB8.out.flat
      clear hl0 hqa hqb
      go_wp2_with (go_at_call 16; refine (noFrame_any x hxd _ HS8.out.x true ⟨fun _ => HQA.out, fun _ => rfl⟩).mono ?_; rintro e w9 ⟨rfl, hb9⟩; have HS9 := Lib.hid (HS8.out.step hb9))
      all_goals
        go_meet
        exact HS9.out
    · have hnn : ((n : Int) == 0) = false := by rw [beq_eq_false_iff_ne]; omega
      obtain ⟨a, hA⟩ : ∃ a, A = some a := by
        obtain ⟨ad, e, _⟩ := H.out.1.2 hpos
        exact ⟨ad, e⟩
      subst hA
      obtain ⟨y0, r0, hlr, hr0, hFr0, hR0⟩ := head_at H.out hpos
      have hyl := HY.out
      rw [hlr] at hyl
      have hq3 := HQT.out
      rw [hlr, List.map_cons, qtake_cons hyl] at hq3
      injection hq3 with hqa hq4
      injection hq4 with hqb hqc
      subst hqc
      have hnt : nt = n - 1 := by
        have h1 := HS8.out.t.len
        have h2 := congrArg List.length hqb
        rw [List.length_map, List.length_map] at h2
        omega
      subst hnt
      have HQA := Lib.hid hqa
      have HQB := Lib.hid hqb
      have HR0 := Lib.hid hR0
      have HF0 := Lib.hid hFr0
      have hxd : x.data.length ≤ 140737488355328 := by
        have : x.data = y0.data := congrArg M.Frm.data hqa
        rw [this]
        exact HD.out y0 (by rw [hlr]; simp)
      have HLT := Lib.hid (show ∀ g ∈ lt, g.data.length ≤ 140737488355328 from data_of_abs hqb fun g hg => by
        obtain ⟨k, hk, rfl⟩ := List.mem_map.1 hg
        exact HD.out k (by rw [hlr]; exact List.mem_cons_of_mem _ hk))
      have hp1 : (0 : Int) < (n : Int) := by omega
      have hp2 : (1 : Int) ≤ (n : Int) := by omega
      have hc1 : 1 ≤ c := by omega
      have hsn : n - 1 ≤ 140737488355328 := by omega
      clear hlr hyl hqa hqb hR0 hFr0 hr0
      by_cases hcc : c = 1
      · subst hcc
        obtain rfl : n = 1 := by omega
        have hltn : lt = [] := List.eq_nil_of_length_eq_zero HS8.out.t.len
        subst hltn
        go_upto_region 13 with fail
        go_region_held3 (fun wx => wx.cell? ⟨w4.heap.size, 0, none⟩ = some (.int .i64 x.id) ∧ wx.cell? ⟨w4.heap.size, 1, none⟩ = some (.bool x.long) ∧ wx.cell? ⟨w4.heap.size, 2, none⟩ = some (.bool x.fast) ∧ wx.cell? ⟨w4.heap.size, 3, none⟩ = some (.bool x.remote) ∧ wx.cell? ⟨w4.heap.size, 4, none⟩ = some (.int .i64 x.size) ∧ wx.cell? ⟨w4.heap.size, 5, none⟩ = some (.slice x.A x.data.length x.c) ∧
          wx.cell? a = some (.int .i64 y0.id) ∧ wx.cell? ⟨a.block, a.off + 1, none⟩ = some (.bool y0.long) ∧ wx.cell? ⟨a.block, a.off + 2, none⟩ = some (.bool y0.fast) ∧ wx.cell? ⟨a.block, a.off + 3, none⟩ = some (.bool y0.remote) ∧ wx.cell? ⟨a.block, a.off + 4, none⟩ = some (.int .i64 y0.size) ∧ wx.cell? ⟨a.block, a.off + 5, none⟩ = some (.slice y0.A y0.data.length y0.c) ∧ w4.heap.size < wx.heap.size ∧ Below w.heap.size w wx)
          (first | exact HXB8.out.flatA (HR0.out _ HXB8.out.bel).2 | exact HXB8.out.drew.flatA (HR0.out _ HXB8.out.drew.bel).2 | exact HXB9.out.flatA (HR0.out _ HXB9.out.bel).2 | exact HXBA.out.flatA (HR0.out _ HXBA.out.bel).2)
          (first
            | (go_at_call 17; refine (same_any x y0 hxd _ (M.Fr.ok.below HS8.out.x (Below.refl _ _).drew) (HR0.out _ HXB8.out.drew.bel).1 true ⟨fun _ => HQA.out, fun _ => rfl⟩).mono ?_; rintro e w9 ⟨rfl, hb9⟩; have HXB9 := Lib.hid (HXB8.out.drew.step hb9); have HS9 := Lib.hid ((HS8.out.step (Below.refl _ _).drew).step hb9))
            | (go_at_call 10; refine (refSames At (some a) 0 0 ct 0 [] [] (Nat.zero_le _) HLT.out _ HS9.out.t (Frs.none_ _ _) true ⟨fun _ => rfl, fun _ => rfl⟩).mono ?_; rintro e wa ⟨rfl, hba⟩; have HXBA := Lib.hid (HXB9.out.step hba); have HSA := Lib.hid (HS9.out.step hba)))
        go_wp2
        go_meet
        exact HSA.out
      · go_upto_region 13 with fail
        go_region_held3 (fun wx => wx.cell? ⟨w4.heap.size, 0, none⟩ = some (.int .i64 x.id) ∧ wx.cell? ⟨w4.heap.size, 1, none⟩ = some (.bool x.long) ∧ wx.cell? ⟨w4.heap.size, 2, none⟩ = some (.bool x.fast) ∧ wx.cell? ⟨w4.heap.size, 3, none⟩ = some (.bool x.remote) ∧ wx.cell? ⟨w4.heap.size, 4, none⟩ = some (.int .i64 x.size) ∧ wx.cell? ⟨w4.heap.size, 5, none⟩ = some (.slice x.A x.data.length x.c) ∧
          wx.cell? a = some (.int .i64 y0.id) ∧ wx.cell? ⟨a.block, a.off + 1, none⟩ = some (.bool y0.long) ∧ wx.cell? ⟨a.block, a.off + 2, none⟩ = some (.bool y0.fast) ∧ wx.cell? ⟨a.block, a.off + 3, none⟩ = some (.bool y0.remote) ∧ wx.cell? ⟨a.block, a.off + 4, none⟩ = some (.int .i64 y0.size) ∧ wx.cell? ⟨a.block, a.off + 5, none⟩ = some (.slice y0.A y0.data.length y0.c) ∧ w4.heap.size < wx.heap.size ∧ Below w.heap.size w wx)
          (first | exact HXB8.out.flatA (HR0.out _ HXB8.out.bel).2 | exact HXB8.out.drew.flatA (HR0.out _ HXB8.out.drew.bel).2 | exact HXB9.out.flatA (HR0.out _ HXB9.out.bel).2 | exact HXBA.out.flatA (HR0.out _ HXBA.out.bel).2)
          (first
            | (go_at_call 17; refine (same_any x y0 hxd _ (M.Fr.ok.below HS8.out.x (Below.refl _ _).drew) (HR0.out _ HXB8.out.drew.bel).1 true ⟨fun _ => HQA.out, fun _ => rfl⟩).mono ?_; rintro e w9 ⟨rfl, hb9⟩; have HXB9 := Lib.hid (HXB8.out.drew.step hb9); have HS9 := Lib.hid ((HS8.out.step (Below.refl _ _).drew).step hb9))
            | (go_at_call 10; refine (refSames At (some (a.add 6)) (n - 1) (n - 1) ct (c - 1) lt r0 hsn HLT.out _ HS9.out.t (HF0.out.below HXB9.out.bel) true ⟨fun _ => HQB.out, fun _ => rfl⟩).mono ?_; rintro e wa ⟨rfl, hba⟩; have HXBA := Lib.hid (HXB9.out.step hba); have HSA := Lib.hid (HS9.out.step hba)))
        go_wp2
        go_meet
        exact HSA.out
  case rest =>
    have HC := Lib.hid hcut
    obtain ⟨x0, x1, x2, x3, x4, x5, -, -⟩ := HC.out.box.flat
    clear hcut
    have hnp0 : np = 0 := HNP.out.symm.trans (len_abs HAP.out)
    have hnr0 : nr = 0 := HNR.out.symm.trans (len_abs HAR.out)
    subst hnp0 hnr0
    have hy2 : (y != 0) = true := by rw [bne_iff_ne]; exact hy0
    have HKY := Lib.hid (show M.fchk f.id f.long f.fast f.remote f.size f.data.length = y from hck)
    clear hck hy0
    go_wp2_with (go_at_call 18; refine (refCheck_any f.id f.long f.fast f.remote f.size f.A f.data.length f.c _).mono ?_; rw [HKY.out]; rintro e w9 ⟨rfl, hb9⟩; have HE := Lib.hid (HC.out.box.bel.trans (hb9.mono HC.out.box.bel.size)))
    go_ret
    exact ⟨rfl, HE.out⟩
end Go.Proofs.YtlfdpcddbnkpjaaDoor
