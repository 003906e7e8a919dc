/-
  The walk of the law QueuePut, joined: it returns true.
-/
import Derived.Test.YtlfdpcddbnkpjaaDoorQueueP1
import Derived.Test.YtlfdpcddbnkpjaaDoorQueuePutBad
import Derived.Test.YtlfdpcddbnkpjaaDoorQueuePutFull
import Derived.Test.YtlfdpcddbnkpjaaDoorQueuePutGood
import Derived.Deep.DeepCutAuto
namespace Go.Proofs.YtlfdpcddbnkpjaaDoor
open Go.RowKit Go.ChangeShapes Go.WideShapes

set_option maxRecDepth 100000 in
set_option maxHeartbeats 6400000 in
theorem queuePut_wrong (A : Option Addr) (n c : Nat) (l : List M.Fr) (f : M.Fr) (hn48 : n * 48 ≤ 140737488355328) (hd : ∀ f ∈ l, f.data.length ≤ 140737488355328) (hfd : f.data.length ≤ 140737488355328) (w : World) (h : Frs w A n l) (hfo : f.ok w) (ht : Tab2 w) (y : Int) (hy : y = M.qchk (l.map M.Fr.abs)) (hy0 : y ≠ 0) :
    Calls Tryd.prog 4 #[.slice A n c, .agg #[.int .i64 f.id, .bool f.long, .bool f.fast, .bool f.remote, .int .i64 f.size, .slice f.A f.data.length f.c]] w fun e w' => e = .returned (.bool true) ∧ Below w.heap.size w w' := by
  have hl := Lib.hid h.len
  have hrp : (([] : List M.Frm), y) = M.qput (l.map M.Fr.abs) f.abs := by unfold M.qput; rw [← hy, if_pos hy0]
  have hrr : (([] : List M.Frm), y) = M.qrenew (l.map M.Fr.abs) f.abs := by unfold M.qrenew; rw [← hy, if_pos hy0]
  have hrt : M.qtake (l.map M.Fr.abs) = (M.Frm.zero, [], y) := by unfold M.qtake; rw [← hy, if_pos hy0]
  have HRT := Lib.hid hrt
  have hy2 : (y != 0) = true := by rw [bne_iff_ne]; exact hy0
  have hn47 : n ≤ 140737488355328 := by omega
  have HRP := Lib.hid (show ∀ lo : List M.Fr, lo.map M.Fr.abs = l.map M.Fr.abs → (([] : List M.Frm), y) = M.qput (lo.map M.Fr.abs) f.abs from fun lo e => by rw [e]; exact hrp)
  have HRR := Lib.hid (show ∀ lo : List M.Fr, lo.map M.Fr.abs = l.map M.Fr.abs → (([] : List M.Frm), y) = M.qrenew (lo.map M.Fr.abs) f.abs from fun lo e => by rw [e]; exact hrr)
  have HRR0 := Lib.hid hrr
  have HRP0 := Lib.hid hrp
  have HD := Lib.hid hd
  have HDO := Lib.hid (show ∀ lo : List M.Fr, lo.map M.Fr.abs = l.map M.Fr.abs → ∀ g ∈ lo, g.data.length ≤ 140737488355328 from fun lo e => data_of_abs e fun g hg => by
    obtain ⟨k, hk, rfl⟩ := List.mem_map.1 hg
    exact hd k hk)
  have H := Lib.hid h
  have HO := Lib.hid hfo
  have HT := Lib.hid ht
  have HY := Lib.hid hy
  have hbox : ∀ (o : Obj), Below w.heap.size w (w.alloc o) := fun o => (Below.refl _ _).alloc (Nat.le_refl _) _
  have HB := Lib.hid hbox
  clear hrp hrr hrt hy0 hd h hfo ht hy hbox
  go_enter Tryd.func4, Tryd.ntmps4
  go_wp2_with (first
    | (go_at_call 11; refine (ownFrames_any A n c l hn48 HD.out _ (H.out.below (HB.out _))).mono ?_; rintro e w1 ⟨v1, lo, rfl, ho1, ha1, hg1, hb1⟩; have HAO := Lib.hid ha1; have HLO := Lib.hid (len_of ha1 hl.out); have hQ1 := own_q (len_of ha1 hl.out) ho1 hg1; obtain ⟨Ao, co, rfl, hFo⟩ := hQ1.sliceN (len_of ha1 hl.out); have HFO := Lib.hid hFo; have HX1 := Lib.hid ((BoxF.start (Below.refl _ w)).step hb1); obtain ⟨x0, x1, x2, x3, x4, x5, -, -⟩ := HX1.out.flat; clear ho1 ha1 hg1 hQ1 hFo)
    | (go_at_call 12; refine (qput_any Ao n co lo f (HDO.out _ HAO.out) hfd _ HFO.out (HO.out.below HX1.out.bel) ([] : List M.Frm) y (HRP.out _ HAO.out)).mono ?_; rintro e w2 ⟨v2, lp, rfl, ho2, ha2, hb2⟩; obtain ⟨np, hnp⟩ : ∃ k, lp.length = k := ⟨_, rfl⟩; have HAP := Lib.hid ha2; have HNP := Lib.hid hnp; obtain ⟨Ap, cp, rfl, hFp⟩ := ho2.sliceN hnp; have HFP := Lib.hid hFp; have HX2 := Lib.hid (HX1.out.step hb2); clear x0 x1 x2 x3 x4 x5; obtain ⟨x0, x1, x2, x3, x4, x5, -, -⟩ := HX2.out.flat; clear ho2 ha2 hnp hFp)
    | (go_at_call 13; refine (qrenew_any Ao n co lo f (HDO.out _ HAO.out) hfd _ (HFO.out.below hb2) (HO.out.below HX2.out.bel) ([] : List M.Frm) y (HRR.out _ HAO.out)).mono ?_; rintro e w3 ⟨v3, lr, rfl, ho3, ha3, hb3⟩; obtain ⟨nr, hnr⟩ : ∃ k, lr.length = k := ⟨_, rfl⟩; have HAR := Lib.hid ha3; have HNR := Lib.hid hnr; obtain ⟨Ar, cr, rfl, hFr⟩ := ho3.sliceN hnr; have HFR := Lib.hid hFr; have HX3 := Lib.hid (HX2.out.step hb3); have HFO3 := Lib.hid ((HFO.out.below hb2).below hb3); have HFP3 := Lib.hid (HFP.out.below hb3); clear x0 x1 x2 x3 x4 x5 ho3 ha3 hnr hFr)
    | (go_at_call 14; refine (qtake_any Ao n co lo (HDO.out _ HAO.out) _ HFO3.out).mono ?_; rintro e w4 ⟨x, At, nt, ct, lt, zt, rfl, hft, hxo, hqt, hb4⟩; rw [HAO.out, HRT.out] at hqt; injection hqt with hqa hqb; injection hqb with hqb hqc; have hzy := hqc.symm; subst hzy; have HQA := Lib.hid hqa; have hnt : nt = 0 := hft.len.symm.trans (len_abs hqb); subst hnt; have hnp0 : np = 0 := HNP.out.symm.trans (len_abs HAP.out); have hnr0 : nr = 0 := HNR.out.symm.trans (len_abs HAR.out); subst hnp0 hnr0; have hxd := zero_data hqa; have HS4 := Lib.hid (show PQS w f Ao n lo Ap 0 lp Ar 0 lr At 0 lt x w4 from ⟨HX3.out.step hb4, HFO3.out.below hb4, HFP3.out.below hb4, HFR.out.below hb4, hft, hxo⟩); have HXB4 := Lib.hid (@BoxF.start w w4 30 x HS4.out.box.bel); clear hqa hqb hft hxo)
    | (go_at_call 7; refine (refQueue_any A n c l _ (H.out.below (HS4.out.alloc _).box.bel) (HT.out.below (HS4.out.alloc _).box.bel) y HY.out).mono ?_; rintro e w5 ⟨rfl, hb5⟩; have HS5 := Lib.hid ((HS4.out.alloc _).step hb5); have HXB5 := Lib.hid (HXB4.out.step hb5))
    | (go_at_call 8; refine (queued_any _).mono ?_; rintro e w6 ⟨rfl, hb6⟩; have HS6 := Lib.hid (HS5.out.step hb6); have HXB6 := Lib.hid (HXB5.out.step hb6))
    | (go_at_call 15; refine (qcheck_any A n c l _ (H.out.below HS6.out.box.bel) y HY.out).mono ?_; rintro e w7 ⟨rfl, hb7⟩; have HS7 := Lib.hid (HS6.out.step hb7); have HXB7 := Lib.hid (HXB6.out.step hb7))
    | (go_at_call 10; refine (refSames Ao A n n co c lo l hn47 (HDO.out _ HAO.out) _ HS7.out.o (H.out.below HS7.out.box.bel) true ⟨fun _ => HAO.out, fun _ => rfl⟩).mono ?_; rintro e w8 ⟨rfl, hb8⟩; have HS8 := Lib.hid (HS7.out.step hb8); have HXB8 := Lib.hid (HXB7.out.step hb8); obtain ⟨x0, x1, x2, x3, x4, x5, -, -⟩ := HXB8.out.flat)
    | (go_at_call 16; refine (noFrame_any x hxd _ HS8.out.x true ⟨fun _ => HQA.out, fun _ => rfl⟩).mono ?_; rintro e w9 ⟨rfl, hb9⟩; have HE := Lib.hid (HS8.out.box.bel.trans (hb9.mono HS8.out.box.bel.size))))
  go_ret
  exact ⟨rfl, HE.out⟩

theorem lawQueuePut (A : Option Addr) (n c : Nat) (l : List M.Fr) (f : M.Fr) (hnc : n ≤ c) (hn48 : n * 48 ≤ 140737488355328) (hd : ∀ f ∈ l, f.data.length ≤ 140737488355328) (hfd : f.data.length ≤ 140737488355328) (w : World) (h : Frs w A n l) (hfo : f.ok w) (ht : Tab2 w) :
    Calls Tryd.prog 4 #[.slice A n c, f.val] w fun e w' => e = .returned (.bool true) ∧ Below w.heap.size w w' := by
  by_cases hy : M.qchk (l.map M.Fr.abs) = 0
  · by_cases hk : f.abs.chk = 0
    · by_cases hn : n = 16
      · exact queuePut_full A n c l f hnc hn48 hd hfd w h hfo ht hy.symm hk hn
      · exact queuePut_good A n c l f hnc hn48 hd hfd w h hfo ht hy.symm hk hn
    · exact queuePut_bad A n c l f hnc hn48 hd hfd w h hfo ht hy.symm _ rfl hk
  · exact queuePut_wrong A n c l f hn48 hd hfd w h hfo ht _ rfl hy
end Go.Proofs.YtlfdpcddbnkpjaaDoor
