/-
  The walk of queue.Merge.
-/
import Derived.Test.YtlfdpcddbnkpjaaDoorQueueW9
namespace Go.Proofs.YtlfdpcddbnkpjaaDoor
open Go.RowKit Go.ChangeShapes Go.WideShapes

/-- queue.Merge. -/
def M.qmerge (a b : List M.Frm) : List M.Frm × Int × Int :=
  if M.qchk a ≠ 0 then ([], 0, M.qchk a) else if M.qchk b ≠ 0 then ([], 0, M.qchk b) else
    ((b.foldl M.qins a).take 16, (((b.foldl M.qins a).length - 16 : Nat) : Int), 0)

theorem foldl_srt {a b : List M.Frm} (ha : M.Srt a) (hb : ∀ f ∈ b, f.chk = 0) : M.Srt (b.foldl M.qins a) := by
  induction b generalizing a with
  | nil => exact ha
  | cons f r ih => exact ih (ha.ins (hb f (by simp))) fun g hg => hb g (by simp [hg])
theorem foldl_len {a b : List M.Frm} : (b.foldl M.qins a).length = a.length + b.length := by
  induction b generalizing a with
  | nil => rfl
  | cons f r ih => rw [List.foldl_cons, ih, M.length_qins, List.length_cons]; omega

theorem Frs.take_ {w : World} {A : Option Addr} {n k : Nat} {l : List M.Fr} (h : Frs w A n l) (hk : k ≤ n) : Frs w A k (l.take k) := by
  have hl := h.len
  refine ⟨⟨by rw [flat_length, List.length_take]; omega, fun hk0 => ?_⟩, fun f hf => h.2 f (List.mem_of_mem_take hf)⟩
  obtain ⟨ad, e, hb, hc⟩ := h.1.2 (by omega)
  refine ⟨ad, e, hb, fun j u hu => hc j u ?_⟩
  rw [← flat_take] at hu
  have hlt := (List.getElem?_eq_some_iff.1 hu).1
  rw [List.length_take] at hlt
  rwa [List.getElem?_take_of_lt (by omega)] at hu

theorem OwnQ.sliceN {base n : Nat} {w : World} {v : Value} {l : List M.Fr} (h : OwnQ base w v l) (hn : l.length = n) : ∃ A c, v = .slice A n c ∧ Frs w A n l := by
  subst hn
  exact h.slice

theorem ins_abs {l l' : List M.Fr} {f g : M.Fr} {k : Nat} {m : List M.Frm} (hl : l.map M.Fr.abs = m) (hg : g.abs = f.abs) (hk : M.atTo (l.map M.Fr.abs) f.abs.name (l.map M.Fr.abs).length = k) (e : l' = l.take k ++ g :: l.drop k) : l'.map M.Fr.abs = M.qins m f.abs := by
  rw [e, ← hl]
  exact map_put rfl hg hk

theorem fchk_le {id sz : Int} {lo fa re : Bool} {n : Nat} (h : M.fchk id lo fa re sz n = 0) : n ≤ 64 := by
  unfold M.fchk at h
  split at h
  · cases h
  · split at h
    · cases h
    · split at h
      · cases h
      · split at h
        · cases h
        · omega
theorem srt_data {l : List M.Fr} (h : M.Srt (l.map M.Fr.abs)) : ∀ f ∈ l, f.data.length ≤ 140737488355328 := fun f hf => by
  have := fchk_le (show M.fchk f.id f.long f.fast f.remote f.size f.data.length = 0 from srt_good h f hf)
  omega
theorem foldl_take_at {l : List M.Fr} {a : List M.Frm} {j : Nat} {f : M.Fr} (h : l[j]? = some f) : ((l.map M.Fr.abs).take (j + 1)).foldl M.qins a = M.qins (((l.map M.Fr.abs).take j).foldl M.qins a) f.abs := by
  rw [take_map_succ _ l j f h, List.foldl_append]
  rfl
theorem len_ins {l : List M.Fr} {g : M.Fr} {k m : Nat} (h : l.length = m) (hk : k ≤ m) : (l.take k ++ g :: l.drop k).length = m + 1 := by
  simp
  omega

set_option maxRecDepth 100000 in
set_option maxHeartbeats 3200000 in
theorem qmerge_good (A1 A2 : Option Addr) (n1 n2 c1 c2 : Nat) (l1 l2 : List M.Fr) (hd1 : ∀ f ∈ l1, f.data.length ≤ 140737488355328) (hd2 : ∀ f ∈ l2, f.data.length ≤ 140737488355328) (w : World) (h1 : Frs w A1 n1 l1) (h2 : Frs w A2 n2 l2) (hy1 : 0 = M.qchk (l1.map M.Fr.abs)) (hy2 : 0 = M.qchk (l2.map M.Fr.abs)) :
    Calls Tryd.prog 6 #[.slice A1 n1 c1, .slice A2 n2 c2] w fun e w' =>
      ∃ (A : Option Addr) (m c : Nat) (l' : List M.Fr) (z : Nat), e = .returned (.tuple #[.slice A m c, .int .i64 z, .int .i64 0]) ∧ Frs w' A m l' ∧ (l'.map M.Fr.abs, (z : Int), (0 : Int)) = M.qmerge (l1.map M.Fr.abs) (l2.map M.Fr.abs) ∧ (∀ f ∈ l', f.data.length ≤ 140737488355328) ∧ Below w.heap.size w w' := by
  have hl1 := Lib.hid h1.len
  have hl2 := Lib.hid h2.len
  have hs1 := (M.qchk_zero).1 hy1.symm
  have hs2 := (M.qchk_zero).1 hy2.symm
  have hn1 : n1 ≤ 16 := by
    have := hs1.1
    rw [List.length_map, hl1.out] at this
    exact this
  have hn2 : n2 ≤ 16 := by
    have := hs2.1
    rw [List.length_map, hl2.out] at this
    exact this
  have HS1 := Lib.hid hs1.2
  have HS2 := Lib.hid hs2.2
  have H1 := Lib.hid h1
  have H2 := Lib.hid h2
  have HD1 := Lib.hid hd1
  have HD2 := Lib.hid hd2
  have HY1 := Lib.hid hy1
  have HY2 := Lib.hid hy2
  have hn48 : n1 * 48 ≤ 140737488355328 := by omega
  clear h1 h2 hd1 hd2 hy1 hy2 hs1 hs2
  have i0 : ∀ w, (Instr.index 47 (.agg #[.slice A1 n1 c1, .slice A2 n2 c2]) (.int .i64 0)).run Tryd.prog w = .ok (.slice A1 n1 c1) w := fun _ => by kernel_rfl
  have i1 : ∀ w, (Instr.index 47 (.agg #[.slice A1 n1 c1, .slice A2 n2 c2]) (.int .i64 1)).run Tryd.prog w = .ok (.slice A2 n2 c2) w := fun _ => by kernel_rfl
  go_enter Tryd.func6, Tryd.ntmps6
  go_wp2
  go_loopw [17] (fun i wr => ∃ (j : Nat), j ≤ 2 ∧ i = .int .i64 j ∧ Below w.heap.size w wr) (fun i _ => 2 - (intOf i).toNat)
  case atStart => exact ⟨0, by omega, rfl, Below.refl _ _⟩
  case round =>
    obtain ⟨j, hj, rfl, hb⟩ := hrel
    rcases Nat.lt_or_ge j 2 with hj2 | hj2
    · obtain rfl | rfl : j = 0 ∨ j = 1 := by omega
      · go_wp2_with (go_at_call 15; refine (qcheck_any A1 n1 c1 l1 _ (H1.out.below hb) 0 HY1.out).mono ?_; rintro e w1 ⟨rfl, hb1⟩)
        go_roundw
        case rel => exact ⟨1, by omega, by go_num, hb.trans (hb1.mono hb.size)⟩
        case measure => simp [intOf]
      · go_wp2_with (go_at_call 15; refine (qcheck_any A2 n2 c2 l2 _ (H2.out.below hb) 0 HY2.out).mono ?_; rintro e w1 ⟨rfl, hb1⟩)
        go_roundw
        case rel => exact ⟨2, by omega, by go_num, hb.trans (hb1.mono hb.size)⟩
        case measure => simp [intOf]
    · obtain rfl : j = 2 := by omega
      go_wp2_with (go_at_call 25; refine (own_any A1 n1 c1 l1 hn48 HD1.out _ (H1.out.below hb)).mono ?_; rintro e w2 ⟨v3, l3, rfl, ho3, ha3, hg3, hb3⟩; have HB2 := Lib.hid (hb.trans (hb3.mono hb.size)); have HA3 := Lib.hid ha3; have HQ3 := Lib.hid ((show OwnQ wr.heap.size w2 v3 l3 from ⟨(len_of ha3 hl1.out).symm ▸ ho3, hg3⟩).weaken hb.size); clear ho3 hg3 ha3)
      obtain ⟨A3, c3, rfl, -⟩ := HQ3.out.sliceN (len_of HA3.out hl1.out)
      have HLN := Lib.hid (len_of HA3.out hl1.out)
      clear hb hj hj2 hb3
      go_loopw [30, 10] (fun i v wx => ∃ (j m : Nat) (A : Option Addr) (c : Nat) (lo : List M.Fr), j ≤ n2 ∧ i = .int .i64 j ∧ m = n1 + j ∧ v = .slice A m c ∧ lo.length = m ∧ OwnQ w.heap.size wx (.slice A m c) lo ∧ lo.map M.Fr.abs = ((l2.map M.Fr.abs).take j).foldl M.qins (l1.map M.Fr.abs) ∧ Below w.heap.size w wx) (fun i _ _ => n2 - (intOf i).toNat)
      case atStart => exact ⟨0, n1, A3, c3, l3, Nat.zero_le _, rfl, rfl, rfl, HLN.out, HQ3.out, by rw [HA3.out]; rfl, HB2.out⟩
      case round =>
        obtain ⟨j, m, A, c, lo, hj, rfl, hm, rfl, hlo, hQ, habs, hb⟩ := hrel
        have HM := Lib.hid hm
        have hm32 : m ≤ 32 := by omega
        have HLO := Lib.hid hlo
        have HQ := Lib.hid hQ
        have HAB := Lib.hid habs
        have hsrt : M.Srt (lo.map M.Fr.abs) := by
          rw [habs]
          exact foldl_srt HS1.out fun f hf => HS2.out.1 f (List.mem_of_mem_take hf)
        have HSR := Lib.hid hsrt
        obtain ⟨A', c', hv', hF⟩ := hQ.sliceN hlo
        injection hv' with e1 _ e3
        subst e1 e3
        have HF := Lib.hid hF
        clear hm hlo hQ habs hsrt hF
        by_cases hlt : j < n2
        · obtain ⟨a, x, rfl, hx, hR⟩ := H2.out.cells_ hlt
          obtain ⟨p0, p1, p2, p3, p4, p5⟩ := (hR _ hb).2
          have HXX := Lib.hid hx
          have HKX := Lib.hid (srt_good HS2.out x (List.mem_of_getElem? hx))
          have hxd := HD2.out x (List.mem_of_getElem? hx)
          have hxo := (hR _ hb).1
          have hX4 := @BoxF.start w _ 30 x hb
          have hmn : (m + 1) * 48 ≤ 140737488355328 := by omega
          have hm6 : m ≤ 1000000 := by omega
          have HXO := Lib.hid hxo
          clear hx hR hxo
          have hnb : some wr.heap.size ≠ (Value.slice A m c).ownBlock := fun e => Nat.lt_irrefl _ (HQ.out.1.lt _ e.symm).2
          have HNB := Lib.hid hnb
          clear hnb
          go_upto_region 12 with fail
          have HX4 := Lib.hid hX4
          have HQ4 := Lib.hid (HQ.out.alloc (.cells #[.int .i64 x.id, .bool x.long, .bool x.fast, .bool x.remote, .int .i64 x.size, .slice x.A x.data.length x.c] 30))
          have HF4 := Lib.hid (HF.out.below ((Below.refl wr.heap.size wr).alloc (Nat.le_refl _) (.cells #[.int .i64 x.id, .bool x.long, .bool x.fast, .bool x.remote, .int .i64 x.size, .slice x.A x.data.length x.c] 30)))
          have HXO4 := Lib.hid (M.Fr.ok.below HXO.out ((Below.refl wr.heap.size wr).alloc (Nat.le_refl _) (.cells #[.int .i64 x.id, .bool x.long, .bool x.fast, .bool x.remote, .int .i64 x.size, .slice x.A x.data.length x.c] 30)))
          clear hX4 p0 p1 p2 p3 p4 p5
          generalize wr.alloc _ = w4 at HX4 HQ4 HF4 HXO4 ⊢
          go_region_held3 (fun wx => wx.cell? ⟨wr.heap.size, 0, none⟩ = some (.int .i64 x.id) ∧ wx.cell? ⟨wr.heap.size, 1, none⟩ = some (.bool x.long) ∧ wx.cell? ⟨wr.heap.size, 2, none⟩ = some (.bool x.fast) ∧ wx.cell? ⟨wr.heap.size, 3, none⟩ = some (.bool x.remote) ∧ wx.cell? ⟨wr.heap.size, 4, none⟩ = some (.int .i64 x.size) ∧ wx.cell? ⟨wr.heap.size, 5, none⟩ = some (.slice x.A x.data.length x.c) ∧ wr.heap.size < wx.heap.size ∧ Below w.heap.size w wx)
            (first | exact HX4.out.flat | exact HX4.out.drew.flat | exact HX5.out.flat | exact HX6.out.flat | exact (HX6.out.alloc _).flat | exact HX7.out.flat)
            (first
              | (go_at_call 27; refine (place_any A m c lo x hm6 w4.drew HF4.out (srt_good HSR.out) HKX.out (srt_mono HSR.out _)).mono ?_; rintro e w5 ⟨k, hk, hp1, hp2, rfl, hb5⟩; have HX5 := Lib.hid (HX4.out.drew.step hb5); have HQ5 := Lib.hid (HQ4.out.drew.step hb5); have HO5 := Lib.hid (M.Fr.ok.below (w := w4.drew) HXO4.out hb5); have HP := Lib.hid (place_of (HLO.out.symm ▸ hk) hp1 hp2); clear hp1 hp2)
              | (go_at_call 28; refine (copy_any_agg x hxd _ HO5.out).mono ?_; rintro e w6 ⟨g, hga, rfl, hgo, hb6⟩; have HX6 := Lib.hid (HX5.out.step hb6); have HGA := Lib.hid hga; have HQ6 := Lib.hid (HQ5.out.step hb6); have HG6 := Lib.hid (show g.own w.heap.size w6 from own_weaken hgo HX5.out.bel.size); clear hga hgo)
              | (go_at_call 26; refine (insq2_any w.heap.size (.slice A m c) lo k g w6 (le_of_len HLO.out hk) (big_of_len HLO.out hmn) HQ6.out HG6.out HX6.out.bel.size).mono ?_; rintro e w7 ⟨v7, rfl, hQ7, hb7, hgr⟩; have HQ7 := Lib.hid hQ7; have HB7 := Lib.hid (HX6.out.bel.trans hb7); have HX7 := Lib.hid ((HX6.out.alloc _).grown hgr HNB.out HB7.out); clear hQ7 hgr))
          obtain ⟨A7, c7, rfl, -⟩ := HQ7.out.sliceN (len_ins HLO.out hk)
          go_wp2
          go_roundw
          case rel => exact ⟨j + 1, m + 1, A7, c7, _, by omega, by go_num, by have := HM.out; omega, rfl, len_ins HLO.out hk, HQ7.out, by rw [ins_abs HAB.out HGA.out HP.out rfl, foldl_take_at HXX.out], HB7.out⟩
          case measure => simp [intOf]; omega
        · obtain rfl : j = n2 := by omega
          have hfull : lo.map M.Fr.abs = (l2.map M.Fr.abs).foldl M.qins (l1.map M.Fr.abs) := by
            rw [HAB.out, List.take_of_length_le (by rw [List.length_map, hl2.out]; exact Nat.le_refl _)]
          have HFU := Lib.hid hfull
          clear hfull
          have hml : ((l2.map M.Fr.abs).foldl M.qins (l1.map M.Fr.abs)).length = m := by rw [← HFU.out, List.length_map, HLO.out]
          have hmc : m ≤ c := by
            rcases HQ.out.1.2 with ⟨h, h0⟩ | ⟨g, cap, cur, h, _, _, h2, _⟩
            · rw [HLO.out] at h0
              omega
            · injection h with _ _ h5
              subst h5
              rw [HLO.out] at h2
              exact h2
          obtain ⟨z, hz⟩ : ∃ z : Nat, z = m - 16 := ⟨_, rfl⟩
          obtain ⟨k, hk⟩ : ∃ k : Nat, k = m - z := ⟨_, rfl⟩
          have hmx : max ((m : Int) - 16) 0 = (z : Int) := by omega
          have hsub : (m : Int) - (z : Int) = (k : Int) := by omega
          have hkm : k ≤ m := by omega
          have hkc : (k : Int) ≤ (c : Int) := by omega
          have HK := Lib.hid hk
          have HZ := Lib.hid hz
          have HML := Lib.hid hml
          clear hk hz hml hmc
          go_wp2
          go_ret3
          refine ⟨A, k, c, lo.take k, z, rfl, HF.out.take_ hkm, ?_, fun f hf => srt_data HSR.out f (List.mem_of_mem_take hf), hb⟩
          unfold M.qmerge
          rw [← HY1.out, ← HY2.out, if_neg (by simp), if_neg (by simp), HML.out, ← HZ.out, List.map_take, HFU.out]
          congr 1
          have e1 := HK.out
          have e2 := HZ.out
          rcases Nat.lt_or_ge 16 m with h | h
          · congr 1
            omega
          · rw [List.take_of_length_le (by rw [HML.out]; omega), List.take_of_length_le (by rw [HML.out]; omega)]

set_option maxRecDepth 100000 in
set_option maxHeartbeats 3200000 in
theorem qmerge_bad (A1 A2 : Option Addr) (n1 n2 c1 c2 : Nat) (l1 l2 : List M.Fr) (w : World) (h1 : Frs w A1 n1 l1) (h2 : Frs w A2 n2 l2) (y1 y2 : Int) (hy1 : y1 = M.qchk (l1.map M.Fr.abs)) (hy2 : y2 = M.qchk (l2.map M.Fr.abs)) (z : Int) (hz : z ≠ 0) (h : y1 = z ∨ (y1 = 0 ∧ y2 = z)) :
    Calls Tryd.prog 6 #[.slice A1 n1 c1, .slice A2 n2 c2] w fun e w' => e = .returned (.tuple #[.slice none 0 0, .int .i64 0, .int .i64 z]) ∧ Below w.heap.size w w' := by
  have H1 := Lib.hid h1
  have H2 := Lib.hid h2
  have HY1 := Lib.hid hy1
  have HY2 := Lib.hid hy2
  have hz2 : (z != 0) = true := by rw [bne_iff_ne]; exact hz
  clear h1 h2 hy1 hy2
  have i0 : ∀ w, (Instr.index 47 (.agg #[.slice A1 n1 c1, .slice A2 n2 c2]) (.int .i64 0)).run Tryd.prog w = .ok (.slice A1 n1 c1) w := fun _ => by kernel_rfl
  have i1 : ∀ w, (Instr.index 47 (.agg #[.slice A1 n1 c1, .slice A2 n2 c2]) (.int .i64 1)).run Tryd.prog w = .ok (.slice A2 n2 c2) w := fun _ => by kernel_rfl
  rcases h with rfl | ⟨rfl, rfl⟩
  · clear hz
    go_enter Tryd.func6, Tryd.ntmps6
    go_wp2
    go_loopw [17] (fun i wr => ∃ (j : Nat), j = 0 ∧ i = .int .i64 j ∧ Below w.heap.size w wr) (fun i _ => 2 - (intOf i).toNat)
    case atStart => exact ⟨0, rfl, rfl, Below.refl _ _⟩
    case round =>
      obtain ⟨j, rfl, rfl, hb⟩ := hrel
      go_wp2_with (go_at_call 15; refine (qcheck_any A1 n1 c1 l1 _ (H1.out.below hb) y1 HY1.out).mono ?_; rintro e w1 ⟨rfl, hb1⟩)
      go_ret3
      exact ⟨rfl, hb.trans (hb1.mono hb.size)⟩
  · clear hz
    go_enter Tryd.func6, Tryd.ntmps6
    go_wp2
    go_loopw [17] (fun i wr => ∃ (j : Nat), j ≤ 1 ∧ i = .int .i64 j ∧ Below w.heap.size w wr) (fun i _ => 2 - (intOf i).toNat)
    case atStart => exact ⟨0, by omega, rfl, Below.refl _ _⟩
    case round =>
      obtain ⟨j, hj, rfl, hb⟩ := hrel
      obtain rfl | rfl : j = 0 ∨ j = 1 := by omega
      · go_wp2_with (go_at_call 15; refine (qcheck_any A1 n1 c1 l1 _ (H1.out.below hb) 0 HY1.out).mono ?_; rintro e w1 ⟨rfl, hb1⟩)
        go_roundw
        case rel => exact ⟨1, by omega, by go_num, hb.trans (hb1.mono hb.size)⟩
        case measure => simp [intOf]
      · go_wp2_with (go_at_call 15; refine (qcheck_any A2 n2 c2 l2 _ (H2.out.below hb) y2 HY2.out).mono ?_; rintro e w1 ⟨rfl, hb1⟩)
        go_ret3
        exact ⟨rfl, hb.trans (hb1.mono hb.size)⟩

theorem qmerge_any (A1 A2 : Option Addr) (n1 n2 c1 c2 : Nat) (l1 l2 : List M.Fr) (hd1 : ∀ f ∈ l1, f.data.length ≤ 140737488355328) (hd2 : ∀ f ∈ l2, f.data.length ≤ 140737488355328) (w : World) (h1 : Frs w A1 n1 l1) (h2 : Frs w A2 n2 l2) (q : List M.Frm) (x z : Int) (hr : (q, x, z) = M.qmerge (l1.map M.Fr.abs) (l2.map M.Fr.abs)) :
    Calls Tryd.prog 6 #[.slice A1 n1 c1, .slice A2 n2 c2] w fun e w' =>
      ∃ (A : Option Addr) (m c : Nat) (l' : List M.Fr), e = .returned (.tuple #[.slice A m c, .int .i64 x, .int .i64 z]) ∧ Frs w' A m l' ∧ l'.map M.Fr.abs = q ∧ (∀ f ∈ l', f.data.length ≤ 140737488355328) ∧ Below w.heap.size w w' := by
  unfold M.qmerge at hr
  by_cases e1 : M.qchk (l1.map M.Fr.abs) = 0
  · by_cases e2 : M.qchk (l2.map M.Fr.abs) = 0
    · refine (qmerge_good A1 A2 n1 n2 c1 c2 l1 l2 hd1 hd2 w h1 h2 e1.symm e2.symm).mono fun e w' ⟨A, m, c, l', z', he, hf, hq, hd, hb⟩ => ?_
      unfold M.qmerge at hq
      rw [← hr] at hq
      injection hq with hq1 hq2
      injection hq2 with hq2 hq3
      subst hq2 hq3
      exact ⟨A, m, c, l', he, hf, hq1, hd, hb⟩
    · rw [if_neg (by rw [e1]; simp), if_pos e2] at hr
      injection hr with hq1 hq2
      injection hq2 with hq2 hq3
      subst hq1 hq2
      exact (qmerge_bad A1 A2 n1 n2 c1 c2 l1 l2 w h1 h2 _ _ rfl rfl z (by rw [hq3]; exact e2) (.inr ⟨e1, hq3.symm⟩)).mono fun e w' ⟨he, hb⟩ => ⟨none, 0, 0, [], he, Frs.none_ _ _, rfl, (fun f hf => nomatch hf), hb⟩
  · rw [if_pos e1] at hr
    injection hr with hq1 hq2
    injection hq2 with hq2 hq3
    subst hq1 hq2
    exact (qmerge_bad A1 A2 n1 n2 c1 c2 l1 l2 w h1 h2 _ _ rfl rfl z (by rw [hq3]; exact e1) (.inl hq3.symm)).mono fun e w' ⟨he, hb⟩ => ⟨none, 0, 0, [], he, Frs.none_ _ _, rfl, (fun f hf => nomatch hf), hb⟩
end Go.Proofs.YtlfdpcddbnkpjaaDoor
