/-
  The walk of queue.Renew, joined.
-/
import Derived.Test.YtlfdpcddbnkpjaaDoorQueueW7
namespace Go.Proofs.YtlfdpcddbnkpjaaDoor
open Go.RowKit Go.ChangeShapes Go.WideShapes

theorem OwnQ.form {base : Nat} {w : World} {v : Value} {l : List M.Fr} (h : OwnQ base w v l) (hl : 0 < l.length) : ∃ g0 c, v = .slice (some ⟨g0, 0, none⟩) l.length c ∧ base ≤ g0 ∧ c ≤ 9223372036854775807 := by
  rcases h.1.2 with ⟨_, h0⟩ | ⟨g, cap, cur, hv, hb, _, _, hm, _⟩
  · omega
  · exact ⟨g, cap, hv, hb, hm⟩

/-- The six cells of one frame of an owned queue. -/
theorem OwnQ.at6 {base : Nat} {w : World} {g0 c : Nat} {l : List M.Fr} (h : OwnQ base w (.slice (some ⟨g0, 0, none⟩) l.length c) l) {i : Nat} (hi : i < l.length) :
    w.cell? ⟨g0, i * 6, none⟩ = some (.int .i64 l[i].id) ∧ w.cell? ⟨g0, i * 6 + 1, none⟩ = some (.bool l[i].long) ∧ w.cell? ⟨g0, i * 6 + 2, none⟩ = some (.bool l[i].fast) ∧ w.cell? ⟨g0, i * 6 + 3, none⟩ = some (.bool l[i].remote) ∧ w.cell? ⟨g0, i * 6 + 4, none⟩ = some (.int .i64 l[i].size) ∧ w.cell? ⟨g0, i * 6 + 5, none⟩ = some (.slice l[i].A l[i].data.length l[i].c) ∧
    w.frozen? ⟨g0, i * 6, none⟩ = false ∧ w.frozen? ⟨g0, i * 6 + 1, none⟩ = false ∧ w.frozen? ⟨g0, i * 6 + 2, none⟩ = false ∧ w.frozen? ⟨g0, i * 6 + 3, none⟩ = false ∧ w.frozen? ⟨g0, i * 6 + 4, none⟩ = false ∧ w.frozen? ⟨g0, i * 6 + 5, none⟩ = false := by
  have e : ∀ k, k < 6 → w.cell? ⟨g0, i * 6 + k, none⟩ = l[i].cells[k]? := fun k hk => by
    rw [h.1.cellAt (i * 6 + k) (by omega), flat_at l i hi k hk]
  exact ⟨e 0 (by decide), e 1 (by decide), e 2 (by decide), e 3 (by decide), e 4 (by decide), e 5 (by decide), h.1.frozenAt _, h.1.frozenAt _, h.1.frozenAt _, h.1.frozenAt _, h.1.frozenAt _, h.1.frozenAt _⟩

theorem OwnQ.formN {base n : Nat} {w : World} {v : Value} {l : List M.Fr} (h : OwnQ base w v l) (hn : l.length = n) (hl : 0 < n) : ∃ g0 c, v = .slice (some ⟨g0, 0, none⟩) n c ∧ base ≤ g0 ∧ c ≤ 9223372036854775807 := by
  subst hn
  exact h.form hl
theorem OwnQ.at6N {base n : Nat} {w : World} {g0 c : Nat} {l : List M.Fr} (h : OwnQ base w (.slice (some ⟨g0, 0, none⟩) n c) l) (hn : l.length = n) {i : Nat} (hi : i < n) : ∃ x : M.Fr,
    w.cell? ⟨g0, i * 6, none⟩ = some (.int .i64 x.id) ∧ w.cell? ⟨g0, i * 6 + 1, none⟩ = some (.bool x.long) ∧ w.cell? ⟨g0, i * 6 + 2, none⟩ = some (.bool x.fast) ∧ w.cell? ⟨g0, i * 6 + 3, none⟩ = some (.bool x.remote) ∧ w.cell? ⟨g0, i * 6 + 4, none⟩ = some (.int .i64 x.size) ∧ w.cell? ⟨g0, i * 6 + 5, none⟩ = some (.slice x.A x.data.length x.c) ∧
    w.frozen? ⟨g0, i * 6, none⟩ = false ∧ w.frozen? ⟨g0, i * 6 + 1, none⟩ = false ∧ w.frozen? ⟨g0, i * 6 + 2, none⟩ = false ∧ w.frozen? ⟨g0, i * 6 + 3, none⟩ = false ∧ w.frozen? ⟨g0, i * 6 + 4, none⟩ = false ∧ w.frozen? ⟨g0, i * 6 + 5, none⟩ = false := by
  subst hn
  exact ⟨l[i], h.at6 hi⟩
theorem OwnQ.setAtN {base n : Nat} {w : World} {g0 c : Nat} {l : List M.Fr} (h : OwnQ base w (.slice (some ⟨g0, 0, none⟩) n c) l) (hn : l.length = n) {i : Nat} (hi : i < n) {g : M.Fr} (hg : g.own base w) :
    OwnQ base ((((((w.setCell ⟨g0, i * 6, none⟩ (.int .i64 g.id)).setCell ⟨g0, i * 6 + 1, none⟩ (.bool g.long)).setCell ⟨g0, i * 6 + 2, none⟩ (.bool g.fast)).setCell ⟨g0, i * 6 + 3, none⟩ (.bool g.remote)).setCell ⟨g0, i * 6 + 4, none⟩ (.int .i64 g.size)).setCell ⟨g0, i * 6 + 5, none⟩ (.slice g.A g.data.length g.c)) (.slice (some ⟨g0, 0, none⟩) n c) (l.set i g) ∧
    Below base w ((((((w.setCell ⟨g0, i * 6, none⟩ (.int .i64 g.id)).setCell ⟨g0, i * 6 + 1, none⟩ (.bool g.long)).setCell ⟨g0, i * 6 + 2, none⟩ (.bool g.fast)).setCell ⟨g0, i * 6 + 3, none⟩ (.bool g.remote)).setCell ⟨g0, i * 6 + 4, none⟩ (.int .i64 g.size)).setCell ⟨g0, i * 6 + 5, none⟩ (.slice g.A g.data.length g.c)) := by
  subst hn
  exact h.setAt hi hg

theorem map_set {l l' : List M.Fr} {f g : M.Fr} (hl : l'.map M.Fr.abs = l.map M.Fr.abs) (hg : g.abs = f.abs) (i : Nat) : (l'.set i g).map M.Fr.abs = (l.map M.Fr.abs).set i f.abs := by rw [List.map_set, hl, hg]

theorem M.qrenew_some {l : List M.Frm} {f : M.Frm} {i : Nat} (h : 0 = M.qchk l) (hc : f.chk = 0) (hn : M.nameAt f.name l = some i) : M.qrenew l f = (l.set i f, 0) := by
  unfold M.qrenew
  rw [← h, if_neg (by simp), if_neg (by rw [hc]; simp), hn]
theorem M.qrenew_none {l : List M.Frm} {f : M.Frm} (h : 0 = M.qchk l) (hc : f.chk = 0) (hn : M.nameAt f.name l = none) : M.qrenew l f = M.qput l f := by
  unfold M.qrenew
  rw [← h, if_neg (by simp), if_neg (by rw [hc]; simp), hn]

set_option maxRecDepth 100000 in
set_option maxHeartbeats 1600000 in
/-- queue.Renew of a right queue and a right frame. -/
theorem qrenew_good (A : Option Addr) (n c : Nat) (l : List M.Fr) (f : M.Fr) (hd : ∀ f ∈ l, f.data.length ≤ 140737488355328) (hfd : f.data.length ≤ 140737488355328) (w : World) (h : Frs w A n l) (hfo : f.ok w) (hy : 0 = M.qchk (l.map M.Fr.abs)) (hck : f.abs.chk = 0) (q : List M.Frm) (z : Int) (hr : (q, z) = M.qrenew (l.map M.Fr.abs) f.abs) :
    Calls Tryd.prog 13 #[.slice A n c, .agg #[.int .i64 f.id, .bool f.long, .bool f.fast, .bool f.remote, .int .i64 f.size, .slice f.A f.data.length f.c]] w fun e w' =>
      ∃ (v : Value) (l' : List M.Fr), e = .returned (.tuple #[v, .int .i64 z]) ∧ OwnQ w.heap.size w' v l' ∧ l'.map M.Fr.abs = q ∧ Below w.heap.size w w' := by
  have hl := Lib.hid h.len
  have H := Lib.hid h
  have HD := Lib.hid hd
  have HO := Lib.hid hfo
  have hbox : ∀ (o : Obj), Below w.heap.size w (w.alloc o) := fun o => (Below.refl _ _).alloc (Nat.le_refl _) _
  have HB := Lib.hid hbox
  have HY := Lib.hid hy
  have hs := (M.qchk_zero).1 hy.symm
  have hn16 : n ≤ 16 := by
    have := hs.1
    rw [List.length_map, hl.out] at this
    exact this
  have HS := Lib.hid hs.2
  have HK := Lib.hid (show M.fchk f.id f.long f.fast f.remote f.size f.data.length = 0 from hck)
  have HR := Lib.hid hr
  have HK2 := Lib.hid hck
  have hn48 : n * 48 ≤ 140737488355328 := by omega
  clear hs h hd hfo hbox hy hck hr
  go_enter Tryd.func13, Tryd.ntmps13
  go_wp2_with (first
    | (go_at_call 15; refine (qcheck_any A n c l _ (H.out.below (HB.out _)) 0 HY.out).mono ?_; rintro e w1 ⟨rfl, hb1⟩; have HX := Lib.hid ((BoxF.start (Below.refl _ w)).step hb1); obtain ⟨x0, x1, x2, x3, x4, x5, -, -⟩ := HX.out.flat)
    | (go_at_call 32; refine (name_good f.id f.long f.fast f.remote f.size f.A f.data.length f.c _ HK.out).mono ?_; rintro e w2 ⟨s1, hs1, rfl, hb2⟩; have HX2 := Lib.hid (HX.out.step hb2); have HS1 := Lib.hid (show s1.data.toList = f.abs.name from hs1); clear hs1))
  clear x0 x1 x2 x3 x4 x5
  go_loopw [29] (fun i wr => ∃ (j : Nat), j ≤ n ∧ i = .int .i64 j ∧ (∀ (k : Nat) (x : M.Fr), k < j → l[k]? = some x → x.abs.name ≠ f.abs.name) ∧ BoxF w w.heap.size f wr) (fun i _ => n - (intOf i).toNat)
  case atStart => exact ⟨0, Nat.zero_le _, rfl, fun k x hk => by omega, HX2.out⟩
  case round =>
    obtain ⟨j, hj, rfl, hno, hX⟩ := hrel
    have HX3 := Lib.hid hX
    have HNO := Lib.hid hno
    clear hX hno
    by_cases hlt : j < n
    · obtain ⟨a, x, rfl, hx, hR⟩ := H.out.cells_ hlt
      obtain ⟨p0, p1, p2, p3, p4, p5⟩ := (hR wr HX3.out.bel).2
      have HXX := Lib.hid hx
      have HKX := Lib.hid (show M.fchk x.id x.long x.fast x.remote x.size x.data.length = 0 from srt_good HS.out x (List.mem_of_getElem? hx))
      have HX4 := Lib.hid (fun o => HX3.out.alloc o)
      clear hx hR
      by_cases hnm : x.abs.name = f.abs.name
      · have HNM := Lib.hid hnm
        clear hnm
        have hn0 : 0 < n := by omega
        go_wp2_with (first
          | (go_at_call 32; refine (name_good x.id x.long x.fast x.remote x.size x.A x.data.length x.c _ HKX.out).mono ?_; rintro e w3 ⟨s2, hs2, rfl, hb3⟩; have HX5 := Lib.hid ((HX4.out _).step hb3); have hbl : (s2.toList == s1.toList) = true := names_eqb hs2 HS1.out HNM.out; clear hs2)
          | (go_at_call 25; refine (own_any (some a) n c l hn48 HD.out _ (H.out.below HX5.out.bel)).mono ?_; rintro e w4 ⟨v3, l3, rfl, ho3, ha3, hg3, hb4⟩; have HX6 := Lib.hid (HX5.out.step hb4); have HA3 := Lib.hid ha3; have HQ3 := Lib.hid (show OwnQ w3.heap.size w4 v3 l3 from ⟨(len_of ha3 hl.out).symm ▸ ho3, hg3⟩); have HLN := Lib.hid (len_of ha3 hl.out); obtain ⟨g0, c3, rfl, hg0, hc3⟩ := HQ3.out.formN (len_of ha3 hl.out) hn0; obtain ⟨x0, x1, x2, x3, x4, x5, -, -⟩ := HX6.out.flat; clear ho3 hg3)
          | (go_at_call 28; refine (copy_any_agg f hfd _ (HO.out.below HX6.out.bel)).mono ?_; rintro e w5 ⟨g, hga, rfl, hgo, hb5⟩; have HX7 := Lib.hid (HX6.out.step hb5); have HGA := Lib.hid hga; have HQ5 := Lib.hid ((HQ3.out.step hb5).weaken (Nat.le_of_lt HX5.out.lt)); have HG5 := Lib.hid (own_weaken hgo (Nat.le_of_lt HX6.out.lt)); obtain ⟨xx, y0, y1, y2, y3, y4, y5, z0, z1, z2, z3, z4, z5⟩ := HQ5.out.at6N HLN.out hlt; clear hga hgo x0 x1 x2 x3 x4 x5))
        go_ret2
        have hqz : (q, z) = ((l.map M.Fr.abs).set j f.abs, (0 : Int)) := HR.out.trans (M.qrenew_some HY.out HK2.out (nameAt_some (names_of HNO.out) (by rw [List.getElem?_map, HXX.out]; rfl) HNM.out))
        injection hqz with hq hz
        subst hz
        have hfin := HQ5.out.setAtN HLN.out hlt HG5.out
        refine ⟨_, l3.set j g, rfl, hfin.1, ?_, HX7.out.bel.trans hfin.2⟩
        rw [map_set HA3.out HGA.out j, hq]
      · have HNM := Lib.hid hnm
        clear hnm
        go_wp2_with (go_at_call 32; refine (name_good x.id x.long x.fast x.remote x.size x.A x.data.length x.c _ HKX.out).mono ?_; rintro e w3 ⟨s2, hs2, rfl, hb3⟩; have HX5 := Lib.hid ((HX4.out _).step hb3); have hbl : (s2.toList == s1.toList) = false := names_neb hs2 HS1.out HNM.out; clear hs2)
        go_roundw
        case rel =>
          refine ⟨j + 1, by omega, by go_num, fun k y hk hy => ?_, HX5.out⟩
          rcases Nat.lt_or_ge k j with h1 | h1
          · exact HNO.out k y h1 hy
          · obtain rfl : k = j := by omega
            have h2 := HXX.out
            rw [hy] at h2
            cases h2
            exact HNM.out
        case measure => simp [intOf]; omega
    · obtain rfl : j = n := by omega
      have hqz : (q, z) = M.qput (l.map M.Fr.abs) f.abs := HR.out.trans (M.qrenew_none HY.out HK2.out (nameAt_none fun k y hy => by
        have hlt2 := (List.getElem?_eq_some_iff.1 hy).1
        rw [List.length_map, hl.out] at hlt2
        exact names_of HNO.out k y hlt2 hy))
      have HQZ := Lib.hid hqz
      obtain ⟨x0, x1, x2, x3, x4, x5, -, -⟩ := HX3.out.flat
      clear hqz
      go_wp2_with (go_at_call 12; refine (qput_any A j c l f HD.out hfd _ (H.out.below HX3.out.bel) (HO.out.below HX3.out.bel) q z HQZ.out).mono ?_; rintro e w3 ⟨v3, l3, rfl, ho3, ha3, hb3⟩; have HO3 := Lib.hid ho3; have HA3 := Lib.hid ha3; clear ho3 ha3)
      go_ret2
      exact ⟨v3, l3, rfl, HO3.out.weaken (Nat.le_of_lt HX3.out.lt), HA3.out, HX3.out.bel.trans (hb3.mono HX3.out.bel.size)⟩

set_option maxRecDepth 100000 in
set_option maxHeartbeats 1600000 in
theorem qrenew_any (A : Option Addr) (n c : Nat) (l : List M.Fr) (f : M.Fr) (hd : ∀ f ∈ l, f.data.length ≤ 140737488355328) (hfd : f.data.length ≤ 140737488355328) (w : World) (h : Frs w A n l) (hfo : f.ok w) (q : List M.Frm) (z : Int) (hr : (q, z) = M.qrenew (l.map M.Fr.abs) f.abs) :
    Calls Tryd.prog 13 #[.slice A n c, .agg #[.int .i64 f.id, .bool f.long, .bool f.fast, .bool f.remote, .int .i64 f.size, .slice f.A f.data.length f.c]] w fun e w' =>
      ∃ (v : Value) (l' : List M.Fr), e = .returned (.tuple #[v, .int .i64 z]) ∧ OwnQ w.heap.size w' v l' ∧ l'.map M.Fr.abs = q ∧ Below w.heap.size w w' := by
  obtain ⟨y, hy⟩ : ∃ y, y = M.qchk (l.map M.Fr.abs) := ⟨_, rfl⟩
  have hbox : ∀ (o : Obj), Below w.heap.size w (w.alloc o) := fun o => (Below.refl _ _).alloc (Nat.le_refl _) _
  by_cases h0 : y = 0
  · subst h0
    obtain ⟨x, hx⟩ : ∃ x, M.fchk f.id f.long f.fast f.remote f.size f.data.length = x := ⟨_, rfl⟩
    by_cases hck : x = 0
    · subst hck
      exact qrenew_good A n c l f hd hfd w h hfo hy hx q z hr
    · have hz : q = [] ∧ z = x := by
        unfold M.qrenew at hr
        rw [← hy, if_neg (by simp), if_pos (by rw [show f.abs.chk = x from hx]; exact hck), show f.abs.chk = x from hx] at hr
        exact ⟨by injection hr, by injection hr⟩
      obtain ⟨rfl, rfl⟩ := hz
      have hy2 : (z != 0) = true := by rw [bne_iff_ne]; exact hck
      have H := Lib.hid h
      have HB := Lib.hid hbox
      have HY := Lib.hid hy
      have HK := Lib.hid hx
      have HCK := Lib.hid hck
      clear hr hy h hx hbox hfo hd hck
      go_enter Tryd.func13, Tryd.ntmps13
      go_wp2_with (first
        | (go_at_call 15; refine (qcheck_any A n c l _ (H.out.below (HB.out _)) 0 HY.out).mono ?_; rintro e w1 ⟨rfl, hb1⟩; have HX := Lib.hid ((BoxF.start (Below.refl _ w)).step hb1); obtain ⟨x0, x1, x2, x3, x4, x5, -, -⟩ := HX.out.flat)
        | (go_at_call 32; refine (name_bad f.id f.long f.fast f.remote f.size f.A f.data.length f.c _ z HK.out HCK.out).mono ?_; rintro e w2 ⟨rfl, hb2⟩; have hbe := HX.out.bel.trans (hb2.mono HX.out.bel.size)))
      go_ret2
      exact ⟨_, [], rfl, OwnQ.nil_ _ _, rfl, hbe⟩
  · have hz : q = [] ∧ z = y := by
      unfold M.qrenew at hr
      rw [← hy, if_pos h0] at hr
      exact ⟨by injection hr, by injection hr⟩
    obtain ⟨rfl, rfl⟩ := hz
    have hy2 : (z != 0) = true := by rw [bne_iff_ne]; exact h0
    have H := Lib.hid h
    have HB := Lib.hid hbox
    have HY := Lib.hid hy
    clear hr hy h hbox hfo hd h0
    go_enter Tryd.func13, Tryd.ntmps13
    go_wp2_with (go_at_call 15; refine (qcheck_any A n c l _ (H.out.below (HB.out _)) z HY.out).mono ?_; rintro e w1 ⟨rfl, hb1⟩; have hbe := (HB.out _).trans (hb1.mono (HB.out _).size))
    go_ret2
    exact ⟨_, [], rfl, OwnQ.nil_ _ _, rfl, hbe⟩
end Go.Proofs.YtlfdpcddbnkpjaaDoor
