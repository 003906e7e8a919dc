/-
  The walks of slices.Clone of frames and of the document's PutFrame.
-/
import Derived.Test.YtlfdpcddbnkpjaaDoorQueueW9
import Derived.Test.YtlfdpcddbnkpjaaDoorQueueW2
namespace Go.Proofs.YtlfdpcddbnkpjaaDoor
open Go.RowKit Go.ChangeShapes Go.WideShapes

set_option maxRecDepth 100000 in
/-- slices.Clone of frames: a slice of the call's own, of the same cells; nil of nil. -/
theorem clone_frames_cells (A : Option Addr) (n c : Nat) (news : List Value) (hn : n * 48 ≤ 140737488355328) (w : World) (h : Reads w w.heap.size 6 A n news) (h1 : ∀ u ∈ news, u.oneCell' = true) :
    Calls Tryd.prog 20 #[.slice A n c] w fun e w' => ∃ v, e = .returned v ∧ w'.ownsRow w.heap.size 30 6 v n news ∧ Below w.heap.size w w' := by
  obtain ⟨i0, hi, hz0, hz1, hz2⟩ := info_parts Tryd.infoFrame
  have q : ∀ (w : World) (a : Option Addr) (n c n' c' : Nat), (binOp .eql 22 (.slice a n c) (.slice none n' c')).run Tryd.prog w = .ok (.bool a.isNone) w := fun w a n c n' c' => Lib.run_eql_slice_nil w _ _ a n c n' c' Tryd.underlying22
  cases A with
  | none =>
    obtain rfl : n = 0 := by
      rcases Nat.eq_zero_or_pos n with h0 | h0
      · exact h0
      · obtain ⟨ad, he, _⟩ := h.2 h0
        cases he
    obtain rfl : news = [] := List.eq_nil_of_length_eq_zero (by rw [h.1])
    go_enter Tryd.func20, Tryd.ntmps20
    go_wp2
    go_ret
    exact ⟨_, rfl, World.ownsRow_nil _ _ _ _, Below.refl _ _⟩
  | some ad =>
    have hnews : ∀ j u, news[j]? = some u → w.cell? (ad.add j) = some u := fun j u hu => by
      obtain ⟨ad', he, _, hc⟩ := h.2 (by
        rcases Nat.eq_zero_or_pos n with h0 | h0
        · subst h0
          have := (List.getElem?_eq_some_iff.1 hu).1
          rw [h.1] at this
          omega
        · exact h0)
      cases he
      exact hc j u hu
    have HL := Lib.hid h.1
    have HC := Lib.hid hnews
    have H1 := Lib.hid h1
    clear h hnews h1
    go_enter Tryd.func20, Tryd.ntmps20
    go_wp2_with (at_builtin; refine wpList_append_own _ rfl _ _ 22 rfl w.heap.size 30 i0 (.agg #[.int .i64 0, .bool false, .bool false, .bool false, .int .i64 0, .slice none 0 0]) 6 48 Tryd.underlying22 hi hz0 hz1 hz2 rfl (Nat.le_of_ble_eq_true rfl) _ _ _ rfl (World.ownsRow_made w #[] 0 (Nat.le_refl _) (Nat.zero_le _) (by simp)) ad n c news rfl ?qc1 ?qc2 ?qc3 ?qc4 ?qc5 ?qc6 ?_)
    case qc1 => exact HL.out
    case qc2 =>
      intro j u hj
      exact Lib.cell?_alloc_some _ (HC.out j u hj)
    case qc3 => exact H1.out
    case qc4 => rw [Nat.zero_add]; unfold maxLen; omega
    case qc5 => rw [Nat.zero_add]; exact hn
    case qc6 => simp
    intro v' w1 hown hgrow hnil
    go_wp2
    go_ret
    refine ⟨v', rfl, by simpa using hown, ?_⟩
    exact ((Below.refl _ w).alloc (Nat.le_refl _) _).grown hgrow (by simp) (by intro k hk; simp [Value.ownBlock] at hk; omega)

theorem Tab2.drew {w : World} (h : Tab2 w) : Tab2 w.drew := h

theorem insc_any (base : Nat) (v : Value) (n : Nat) (l : List M.Fr) (i : Nat) (g : M.Fr) (w0 : World) (hi : i ≤ n) (hn : (n + 1) * 48 ≤ 140737488355328) (hown : w0.ownsRow base 30 6 v n (l.flatMap M.Fr.cells)) (hB : base ≤ w0.heap.size) :
    Calls Tryd.prog 26 #[v, .int .i64 i, .slice (some ⟨w0.heap.size, 0, none⟩) 1 1] (w0.alloc (.cells #[.int .i64 g.id, .bool g.long, .bool g.fast, .bool g.remote, .int .i64 g.size, .slice g.A g.data.length g.c] 30)) fun e w' =>
      ∃ v', e = .returned v' ∧ w'.ownsRow base 30 6 v' (n + 1) ((l.take i ++ g :: l.drop i).flatMap M.Fr.cells) ∧ Below base w0 w' := by
  have hlt : ∀ k, v.ownBlock = some k → base ≤ k ∧ k < w0.heap.size := hown.lt
  refine (insert_any base v n i _ g.cells w0.heap.size _ hi hn (hown.alloc _) flat_cells (Blk.new w0 _ _) rfl (six_cells g) (fun e => ?_) (by simp; omega)).mono fun e w' ⟨v', he, ho, hgr⟩ => ⟨v', he, ?_, ?_⟩
  · have := (hlt _ e).2
    omega
  · rw [flat_take, flat_drop] at ho
    have e2 : (l.take i ++ g :: l.drop i).flatMap M.Fr.cells = (l.take i).flatMap M.Fr.cells ++ g.cells ++ (l.drop i).flatMap M.Fr.cells := by simp
    rw [e2]
    exact ho
  · exact ((Below.refl base w0).alloc hB _).grown hgr (by simp; omega) (fun k hk => (hlt k hk).1)

theorem insd_any (base : Nat) (v : Value) (n : Nat) (l : List M.Fr) (i : Nat) (g : M.Fr) (vb : Nat) (w0 : World) (hi : i ≤ n) (hn : (n + 1) * 48 ≤ 140737488355328) (hown : w0.ownsRow base 30 6 v n (l.flatMap M.Fr.cells)) (hB : base ≤ w0.heap.size) (hvb : Blk w0 vb 30 g.cells.toArray) (hlv : vb < base) :
    Calls Tryd.prog 26 #[v, .int .i64 i, .slice (some ⟨vb, 0, none⟩) 1 1] w0 fun e w' =>
      ∃ v', e = .returned v' ∧ w'.ownsRow base 30 6 v' (n + 1) ((l.take i ++ g :: l.drop i).flatMap M.Fr.cells) ∧ Below base w0 w' := by
  have hlt : ∀ k, v.ownBlock = some k → base ≤ k ∧ k < w0.heap.size := hown.lt
  refine (insert_any base v n i _ g.cells vb _ hi hn hown flat_cells hvb rfl (six_cells g) (fun e => ?_) hB).mono fun e w' ⟨v', he, ho, hgr⟩ => ⟨v', he, ?_, ?_⟩
  · have := (hlt _ e).1
    omega
  · rw [flat_take, flat_drop] at ho
    have e2 : (l.take i ++ g :: l.drop i).flatMap M.Fr.cells = (l.take i).flatMap M.Fr.cells ++ g.cells ++ (l.drop i).flatMap M.Fr.cells := by simp
    rw [e2]
    exact ho
  · exact (Below.refl base w0).grown hgr hB (fun k hk => (hlt k hk).1)

theorem blk_box {wr w5 : World} {f : M.Fr} (hb : Below (wr.alloc (.cells #[.int .i64 f.id, .bool f.long, .bool f.fast, .bool f.remote, .int .i64 f.size, .slice f.A f.data.length f.c] 30)).drew.heap.size (wr.alloc (.cells #[.int .i64 f.id, .bool f.long, .bool f.fast, .bool f.remote, .int .i64 f.size, .slice f.A f.data.length f.c] 30)).drew w5) : Blk w5 wr.heap.size 30 f.cells.toArray :=
  (Blk.new wr 30 f.cells.toArray).drew.below hb (Blk.new wr 30 f.cells.toArray).lt

/-- Two boxed frames and the table, kept. -/
theorem BoxF.flat2 {w wx : World} {b b2 : Nat} {f x : M.Fr} (h : BoxF w b f wx) (h2 : BoxF w b2 x wx) (ht : Tab2 wx) :
    wx.cell? ⟨b, 0, none⟩ = some (.int .i64 f.id) ∧ wx.cell? ⟨b, 1, none⟩ = some (.bool f.long) ∧ wx.cell? ⟨b, 2, none⟩ = some (.bool f.fast) ∧ wx.cell? ⟨b, 3, none⟩ = some (.bool f.remote) ∧ wx.cell? ⟨b, 4, none⟩ = some (.int .i64 f.size) ∧ wx.cell? ⟨b, 5, none⟩ = some (.slice f.A f.data.length f.c) ∧
    wx.cell? ⟨b2, 0, none⟩ = some (.int .i64 x.id) ∧ wx.cell? ⟨b2, 1, none⟩ = some (.bool x.long) ∧ wx.cell? ⟨b2, 2, none⟩ = some (.bool x.fast) ∧ wx.cell? ⟨b2, 3, none⟩ = some (.bool x.remote) ∧ wx.cell? ⟨b2, 4, none⟩ = some (.int .i64 x.size) ∧ wx.cell? ⟨b2, 5, none⟩ = some (.slice x.A x.data.length x.c) ∧ b < wx.heap.size ∧ b2 < wx.heap.size ∧ Tab2 wx ∧ Below w.heap.size w wx := by
  obtain ⟨⟨b0, b1, b2, b3, b4, b5⟩, l, be⟩ := h
  obtain ⟨⟨c0, c1, c2, c3, c4, c5⟩, l2, _⟩ := h2
  exact ⟨b0, b1, b2, b3, b4, b5, c0, c1, c2, c3, c4, c5, l, l2, ht, be⟩

theorem two_leq {a b : ByteArray} {l m : List UInt8} {q : Bool} (ha : a.data.toList = l) (hb : b.data.toList = m) (h : M.leq l m = q) : (Op.bytesLess a.toList b.toList || a.toList == b.toList) = q := by
  rw [list_data, list_data, ha, hb]
  exact h

theorem atTo_succ {l : List M.Fr} {j : Nat} {x : M.Fr} (t : List UInt8) (h : l[j]? = some x) : M.atTo (l.map M.Fr.abs) t (j + 1) = if M.leq x.abs.name t = true then j + 1 else M.atTo (l.map M.Fr.abs) t j := by
  rw [M.atTo, List.getElem?_map, h]
  rfl

set_option maxRecDepth 100000 in
set_option maxHeartbeats 3200000 in
theorem putFrame_any (A : Option Addr) (n c : Nat) (l : List M.Fr) (f : M.Fr) (hn : n ≤ 1000000) (w : World) (h : Frs w A n l) (hfo : f.ok w) (hg : ∀ x ∈ l, x.abs.chk = 0) (hck : f.abs.chk = 0) (ht : Tab2 w) :
    Calls Tryd.prog 9 #[.slice A n c, .agg #[.int .i64 f.id, .bool f.long, .bool f.fast, .bool f.remote, .int .i64 f.size, .slice f.A f.data.length f.c]] w fun e w' =>
      ∃ (v : Value) (k : Nat), e = .returned v ∧ k = M.atTo (l.map M.Fr.abs) f.abs.name n ∧ k ≤ n ∧ w'.ownsRow w.heap.size 30 6 v (n + 1) ((l.take k ++ f :: l.drop k).flatMap M.Fr.cells) ∧ Below w.heap.size w w' := by
  have hl := Lib.hid h.len
  have H := Lib.hid h
  have HO := Lib.hid hfo
  have HG := Lib.hid hg
  have HT := Lib.hid ht
  have HK := Lib.hid (show M.fchk f.id f.long f.fast f.remote f.size f.data.length = 0 from hck)
  have HX := Lib.hid (@BoxF.start w w 30 f (Below.refl _ _))
  have hn48 : n * 48 ≤ 140737488355328 := by omega
  have hn49 : (n + 1) * 48 ≤ 140737488355328 := by omega
  clear h hfo hg hck ht
  go_enter Tryd.func9, Tryd.ntmps9
  go_wp2
  go_loopw [5, 10] (fun at_ i wr => ∃ (j k : Nat), j ≤ n ∧ i = .int .i64 j ∧ at_ = .int .i64 k ∧ k ≤ j ∧ k = M.atTo (l.map M.Fr.abs) f.abs.name j ∧ BoxF w w.heap.size f wr) (fun _ i _ => n - (intOf i).toNat)
  case atStart => exact ⟨0, 0, Nat.zero_le _, rfl, rfl, Nat.le_refl _, rfl, HX.out⟩
  case round =>
    obtain ⟨j, k, hj, rfl, rfl, hkj, hk, hX⟩ := hrel
    have HX3 := Lib.hid hX
    have HKK := Lib.hid hk
    clear hX hk
    by_cases hlt : j < n
    · obtain ⟨a, x, rfl, hx, hR⟩ := H.out.cells_ hlt
      obtain ⟨p0, p1, p2, p3, p4, p5⟩ := (hR wr HX3.out.bel).2
      have HXX := Lib.hid hx
      have HKX := Lib.hid (show M.fchk x.id x.long x.fast x.remote x.size x.data.length = 0 from HG.out x (List.mem_of_getElem? hx))
      obtain ⟨q, hq⟩ : ∃ q, M.leq x.abs.name f.abs.name = q := ⟨_, rfl⟩
      have HQ := Lib.hid hq
      have hX4 := HX3.out.alloc (.cells #[.int .i64 x.id, .bool x.long, .bool x.fast, .bool x.remote, .int .i64 x.size, .slice x.A x.data.length x.c] 30)
      have hY4 := @BoxF.start w wr 30 x HX3.out.bel
      have hT4 := HT.out.below hX4.bel
      clear hx hR hq
      go_upto_region 5 with fail
      generalize hW : wr.alloc _ = w4 at hX4 hY4 hT4 ⊢
      have HX4 := Lib.hid hX4
      have HY4 := Lib.hid hY4
      have HT4 := Lib.hid hT4
      clear hX4 hY4 hT4 hW p0 p1 p2 p3 p4 p5
      have hsp : q = true ∨ q = false := by cases q <;> simp
      cases q
      all_goals
        clear hsp
        go_region_held3 (fun wx => wx.cell? ⟨w.heap.size, 0, none⟩ = some (.int .i64 f.id) ∧ wx.cell? ⟨w.heap.size, 1, none⟩ = some (.bool f.long) ∧ wx.cell? ⟨w.heap.size, 2, none⟩ = some (.bool f.fast) ∧ wx.cell? ⟨w.heap.size, 3, none⟩ = some (.bool f.remote) ∧ wx.cell? ⟨w.heap.size, 4, none⟩ = some (.int .i64 f.size) ∧ wx.cell? ⟨w.heap.size, 5, none⟩ = some (.slice f.A f.data.length f.c) ∧ wx.cell? ⟨wr.heap.size, 0, none⟩ = some (.int .i64 x.id) ∧ wx.cell? ⟨wr.heap.size, 1, none⟩ = some (.bool x.long) ∧ wx.cell? ⟨wr.heap.size, 2, none⟩ = some (.bool x.fast) ∧ wx.cell? ⟨wr.heap.size, 3, none⟩ = some (.bool x.remote) ∧ wx.cell? ⟨wr.heap.size, 4, none⟩ = some (.int .i64 x.size) ∧ wx.cell? ⟨wr.heap.size, 5, none⟩ = some (.slice x.A x.data.length x.c) ∧ w.heap.size < wx.heap.size ∧ wr.heap.size < wx.heap.size ∧ Tab2 wx ∧ Below w.heap.size w wx)
          (first | exact HX4.out.flat2 HY4.out HT4.out | exact HX4.out.drew.flat2 HY4.out.drew HT4.out.drew | exact HX5.out.flat2 HY5.out HT5.out | exact HX6.out.flat2 HY6.out HT6.out)
          (first
            | (go_at_call_of 19 (Value.agg #[.int .i64 x.id, .bool x.long, .bool x.fast, .bool x.remote, .int .i64 x.size, .slice x.A x.data.length x.c]); refine (nameOf_any x.id x.long x.fast x.remote x.size x.A x.data.length x.c _ HKX.out HT4.out.drew).mono ?_; rintro e w5 ⟨s1, hs1, rfl, hb5⟩; have HX5 := Lib.hid (HX4.out.drew.step hb5); have HY5 := Lib.hid (HY4.out.drew.step hb5); have HT5 := Lib.hid (Tab2.below HT4.out.drew hb5); have HS1 := Lib.hid hs1; clear hs1)
            | (go_at_call_of 19 (Value.agg #[.int .i64 f.id, .bool f.long, .bool f.fast, .bool f.remote, .int .i64 f.size, .slice f.A f.data.length f.c]); refine (nameOf_any f.id f.long f.fast f.remote f.size f.A f.data.length f.c _ HK.out HT5.out).mono ?_; rintro e w6 ⟨s2, hs2, rfl, hb6⟩; have HX6 := Lib.hid (HX5.out.step hb6); have HY6 := Lib.hid (HY5.out.step hb6); have HT6 := Lib.hid (Tab2.below HT5.out hb6); have hbl := two_leq HS1.out hs2 HQ.out; clear hs2))
        go_wp2
        go_roundw
        case measure => simp [intOf]; omega
      · exact ⟨j + 1, k, by omega, by go_num, rfl, by omega, by rw [atTo_succ _ HXX.out, if_neg (by rw [HQ.out]; exact Bool.false_ne_true), HKK.out], HX6.out⟩
      · exact ⟨j + 1, j + 1, by omega, by go_num, by go_num, Nat.le_refl _, by rw [atTo_succ _ HXX.out, if_pos HQ.out], HX6.out⟩
    · obtain rfl : j = n := by omega
      have hTT := HT.out.below HX3.out.bel
      have HTT := Lib.hid hTT
      clear hTT
      go_upto_region 8 with fail
      go_region_held3 (fun wx => wx.cell? ⟨w.heap.size, 0, none⟩ = some (.int .i64 f.id) ∧ wx.cell? ⟨w.heap.size, 1, none⟩ = some (.bool f.long) ∧ wx.cell? ⟨w.heap.size, 2, none⟩ = some (.bool f.fast) ∧ wx.cell? ⟨w.heap.size, 3, none⟩ = some (.bool f.remote) ∧ wx.cell? ⟨w.heap.size, 4, none⟩ = some (.int .i64 f.size) ∧ wx.cell? ⟨w.heap.size, 5, none⟩ = some (.slice f.A f.data.length f.c) ∧ w.heap.size < wx.heap.size ∧ Below w.heap.size w wx)
        (first | exact HX3.out.flat | exact HX3.out.drew.flat | exact (HX3.out.alloc _).flat | exact (HX3.out.alloc _).drew.flat | exact HX5.out.flat | exact (HX5.out.alloc _).flat | exact HX6.out.flat)
        (first
          | (go_at_call 20; refine (clone_frames_cells A j c (l.flatMap M.Fr.cells) hn48 wr.drew (H.out.below HX3.out.drew.bel).1 flat_cells).mono ?_; rintro e w5 ⟨v5, rfl, ho5, hb5⟩; have HX5 := Lib.hid (HX3.out.drew.step hb5); have HO5 := Lib.hid (own_weaken ho5 (Nat.succ_le_of_lt HX3.out.lt)); clear ho5)
          | (go_at_call 20; refine (clone_frames_cells A j c (l.flatMap M.Fr.cells) hn48 _ (H.out.below (HX3.out.alloc _).drew.bel).1 flat_cells).mono ?_; rintro e w5 ⟨v5, rfl, ho5, hb5⟩; have HX5 := Lib.hid ((HX3.out.alloc _).drew.step hb5); have HO5 := Lib.hid ho5; have HV5 := Lib.hid (blk_box hb5); have hbs := hb5.size; clear ho5)
          | (go_at_call 26; refine (insc_any (w.heap.size + 1) v5 j l k f w5 hkj hn49 HO5.out (Nat.succ_le_of_lt HX5.out.lt)).mono ?_; rintro e w6 ⟨v6, rfl, ho6, hb6⟩; have HO6 := Lib.hid (own_weaken ho6 (Nat.le_succ _)); have HX6 := Lib.hid (HX5.out.stepB hb6 (Nat.lt_succ_self _) (Nat.le_succ _)); clear ho6)
          | (go_at_call 26; refine (insd_any _ v5 j l k f wr.heap.size w5 hkj hn49 HO5.out hbs HV5.out (Blk.new wr 30 #[.int .i64 f.id, .bool f.long, .bool f.fast, .bool f.remote, .int .i64 f.size, .slice f.A f.data.length f.c]).lt).mono ?_; rintro e w6 ⟨v6, rfl, ho6, hb6⟩; have HO6 := Lib.hid (own_weaken ho6 (HX3.out.alloc _).bel.size); have HX6 := Lib.hid (HX5.out.stepB hb6 (HX3.out.alloc _).lt (HX3.out.alloc _).bel.size); clear ho6))
      all_goals
        go_wp2
        go_ret
        exact ⟨v6, k, rfl, HKK.out, hkj, HO6.out, HX6.out.bel⟩
end Go.Proofs.YtlfdpcddbnkpjaaDoor
