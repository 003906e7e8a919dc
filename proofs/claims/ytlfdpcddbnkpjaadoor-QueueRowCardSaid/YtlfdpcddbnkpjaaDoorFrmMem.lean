/-
  Frames in memory: one frame's words with the address of its bytes; the walks of slices.Clone of bytes, frame.Copy and the document's OwnFrame.
-/
import Derived.Test.YtlfdpcddbnkpjaaDoorFrmW1
namespace Go.Proofs.YtlfdpcddbnkpjaaDoor
open Go.RowKit Go.ChangeShapes Go.WideShapes
namespace M
/-- A frame, and where its bytes lie. -/
structure Fr where
  id : Int
  long : Bool
  fast : Bool
  remote : Bool
  size : Int
  data : List UInt8
  A : Option Addr
  c : Nat
def Fr.abs (f : Fr) : Frm := ⟨f.id, f.long, f.fast, f.remote, f.size, f.data⟩
def Fr.val (f : Fr) : Value := fv f.id f.long f.fast f.remote f.size f.A f.data.length f.c
def Fr.cells (f : Fr) : List Value := [.int .i64 f.id, .bool f.long, .bool f.fast, .bool f.remote, .int .i64 f.size, .slice f.A f.data.length f.c]
def Fr.ok (w : World) (f : Fr) : Prop := SliceBytes w f.A f.data.length f.data
theorem Fr.ok.below {w w' : World} {f : Fr} (h : f.ok w) (hb : Below w.heap.size w w') : f.ok w' := SliceBytes.below h hb
end M

set_option maxRecDepth 100000 in
/-- slices.Clone[[]byte,byte]: a slice of the call's own, of the same cells; nil of nil. -/
theorem clone_bytes_cells (A : Option Addr) (n c : Nat) (news : List Value) (hn : n * 1 ≤ 140737488355328) (w : World) (h : Reads w w.heap.size 1 A n news) (h1 : ∀ u ∈ news, u.oneCell' = true) :
    Calls Tryd.prog 43 #[.slice A n c] w fun e w' => ∃ v, e = .returned v ∧ w'.ownsRow w.heap.size 5 1 v n news ∧ Below w.heap.size w w' := by
  obtain ⟨i0, hi, hz0, hz1, hz2⟩ := info_parts Tryd.infoU8
  have q : ∀ (w : World) (a : Option Addr) (n c n' c' : Nat), (binOp .eql 28 (.slice a n c) (.slice none n' c')).run Tryd.prog w = .ok (.bool a.isNone) w := fun w a n c n' c' => Lib.run_eql_slice_nil w _ _ a n c n' c' Tryd.underlying28
  cases A with
  | none =>
    obtain rfl : n = 0 := by
      rcases Nat.eq_zero_or_pos n with h0 | h0
      · exact h0
      · obtain ⟨ad, he, _⟩ := h.2 h0
        cases he
    obtain rfl : news = [] := List.eq_nil_of_length_eq_zero (by rw [h.1])
    go_enter Tryd.func43, Tryd.ntmps43
    go_wp2
    go_ret
    exact ⟨_, rfl, World.ownsRow_nil _ _ _ _, Below.refl _ _⟩
  | some ad =>
    have hnews : ∀ j u, news[j]? = some u → w.cell? (ad.add j) = some u := fun j u hu => by
      obtain ⟨ad', he, _, hc⟩ := h.2 (by
        rcases Nat.eq_zero_or_pos n with h0 | h0
        · subst h0
          have := (List.getElem?_eq_some_iff.1 hu).1
          rw [h.1] at this
          omega
        · exact h0)
      cases he
      exact hc j u hu
    have HL := Lib.hid h.1
    have HC := Lib.hid hnews
    have H1 := Lib.hid h1
    clear h hnews h1
    go_enter Tryd.func43, Tryd.ntmps43
    go_wp2_with (at_builtin; refine wpList_append_own _ rfl _ _ 28 rfl w.heap.size 5 i0 (.int .u8 0) 1 1 Tryd.underlying28 hi hz0 hz1 hz2 rfl (Nat.le_of_ble_eq_true rfl) _ _ _ rfl (World.ownsRow_made w #[] 0 (Nat.le_refl _) (Nat.zero_le _) (by simp)) ad n c news rfl ?qc1 ?qc2 ?qc3 ?qc4 ?qc5 ?qc6 ?_)
    case qc1 => exact HL.out
    case qc2 =>
      intro j u hj
      exact Lib.cell?_alloc_some _ (HC.out j u hj)
    case qc3 => exact H1.out
    case qc4 => rw [Nat.zero_add]; unfold maxLen; omega
    case qc5 => rw [Nat.zero_add]; exact hn
    case qc6 => simp
    intro v' w1 hown hgrow hnil
    go_wp2
    go_ret
    refine ⟨v', rfl, by simpa using hown, ?_⟩
    exact ((Below.refl _ w).alloc (Nat.le_refl _) _).grown hgrow (by simp) (by intro k hk; simp [Value.ownBlock] at hk; omega)

theorem own_weaken {w : World} {base base' : Nat} {e size n : Nat} {v : Value} {xs : List Value} (h : w.ownsRow base e size v n xs) (hb : base' ≤ base) : w.ownsRow base' e size v n xs := by
  refine ⟨h.1, ?_⟩
  rcases h.2 with h0 | ⟨g, cap, cur, hv, hbg, r⟩
  · exact .inl h0
  · exact .inr ⟨g, cap, cur, hv, Nat.le_trans hb hbg, r⟩

/-- Two rows of the call's own, of two element types, are apart. -/
theorem own_apart {w : World} {base base' : Nat} {e e' size size' n n' : Nat} {v v' : Value} {xs xs' : List Value} (h : w.ownsRow base e size v n xs) (h' : w.ownsRow base' e' size' v' n' xs') (hne : e ≠ e') : v.ownBlock = none ∨ v.ownBlock ≠ v'.ownBlock := by
  rcases h.2 with ⟨rfl, _⟩ | ⟨g, cap, cur, rfl, _, hh, _⟩
  · exact .inl rfl
  · refine .inr fun he => ?_
    rcases h'.2 with ⟨rfl, _⟩ | ⟨g', cap', cur', rfl, _, hh', _⟩
    · cases he
    · have : g = g' := by simpa [Value.ownBlock] using he
      subst this
      rw [hh] at hh'
      injection hh' with e1
      injection e1 with _ e2
      exact hne e2

/-- A frame whose bytes are the call's own. -/
def M.Fr.own (base : Nat) (w : World) (f : M.Fr) : Prop := w.ownsRow base 5 1 (.slice f.A f.data.length f.c) f.data.length (f.data.map bv)
theorem M.Fr.own.ok {base : Nat} {w : World} {f : M.Fr} (h : f.own base w) : f.ok w := Reads.of_own h

theorem one_bytes (xs : List UInt8) : ∀ u ∈ xs.map bv, u.oneCell' = true := by
  intro u hu
  obtain ⟨b, _, rfl⟩ := List.mem_map.1 hu
  rfl

/-- An owned row is a slice. -/
theorem own_slice {w : World} {base : Nat} {e size n : Nat} {v : Value} {xs : List Value} (h : w.ownsRow base e size v n xs) : ∃ A c, v = .slice A n c ∧ Reads w w.heap.size size A n xs := by
  rcases h.2 with ⟨rfl, rfl⟩ | ⟨g, cap, cur, rfl, _⟩
  · exact ⟨none, 0, rfl, Reads.of_own (e := e) (base := base) (c := 0) h⟩
  · exact ⟨_, cap, rfl, Reads.of_own h⟩

theorem clone_bytes (A : Option Addr) (n c : Nat) (xs : List UInt8) (hn : n ≤ 140737488355328) (w : World) (h : SliceBytes w A n xs) :
    Calls Tryd.prog 43 #[.slice A n c] w fun e w' => ∃ A' c', e = .returned (.slice A' n c') ∧ SliceBytes w' A' n xs ∧ Below w.heap.size w w' :=
  (clone_bytes_cells A n c (xs.map bv) (by omega) w h (one_bytes xs)).mono fun e w' ⟨v, he, ho, hb⟩ => by
    obtain ⟨A', c', rfl, hr⟩ := own_slice ho
    exact ⟨A', c', he, hr, hb⟩

theorem blk6 {w : World} {g : Nat} {t : TypeId} {a0 a1 a2 a3 a4 a5 : Value} (h : Blk w g t #[a0, a1, a2, a3, a4, a5]) :
    w.cell? ⟨g, 0, none⟩ = some a0 ∧ w.cell? ⟨g, 1, none⟩ = some a1 ∧ w.cell? ⟨g, 2, none⟩ = some a2 ∧ w.cell? ⟨g, 3, none⟩ = some a3 ∧ w.cell? ⟨g, 4, none⟩ = some a4 ∧ w.cell? ⟨g, 5, none⟩ = some a5 ∧
    w.frozen? ⟨g, 0, none⟩ = false ∧ w.frozen? ⟨g, 1, none⟩ = false ∧ w.frozen? ⟨g, 2, none⟩ = false ∧ w.frozen? ⟨g, 3, none⟩ = false ∧ w.frozen? ⟨g, 4, none⟩ = false ∧ w.frozen? ⟨g, 5, none⟩ = false :=
  ⟨h.cell 0, h.cell 1, h.cell 2, h.cell 3, h.cell 4, h.cell 5, h.frozen 0, h.frozen 1, h.frozen 2, h.frozen 3, h.frozen 4, h.frozen 5⟩

theorem two_boxes {w w1 : World} {t : TypeId} {cs ds : Array Value} (hb : Below ((w.alloc (.cells cs t)).alloc (.cells ds t)).heap.size ((w.alloc (.cells cs t)).alloc (.cells ds t)) w1) :
    Blk w1 w.heap.size t cs ∧ Blk w1 (w.heap.size + 1) t ds ∧ Below w.heap.size w w1 ∧ w.heap.size + 1 < w1.heap.size := by
  have h1 := (Blk.new w t cs).alloc (.cells ds t)
  have h2 := Blk.new (w.alloc (.cells cs t)) t ds
  have hs := hb.size
  simp only [World.size_alloc] at hs h2
  refine ⟨h1.below hb h1.lt, h2.below hb h2.lt, ?_, by omega⟩
  exact (((Below.refl _ _).alloc (Nat.le_refl _) _).alloc (by simp) _).trans (hb.mono (by simp; omega))

set_option maxRecDepth 100000 in
theorem copy_any (f : M.Fr) (hn : f.data.length ≤ 140737488355328) (w : World) (h : f.ok w) :
    Calls Tryd.prog 28 #[f.val] w fun e w' => ∃ g : M.Fr, g.abs = f.abs ∧ e = .returned g.val ∧ g.own w.heap.size w' ∧ Below w.heap.size w w' := by
  obtain ⟨id, lo, fa, re, sz, xs, A, c⟩ := f
  simp only [M.Fr.val, M.Fr.ok, fv] at h hn ⊢
  obtain ⟨n, hl⟩ : ∃ n, n = xs.length := ⟨_, rfl⟩
  rw [← hl] at h hn ⊢
  have hx : ∀ (o1 o2 : Obj), SliceBytes ((w.alloc o1).alloc o2) A n xs := fun o1 o2 => h.below (((Below.refl _ _).alloc (Nat.le_refl _) _).alloc (by simp) _)
  have HL := Lib.hid hl
  have HX := Lib.hid hx
  have hn1 := Lib.hid (show n * 1 ≤ 140737488355328 by omega)
  clear hl h hx
  go_enter Tryd.func28, Tryd.ntmps28
  go_wp2_with (go_at_call 43; refine (clone_bytes_cells A n c (xs.map bv) hn1.out _ (HX.out _ _) (one_bytes xs)).mono ?_; rintro e w1 ⟨v1, rfl, hown, hb1⟩; obtain ⟨A1, c1, rfl, -⟩ := own_slice hown; obtain ⟨hB1, hB2, hbe, hlt⟩ := two_boxes hb1; obtain ⟨p0, p1, p2, p3, p4, p5, -, -, -, -, -, q5⟩ := blk6 hB1; obtain ⟨r0, r1, r2, r3, r4, r5, t0, t1, t2, t3, t4, t5⟩ := blk6 hB2; have HO := Lib.hid hown; clear hB1 hB2 hown)
  refine bodyPost_ret (v := .agg #[.int .i64 id, .bool lo, .bool fa, .bool re, .int .i64 sz, .slice A1 n c1]) ?_ rfl ⟨⟨id, lo, fa, re, sz, xs, A1, c1⟩, rfl, ?_, ?_, ?_⟩
  · have hres : Tryd.f28.results = #[.cell 2 30] := by kernel_rfl
    simp only [results, hres]
    go_simp
  · rw [HL.out]
  · have h7 : World.ownsRow (((((((w1.setCell ⟨w.heap.size, 5, none⟩ (.slice A1 n c1)).setCell ⟨w.heap.size + 1, 0, none⟩ (.int .i64 id)).setCell ⟨w.heap.size + 1, 1, none⟩ (.bool lo)).setCell ⟨w.heap.size + 1, 2, none⟩ (.bool fa)).setCell ⟨w.heap.size + 1, 3, none⟩ (.bool re)).setCell ⟨w.heap.size + 1, 4, none⟩ (.int .i64 sz)).setCell ⟨w.heap.size + 1, 5, none⟩ (.slice A1 n c1)) (w.heap.size + 2) 5 1 (.slice A1 n c1) n (xs.map bv) := by
      have h0 : w1.ownsRow (w.heap.size + 2) 5 1 (.slice A1 n c1) n (xs.map bv) := by
        have := HO.out
        simp only [World.size_alloc] at this
        exact this
      exact ownsRow_setCell_below (ownsRow_setCell_below (ownsRow_setCell_below (ownsRow_setCell_below (ownsRow_setCell_below (ownsRow_setCell_below (ownsRow_setCell_below h0 (by simp) _) (by simp) _) (by simp) _) (by simp) _) (by simp) _) (by simp) _) (by simp) _
    show World.ownsRow _ _ _ _ (.slice A1 xs.length c1) xs.length _
    rw [← HL.out]
    exact own_weaken h7 (Nat.le_add_right _ 2)
  · exact ((((((hbe.setCell (by simp) _).setCell (by simp) _).setCell (by simp) _).setCell (by simp) _).setCell (by simp) _).setCell (by simp) _).setCell (by simp) _
set_option maxRecDepth 100000 in
theorem ownFrame_any (f : M.Fr) (hn : f.data.length ≤ 140737488355328) (w : World) (h : f.ok w) :
    Calls Tryd.prog 30 #[f.val] w fun e w' => ∃ g : M.Fr, g.abs = f.abs ∧ e = .returned g.val ∧ g.own w.heap.size w' ∧ Below w.heap.size w w' := by
  obtain ⟨id, lo, fa, re, sz, xs, A, c⟩ := f
  simp only [M.Fr.val, M.Fr.ok, fv] at h hn ⊢
  obtain ⟨n, hl⟩ : ∃ n, n = xs.length := ⟨_, rfl⟩
  rw [← hl] at h hn ⊢
  have hx : ∀ (o1 o2 : Obj), SliceBytes ((w.alloc o1).alloc o2) A n xs := fun o1 o2 => h.below (((Below.refl _ _).alloc (Nat.le_refl _) _).alloc (by simp) _)
  have HL := Lib.hid hl
  have HX := Lib.hid hx
  have hn1 := Lib.hid (show n * 1 ≤ 140737488355328 by omega)
  clear hl h hx
  obtain ⟨i0, hi, hz0, hz1, hz2⟩ := info_parts Tryd.infoU8
  cases A with
  | none =>
    obtain rfl : n = 0 := by
      rcases Nat.eq_zero_or_pos n with h0 | h0
      · exact h0
      · obtain ⟨ad, he, _⟩ := (HX.out (.cells #[] 0) (.cells #[] 0)).2 h0
        cases he
    go_enter Tryd.func30, Tryd.ntmps30
    go_wp2
    refine bodyPost_ret (v := .agg #[.int .i64 id, .bool lo, .bool fa, .bool re, .int .i64 sz, .slice none 0 0]) ?_ rfl ⟨⟨id, lo, fa, re, sz, xs, none, 0⟩, rfl, ?_, ?_, ?_⟩
    · have hres : Tryd.f30.results = #[.cell 2 30] := by kernel_rfl
      simp only [results, hres]
      go_simp
    · rw [← HL.out]
    · obtain rfl : xs = [] := List.eq_nil_of_length_eq_zero HL.out.symm
      exact World.ownsRow_nil _ _ _ _
    · exact ((Below.refl _ _).alloc (Nat.le_refl _) _).alloc (by simp) _
  | some ad =>
    have hnews : ∀ (o1 o2 : Obj) j u, (xs.map bv)[j]? = some u → ((w.alloc o1).alloc o2).cell? (ad.add j) = some u := fun o1 o2 j u hu => by
      obtain ⟨ad', he, _, hc⟩ := (HX.out o1 o2).2 (by
        have := (List.getElem?_eq_some_iff.1 hu).1
        rw [List.length_map] at this
        have := HL.out
        omega)
      cases he
      exact hc j u hu
    have HC := Lib.hid hnews
    clear hnews
    go_enter Tryd.func30, Tryd.ntmps30
    go_wp2_with (at_builtin; refine wpList_append_own _ rfl _ _ 28 rfl (w.heap.size + 2) 5 i0 (.int .u8 0) 1 1 Tryd.underlying28 hi hz0 hz1 hz2 rfl (Nat.le_of_ble_eq_true rfl) _ _ _ rfl (World.ownsRow_nil _ _ _ _) ad n c (xs.map bv) rfl ?qc1 ?qc2 ?qc3 ?qc4 ?qc5 ?qc6 ?_)
    case qc1 => rw [List.length_map, Nat.mul_one]; exact HL.out.symm
    case qc2 => exact HC.out _ _
    case qc3 => exact one_bytes xs
    case qc4 => rw [Nat.zero_add]; unfold maxLen; omega
    case qc5 => rw [Nat.zero_add]; exact hn1.out
    case qc6 => simp
    intro v1 w1 hown hg1 _
    obtain ⟨A1, c1, rfl, -⟩ := own_slice hown
    have hb1 := (Below.refl ((w.alloc (.cells #[.int .i64 id, .bool lo, .bool fa, .bool re, .int .i64 sz, .slice (some ad) n c] 30)).alloc (.cells #[.int .i64 0, .bool false, .bool false, .bool false, .int .i64 0, .slice none 0 0] 30)).heap.size _).grown hg1 (Nat.le_refl _) (by intro k hk; cases hk)
    obtain ⟨hB1, hB2, hbe, hlt⟩ := two_boxes hb1
    obtain ⟨p0, p1, p2, p3, p4, p5, -, -, -, -, -, q5⟩ := blk6 hB1
    obtain ⟨r0, r1, r2, r3, r4, r5, t0, t1, t2, t3, t4, t5⟩ := blk6 hB2
    have HO := Lib.hid hown
    clear hB1 hB2 hown
    go_wp2
    refine bodyPost_ret (v := .agg #[.int .i64 id, .bool lo, .bool fa, .bool re, .int .i64 sz, .slice A1 n c1]) ?_ rfl ⟨⟨id, lo, fa, re, sz, xs, A1, c1⟩, rfl, ?_, ?_, ?_⟩
    · have hres : Tryd.f30.results = #[.cell 2 30] := by kernel_rfl
      simp only [results, hres]
      go_simp
    · rw [HL.out]
    · have h7 : World.ownsRow (((((((w1.setCell ⟨w.heap.size, 5, none⟩ (.slice A1 n c1)).setCell ⟨w.heap.size + 1, 0, none⟩ (.int .i64 id)).setCell ⟨w.heap.size + 1, 1, none⟩ (.bool lo)).setCell ⟨w.heap.size + 1, 2, none⟩ (.bool fa)).setCell ⟨w.heap.size + 1, 3, none⟩ (.bool re)).setCell ⟨w.heap.size + 1, 4, none⟩ (.int .i64 sz)).setCell ⟨w.heap.size + 1, 5, none⟩ (.slice A1 n c1)) (w.heap.size + 2) 5 1 (.slice A1 n c1) n (xs.map bv) := by
        have h0 : w1.ownsRow (w.heap.size + 2) 5 1 (.slice A1 n c1) n (xs.map bv) := by
          exact HO.out
        exact ownsRow_setCell_below (ownsRow_setCell_below (ownsRow_setCell_below (ownsRow_setCell_below (ownsRow_setCell_below (ownsRow_setCell_below (ownsRow_setCell_below h0 (by simp) _) (by simp) _) (by simp) _) (by simp) _) (by simp) _) (by simp) _) (by simp) _
      show World.ownsRow _ _ _ _ (.slice A1 xs.length c1) xs.length _
      rw [← HL.out]
      exact own_weaken h7 (Nat.le_add_right _ 2)
    · exact ((((((hbe.setCell (by simp) _).setCell (by simp) _).setCell (by simp) _).setCell (by simp) _).setCell (by simp) _).setCell (by simp) _).setCell (by simp) _
end Go.Proofs.YtlfdpcddbnkpjaaDoor
