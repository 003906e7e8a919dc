/-
  The walk of slices.insertionSortCmpFunc at frames, by QueueRow's comparison.
-/
import Derived.Test.YtlfdpcddbnkpjaaDoorQueueR1
import Derived.Test.YtlfdpcddbnkpjaaDoorQueueP0
import Derived.Maps.AppendAt
import Derived.RegionTactic
import Derived.BigRegion
namespace Go.Proofs.YtlfdpcddbnkpjaaDoor
open Go.RowKit Go.ChangeShapes Go.WideShapes

theorem row_get {base n : Nat} {w : World} {g0 c : Nat} {l : List M.Fr} (h : w.ownsRow base 30 6 (.slice (some ⟨g0, 0, none⟩) n c) n (l.flatMap M.Fr.cells)) {i : Nat} {x : M.Fr} (hx : l[i]? = some x) :
    w.cell? ⟨g0, i * 6, none⟩ = some (.int .i64 x.id) ∧ w.cell? ⟨g0, i * 6 + 1, none⟩ = some (.bool x.long) ∧ w.cell? ⟨g0, i * 6 + 2, none⟩ = some (.bool x.fast) ∧ w.cell? ⟨g0, i * 6 + 3, none⟩ = some (.bool x.remote) ∧ w.cell? ⟨g0, i * 6 + 4, none⟩ = some (.int .i64 x.size) ∧ w.cell? ⟨g0, i * 6 + 5, none⟩ = some (.slice x.A x.data.length x.c) ∧
    w.frozen? ⟨g0, i * 6, none⟩ = false ∧ w.frozen? ⟨g0, i * 6 + 1, none⟩ = false ∧ w.frozen? ⟨g0, i * 6 + 2, none⟩ = false ∧ w.frozen? ⟨g0, i * 6 + 3, none⟩ = false ∧ w.frozen? ⟨g0, i * 6 + 4, none⟩ = false ∧ w.frozen? ⟨g0, i * 6 + 5, none⟩ = false := by
  obtain ⟨hil, rfl⟩ := List.getElem?_eq_some_iff.1 hx
  have hn : l.length = n := by
    have := h.1
    rw [flat_length] at this
    omega
  have e : ∀ k, k < 6 → w.cell? ⟨g0, i * 6 + k, none⟩ = l[i].cells[k]? := fun k hk => by
    rw [h.cellAt (i * 6 + k) (by omega), flat_at l i hil k hk]
  exact ⟨e 0 (by decide), e 1 (by decide), e 2 (by decide), e 3 (by decide), e 4 (by decide), e 5 (by decide), h.frozenAt _, h.frozenAt _, h.frozenAt _, h.frozenAt _, h.frozenAt _, h.frozenAt _⟩

theorem row_set2 {base n : Nat} {w : World} {g0 c : Nat} {l : List M.Fr} (h : w.ownsRow base 30 6 (.slice (some ⟨g0, 0, none⟩) n c) n (l.flatMap M.Fr.cells)) {i : Nat} (hi : i < l.length) (g : M.Fr) :
    World.ownsRow ((((((w.setCell ⟨g0, i * 6, none⟩ (.int .i64 g.id)).setCell ⟨g0, i * 6 + 1, none⟩ (.bool g.long)).setCell ⟨g0, i * 6 + 2, none⟩ (.bool g.fast)).setCell ⟨g0, i * 6 + 3, none⟩ (.bool g.remote)).setCell ⟨g0, i * 6 + 4, none⟩ (.int .i64 g.size)).setCell ⟨g0, i * 6 + 5, none⟩ (.slice g.A g.data.length g.c)) base 30 6 (.slice (some ⟨g0, 0, none⟩) n c) n ((l.set i g).flatMap M.Fr.cells) ∧
    w.grownBy ((((((w.setCell ⟨g0, i * 6, none⟩ (.int .i64 g.id)).setCell ⟨g0, i * 6 + 1, none⟩ (.bool g.long)).setCell ⟨g0, i * 6 + 2, none⟩ (.bool g.fast)).setCell ⟨g0, i * 6 + 3, none⟩ (.bool g.remote)).setCell ⟨g0, i * 6 + 4, none⟩ (.int .i64 g.size)).setCell ⟨g0, i * 6 + 5, none⟩ (.slice g.A g.data.length g.c)) (some g0) := by
  obtain ⟨o1, k1⟩ := h.stored (i * 6) (.int .i64 g.id)
  obtain ⟨o2, k2⟩ := o1.stored (i * 6 + 1) (.bool g.long)
  obtain ⟨o3, k3⟩ := o2.stored (i * 6 + 2) (.bool g.fast)
  obtain ⟨o4, k4⟩ := o3.stored (i * 6 + 3) (.bool g.remote)
  obtain ⟨o5, k5⟩ := o4.stored (i * 6 + 4) (.int .i64 g.size)
  obtain ⟨o6, k6⟩ := o5.stored (i * 6 + 5) (.slice g.A g.data.length g.c)
  rw [flat_set g l i hi] at o6
  exact ⟨o6, only_trans (only_trans (only_trans (only_trans (only_trans k1 k2) k3) k4) k5) k6⟩

theorem swap_gen {α : Type} (A L : List α) (p x : α) (k : Nat) (hk : A.length = k) : ((A ++ p :: x :: L).set (k + 1) p).set k x = A ++ x :: p :: L := by
  subst hk
  rw [List.set_append_right _ _ (by omega), List.set_append_right _ _ (by omega)]
  simp
theorem swap_step {α : Type} {P R : List α} {x : α} {k : Nat} (hk : k < P.length) {p : α} (hp : P[k]? = some p) :
    ((P.take (k + 1) ++ x :: P.drop (k + 1) ++ R).set (k + 1) p).set k x = P.take k ++ x :: P.drop k ++ R := by
  obtain ⟨h1, rfl⟩ := List.getElem?_eq_some_iff.1 hp
  have e1 : P.take (k + 1) = P.take k ++ [P[k]] := List.take_succ_eq_append_getElem hk
  have e2 : P.drop k = P[k] :: P.drop (k + 1) := List.drop_eq_getElem_cons hk
  have hl : (P.take k).length = k := by rw [List.length_take]; omega
  rw [e2, e1]
  simp only [List.append_assoc, List.cons_append, List.nil_append]
  exact swap_gen (P.take k) (P.drop (k + 1) ++ R) P[k] x k hl
theorem step_at {α : Type} {P R : List α} {x : α} {k : Nat} (hk : k < P.length) {p : α} (hp : P[k]? = some p) :
    (P.take (k + 1) ++ x :: P.drop (k + 1) ++ R)[k]? = some p ∧ (P.take (k + 1) ++ x :: P.drop (k + 1) ++ R)[k + 1]? = some x := by
  have hl : (P.take (k + 1)).length = k + 1 := by rw [List.length_take]; omega
  rw [List.append_assoc]
  constructor
  · rw [List.getElem?_append_left (by omega), List.getElem?_take_of_lt (by omega), hp]
  · rw [List.getElem?_append_right (by omega), hl, Nat.sub_self]
    rfl

theorem ins_of {P : List M.Fr} {x : M.Fr} {m : List M.Frm} {j : Nat} (hP : P.map M.Fr.abs = m) (hs : M.Srt m) (hj : j ≤ P.length) (h1 : j = 0 ∨ ∃ p, P[j - 1]? = some p ∧ M.leq p.abs.name x.abs.name = true)
    (h2 : ∀ (y : Nat) (a : M.Fr), j ≤ y → P[y]? = some a → M.leq a.abs.name x.abs.name = false) : (P.take j ++ x :: P.drop j).map M.Fr.abs = M.qins m x.abs := by
  subst hP
  refine map_put rfl rfl (place_of hj (fun y a hy ha => ?_) h2)
  rcases h1 with rfl | ⟨p, hp, hq⟩
  · omega
  · rcases Nat.lt_or_ge y (j - 1) with h | h
    · exact srt_mono hs _ y (j - 1) a p h ha hp hq
    · obtain rfl : y = j - 1 := by omega
      rw [ha] at hp
      cases hp
      exact hq

theorem hk_of {P : List M.Fr} {k : Nat} {p : M.Fr} (h : P[k]? = some p) : k < P.length := (List.getElem?_eq_some_iff.1 h).1
theorem below_drew {wr w2 : World} (h : Below wr.drew.heap.size wr.drew w2) : Below wr.heap.size wr w2 := (Below.refl wr.heap.size wr).drew.trans h

/-- What the compare of two frames of the row asks of the world. -/
structure SQ (w : World) (g0 : Nat) (k : Nat) (x p : M.Fr) (wx : World) : Prop where
  hi : wx.cell? ⟨g0, (k + 1) * 6, none⟩ = some (.int .i64 x.id) ∧ wx.cell? ⟨g0, (k + 1) * 6 + 1, none⟩ = some (.bool x.long) ∧ wx.cell? ⟨g0, (k + 1) * 6 + 2, none⟩ = some (.bool x.fast) ∧ wx.cell? ⟨g0, (k + 1) * 6 + 3, none⟩ = some (.bool x.remote) ∧ wx.cell? ⟨g0, (k + 1) * 6 + 4, none⟩ = some (.int .i64 x.size) ∧ wx.cell? ⟨g0, (k + 1) * 6 + 5, none⟩ = some (.slice x.A x.data.length x.c)
  lo : wx.cell? ⟨g0, k * 6, none⟩ = some (.int .i64 p.id) ∧ wx.cell? ⟨g0, k * 6 + 1, none⟩ = some (.bool p.long) ∧ wx.cell? ⟨g0, k * 6 + 2, none⟩ = some (.bool p.fast) ∧ wx.cell? ⟨g0, k * 6 + 3, none⟩ = some (.bool p.remote) ∧ wx.cell? ⟨g0, k * 6 + 4, none⟩ = some (.int .i64 p.size) ∧ wx.cell? ⟨g0, k * 6 + 5, none⟩ = some (.slice p.A p.data.length p.c)
theorem SQ.flat {w : World} {g0 k : Nat} {x p : M.Fr} {wx : World} (h : SQ w g0 k x p wx) :
    wx.cell? ⟨g0, (k + 1) * 6, none⟩ = some (.int .i64 x.id) ∧ wx.cell? ⟨g0, (k + 1) * 6 + 1, none⟩ = some (.bool x.long) ∧ wx.cell? ⟨g0, (k + 1) * 6 + 2, none⟩ = some (.bool x.fast) ∧ wx.cell? ⟨g0, (k + 1) * 6 + 3, none⟩ = some (.bool x.remote) ∧ wx.cell? ⟨g0, (k + 1) * 6 + 4, none⟩ = some (.int .i64 x.size) ∧ wx.cell? ⟨g0, (k + 1) * 6 + 5, none⟩ = some (.slice x.A x.data.length x.c) ∧
    wx.cell? ⟨g0, k * 6, none⟩ = some (.int .i64 p.id) ∧ wx.cell? ⟨g0, k * 6 + 1, none⟩ = some (.bool p.long) ∧ wx.cell? ⟨g0, k * 6 + 2, none⟩ = some (.bool p.fast) ∧ wx.cell? ⟨g0, k * 6 + 3, none⟩ = some (.bool p.remote) ∧ wx.cell? ⟨g0, k * 6 + 4, none⟩ = some (.int .i64 p.size) ∧ wx.cell? ⟨g0, k * 6 + 5, none⟩ = some (.slice p.A p.data.length p.c) := by
  obtain ⟨⟨a0, a1, a2, a3, a4, a5⟩, ⟨b0, b1, b2, b3, b4, b5⟩⟩ := h
  exact ⟨a0, a1, a2, a3, a4, a5, b0, b1, b2, b3, b4, b5⟩
theorem SQ.of {w : World} {base n g0 c k : Nat} {L : List M.Fr} {x p : M.Fr} {wx : World} (h : wx.ownsRow base 30 6 (.slice (some ⟨g0, 0, none⟩) n c) n (L.flatMap M.Fr.cells)) (hp : L[k]? = some p) (hx : L[k + 1]? = some x) : SQ w g0 k x p wx := by
  obtain ⟨a0, a1, a2, a3, a4, a5, _⟩ := row_get h hx
  obtain ⟨b0, b1, b2, b3, b4, b5, _⟩ := row_get h hp
  exact ⟨⟨a0, a1, a2, a3, a4, a5⟩, ⟨b0, b1, b2, b3, b4, b5⟩⟩

set_option maxRecDepth 100000 in
set_option maxHeartbeats 3200000 in
theorem insort_any (base g0 n c : Nat) (l : List M.Fr) (w : World) (hn : n ≤ 16) (hl : l.length = n) (ho : w.ownsRow base 30 6 (.slice (some ⟨g0, 0, none⟩) n c) n (l.flatMap M.Fr.cells)) (hg : ∀ f ∈ l, f.abs.chk = 0) (ht : Tab2 w) (hbt : 3 < base) (hbg : base ≤ g0) :
    Calls Tryd.prog 49 #[.slice (some ⟨g0, 0, none⟩) n c, .int .i64 0, .int .i64 n, .func (.func 22) #[] #[]] w fun e w' =>
      ∃ S : List M.Fr, e = .returned (.tuple #[]) ∧ S.map M.Fr.abs = (l.map M.Fr.abs).foldl M.qins [] ∧ (∀ x ∈ S, x ∈ l) ∧ w'.ownsRow base 30 6 (.slice (some ⟨g0, 0, none⟩) n c) n (S.flatMap M.Fr.cells) ∧ w.grownBy w' (some g0) := by
  have hnl : ∀ (w : World), True := fun _ => trivial
  have HL := Lib.hid hl
  have HO := Lib.hid ho
  have HG := Lib.hid hg
  have HT := Lib.hid ht
  clear hl ho hg ht hnl
  go_enter Tryd.func49, Tryd.ntmps49
  go_wp2
  go_loopw [8] (fun v wr => ∃ (i : Nat) (P : List M.Fr), 1 ≤ i ∧ (i ≤ n ∨ i = 1) ∧ v = .int .i64 i ∧ P.map M.Fr.abs = ((l.map M.Fr.abs).take i).foldl M.qins [] ∧ (∀ x ∈ P, x ∈ l) ∧ wr.ownsRow base 30 6 (.slice (some ⟨g0, 0, none⟩) n c) n ((P ++ l.drop i).flatMap M.Fr.cells) ∧ w.grownBy wr (some g0)) (fun v _ => n - (intOf v).toNat)
  case atStart =>
    refine ⟨1, l.take 1, Nat.le_refl _, .inr rfl, rfl, ?_, fun x hx => List.mem_of_mem_take hx, by rw [List.take_append_drop]; exact HO.out, only_refl _ _⟩
    cases l with
    | nil => rfl
    | cons f r => rfl
  case round =>
    obtain ⟨i, P, hi1, hi2, rfl, hP, hPl, ho, hgr⟩ := hrel
    have HP := Lib.hid hP
    have HPL := Lib.hid hPl
    have HOW := Lib.hid ho
    have HGR := Lib.hid hgr
    clear hP hPl ho hgr
    by_cases hlt : i < n
    · have hxi : l[i]? = some (l[i]'(by rw [HL.out]; exact hlt)) := List.getElem?_eq_getElem _
      obtain ⟨x, hx⟩ : ∃ x, l[i]? = some x := ⟨_, hxi⟩
      have HX := Lib.hid hx
      have HDR := Lib.hid (show l.drop i = x :: l.drop (i + 1) from by
        obtain ⟨h1, rfl⟩ := List.getElem?_eq_some_iff.1 hx
        exact List.drop_eq_getElem_cons h1)
      have hPn : P.length = i := by
        have h1 := congrArg List.length HP.out
        rw [List.length_map, foldl_len, List.length_take, List.length_map, HL.out, List.length_nil] at h1
        omega
      have HPN := Lib.hid hPn
      have hKX := HG.out x (List.mem_of_getElem? hx)
      have HKX := Lib.hid hKX
      clear hxi hx hPn hKX
      go_wp2
      go_loopw [9] (fun v wx => ∃ (j : Nat), j ≤ i ∧ v = .int .i64 j ∧ wx.ownsRow base 30 6 (.slice (some ⟨g0, 0, none⟩) n c) n ((P.take j ++ x :: P.drop j ++ l.drop (i + 1)).flatMap M.Fr.cells) ∧ (∀ (y : Nat) (a : M.Fr), j ≤ y → P[y]? = some a → M.leq a.abs.name x.abs.name = false) ∧ w.grownBy wx (some g0)) (fun v _ => (intOf v).toNat)
      case atStart =>
        refine ⟨i, Nat.le_refl _, rfl, ?_, fun y a hy ha => ?_, HGR.out⟩
        · rw [List.take_of_length_le (by rw [HPN.out]; exact Nat.le_refl _), List.drop_of_length_le (by rw [HPN.out]; exact Nat.le_refl _)]
          have := HOW.out
          rw [HDR.out] at this
          simpa using this
        · have := (List.getElem?_eq_some_iff.1 ha).1
          rw [HPN.out] at this
          omega
      case round =>
        obtain ⟨j, hj, rfl, ho, hge, hgr⟩ := hrel
        have HOJ := Lib.hid ho
        have HGE := Lib.hid hge
        have HGJ := Lib.hid hgr
        clear ho hge hgr
        have hsr : M.Srt (((l.map M.Fr.abs).take i).foldl M.qins []) := foldl_srt ⟨(fun f hf => nomatch hf), List.Pairwise.nil⟩ fun f hf => by
          obtain ⟨y, hy, rfl⟩ := List.mem_map.1 (List.mem_of_mem_take hf)
          exact HG.out y hy
        have HSR := Lib.hid hsr
        clear hsr
        have hfin : (j = 0 ∨ ∃ p, P[j - 1]? = some p ∧ M.leq p.abs.name x.abs.name = true) → (P.take j ++ x :: P.drop j).map M.Fr.abs = ((l.map M.Fr.abs).take (i + 1)).foldl M.qins [] := fun h1 => by
          rw [foldl_take_at HX.out]
          exact ins_of HP.out HSR.out (by rw [HPN.out]; exact hj) h1 HGE.out
        have hmem : ∀ y ∈ P.take j ++ x :: P.drop j, y ∈ l := fun y hy => by
          rcases List.mem_append.1 hy with hy | hy
          · exact HPL.out y (List.mem_of_mem_take hy)
          · rcases List.mem_cons.1 hy with rfl | hy
            · exact List.mem_of_getElem? HX.out
            · exact HPL.out y (List.mem_of_mem_drop hy)
        have HFIN := Lib.hid hfin
        have HMEM := Lib.hid hmem
        clear hfin hmem
        rcases Nat.eq_zero_or_pos j with hj0 | hjp
        · subst hj0
          have hd0 : decide ((0 : Int) < ((0 : Nat) : Int)) = false := by decide
          go_upto_region 4 with fail
          go_quiet (fail)
          go_wp2
          go_roundw
          case rel =>
            exact ⟨i + 1, P.take 0 ++ x :: P.drop 0, by omega, .inl (by omega), by go_num, HFIN.out (.inl rfl), HMEM.out, HOJ.out, only_drewN HGJ.out _⟩
          case measure => simp [intOf]; omega
        · obtain ⟨k, rfl⟩ : ∃ k, j = k + 1 := ⟨j - 1, by omega⟩
          have hkP : k < P.length := by rw [HPN.out]; omega
          obtain ⟨p, hp⟩ : ∃ p, P[k]? = some p := ⟨_, List.getElem?_eq_getElem hkP⟩
          have hat := step_at (R := l.drop (i + 1)) (x := x) hkP hp
          have hSQ : SQ w g0 k x p wr := SQ.of HOJ.out hat.1 hat.2
          have HSQ := Lib.hid hSQ
          have HPP := Lib.hid hp
          have hKP := HG.out p (HPL.out p (List.mem_of_getElem? hp))
          have HKP := Lib.hid hKP
          have hTw : Tab2 wr := (World.cell?_of_block (a := ⟨3, 1, none⟩) (HGJ.out.block _ HT.out.lt (fun e => by injection e with e; have e2 : 3 = g0 := e; omega))).trans HT.out
          have HTW := Lib.hid hTw
          have hgw : g0 < wr.heap.size := (HOJ.out.lt g0 rfl).2
          have hd1 : decide ((0 : Int) < ((k + 1 : Nat) : Int)) = true := decide_eq_true (by omega)
          have hw2 : IntKind.i64.wrap ((k : Int) + 1 - 1) = ((k : Nat) : Int) := by rw [IntWalk.i64_in _ (by omega)]; omega
          have hw1 : IntKind.i64.wrap (((k + 1 : Nat) : Int) - 1) = ((k : Nat) : Int) := by rw [IntWalk.i64_in _ (by omega)]; omega
          have hw3 : IntKind.i64.wrap (k : Int) = ((k : Nat) : Int) := by rw [IntWalk.i64_in _ (by omega)]
          have hk0 : (0 : Int) ≤ (k : Int) := by omega
          have hk1 : (k : Int) < (n : Int) := by omega
          have hk2 : (k : Int).toNat = k := by omega
          have hk3 : (0 : Int) ≤ (k : Int) + 1 := by omega
          have hk4 : (k : Int) + 1 < (n : Int) := by omega
          have hk5 : ((k : Int) + 1).toNat = k + 1 := by omega
          clear hat hSQ hp hKP hTw hkP
          go_upto_region 4 with fail
          go_region_held3 (fun wx => wx.cell? ⟨g0, (k + 1) * 6, none⟩ = some (.int .i64 x.id) ∧ wx.cell? ⟨g0, (k + 1) * 6 + 1, none⟩ = some (.bool x.long) ∧ wx.cell? ⟨g0, (k + 1) * 6 + 2, none⟩ = some (.bool x.fast) ∧ wx.cell? ⟨g0, (k + 1) * 6 + 3, none⟩ = some (.bool x.remote) ∧ wx.cell? ⟨g0, (k + 1) * 6 + 4, none⟩ = some (.int .i64 x.size) ∧ wx.cell? ⟨g0, (k + 1) * 6 + 5, none⟩ = some (.slice x.A x.data.length x.c) ∧ wx.cell? ⟨g0, k * 6, none⟩ = some (.int .i64 p.id) ∧ wx.cell? ⟨g0, k * 6 + 1, none⟩ = some (.bool p.long) ∧ wx.cell? ⟨g0, k * 6 + 2, none⟩ = some (.bool p.fast) ∧ wx.cell? ⟨g0, k * 6 + 3, none⟩ = some (.bool p.remote) ∧ wx.cell? ⟨g0, k * 6 + 4, none⟩ = some (.int .i64 p.size) ∧ wx.cell? ⟨g0, k * 6 + 5, none⟩ = some (.slice p.A p.data.length p.c))
            (first | exact HSQ.out.flat | exact (show SQ w g0 k x p wr.drew from HSQ.out).flat | exact HS2.out.flat)
            (first
              | (go_at_call 22; refine (rowcmp_any x p _ HKX.out HKP.out (Tab2.drew HTW.out)).mono ?_; rintro e w2 ⟨z, rfl, hz, hb2⟩; have HZ := Lib.hid hz; have HO2 := Lib.hid (own_kept (World.ownsRow.drew HOJ.out) hb2); have HS2 := Lib.hid (SQ.of (w := w) HO2.out (step_at (R := l.drop (i + 1)) (x := x) (hk_of HPP.out) HPP.out).1 (step_at (R := l.drop (i + 1)) (x := x) (hk_of HPP.out) HPP.out).2); have HG2 := Lib.hid (only_trans HGJ.out (only_of_below (below_drew hb2) (some g0))); clear hz))
          by_cases hz0 : z < 0
          · have hlq : M.leq p.abs.name x.abs.name = false := HZ.out.1 hz0
            have HLQ := Lib.hid hlq
            clear hlq
            obtain ⟨x0, x1, x2, x3, x4, x5, f0, f1, f2, f3, f4, f5⟩ := row_get HO2.out (step_at (R := l.drop (i + 1)) (x := x) (hk_of HPP.out) HPP.out).2
            obtain ⟨y0, y1, y2, y3, y4, y5, e0, e1, e2, e3, e4, e5⟩ := row_get HO2.out (step_at (R := l.drop (i + 1)) (x := x) (hk_of HPP.out) HPP.out).1
            have hlen : k + 1 < (P.take (k + 1) ++ x :: P.drop (k + 1) ++ l.drop (i + 1)).length := (List.getElem?_eq_some_iff.1 (step_at (R := l.drop (i + 1)) (x := x) (hk_of HPP.out) HPP.out).2).1
            have hs1 := row_set2 HO2.out hlen p
            have hs2 := row_set2 hs1.1 (i := k) (by rw [List.length_set]; omega) x
            rw [swap_step (hk_of HPP.out) HPP.out] at hs2
            have hg2 := only_trans (only_trans HG2.out hs1.2) hs2.2
            have HSS := Lib.hid (And.intro hs2.1 hg2)
            clear hs1 hs2 hg2 hlen
            go_upto_region 6 with fail
            go_region
            go_wp2
            go_roundw
            case rel =>
              refine ⟨k, by omega, by go_num, World.ownsRow.drew HSS.out.1, fun y a hy ha => ?_, only_drew HSS.out.2⟩
              rcases Nat.lt_or_ge k y with h | h
              · exact HGE.out y a h ha
              · obtain rfl : y = k := by omega
                have h2 := HPP.out
                rw [ha] at h2
                cases h2
                exact HLQ.out
            case measure => simp [intOf]
          · have hz2 : 0 ≤ z := by omega
            have hlq : M.leq p.abs.name x.abs.name = true := by
              cases h : M.leq p.abs.name x.abs.name with
              | true => rfl
              | false => exact absurd (HZ.out.2 h) hz0
            have HLQ := Lib.hid hlq
            clear hlq
            go_wp2
            go_roundw
            case rel =>
              exact ⟨i + 1, P.take (k + 1) ++ x :: P.drop (k + 1), by omega, .inl (by omega), by go_num, HFIN.out (.inr ⟨p, HPP.out, HLQ.out⟩), HMEM.out, HO2.out, HG2.out⟩
            case measure => simp [intOf]; omega
    · have hP2 : P.map M.Fr.abs = (l.map M.Fr.abs).foldl M.qins [] := by
        rw [HP.out, List.take_of_length_le (by rw [List.length_map, HL.out]; omega)]
      have hd : l.drop i = [] := List.drop_of_length_le (by rw [HL.out]; omega)
      have ho2 := HOW.out
      rw [hd, List.append_nil] at ho2
      have HO2 := Lib.hid ho2
      have HP2 := Lib.hid hP2
      clear hP2 hd ho2
      go_wp2
      go_end0
      exact ⟨P, rfl, HP2.out, HPL.out, HO2.out, HGR.out⟩
end Go.Proofs.YtlfdpcddbnkpjaaDoor
