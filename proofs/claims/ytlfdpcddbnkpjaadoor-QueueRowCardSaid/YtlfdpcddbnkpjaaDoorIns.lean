/-
  The walk of slices.Insert of one frame into an owned row of frames.
-/
import Derived.Test.YtlfdpcddbnkpjaaDoorQueueOwn
import Derived.Lib.AppendZerosOnto
import Derived.Lib.Overlaps
import Derived.Lib.JoinLaws
import Derived.Laws.IdiomCopy
import Derived.Laws.Externs
import Derived.Deep.RegionLaw
namespace Go.Proofs.YtlfdpcddbnkpjaaDoor
open Go.RowKit Go.ChangeShapes Go.WideShapes

theorem run_copy_rows {P : Program} (w : World) (dT sT ty elem : TypeId) (g o dLen dCap : Nat) (a : Addr) (sLen sCap : Nat) (cur : Array Value) (t : TypeId) (cs : List Value) (size : Nat)
    (hu : P.underlying dT = some (.slice elem)) (hs : (P.info? elem).map (·.size) = some size)
    (hg : w.heap[g]? = some (.cells cur t (0, 0))) (hn : cs.length = Nat.min sLen dLen * size)
    (hsrc : ∀ j v, cs[j]? = some v → w.cell? (a.add j) = some v) (hfit : o + cs.length ≤ cur.size) (h1 : ∀ v ∈ cs, v.oneCell' = true) :
    (Builtin.copy_ #[dT, sT] ty #[.slice (some ⟨g, o, none⟩) dLen dCap, .slice (some a) sLen sCap]).run P w =
      .ok (goInt (Nat.min sLen dLen)) (w.setRow g (cur.toList.take o ++ cs ++ cur.toList.drop (o + cs.length)).toArray) := by
  have hl := run_loadCells_list (P := P) w a cs hsrc
  have hst := run_storeCells_at P g o t cs 0 cur w hg (by simpa using hfit) h1
  cases hq : P.info? elem with
  | none => simp [hq] at hs
  | some i =>
    have hi : i.size = size := by simpa [hq] using hs
    rw [hn] at hl
    simp [Builtin.copy_, run_underlying hu, Builtin.lenOf, Builtin.firstCells, sizeOf, typeInfo, hq, hi, hl, hst]

theorem shift_list {α : Type} (cur xs vs : List α) (a b k : Nat) (hab : a ≤ b) (hx : cur.take b = xs) (hl : b + k ≤ cur.length) (hv : vs.length = k) (c1 c2 : List α)
    (h1 : c1 = cur.take (a + k) ++ xs.drop a ++ cur.drop (a + k + (xs.drop a).length)) (h2 : c2 = c1.take a ++ vs ++ c1.drop (a + vs.length)) :
    c2.length = cur.length ∧ c2.take (b + k) = xs.take a ++ vs ++ xs.drop a := by
  have hxl : xs.length = b := by rw [← hx, List.length_take]; omega
  have e1 : c1.take a = xs.take a := by
    rw [h1, List.append_assoc, List.take_append_of_le_length (by rw [List.length_take]; omega), List.take_take, ← hx, List.take_take]
    congr 1
    omega
  have e2 : c1.drop (a + vs.length) = xs.drop a ++ cur.drop (a + k + (xs.drop a).length) := by
    rw [h1, List.append_assoc, List.drop_left' (by rw [List.length_take]; omega)]
  rw [e1, e2] at h2
  have hd : (xs.drop a).length = b - a := by rw [List.length_drop, hxl]
  have ht : (xs.take a).length = a := by rw [List.length_take]; omega
  subst h2
  constructor
  · simp only [List.length_append, ht, hd, List.length_drop, hv]
    omega
  · rw [← List.append_assoc, List.take_left' (by simp only [List.length_append, ht, hd, hv]; omega)]

theorem grow_list {α : Type} (row xs vs : List α) (a b k : Nat) (hab : a ≤ b) (hxl : xs.length = b) (hr : row.take a = xs.take a) (hl : b + k ≤ row.length) (hv : vs.length = k) (c1 c2 : List α)
    (h1 : c1 = row.take a ++ vs ++ row.drop (a + vs.length)) (h2 : c2 = c1.take (a + k) ++ xs.drop a ++ c1.drop (a + k + (xs.drop a).length)) :
    c2.length = row.length ∧ c2.take (b + k) = xs.take a ++ vs ++ xs.drop a := by
  have hd : (xs.drop a).length = b - a := by rw [List.length_drop, hxl]
  have ht : (xs.take a).length = a := by rw [List.length_take]; omega
  rw [hr] at h1
  have hc1 : c1.length = row.length := by
    rw [h1]
    simp only [List.length_append, ht, hv, List.length_drop]
    omega
  have e1 : c1.take (a + k) = xs.take a ++ vs := by
    rw [h1, List.take_left' (by simp only [List.length_append, ht, hv])]
  rw [e1] at h2
  subst h2
  constructor
  · simp only [List.length_append, ht, hd, List.length_drop, hv, hc1]
    omega
  · rw [List.take_left' (by simp only [List.length_append, ht, hd, hv]; omega)]

theorem wpList_copy_at {P : Program} (w : World) {ops : Array Oper} {rest : List Oper} {o : Oper} {a : Act} {Q : Exit → Act → World → Prop} (hgd : o.guard = none) (d s : Operand) (t t' : TypeId)
    (ho : o.op = .call { callee := .builtin .copy, args := #[d, s], argTypes := #[t, t'] }) (v u : Value) (hd : a.eval d = v) (hs : a.eval s = u) {v' : Value} {w' : World}
    (hr : (Builtin.copy_ #[t, t'] o.type #[v, u]).run P w = .ok v' w') (h : wpList P ops Q rest (a.put o.dst v') w') : wpList P ops Q (o :: rest) a w := by
  refine wpList_plain hgd fun K hK => ?_
  unfold Oper.wp execOp
  simp only [ho, resolve, invoke, builtin, Sem.run_bind, Sem.run_pure, Result.andThen_ok, List.map_toArray, List.map_cons, List.map_nil, hd, hs, hr]
  exact hK _ _ h

theorem step_copy_at {P : Program} {ops : Array Oper} {o : Oper} {a : Act} {w : World} {K : Act → World → Prop} {Q : Exit → Act → World → Prop} {E : Prop}
    (hg : o.guard = none) (d x : Operand) (dT sT : TypeId) (hop : o.op = Op.call { callee := Callee.builtin Builtin.copy, args := #[d, x], argTypes := #[dT, sT] })
    (v u : Value) (hd : a.eval d = v) (hx : a.eval x = u) {v' : Value} {w' : World} (hr : (Builtin.copy_ #[dT, sT] o.type #[v, u]).run P w = .ok v' w') (hK : K (a.put o.dst v') w') :
    if Region.wanted o (yielded ops a.tmps) = true then Oper.wp P o a w K Q else E := by
  have hw : Region.wanted o (yielded ops a.tmps) = true := by simp [Region.wanted, hg]
  rw [if_pos hw]
  unfold Oper.wp
  simp [execOp, hop, resolve, invoke, builtin, hd, hx, hr, Result.andThen]
  exact hK

theorem Blk.shape {w : World} {g : Nat} {t : TypeId} {cs : Array Value} (h : Blk w g t cs) : w.shape? g = some (t, cs.size) := by
  unfold Blk at h
  simp [World.shape?, h]

theorem grown_setRow (w : World) (g : Nat) (cs : Array Value) : w.grownBy (w.setRow g cs) (some g) :=
  ⟨rfl, rfl, rfl, by simp, fun k _ hk => setRow_other w g k cs (fun e => hk (by rw [e]))⟩

set_option maxRecDepth 100000 in
theorem insert_end (base : Nat) (v : Value) (n : Nat) (xs vs : List Value) (vb : Nat) (w : World) (hn : (n + 1) * 48 ≤ 140737488355328)
    (hown : w.ownsRow base 30 6 v n xs) (hvb : Blk w vb 30 vs.toArray) (hvl : vs.length = 6) (h1 : ∀ u ∈ vs, u.oneCell' = true) (hB : base ≤ w.heap.size) :
    Calls Tryd.prog 26 #[v, .int .i64 n, .slice (some ⟨vb, 0, none⟩) 1 1] w fun e w' =>
      ∃ v', e = .returned v' ∧ w'.ownsRow base 30 6 v' (n + 1) (xs ++ vs) ∧ w.grownBy w' v.ownBlock := by
  obtain ⟨i0, hi, hz0, hz1, hz2⟩ := info_parts Tryd.infoFrame
  obtain ⟨A, c, rfl, -⟩ := own_slice hown
  have hq1 : n + 1 ≤ maxLen := by unfold maxLen; omega
  have hcell : ∀ j u, vs[j]? = some u → w.cell? ((⟨vb, 0, none⟩ : Addr).add j) = some u := fun j u hu => by
    have e : (⟨vb, 0, none⟩ : Addr).add j = ⟨vb, j, none⟩ := by unfold Addr.add; split <;> simp_all
    rw [e, hvb.cell]
    simpa using hu
  have hnc : n ≤ c ∧ c ≤ maxLen := by
    rcases hown.2 with ⟨h, h0⟩ | ⟨g, cap, cur, h, _, _, h2, h3, _⟩
    · injection h with _ _ h5
      subst h5
      exact ⟨by omega, by unfold maxLen; omega⟩
    · injection h with _ _ h5
      subst h5
      exact ⟨h2, h3⟩
  obtain ⟨hnc, hcm⟩ := hnc
  unfold maxLen at hcm
  have HC := Lib.hid hcell
  have HO := Lib.hid hown
  have HV := Lib.hid hvl
  have H1 := Lib.hid h1
  clear hcell hown hvl h1 hvb
  have hAn : A = none → n = 0 := fun h => by
    rcases HO.out.2 with ⟨_, h0⟩ | ⟨g, cap, cur, h5, _⟩
    · exact h0
    · rw [h] at h5; cases h5
  cases A with
  | none =>
    obtain rfl := hAn rfl
    clear hAn
    go_enter Tryd.func26, Tryd.ntmps26
    go_wp2_with (at_builtin; refine wpList_append_own _ rfl (.tmp 23) (.tmp 24) 22 rfl base 30 i0 (.agg #[.int .i64 0, .bool false, .bool false, .bool false, .int .i64 0, .slice none 0 0]) 6 48 Tryd.underlying22 hi hz0 hz1 hz2 rfl (Nat.le_of_ble_eq_true rfl) _ _ _ rfl HO.out ⟨vb, 0, none⟩ 1 1 vs rfl HV.out HC.out H1.out hq1 hn hB ?_; intro v2 w3 hown2 hg2 _; have HO2 := Lib.hid hown2; have HG2 := Lib.hid hg2; clear hown2 hg2)
    go_ret
    exact ⟨_, rfl, HO2.out, HG2.out⟩
  | some a =>
    clear hAn
    go_enter Tryd.func26, Tryd.ntmps26
    go_wp2_with (at_builtin; refine wpList_append_own _ rfl (.tmp 23) (.tmp 24) 22 rfl base 30 i0 (.agg #[.int .i64 0, .bool false, .bool false, .bool false, .int .i64 0, .slice none 0 0]) 6 48 Tryd.underlying22 hi hz0 hz1 hz2 rfl (Nat.le_of_ble_eq_true rfl) _ _ _ rfl HO.out ⟨vb, 0, none⟩ 1 1 vs rfl HV.out HC.out H1.out hq1 hn hB ?_; intro v2 w3 hown2 hg2 _; have HO2 := Lib.hid hown2; have HG2 := Lib.hid hg2; clear hown2 hg2)
    all_goals
      go_ret
      exact ⟨_, rfl, HO2.out, HG2.out⟩

theorem Tryd.sizeFrame : (Tryd.prog.info? 30).map (·.size) = some 6 := by
  obtain ⟨i0, hi, _, hz1, _⟩ := info_parts Tryd.infoFrame
  rw [hi]
  simp [hz1]

theorem cells_lit {w : World} {g : Nat} {t : TypeId} {cs : Array Value} (h : Blk w g t cs) (o : Nat) (l : List Value) (hl : ∀ j u, l[j]? = some u → cs[o + j]? = some u) : ∀ j u, l[j]? = some u → w.cell? ((⟨g, o, none⟩ : Addr).add j) = some u := by
  intro j u hu
  have e : (⟨g, o, none⟩ : Addr).add j = ⟨g, o + j, none⟩ := by unfold Addr.add; split <;> simp_all
  rw [e, h.cell]
  exact hl j u hu

set_option maxRecDepth 100000 in
set_option maxHeartbeats 4000000 in
theorem insert_shift (g n c i : Nat) (xs vs : List Value) (cur : Array Value) (vb : Nat) (w : World) (hi : i < n) (hroom : n + 1 ≤ c) (hcm : c ≤ 9223372036854775807) (hne : vb ≠ g)
    (hg : Blk w g 30 cur) (hcs : cur.size = c * 6) (htk : cur.toList.take (n * 6) = xs) (h1x : ∀ u ∈ xs, u.oneCell' = true)
    (hvb : Blk w vb 30 vs.toArray) (hvl : vs.length = 6) (h1 : ∀ u ∈ vs, u.oneCell' = true) :
    Calls Tryd.prog 26 #[.slice (some ⟨g, 0, none⟩) n c, .int .i64 i, .slice (some ⟨vb, 0, none⟩) 1 1] w fun e w' =>
      e = .returned (.slice (some ⟨g, 0, none⟩) (n + 1) c) ∧ ∃ c2 : List Value, Blk w' g 30 c2.toArray ∧ c2.length = cur.size ∧ c2.take ((n + 1) * 6) = xs.take (i * 6) ++ vs ++ xs.drop (i * 6) ∧ w.grownBy w' (some g) := by
  have hxl : xs.length = n * 6 := by rw [← htk, List.length_take, Array.length_toList]; omega
  obtain ⟨c1, hc1⟩ : ∃ c1, c1 = cur.toList.take ((i + 1) * 6) ++ xs.drop (i * 6) ++ cur.toList.drop ((i + 1) * 6 + (xs.drop (i * 6)).length) := ⟨_, rfl⟩
  obtain ⟨c2, hc2⟩ : ∃ c2, c2 = c1.take (i * 6) ++ vs ++ c1.drop (i * 6 + vs.length) := ⟨_, rfl⟩
  have hsl := shift_list cur.toList xs vs (i * 6) (n * 6) 6 (by omega) htk (by rw [Array.length_toList]; omega) hvl c1 c2 (by rw [hc1]; congr 2 <;> (try congr 1) <;> omega) hc2
  have hc1l : c1.length = cur.size := by
    rw [hc1]
    simp only [List.length_append, List.length_take, List.length_drop, Array.length_toList, hxl]
    omega
  have hdl : (xs.drop (i * 6)).length = (n - i) * 6 := by rw [List.length_drop, hxl]; omega
  have hov : ∀ lb cb, (callFunc 39 #[.slice (some ⟨vb, 0, none⟩) 1 1, .slice (some ⟨g, (i + 1) * 6, none⟩) lb cb]).run Tryd.prog w = .ok (.value (.bool false)) w := fun lb cb => by
    rw [run_callFunc_extern Tryd.func39 (by kernel_rfl) (by kernel_rfl) (by kernel_rfl) (e := Extern.SlicesOverlaps.overlaps #[22, 22] #[4]) (by kernel_rfl),
      Lib.run_overlaps_apart w 22 4 30 Tryd.underlying22 6 Tryd.sizeOf30 ⟨vb, 0, none⟩ ⟨g, (i + 1) * 6, none⟩ 1 1 lb cb hne _ _ _ _ hvb.shape hg.shape (by omega) (hvb.frozen 0) (hvb.frozen _)]
    rfl
  have hcp1 : ∀ ty dc sc, (Builtin.copy_ #[22, 22] ty #[.slice (some ⟨g, (i + 1) * 6, none⟩) (n - i) dc, .slice (some ⟨g, i * 6, none⟩) (n + 1 - i) sc]).run Tryd.prog w.drew = .ok (goInt (Nat.min (n + 1 - i) (n - i))) (w.drew.setRow g c1.toArray) := fun ty dc sc => by
    have h := run_copy_rows (P := Tryd.prog) w.drew 22 22 ty 30 g ((i + 1) * 6) (n - i) dc ⟨g, i * 6, none⟩ (n + 1 - i) sc cur 30 (xs.drop (i * 6)) 6 Tryd.underlying22 Tryd.sizeFrame hg
      (by rw [hdl, show Nat.min (n + 1 - i) (n - i) = n - i from Nat.min_eq_right (by omega)])
      (cells_lit hg.drew _ _ (fun j u hu => by
        rw [List.getElem?_drop, ← htk] at hu
        have hlt := (List.getElem?_eq_some_iff.1 hu).1
        rw [List.length_take] at hlt
        rw [List.getElem?_take_of_lt (by omega), Array.getElem?_toList] at hu
        exact hu))
      (by rw [hdl]; omega) (fun u hu => h1x u (List.mem_of_mem_drop hu))
    rw [← hc1] at h
    exact h
  have hB1 : Blk (w.drew.setRow g c1.toArray) g 30 c1.toArray := setRow_heap w.drew g _ _ _ _ hg
  have hV1 : Blk (w.drew.setRow g c1.toArray) vb 30 vs.toArray := (setRow_other w.drew g vb _ hne).trans hvb
  have hcp2 : ∀ ty dc, (Builtin.copy_ #[22, 22] ty #[.slice (some ⟨g, i * 6, none⟩) (n + 1 - i) dc, .slice (some ⟨vb, 0, none⟩) 1 1]).run Tryd.prog (w.drew.setRow g c1.toArray) = .ok (goInt (Nat.min 1 (n + 1 - i))) ((w.drew.setRow g c1.toArray).setRow g c2.toArray) := fun ty dc => by
    have h := run_copy_rows (P := Tryd.prog) (w.drew.setRow g c1.toArray) 22 22 ty 30 g (i * 6) (n + 1 - i) dc ⟨vb, 0, none⟩ 1 1 c1.toArray 30 vs 6 Tryd.underlying22 Tryd.sizeFrame hB1
      (by rw [hvl, show Nat.min 1 (n + 1 - i) = 1 from Nat.min_eq_left (by omega)])
      (cells_lit hV1 _ _ (fun j u hu => by simpa using hu)) (by rw [hvl, List.size_toArray]; omega) h1
    rw [List.toList_toArray, ← hc2] at h
    exact h
  have hfin : (∃ c3 : List Value, Blk ((w.drew.setRow g c1.toArray).setRow g c2.toArray) g 30 c3.toArray ∧ c3.length = cur.size ∧ c3.take ((n + 1) * 6) = xs.take (i * 6) ++ vs ++ xs.drop (i * 6) ∧ w.grownBy ((w.drew.setRow g c1.toArray).setRow g c2.toArray) (some g)) := by
    refine ⟨c2, setRow_heap _ g _ _ _ _ hB1, by rw [hsl.1, Array.length_toList], ?_, ?_⟩
    · rw [← hsl.2]
      congr 1
      omega
    · exact only_trans (only_trans (only_drew (only_refl w _)) (grown_setRow _ _ _)) (grown_setRow _ _ _)
  have HF := Lib.hid hfin
  clear hfin hB1 hV1 hsl hc1 hc2 hcs htk hxl hc1l hdl hvl h1 h1x hg hvb hne
  have hz2 : ¬ ((i : Int) = (n : Int)) := by omega
  have hw1 : IntKind.i64.wrap ((i : Int) + 1) = (i : Int) + 1 := by rw [IntKind.wrap_i64]; omega
  have hb1 : (0 : Int) ≤ (i : Int) + 1 := by omega
  have hin : i ≤ n := by omega
  have htn : ((i : Int) + 1).toNat = i + 1 := by omega
  have hb2 : ¬ (c = i + 1) := by omega
  have hb3 : (i : Int) ≤ (n : Int) + 1 := by omega
  have hb4 : ¬ (c = i) := by omega
  go_enter Tryd.func26, Tryd.ntmps26
  go_wp2_with (simp only [hov])
  go_region_law (refine step_copy_at rfl _ _ 22 22 rfl _ _ (by simp [Act.eval, Act.put]) (by simp [Act.eval, Act.put]) (hcp1 _ _ _) ?_)
  go_wp2_with (at_builtin; refine wpList_copy_at _ rfl _ _ 22 22 rfl _ _ rfl rfl (hcp2 _ _) ?_)
  go_ret
  exact ⟨rfl, HF.out⟩

theorem below_row {B g : Nat} {w0 w : World} (hb : Below B w0 w) (hBg : B ≤ g) (cs : Array Value) : Below B w0 (w.setRow g cs) :=
  hb.trans ⟨rfl, rfl, rfl, by simp, fun k hk => setRow_other w g k cs (by omega)⟩

theorem zeroCells_six (z : Array Value) (h : z.size = 6) (n : Nat) : (Builtin.zeroCells z n).size = n * 6 := by rw [size_zeroCells, h]

set_option maxRecDepth 100000 in
set_option maxHeartbeats 4000000 in
theorem insert_grow (base g n c i : Nat) (xs vs : List Value) (cur : Array Value) (vb : Nat) (w : World) (hi : i < n) (hnc : n ≤ c) (hroom : c < n + 1) (hbig : (n + 1) * 48 ≤ 140737488355328) (hbase : base ≤ w.heap.size)
    (hg : Blk w g 30 cur) (hcs : cur.size = c * 6) (htk : cur.toList.take (n * 6) = xs) (h1x : ∀ u ∈ xs, u.oneCell' = true)
    (hvb : Blk w vb 30 vs.toArray) (hvl : vs.length = 6) (h1 : ∀ u ∈ vs, u.oneCell' = true) :
    Calls Tryd.prog 26 #[.slice (some ⟨g, 0, none⟩) n c, .int .i64 i, .slice (some ⟨vb, 0, none⟩) 1 1] w fun e w' =>
      ∃ v', e = .returned v' ∧ w'.ownsRow base 30 6 v' (n + 1) (xs.take (i * 6) ++ vs ++ xs.drop (i * 6)) ∧ Below w.heap.size w w' := by
  obtain ⟨i0, hi0, hz0, hzs, hzb⟩ := info_parts Tryd.infoFrame
  have hxl : xs.length = n * 6 := by rw [← htk, List.length_take, Array.length_toList, hcs]; omega
  have hgc : ∀ j u, xs[j]? = some u → cur[0 + j]? = some u := fun j u hu => by
    rw [← htk] at hu
    have hlt := (List.getElem?_eq_some_iff.1 hu).1
    rw [List.length_take] at hlt
    rw [List.getElem?_take_of_lt (by omega), Array.getElem?_toList] at hu
    rw [Nat.zero_add]
    exact hu
  have hold : (Builtin.firstCells i0.size i (.slice (some ⟨g, 0, none⟩) i c)).run Tryd.prog w.drew = .ok (xs.take (i * 6)).toArray w.drew := by
    rw [hzs]
    refine run_firstCells_some w.drew 6 i ⟨g, 0, none⟩ i c (xs.take (i * 6)) (by rw [List.length_take]; omega) (cells_lit hg.drew 0 _ fun j u hu => ?_)
    have hlt := (List.getElem?_eq_some_iff.1 hu).1
    rw [List.length_take] at hlt
    rw [List.getElem?_take_of_lt (by omega)] at hu
    exact hgc j u hu
  have hik : i + (n + 1 - i) = n + 1 := by omega
  obtain ⟨G, hG⟩ : ∃ G, G = grownCap w (n + 1) c 30 := ⟨_, rfl⟩
  obtain ⟨Z, hZ⟩ : ∃ Z, Z = (Value.agg #[.int .i64 0, .bool false, .bool false, .bool false, .int .i64 0, .slice none 0 0]).cells := ⟨_, rfl⟩
  have hZs : Z.size = 6 := by rw [hZ]; rfl
  obtain ⟨ROW, hROW⟩ : ∃ ROW : List Value, ROW = xs.take (i * 6) ++ (Builtin.zeroCells Z (n + 1 - i)).toList ++ (Builtin.zeroCells Z (G - (n + 1))).toList := ⟨_, rfl⟩
  obtain ⟨W1, hW1⟩ : ∃ W1, W1 = w.drew.alloc (.cells ROW.toArray 30) := ⟨_, rfl⟩
  have hGn : n + 1 ≤ G := by rw [hG]; exact grownCap_ge w _ _ _
  have hGm : G ≤ maxLen := by rw [hG]; exact grownCap_le_maxLen w (n + 1) c 30 (by unfold maxLen; omega)
  have hrz : ∀ ty, (Builtin.append_ #[22, 3] ty #[.slice (some ⟨g, 0, none⟩) i c, .int .i64 ((n : Int) + 1 - (i : Int))]).run Tryd.prog w =
      .ok (.slice (some ⟨w.heap.size, 0, none⟩) (n + 1) G) W1 := fun ty => by
    have h := Lib.run_append_grow_zeros w 22 3 ty 30 i0 _ .i64 .i64 Tryd.underlying22 Tryd.underlying3 hi0 hz0 (some ⟨g, 0, none⟩) i c (xs.take (i * 6)) hold (n + 1 - i) (by omega) (by omega) (by omega) (by omega) (by rw [hzb]; omega) (by rw [hzb, hik]; exact growslice_fits hroom hbig)
    rw [hik, ← hG, ← hZ] at h
    have e : ((xs.take (i * 6)).toArray ++ Builtin.zeroCells Z (n + 1 - i) ++ Builtin.zeroCells Z (G - (n + 1))) = ROW.toArray := by
      rw [hROW]
      apply Array.ext'
      simp
    rw [e, ← hW1] at h
    rw [show ((n : Int) + 1 - (i : Int)) = ((n + 1 - i : Nat) : Int) by omega]
    exact h
  have hRl : ROW.length = G * 6 := by
    rw [hROW]
    simp only [List.length_append, List.length_take, Array.length_toList, zeroCells_six _ hZs, hxl]
    omega
  have hRt : ROW.take (i * 6) = xs.take (i * 6) := by
    rw [hROW, List.append_assoc, List.take_left' (by rw [List.length_take]; omega)]
  have hdl : (xs.drop (i * 6)).length = (n - i) * 6 := by rw [List.length_drop, hxl]; omega
  obtain ⟨c1, hc1⟩ : ∃ c1, c1 = ROW.take (i * 6) ++ vs ++ ROW.drop (i * 6 + vs.length) := ⟨_, rfl⟩
  obtain ⟨c2, hc2⟩ : ∃ c2, c2 = c1.take ((i + 1) * 6) ++ xs.drop (i * 6) ++ c1.drop ((i + 1) * 6 + (xs.drop (i * 6)).length) := ⟨_, rfl⟩
  have hsl := grow_list ROW xs vs (i * 6) (n * 6) 6 (by omega) hxl hRt (by omega) hvl c1 c2 hc1 (by rw [hc2]; congr 2 <;> (try congr 1) <;> omega)
  have hc1l : c1.length = ROW.length := by
    rw [hc1]
    simp only [List.length_append, List.length_take, List.length_drop, hvl]
    omega
  have hB1 : Blk W1 w.heap.size 30 ROW.toArray := by rw [hW1]; exact Blk.new w.drew _ _
  have hG1 : Blk W1 g 30 cur := by rw [hW1]; exact hg.drew.alloc _
  have hV1 : Blk W1 vb 30 vs.toArray := by rw [hW1]; exact hvb.drew.alloc _
  have hbe1 : Below w.heap.size w W1 := by rw [hW1]; exact ((Below.refl _ _).drew).alloc (Nat.le_refl _) _
  have hgne : g ≠ w.heap.size := Nat.ne_of_lt hg.lt
  have hvne : vb ≠ w.heap.size := Nat.ne_of_lt hvb.lt
  obtain ⟨W2, hW2⟩ : ∃ W2, W2 = W1.setRow w.heap.size c1.toArray := ⟨_, rfl⟩
  have hcpA : ∀ ty dc, (Builtin.copy_ #[22, 22] ty #[.slice (some ⟨w.heap.size, i * 6, none⟩) (n + 1 - i) dc, .slice (some ⟨vb, 0, none⟩) 1 1]).run Tryd.prog W1 = .ok (goInt (Nat.min 1 (n + 1 - i))) W2 := fun ty dc => by
    have h := run_copy_rows (P := Tryd.prog) W1 22 22 ty 30 w.heap.size (i * 6) (n + 1 - i) dc ⟨vb, 0, none⟩ 1 1 ROW.toArray 30 vs 6 Tryd.underlying22 Tryd.sizeFrame hB1
      (by rw [hvl, show Nat.min 1 (n + 1 - i) = 1 from Nat.min_eq_left (by omega)])
      (cells_lit hV1 _ _ (fun j u hu => by simpa using hu)) (by rw [hvl, List.size_toArray]; omega) h1
    rw [List.toList_toArray, ← hc1, ← hW2] at h
    exact h
  have hB2 : Blk W2 w.heap.size 30 c1.toArray := by rw [hW2]; exact setRow_heap _ _ _ _ _ _ hB1
  have hG2 : Blk W2 g 30 cur := by rw [hW2]; exact (setRow_other W1 _ g _ hgne).trans hG1
  have hbe2 : Below w.heap.size w W2 := by rw [hW2]; exact below_row hbe1 (Nat.le_refl _) _
  obtain ⟨W3, hW3⟩ : ∃ W3, W3 = W2.drew.setRow w.heap.size c2.toArray := ⟨_, rfl⟩
  have hcpB : ∀ ty dc sc, (Builtin.copy_ #[22, 22] ty #[.slice (some ⟨w.heap.size, (i + 1) * 6, none⟩) (n - i) dc, .slice (some ⟨g, i * 6, none⟩) (n - i) sc]).run Tryd.prog W2.drew = .ok (goInt (Nat.min (n - i) (n - i))) W3 := fun ty dc sc => by
    have h := run_copy_rows (P := Tryd.prog) W2.drew 22 22 ty 30 w.heap.size ((i + 1) * 6) (n - i) dc ⟨g, i * 6, none⟩ (n - i) sc c1.toArray 30 (xs.drop (i * 6)) 6 Tryd.underlying22 Tryd.sizeFrame hB2
      (by rw [hdl, show Nat.min (n - i) (n - i) = n - i from Nat.min_self _])
      (cells_lit hG2.drew _ _ (fun j u hu => by
        rw [List.getElem?_drop] at hu
        have := hgc _ u hu
        rw [Nat.zero_add] at this
        exact this)) (by rw [hdl, List.size_toArray]; omega) (fun u hu => h1x u (List.mem_of_mem_drop hu))
    rw [List.toList_toArray, ← hc2, ← hW3] at h
    exact h
  have hfin : W3.ownsRow base 30 6 (.slice (some ⟨w.heap.size, 0, none⟩) (n + 1) G) (n + 1) (xs.take (i * 6) ++ vs ++ xs.drop (i * 6)) ∧ Below w.heap.size w W3 := by
    refine ⟨⟨?_, .inr ⟨w.heap.size, G, c2.toArray, rfl, hbase, ?_, hGn, hGm, ?_, ?_⟩⟩, ?_⟩
    · simp only [List.length_append, List.length_take, hdl, hvl, hxl]
      omega
    · rw [hW3]
      exact setRow_heap _ _ _ _ _ _ hB2.drew
    · rw [List.size_toArray, hsl.1, hRl]
    · rw [List.toList_toArray, ← hsl.2]
      congr 1
      omega
    · rw [hW3]
      exact below_row hbe2.drew (Nat.le_refl _) _
  have HF := Lib.hid hfin
  have hGi : ¬ (G = i) := by omega
  have hGim : ¬ (G = i + 1) := by omega
  have hG63 : G ≤ 9223372036854775807 := by unfold maxLen at hGm; exact hGm
  clear hfin hB1 hB2 hG1 hG2 hV1 hsl hc1 hc2 hcs htk hxl hc1l hdl hvl h1 h1x hg hvb hW1 hW2 hW3 hbe1 hbe2 hRl hRt hROW hZ hZs hG hGm hold hgc hi0 hz0 hzs hzb hik hvne hgne
  have hz2 : ¬ ((i : Int) = (n : Int)) := by omega
  have hz3 : (c : Int) < (n : Int) + 1 := by omega
  have hw1 : IntKind.i64.wrap ((i : Int) + 1) = (i : Int) + 1 := by rw [IntKind.wrap_i64]; omega
  have hb1 : (0 : Int) ≤ (i : Int) + 1 := by omega
  have hin : i ≤ n := by omega
  have htn : ((i : Int) + 1).toNat = i + 1 := by omega
  have hb3 : (i : Int) ≤ (n : Int) := by omega
  have hci : ¬ (c = i) := by omega
  go_enter Tryd.func26, Tryd.ntmps26
  go_wp2_with (first
    | (at_builtin; refine Lib.wpList_append_run _ rfl _ _ _ _ rfl _ _ rfl rfl _ _ (hrz _) ?_)
    | (at_builtin; refine wpList_copy_at _ rfl _ _ 22 22 rfl _ _ rfl rfl (hcpA _ _) ?_))
  go_region_law (refine step_copy_at rfl _ _ 22 22 rfl _ _ (by simp [Act.eval, Act.put]) (by simp [Act.eval, Act.put]) (hcpB _ _ _) ?_)
  go_wp2
  go_ret
  exact ⟨_, rfl, HF.out⟩

/-- One frame put into an owned row of frames. -/
theorem insert_any (base : Nat) (v : Value) (n i : Nat) (xs vs : List Value) (vb : Nat) (w : World) (hi : i ≤ n) (hn : (n + 1) * 48 ≤ 140737488355328) (hown : w.ownsRow base 30 6 v n xs) (h1x : ∀ u ∈ xs, u.oneCell' = true)
    (hvb : Blk w vb 30 vs.toArray) (hvl : vs.length = 6) (h1 : ∀ u ∈ vs, u.oneCell' = true) (hne : v.ownBlock ≠ some vb) (hB : base ≤ w.heap.size) :
    Calls Tryd.prog 26 #[v, .int .i64 i, .slice (some ⟨vb, 0, none⟩) 1 1] w fun e w' =>
      ∃ v', e = .returned v' ∧ w'.ownsRow base 30 6 v' (n + 1) (xs.take (i * 6) ++ vs ++ xs.drop (i * 6)) ∧ w.grownBy w' v.ownBlock := by
  rcases Nat.lt_or_ge i n with hlt | hge
  · rcases hown.2 with ⟨_, h0⟩ | ⟨g, cap, cur, rfl, hbg, hg, hnc, hcm, hcs, htk⟩
    · omega
    · have hvg : vb ≠ g := fun e => hne (by simp [Value.ownBlock, e])
      have hcm2 := hcm
      unfold maxLen at hcm2
      rcases Nat.lt_or_ge cap (n + 1) with h1c | h1c
      · refine (insert_grow base g n cap i xs vs cur vb w hlt hnc h1c hn hB hg hcs htk h1x hvb hvl h1).mono fun e w' ⟨v', he, ho, hb⟩ => ⟨v', he, ho, only_of_below hb _⟩
      · refine (insert_shift g n cap i xs vs cur vb w hlt h1c hcm2 hvg hg hcs htk h1x hvb hvl h1).mono fun e w' ⟨he, c2, hb, hl, ht, hgr⟩ => ⟨_, he, ⟨?_, .inr ⟨g, cap, c2.toArray, rfl, hbg, hb, h1c, hcm, by rw [List.size_toArray, hl, hcs], ?_⟩⟩, hgr⟩
        · rw [← ht, List.length_take, hl, hcs]
          omega
        · rw [List.toList_toArray]
          exact ht
  · obtain rfl : i = n := by omega
    have hl := hown.1
    rw [List.take_of_length_le (by omega), List.drop_of_length_le (by omega), List.append_nil]
    exact insert_end base v i xs vs vb w hn hown hvb hvl h1 hB
end Go.Proofs.YtlfdpcddbnkpjaaDoor
