/-
  The walks of queue.own and the law's ownFrames: frames in memory of the call's own.
-/
import Derived.Test.YtlfdpcddbnkpjaaDoorFrmRow
namespace Go.Proofs.YtlfdpcddbnkpjaaDoor
open Go.RowKit Go.ChangeShapes Go.WideShapes

theorem Tryd.infoFrame : (Tryd.prog.info? 30).map (fun i => (i.zero, i.size, i.bytes)) = some (some (.agg #[.int .i64 0, .bool false, .bool false, .bool false, .int .i64 0, .slice none 0 0]), 6, 48) := by kernel_rfl

theorem cell_new6 (w : World) (f : M.Fr) (t : TypeId) : ∀ j v, f.cells[j]? = some v → (w.alloc (.cells #[.int .i64 f.id, .bool f.long, .bool f.fast, .bool f.remote, .int .i64 f.size, .slice f.A f.data.length f.c] t)).cell? ((⟨w.heap.size, 0, none⟩ : Addr).add j) = some v := by
  intro j v hj
  have hadd : (⟨w.heap.size, 0, none⟩ : Addr).add j = ⟨w.heap.size, j, none⟩ := by unfold Addr.add; split <;> simp_all
  rw [hadd, (Blk.new w t _).cell, ← hj, ← Array.getElem?_toList]
  rfl

theorem six_cells (f : M.Fr) : ∀ u ∈ f.cells, u.oneCell' = true := by
  intro u hu
  unfold M.Fr.cells at hu
  simp only [List.mem_cons, List.not_mem_nil, or_false] at hu
  rcases hu with rfl | rfl | rfl | rfl | rfl | rfl <;> rfl

theorem grown_none {w w' : World} (hb : Below w.heap.size w w') : w.grownBy w' none := only_of_below hb none

theorem own_kept {w w' : World} {base : Nat} {e size n : Nat} {v : Value} {xs : List Value} (h : w.ownsRow base e size v n xs) (hb : Below w.heap.size w w') : w'.ownsRow base e size v n xs :=
  h.kept (grown_none hb) (by cases hv : v.ownBlock <;> simp)

theorem own_stage {w wr w1 : World} {o : Obj} {v : Value} {j : Nat} {l' : List M.Fr} {g : M.Fr} (hw : wr.ownsRow w.heap.size 30 6 v j (l'.flatMap M.Fr.cells)) (hg : ∀ g ∈ l', g.own w.heap.size wr) (hb : Below w.heap.size w wr)
    (hgo : g.own (wr.alloc o).heap.size w1) (hb1 : Below (wr.alloc o).heap.size (wr.alloc o) w1) :
    w1.ownsRow w.heap.size 30 6 v j (l'.flatMap M.Fr.cells) ∧ (∀ x ∈ l' ++ [g], x.own w.heap.size w1) ∧ Below w.heap.size w w1 := by
  have hs := hb.size
  refine ⟨own_kept (hw.alloc o) hb1, fun x hx => ?_, (hb.alloc hs o).trans (hb1.mono (by simp; omega))⟩
  rcases List.mem_append.1 hx with hx | hx
  · exact own_kept (World.ownsRow.alloc (hg x hx) o) hb1
  · obtain rfl : x = g := by simpa using hx
    exact own_weaken hgo (by simp; omega)

theorem own_base {w w1 : World} (hb : Below w.heap.size w w1) (o : Obj) : w.heap.size ≤ (w1.alloc o).heap.size := by
  have := hb.size
  simp
  omega

theorem own_append {w w1 w3 : World} {o : Obj} {v : Value} {j : Nat} {xs : List Value} {L : List M.Fr} (hw : w1.ownsRow w.heap.size 30 6 v j xs) (hg : ∀ x ∈ L, x.own w.heap.size w1) (hb : Below w.heap.size w w1) (hg2 : (w1.alloc o).grownBy w3 v.ownBlock) :
    (∀ x ∈ L, x.own w.heap.size w3) ∧ Below w.heap.size w w3 :=
  ⟨fun x hx => (World.ownsRow.alloc (hg x hx) o).kept hg2 (own_apart (hg x hx) hw (by decide)), append_below hw hb (Nat.le_refl _) hg2⟩

theorem copy_any_agg (f : M.Fr) (hn : f.data.length ≤ 140737488355328) (w : World) (h : f.ok w) :
    Calls Tryd.prog 28 #[.agg #[.int .i64 f.id, .bool f.long, .bool f.fast, .bool f.remote, .int .i64 f.size, .slice f.A f.data.length f.c]] w fun e w' => ∃ g : M.Fr, g.abs = f.abs ∧ e = .returned (.agg #[.int .i64 g.id, .bool g.long, .bool g.fast, .bool g.remote, .int .i64 g.size, .slice g.A g.data.length g.c]) ∧ g.own w.heap.size w' ∧ Below w.heap.size w w' := copy_any f hn w h

theorem ownFrame_any_agg (f : M.Fr) (hn : f.data.length ≤ 140737488355328) (w : World) (h : f.ok w) :
    Calls Tryd.prog 30 #[.agg #[.int .i64 f.id, .bool f.long, .bool f.fast, .bool f.remote, .int .i64 f.size, .slice f.A f.data.length f.c]] w fun e w' => ∃ g : M.Fr, g.abs = f.abs ∧ e = .returned (.agg #[.int .i64 g.id, .bool g.long, .bool g.fast, .bool g.remote, .int .i64 g.size, .slice g.A g.data.length g.c]) ∧ g.own w.heap.size w' ∧ Below w.heap.size w w' := ownFrame_any f hn w h

set_option maxRecDepth 100000 in
set_option maxHeartbeats 1600000 in
theorem own_any (A : Option Addr) (n c : Nat) (l : List M.Fr) (hn : n * 48 ≤ 140737488355328) (hd : ∀ f ∈ l, f.data.length ≤ 140737488355328) (w : World) (h : Frs w A n l) :
    Calls Tryd.prog 25 #[.slice A n c] w fun e w' => ∃ (v : Value) (l' : List M.Fr), e = .returned v ∧ w'.ownsRow w.heap.size 30 6 v n (l'.flatMap M.Fr.cells) ∧ l'.map M.Fr.abs = l.map M.Fr.abs ∧ (∀ g ∈ l', g.own w.heap.size w') ∧ Below w.heap.size w w' := by
  obtain ⟨i0, hi, hz0, hz1, hz2⟩ := info_parts Tryd.infoFrame
  have hl := Lib.hid h.len
  have HD := Lib.hid hd
  have H := Lib.hid h
  clear hd h
  go_enter Tryd.func25, Tryd.ntmps25
  go_wp2
  go_loopw [3, 8] (fun v i wr => ∃ (j : Nat) (l' : List M.Fr), j ≤ n ∧ i = .int .i64 j ∧ wr.ownsRow w.heap.size 30 6 v j (l'.flatMap M.Fr.cells) ∧ l'.map M.Fr.abs = (l.map M.Fr.abs).take j ∧ (∀ g ∈ l', g.own w.heap.size wr) ∧ Below w.heap.size w wr) (fun _ i _ => n - (intOf i).toNat)
  case atStart => exact ⟨0, [], Nat.zero_le _, rfl, World.ownsRow_nil _ _ _ _, by simp, by simp, Below.refl _ _⟩
  case round =>
    obtain ⟨j, l', hj, rfl, hown, habs, hg', hb⟩ := hrel
    have HA := Lib.hid habs
    have HG := Lib.hid hg'
    have HW := Lib.hid hown
    clear habs hg' hown
    by_cases hlt : j < n
    · obtain ⟨a, f, rfl, hf, hR⟩ := H.out.cells_ hlt
      have hfd := HD.out f (List.mem_of_getElem? hf)
      obtain ⟨p0, p1, p2, p3, p4, p5⟩ := (hR wr hb).2
      have hok := fun o => (hR _ (hb.alloc hb.size o)).1
      have q1 : j + 1 ≤ maxLen := by unfold maxLen; omega
      have q2 : (j + 1) * 48 ≤ 140737488355328 := by omega
      have HO := Lib.hid hok
      have HF := Lib.hid hf
      clear hR hf hok
      go_wp2_with (first
        | (go_at_call 28; refine (copy_any_agg f hfd _ (HO.out _)).mono ?_; rintro e w1 ⟨g, hga, rfl, hgo, hb1⟩; have hst := own_stage HW.out HG.out hb hgo hb1; have HGA := Lib.hid hga; have HST := Lib.hid hst; clear hga hgo hst)
        | (at_builtin; refine wpList_append_own _ rfl (.tmp 12) (.tmp 15) 22 rfl w.heap.size 30 i0 (.agg #[.int .i64 0, .bool false, .bool false, .bool false, .int .i64 0, .slice none 0 0]) 6 48 Tryd.underlying22 hi hz0 hz1 hz2 rfl (Nat.le_of_ble_eq_true rfl) _ _ _ rfl (HST.out.1.alloc _) ⟨w1.heap.size, 0, none⟩ 1 1 g.cells rfl rfl (cell_new6 _ _ _) (six_cells g) q1 q2 (own_base HST.out.2.2 _) ?_; intro v2 w3 hown2 hg2 _; have hF := own_append HST.out.1 HST.out.2.1 HST.out.2.2 hg2; have HO2 := Lib.hid hown2; have HF2 := Lib.hid hF; clear hown2 hF hg2))
      go_roundw
      case rel =>
        refine ⟨j + 1, l' ++ [g], by omega, by go_num, ?_, ?_, HF2.out.1, HF2.out.2⟩
        · have := HO2.out
          rw [List.flatMap_append, List.flatMap_cons, List.flatMap_nil, List.append_nil]
          exact this
        · rw [List.map_append, HA.out, take_map_succ _ l j f HF.out, List.map_cons, List.map_nil, HGA.out]
      case measure => simp [intOf]; omega
    · obtain rfl : j = n := by omega
      have e : (l.map M.Fr.abs).take j = l.map M.Fr.abs := List.take_of_length_le (by rw [List.length_map, hl.out]; exact Nat.le_refl _)
      have HE := Lib.hid e
      clear e
      go_wp2
      go_ret
      exact ⟨_, l', rfl, HW.out, by rw [HA.out, HE.out], HG.out, hb⟩

set_option maxRecDepth 100000 in
set_option maxHeartbeats 1600000 in
theorem ownFrames_any (A : Option Addr) (n c : Nat) (l : List M.Fr) (hn : n * 48 ≤ 140737488355328) (hd : ∀ f ∈ l, f.data.length ≤ 140737488355328) (w : World) (h : Frs w A n l) :
    Calls Tryd.prog 11 #[.slice A n c] w fun e w' => ∃ (v : Value) (l' : List M.Fr), e = .returned v ∧ w'.ownsRow w.heap.size 30 6 v n (l'.flatMap M.Fr.cells) ∧ l'.map M.Fr.abs = l.map M.Fr.abs ∧ (∀ g ∈ l', g.own w.heap.size w') ∧ Below w.heap.size w w' := by
  obtain ⟨i0, hi, hz0, hz1, hz2⟩ := info_parts Tryd.infoFrame
  have hl := Lib.hid h.len
  have HD := Lib.hid hd
  have H := Lib.hid h
  clear hd h
  go_enter Tryd.func11, Tryd.ntmps11
  go_wp2
  go_loopw [3, 8] (fun v i wr => ∃ (j : Nat) (l' : List M.Fr), j ≤ n ∧ i = .int .i64 j ∧ wr.ownsRow w.heap.size 30 6 v j (l'.flatMap M.Fr.cells) ∧ l'.map M.Fr.abs = (l.map M.Fr.abs).take j ∧ (∀ g ∈ l', g.own w.heap.size wr) ∧ Below w.heap.size w wr) (fun _ i _ => n - (intOf i).toNat)
  case atStart => exact ⟨0, [], Nat.zero_le _, rfl, World.ownsRow_nil _ _ _ _, by simp, by simp, Below.refl _ _⟩
  case round =>
    obtain ⟨j, l', hj, rfl, hown, habs, hg', hb⟩ := hrel
    have HA := Lib.hid habs
    have HG := Lib.hid hg'
    have HW := Lib.hid hown
    clear habs hg' hown
    by_cases hlt : j < n
    · obtain ⟨a, f, rfl, hf, hR⟩ := H.out.cells_ hlt
      have hfd := HD.out f (List.mem_of_getElem? hf)
      obtain ⟨p0, p1, p2, p3, p4, p5⟩ := (hR wr hb).2
      have hok := fun o => (hR _ (hb.alloc hb.size o)).1
      have q1 : j + 1 ≤ maxLen := by unfold maxLen; omega
      have q2 : (j + 1) * 48 ≤ 140737488355328 := by omega
      have HO := Lib.hid hok
      have HF := Lib.hid hf
      clear hR hf hok
      go_wp2_with (first
        | (go_at_call 30; refine (ownFrame_any_agg f hfd _ (HO.out _)).mono ?_; rintro e w1 ⟨g, hga, rfl, hgo, hb1⟩; have hst := own_stage HW.out HG.out hb hgo hb1; have HGA := Lib.hid hga; have HST := Lib.hid hst; clear hga hgo hst)
        | (at_builtin; refine wpList_append_own _ rfl (.tmp 12) (.tmp 15) 22 rfl w.heap.size 30 i0 (.agg #[.int .i64 0, .bool false, .bool false, .bool false, .int .i64 0, .slice none 0 0]) 6 48 Tryd.underlying22 hi hz0 hz1 hz2 rfl (Nat.le_of_ble_eq_true rfl) _ _ _ rfl (HST.out.1.alloc _) ⟨w1.heap.size, 0, none⟩ 1 1 g.cells rfl rfl (cell_new6 _ _ _) (six_cells g) q1 q2 (own_base HST.out.2.2 _) ?_; intro v2 w3 hown2 hg2 _; have hF := own_append HST.out.1 HST.out.2.1 HST.out.2.2 hg2; have HO2 := Lib.hid hown2; have HF2 := Lib.hid hF; clear hown2 hF hg2))
      go_roundw
      case rel =>
        refine ⟨j + 1, l' ++ [g], by omega, by go_num, ?_, ?_, HF2.out.1, HF2.out.2⟩
        · have := HO2.out
          rw [List.flatMap_append, List.flatMap_cons, List.flatMap_nil, List.append_nil]
          exact this
        · rw [List.map_append, HA.out, take_map_succ _ l j f HF.out, List.map_cons, List.map_nil, HGA.out]
      case measure => simp [intOf]; omega
    · obtain rfl : j = n := by omega
      have e : (l.map M.Fr.abs).take j = l.map M.Fr.abs := List.take_of_length_le (by rw [List.length_map, hl.out]; exact Nat.le_refl _)
      have HE := Lib.hid e
      clear e
      go_wp2
      go_ret
      exact ⟨_, l', rfl, HW.out, by rw [HA.out, HE.out], HG.out, hb⟩
end Go.Proofs.YtlfdpcddbnkpjaaDoor
