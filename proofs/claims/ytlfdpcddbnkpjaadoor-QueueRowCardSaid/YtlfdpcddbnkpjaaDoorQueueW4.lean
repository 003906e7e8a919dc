/-
  The walk of slices.BinarySearchFunc at queue.place.
-/
import Derived.Test.YtlfdpcddbnkpjaaDoorQueueW3
namespace Go.Proofs.YtlfdpcddbnkpjaaDoor
open Go.RowKit Go.ChangeShapes Go.WideShapes

theorem same_at {l : List M.Fr} {k m : Nat} {f g : M.Fr} {t : List UInt8} (h : k = m) (hk : l[k]? = some g) (hm : l[m]? = some f) (hq : M.leq f.abs.name t = true) : M.leq g.abs.name t = true := by
  subst h
  rw [hm] at hk
  cases hk
  exact hq

set_option maxRecDepth 100000 in
set_option maxHeartbeats 1600000 in
theorem search_any (A : Option Addr) (n c : Nat) (l : List M.Fr) (t : ByteArray) (hn : n ≤ 1000000) (w : World) (h : Frs w A n l) (hg : ∀ f ∈ l, f.abs.chk = 0)
    (hm : ∀ (x y : Nat) (f g : M.Fr), x < y → l[x]? = some f → l[y]? = some g → M.leq g.abs.name t.data.toList = true → M.leq f.abs.name t.data.toList = true) :
    Calls Tryd.prog 41 #[.slice A n c, .string t, .func (.func 42) #[] #[]] w fun e w' =>
      ∃ (k : Nat) (b : Bool), k ≤ n ∧ (∀ (x : Nat) (f : M.Fr), x < k → l[x]? = some f → M.leq f.abs.name t.data.toList = true) ∧ (∀ (x : Nat) (f : M.Fr), k ≤ x → l[x]? = some f → M.leq f.abs.name t.data.toList = false) ∧ e = .returned (.tuple #[.int .i64 k, .bool b]) ∧ Below w.heap.size w w' := by
  have hl := Lib.hid h.len
  have H := Lib.hid h
  have HG := Lib.hid hg
  have HM := Lib.hid hm
  clear h hg hm
  go_enter Tryd.func41, Tryd.ntmps41
  go_wp2
  go_loopw [9, 10] (fun i j wr => ∃ (x y : Nat), x ≤ y ∧ y ≤ n ∧ i = .int .i64 x ∧ j = .int .i64 y ∧ (∀ (k : Nat) (f : M.Fr), k < x → l[k]? = some f → M.leq f.abs.name t.data.toList = true) ∧ (∀ (k : Nat) (f : M.Fr), y ≤ k → l[k]? = some f → M.leq f.abs.name t.data.toList = false) ∧ Below w.heap.size w wr) (fun i j _ => (intOf j).toNat - (intOf i).toNat)
  case atStart =>
    refine ⟨0, n, Nat.zero_le _, Nat.le_refl _, rfl, rfl, fun k f hk => by omega, fun k f hk hf => ?_, Below.refl _ _⟩
    have := (List.getElem?_eq_some_iff.1 hf).1
    rw [hl.out] at this
    omega
  case round =>
    obtain ⟨x, y, hxy, hy, rfl, rfl, hlo, hhi, hb⟩ := hrel
    by_cases hlt : x < y
    · obtain ⟨m, hme⟩ : ∃ m : Nat, ((x : Int) + (y : Int)) / 2 = (m : Int) := ⟨(x + y) / 2, by omega⟩
      have hm1 : x ≤ m := by omega
      have hm2 : m < y := by omega
      have hm3 : m < n := by omega
      obtain ⟨a, f, rfl, hf, hR⟩ := H.out.cells_ hm3
      obtain ⟨p0, p1, p2, p3, p4, p5⟩ := (hR wr hb).2
      have hck := Lib.hid (HG.out f (List.mem_of_getElem? hf))
      have HF := Lib.hid hf
      have HLO := Lib.hid hlo
      have HHI := Lib.hid hhi
      clear hf hR hlo hhi
      by_cases hq : M.leq f.abs.name t.data.toList = true
      · have HQ := Lib.hid hq
        have hz := Lib.hid (show (-1 : Int) = if M.leq f.abs.name t.data.toList = true then -1 else 1 from by rw [if_pos hq])
        clear hq
        go_wp2_with (go_at_call 42; refine (place1_any f t _ hck.out (-1) hz.out).mono ?_; rintro e w1 ⟨rfl, hb1⟩)
        go_roundw
        case rel => exact ⟨m + 1, y, by omega, hy, by go_num, rfl, fun k g hk hgk => (Nat.lt_or_ge k m).elim (fun h => HM.out k m g f h hgk HF.out HQ.out) (fun h => same_at (show k = m by omega) hgk HF.out HQ.out), HHI.out, hb.trans (hb1.mono hb.size)⟩
        case measure => simp [intOf]; omega
      · have HQ := Lib.hid hq
        have hz := Lib.hid (show (1 : Int) = if M.leq f.abs.name t.data.toList = true then -1 else 1 from by rw [if_neg hq])
        clear hq
        go_wp2_with (go_at_call 42; refine (place1_any f t _ hck.out 1 hz.out).mono ?_; rintro e w1 ⟨rfl, hb1⟩)
        go_roundw
        case rel => exact ⟨x, m, by omega, by omega, rfl, rfl, HLO.out, fun k g hk hgk => by
          rw [Bool.eq_false_iff]
          intro h
          rcases Nat.lt_or_ge m k with h1 | h1
          · exact HQ.out (HM.out m k f g h1 HF.out hgk h)
          · obtain rfl : k = m := by omega
            rw [HF.out] at hgk
            cases hgk
            exact HQ.out h, hb.trans (hb1.mono hb.size)⟩
        case measure => simp [intOf]; omega
    · obtain rfl : x = y := by omega
      have HLO := Lib.hid hlo
      have HHI := Lib.hid hhi
      clear hlo hhi
      by_cases hxn : x < n
      · obtain ⟨a, f, rfl, hf, hR⟩ := H.out.cells_ hxn
        obtain ⟨p0, p1, p2, p3, p4, p5⟩ := (hR wr hb).2
        have hck := Lib.hid (HG.out f (List.mem_of_getElem? hf))
        have hz := Lib.hid (show (1 : Int) = if M.leq f.abs.name t.data.toList = true then -1 else 1 from by rw [HHI.out x f (Nat.le_refl _) hf]; rfl)
        clear hf hR
        go_wp2_with (go_at_call 42; refine (place1_any f t _ hck.out 1 hz.out).mono ?_; rintro e w1 ⟨rfl, hb1⟩)
        go_ret2
        exact ⟨x, _, hy, HLO.out, HHI.out, rfl, hb.trans (hb1.mono hb.size)⟩
      · go_wp2
        go_ret2
        exact ⟨x, _, hy, HLO.out, HHI.out, rfl, hb⟩
end Go.Proofs.YtlfdpcddbnkpjaaDoor
