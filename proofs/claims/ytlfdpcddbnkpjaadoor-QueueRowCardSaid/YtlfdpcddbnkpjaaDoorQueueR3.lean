/-
  The walk of slices.SortStableFunc at few frames.
-/
import Derived.Test.YtlfdpcddbnkpjaaDoorQueueR2
namespace Go.Proofs.YtlfdpcddbnkpjaaDoor
open Go.RowKit Go.ChangeShapes Go.WideShapes

theorem insort_nil (w : World) : Calls Tryd.prog 49 #[.slice none 0 0, .int .i64 0, .int .i64 0, .func (.func 22) #[] #[]] w fun e w' => e = .returned (.tuple #[]) ∧ w' = w := by
  go_enter Tryd.func49, Tryd.ntmps49
  go_wp2
  go_loopw [8] (fun v wr => v = .int .i64 1 ∧ wr = w) (fun _ _ => 0)
  case atStart => exact ⟨rfl, rfl⟩
  case round =>
    obtain ⟨rfl, rfl⟩ := hrel
    go_wp2
    go_end0
    exact ⟨rfl, rfl⟩

set_option maxRecDepth 100000 in
theorem stable_any (A : Option Addr) (n c : Nat) (Q : Ending → World → Prop) (w : World) (hn : n ≤ 16)
    (h : Calls Tryd.prog 49 #[.slice A n c, .int .i64 0, .int .i64 n, .func (.func 22) #[] #[]] w fun e w' => e = .returned (.tuple #[]) ∧ Q e w') :
    Calls Tryd.prog 37 #[.slice A n c, .int .i64 n, .func (.func 22) #[] #[]] w fun e w' => e = .returned (.tuple #[]) ∧ Q (.returned (.tuple #[])) w' := by
  have H := Lib.hid h
  clear h
  go_enter Tryd.func37, Tryd.ntmps37
  go_wp2
  go_loopw [7, 8] (fun u v wr => u = .int .i64 0 ∧ v = .int .i64 20 ∧ wr = w) (fun _ _ _ => 0)
  case atStart => exact ⟨rfl, rfl, rfl⟩
  case round =>
    obtain ⟨rfl, rfl, rfl⟩ := hrel
    go_wp2_with (go_at_call 49; refine H.out.mono ?_; rintro e w1 ⟨rfl, hq⟩; have HQ := Lib.hid hq; clear hq)
    go_loopw [6] (fun v wr => v = .int .i64 20 ∧ wr = w1) (fun _ _ => 0)
    case atStart => exact ⟨rfl, rfl⟩
    case round =>
      obtain ⟨rfl, rfl⟩ := hrel
      go_wp2
      go_end0
      exact ⟨rfl, HQ.out⟩

theorem sortstable_any (A : Option Addr) (n c : Nat) (Q : Ending → World → Prop) (w : World) (hn : n ≤ 16)
    (h : Calls Tryd.prog 49 #[.slice A n c, .int .i64 0, .int .i64 n, .func (.func 22) #[] #[]] w fun e w' => e = .returned (.tuple #[]) ∧ Q e w') :
    Calls Tryd.prog 21 #[.slice A n c, .func (.func 22) #[] #[]] w fun e w' => e = .returned (.tuple #[]) ∧ Q (.returned (.tuple #[])) w' := by
  have H := Lib.hid (stable_any A n c Q w hn h)
  clear h
  go_enter Tryd.func21, Tryd.ntmps21
  go_wp2_with (go_at_call 37; refine H.out.mono ?_; rintro e w1 ⟨rfl, hq⟩; have HQ := Lib.hid hq; clear hq)
  go_end0
  exact ⟨rfl, HQ.out⟩

/-- A row of few frames is sorted: nil too. -/
theorem sortrow_any (base n : Nat) (v : Value) (l : List M.Fr) (w : World) (hn : n ≤ 16) (hl : l.length = n) (ho : w.ownsRow base 30 6 v n (l.flatMap M.Fr.cells)) (hg : ∀ f ∈ l, f.abs.chk = 0) (ht : Tab2 w) (hbt : 3 < base) :
    Calls Tryd.prog 21 #[v, .func (.func 22) #[] #[]] w fun e w' =>
      ∃ S : List M.Fr, e = .returned (.tuple #[]) ∧ S.map M.Fr.abs = (l.map M.Fr.abs).foldl M.qins [] ∧ (∀ x ∈ S, x ∈ l) ∧ w'.ownsRow base 30 6 v n (S.flatMap M.Fr.cells) ∧ w.grownBy w' v.ownBlock := by
  rcases ho.2 with ⟨rfl, rfl⟩ | ⟨g0, cap, cur, rfl, hb, hh, hnc, hcm, hcs, htk⟩
  · obtain rfl : l = [] := List.eq_nil_of_length_eq_zero hl
    refine (sortstable_any none 0 0 (fun _ w' => w' = w) w (Nat.zero_le _) (insort_nil w)).mono fun e w' ⟨he, hw⟩ => ⟨[], he, rfl, fun x hx => (nomatch hx), ?_, ?_⟩
    · rw [hw]
      exact ho
    · rw [hw]
      exact only_refl _ _
  · refine (sortstable_any (some ⟨g0, 0, none⟩) n cap (fun _ w' => ∃ S : List M.Fr, S.map M.Fr.abs = (l.map M.Fr.abs).foldl M.qins [] ∧ (∀ x ∈ S, x ∈ l) ∧ w'.ownsRow base 30 6 (.slice (some ⟨g0, 0, none⟩) n cap) n (S.flatMap M.Fr.cells) ∧ w.grownBy w' (some g0)) w hn ((insort_any base g0 n cap l w hn hl ho hg ht hbt hb).mono fun e w' ⟨S, he, h1, h2, h3, h4⟩ => ⟨he, S, h1, h2, h3, h4⟩)).mono fun e w' ⟨he, S, h1, h2, h3, h4⟩ => ⟨S, he, h1, h2, h3, h4⟩
end Go.Proofs.YtlfdpcddbnkpjaaDoor
