/-
  The walks of bits.Check, bits.Turned, bits.Number and bits.Row: what they return, for every string and number; nothing that was there turns.
-/
import Derived.Test.YtgfjjffighfkaaaDoorStuffW1
import Derived.Test.YtgfjjffighfkaaaDoorShelf
import Derived.Shelf.Strings.SlTrimAscii
import Derived.Lib.TrimAscii
import Derived.Lib.MapLaws
namespace Go.Proofs.YtgfjjffighfkaaaDoor
open Go.RowKit Go.ChangeShapes Go.WideShapes Go.Shelf

theorem contains_bits (b : UInt8) : ([48, 49] : List UInt8).contains b = M.isBit b := by
  simp [M.isBit]
  rfl

theorem trim_nil (l : List UInt8) : Lib.trimS l [48, 49] = [] ↔ l.all M.isBit = true := by
  have hd : ∀ l : List UInt8, l.dropWhile (([48, 49] : List UInt8).contains ·) = [] ↔ l.all M.isBit = true := by
    intro l
    induction l with
    | nil => simp
    | cons b r ih =>
      rw [List.dropWhile_cons, List.all_cons]
      simp only [contains_bits]
      cases hb : M.isBit b
      · simp
      · rw [if_pos rfl]
        simpa only [Bool.true_and, contains_bits] using ih
  unfold Lib.trimS Lib.trimLeftS
  rw [hd]
  unfold Lib.trimRightS
  rw [List.all_reverse]
  constructor
  · intro h
    have h2 : l.reverse.dropWhile (([48, 49] : List UInt8).contains ·) = [] := by
      cases hx : l.reverse.dropWhile (([48, 49] : List UInt8).contains ·) with
      | nil => rfl
      | cons b r =>
        exfalso
        have h3 := List.head?_dropWhile_not (([48, 49] : List UInt8).contains ·) l.reverse
        rw [hx] at h3 h
        simp only [List.head?_cons] at h3
        rw [List.all_cons, Bool.and_eq_true] at h
        rw [contains_bits, h.1] at h3
        cases h3
    rw [hd, List.all_reverse] at h2
    exact h2
  · intro h
    have h2 := (hd l.reverse).2 (by rw [List.all_reverse]; exact h)
    rw [h2]
    rfl

set_option maxHeartbeats 400000 in
theorem check_any (s : ByteArray) (l : List UInt8) (hl : s.data.toList = l) (hs : s.size ≤ 9223372036854775807) (w : World) :
    Calls Tryd.prog 21 #[.string s] w fun e w' => e = .returned (.int .i64 (M.chk l)) ∧ Below w.heap.size w w' := by
  have hsz : s.size = l.length := by rw [← hl, Array.length_toList]; rfl
  have hcon := Any.strings_Trim_laid Tryd.lays160 (by kernel_rfl) s ⟨#[48, 49]⟩ w hs (by decide) (ascii_of_all (by decide))
  change Calls Tryd.prog 45 _ _ (fun e w' => e = .returned (.string ⟨(Lib.trimS s.data.toList [48, 49]).toArray⟩) ∧ Below w.heap.size w w') at hcon
  rw [hl] at hcon
  by_cases h1 : 1000 < s.size
  · have hm : M.chk l = 2 := by unfold M.chk; rw [if_pos (by omega)]
    rw [hm]
    have hx := h1
    clear hm hl hsz hcon
    go_enter Tryd.func21, Tryd.ntmps21
    go_wp2
    go_ret
    exact ⟨rfl, Below.refl _ _⟩
  · obtain ⟨r, hr⟩ : ∃ r, r = Lib.trimS l [48, 49] := ⟨_, rfl⟩
    rw [← hr] at hcon
    by_cases h2 : r = []
    · have hm : M.chk l = 0 := by unfold M.chk; rw [if_neg (by omega), if_pos ((trim_nil l).1 (hr ▸ h2))]
      rw [hm]
      subst h2
      have HC := Lib.hid hcon
      clear hm hl hsz hr hcon
      go_enter Tryd.func21, Tryd.ntmps21
      go_wp2_with (go_at_call 45; refine HC.out.mono ?_; rintro e w1 ⟨rfl, hb1⟩)
      go_ret
      exact ⟨rfl, hb1⟩
    · have hm : M.chk l = 4 := by
        unfold M.chk
        rw [if_neg (by omega), if_neg]
        intro h
        exact h2 (hr.trans ((trim_nil l).2 h))
      rw [hm]
      have HC := Lib.hid hcon
      have he : (r == []) = false := by simpa using h2
      have he2 : r.isEmpty = false := by simpa using h2
      clear hm hl hsz hr hcon h2
      go_enter Tryd.func21, Tryd.ntmps21
      go_wp2_with (go_at_call 45; refine HC.out.mono ?_; rintro e w1 ⟨rfl, hb1⟩)
      go_ret
      exact ⟨rfl, hb1⟩

/-! bits.Turned -/
theorem decode_bit {c : UInt8} (h : M.isBit c = true) (t : List UInt8) : Lib.decodeL (c :: t) = (c.toNat, 1) := by
  apply Lib.decodeL_ascii
  rcases M.isBit_iff.1 h with rfl | rfl <;> decide

theorem map_bits {l : List UInt8} (h : l.all M.isBit = true) : Lib.mapD (fun x => 97 - x) l = l.map M.oth := by
  induction l with
  | nil => rfl
  | cons c t ih =>
    rw [List.all_cons, Bool.and_eq_true] at h
    rw [Lib.mapD_step _ _ (by simp), decode_bit h.1, List.drop_one, List.tail_cons, ih h.2, List.map_cons]
    rcases M.isBit_iff.1 h.1 with rfl | rfl <;> rfl

theorem turn_one (x : Nat) (hx : x ≤ 1114111) (w : World) : Calls Tryd.prog 25 #[.int .i32 x] w fun e w' => e = .returned (.int .i32 (97 - (x : Int))) ∧ w' = w := by
  go_enter Tryd.func25, Tryd.ntmps25
  go_wp2
  go_ret
  exact ⟨rfl, rfl⟩

theorem turn_grows (w : World) : MapGrows Tryd.prog 25 #[] (fun x => 97 - x) w := by
  intro W x hx _
  refine (turn_one x hx W).mono fun e w' h => ⟨h.1, ?_⟩
  rw [h.2]
  exact Below.refl _ _

theorem Tryd.enters25 : ∀ args w, (callFunc 25 args).run Tryd.prog w = .ok (.enter 25 args) w := enters_of Tryd.func25 (by kernel_rfl) rfl

set_option maxHeartbeats 400000 in
theorem turned_good (s : ByteArray) (l : List UInt8) (hl : s.data.toList = l) (h : M.chk l = 0) (w : World) (hT : ∀ w1, Below w.heap.size w w1 → Lib.Utf8Tabs 0 1 w1) :
    Calls Tryd.prog 8 #[.string s] w fun e w' => e = .returned (.tuple #[sv (l.map M.oth), .int .i64 0]) ∧ Below w.heap.size w w' := by
  have hsz : s.size = l.length := by rw [← hl, Array.length_toList]; rfl
  have hz := M.chk_zero h
  have hC := Lib.hid (fun w => check_any s l hl (by omega) w)
  have hM := Lib.hid (fun w1 hb => Tryd.strings_Map_grows 25 #[] Tryd.enters25 (fun x => 97 - x) s w1 (by omega) (turn_grows w1) (by intro x hx; omega) (hT w1 hb))
  have hE := Lib.hid (map_bits hz.2)
  have H := Lib.hid h
  have HL := Lib.hid hl
  clear hT h hz hl hsz
  go_enter Tryd.func8, Tryd.ntmps8
  go_wp2_with fail
  refine (hC.out w).mono ?_
  rw [H.out]
  rintro e w1 ⟨rfl, hb1⟩
  go_wp2_with fail
  refine (hM.out w1 hb1).mono ?_
  rw [HL.out, hE.out]
  rintro e w2 ⟨rfl, hb2⟩
  go_wp2
  go_ret2
  exact ⟨rfl, hb1.trans (hb2.mono hb1.size)⟩

set_option maxHeartbeats 400000 in
theorem turned_bad (s : ByteArray) (l : List UInt8) (hl : s.data.toList = l) (hs : s.size ≤ 9223372036854775807) (h : M.chk l ≠ 0) (w : World) :
    Calls Tryd.prog 8 #[.string s] w fun e w' => e = .returned (.tuple #[sv [], .int .i64 (M.chk l)]) ∧ Below w.heap.size w w' := by
  have hC := Lib.hid (check_any s l hl hs w)
  obtain ⟨q, hq⟩ : ∃ q, q = M.chk l := ⟨_, rfl⟩
  rw [← hq] at hC h ⊢
  have ht : (q != 0) = true := by rw [bne_iff_ne]; exact h
  clear h hq hl
  go_enter Tryd.func8, Tryd.ntmps8
  go_wp2_with fail
  refine hC.out.mono ?_
  rintro e w1 ⟨rfl, hb1⟩
  go_wp2
  go_ret2
  exact ⟨rfl, hb1⟩
end Go.Proofs.YtgfjjffighfkaaaDoor
