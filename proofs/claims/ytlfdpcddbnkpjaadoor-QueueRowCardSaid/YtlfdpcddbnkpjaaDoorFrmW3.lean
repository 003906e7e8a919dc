/-
  The walks of the document's RowOf and NameOf, of frame.name: the bits by which a frame is chosen.
-/
import Derived.Test.YtlfdpcddbnkpjaaDoorFmt2
import Derived.Test.YtlfdpcddbnkpjaaDoorFrmW1
namespace Go.Proofs.YtlfdpcddbnkpjaaDoor
open Go.RowKit Go.ChangeShapes Go.WideShapes

theorem str_eq {a b : ByteArray} (h : a.data.toList = b.data.toList) : a = b := by
  cases a; cases b
  congr 1
  exact Array.ext' h

theorem sv_of {a : ByteArray} {l : List UInt8} (h : a.data.toList = l) : Value.string a = sv l := by
  unfold sv
  subst h
  rfl

theorem str_append (a b : ByteArray) : (a ++ b).data.toList = a.data.toList ++ b.data.toList := by
  rw [show (a ++ b).data = a.data ++ b.data from ByteArray.data_append]
  exact Array.toList_append

theorem M.wr_split (n a b : Nat) : M.wr n (a + b) = M.wr (n / 2 ^ b) a ++ M.wr n b := by
  induction a with
  | zero => simp [M.wr]
  | succ a ih =>
    rw [show a + 1 + b = (a + b) + 1 by omega, M.wr, ih, M.wr, List.cons_append]
    congr 3
    rw [Nat.shiftRight_eq_div_pow, Nat.shiftRight_eq_div_pow, Nat.div_div_eq_div_mul, ← Nat.pow_add, Nat.add_comm b a]

theorem M.wr_zero (d : Nat) : M.wr 0 d = List.replicate d 48 := by
  induction d with
  | zero => rfl
  | succ d ih => rw [M.wr, ih, List.replicate_succ, Nat.zero_shiftRight]; rfl

theorem M.wr_more {N k : Nat} (d : Nat) (h : N < 2 ^ k) : M.wr N (d + k) = List.replicate d 48 ++ M.wr N k := by
  rw [M.wr_split, Nat.div_eq_of_lt h, M.wr_zero]

theorem fmtIn (N : Nat) (hN : 0 < N) (hlt : N < 2 ^ 62) (w : World) (h : Tab2 w) :
    Calls Tryd.prog 55 #[.int .i64 N, .int .i64 2] w fun e w' => ∃ k, 0 < k ∧ 2 ^ (k - 1) ≤ N ∧ N < 2 ^ k ∧ e = .returned (sv (M.wr N k)) ∧ Below w.heap.size w w' := by
  have H := Lib.hid h; clear h
  have HN := Lib.hid hN
  have HL := Lib.hid hlt
  have hb : (N : Int) ≤ 4611686018427387904 := by omega
  clear hlt
  go_enter Tryd.func55, Tryd.ntmps55
  go_wp2_with (go_at_call 67; refine (fmtBits N HN.out HL.out _ H.out).mono ?_; rintro e w1 ⟨k, hk0, hk1, hk2, rfl, hb1⟩)
  go_ret
  exact ⟨k, hk0, hk1, hk2, rfl, hb1⟩

theorem fmt_any (N : Nat) (hN : 0 < N) (hlt : N < 2 ^ 62) (w : World) (h : Tab2 w) :
    Calls Tryd.prog 47 #[.int .i64 N, .int .i64 2] w fun e w' => ∃ s : ByteArray, 0 < s.size ∧ 2 ^ (s.size - 1) ≤ N ∧ N < 2 ^ s.size ∧ s.data.toList = M.wr N s.size ∧ e = .returned (.string s) ∧ Below w.heap.size w w' := by
  have H := Lib.hid h; clear h
  have HN := Lib.hid hN
  have HL := Lib.hid hlt
  clear hlt
  go_enter Tryd.func47, Tryd.ntmps47
  go_wp2_with (go_at_call 55; refine (fmtIn N HN.out HL.out _ H.out).mono ?_; rintro e w1 ⟨k, hk0, hk1, hk2, rfl, hb1⟩)
  go_ret
  have hs : (⟨(M.wr N k).toArray⟩ : ByteArray).size = k := by
    show (M.wr N k).toArray.size = k
    rw [List.size_toArray, M.length_wr]
  exact ⟨⟨(M.wr N k).toArray⟩, by rw [hs]; exact hk0, by rw [hs]; exact hk1, by rw [hs]; exact hk2, by rw [hs], rfl, hb1⟩

theorem repeatL_one (b : UInt8) (c : Nat) : Lib.repeatL [b] c = List.replicate c b := by
  induction c with
  | zero => rfl
  | succ c ih => first | (rw [List.replicate_succ, ← ih]; rfl) | (rw [List.replicate_succ', ← ih]; rfl)

theorem repeat_zero (z : Int) (c : Nat) (hz : z = c) (hc : c ≤ 1000) (w : World) : Calls Tryd.prog 48 #[.string { data := #[48] }, .int .i64 z] w fun e w' => ∃ s : ByteArray, s.size ≤ 1000 ∧ s.data.toList = List.replicate c 48 ∧ e = .returned (.string s) ∧ Below w.heap.size w w' := by
  subst hz
  exact (Tryd.strings_Repeat { data := #[48] } c w (by omega) (by show 1 * c ≤ _; omega)).mono fun e w' h => ⟨⟨(List.replicate c 48).toArray⟩, by show (List.replicate c (48 : UInt8)).toArray.size ≤ 1000; rw [List.size_toArray, List.length_replicate]; exact hc, rfl, by rw [h.1, ← repeatL_one], h.2⟩

theorem fmt_size {N k m : Nat} (h0 : 0 < m) (h1 : 2 ^ (m - 1) ≤ N) (h2 : N < 2 ^ k) : m ≤ k := by
  have h := (Nat.pow_lt_pow_iff_right (a := 2) (by decide)).1 (Nat.lt_of_le_of_lt h1 h2)
  omega

set_option maxHeartbeats 800000 in
/-- RowOf of a number that its bits can hold. -/
theorem rowOf_any (N k : Nat) (hk : k ≤ 61) (hlt : N < 2 ^ k) (w : World) (h : Tab2 w) :
    Calls Tryd.prog 36 #[.int .i64 N, .int .i64 k] w fun e w' => ∃ s : ByteArray, s.size = k ∧ s.data.toList = M.wr N k ∧ e = .returned (.tuple #[.string s, .bool true]) ∧ Below w.heap.size w w' := by
  have H := Lib.hid h; clear h
  have hlt2 : N < 2 ^ 62 := Nat.lt_of_lt_of_le hlt (Nat.pow_le_pow_right (by decide) (by omega))
  have HL := Lib.hid hlt2
  have HK := Lib.hid hlt
  clear hlt hlt2
  have done : ∀ (a b : ByteArray) (d : Nat), a.data.toList = List.replicate d 48 → b.data.toList = M.wr N (k - d) → d ≤ k → N < 2 ^ (k - d) → (a ++ b).size = k ∧ (a ++ b).data.toList = M.wr N k := by
    intro a b d ha hb hd hN
    have e : (a ++ b).data.toList = M.wr N k := by
      rw [str_append, ha, hb, ← M.wr_more d hN, show d + (k - d) = k by omega]
    refine ⟨?_, e⟩
    have := congrArg List.length e
    rw [Array.length_toList, M.length_wr] at this
    exact this
  have D := Lib.hid done; clear done
  rcases Nat.eq_zero_or_pos N with rfl | hN
  · go_enter Tryd.func36, Tryd.ntmps36
    go_wp2_with (go_at_call 48; refine (repeat_zero _ k (by simp) (by omega) _).mono ?_; rintro e w1 ⟨s, hsz, hs, rfl, hb1⟩; have HS := Lib.hid hs; clear hs)
    go_ret2
    have h := D.out s { data := #[] } k HS.out (by rw [Nat.sub_self]; rfl) (Nat.le_refl _) (by simp)
    exact ⟨_, h.1, h.2, rfl, hb1⟩
  · have HN := Lib.hid hN
    go_enter Tryd.func36, Tryd.ntmps36
    go_wp2_with (first
      | (go_at_call 47; refine (fmt_any N HN.out HL.out _ H.out).mono ?_; rintro e w1 ⟨s, hs0, hs1, hs2, hs3, rfl, hb1⟩; have hs4 : s.size ≤ k := fmt_size hs0 hs1 HK.out; have S3 := Lib.hid hs3; have S2 := Lib.hid hs2; clear hs3 hs2 hs1)
      | (go_at_call 48; refine (repeat_zero _ (k - s.size) (by omega) (by omega) _).mono ?_; rintro e w2 ⟨s2, hsz, hs, rfl, hb2⟩; have HS := Lib.hid hs; clear hs))
    go_ret2
    have h := D.out s2 s (k - s.size) HS.out (by rw [show k - (k - s.size) = s.size by omega]; exact S3.out) (by omega) (by rw [show k - (k - s.size) = s.size by omega]; exact S2.out)
    exact ⟨_, h.1, h.2, rfl, hb1.trans (hb2.mono hb1.size)⟩
end Go.Proofs.YtlfdpcddbnkpjaaDoor
