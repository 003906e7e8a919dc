/-
  The walks of package stuff's reader: what (*Reader).bit and (*Reader).Take return and what they leave in the reader, for every row and state; nothing else turns.
-/
import Derived.Test.YtgfjjffighfkaaaDoorStuffW1
namespace Go.Proofs.YtgfjjffighfkaaaDoor
open Go.RowKit Go.ChangeShapes Go.WideShapes

/-- The cells of a reader, and what lies behind them in its block. -/
def rc (s : ByteArray) (R : M.RS) (rest : List Value) : Array Value := ⟨[.string s, .int .i64 R.pos, .int .i64 R.code, bv R.last, .int .i64 R.n] ++ rest⟩

def BitPost (w : World) (g : Nat) (t : TypeId) (s : ByteArray) (rest : List Value) (r : UInt8 × M.RS) (e : Ending) (w' : World) : Prop :=
  e = .returned (.int .u8 r.1.toNat) ∧ Blk w' g t (rc s r.2 rest) ∧ w.grownBy w' (some g)

set_option maxHeartbeats 400000 in
theorem bit_any (w : World) (g : Nat) (t : TypeId) (s : ByteArray) (l : List UInt8) (hl : s.data.toList = l) (hlen : l.length ≤ 1000) (R : M.RS) (hR : R.pos ≤ l.length) (rest : List Value) (hB : Blk w g t (rc s R rest)) :
    Calls Tryd.prog 62 #[.pointer (some ⟨g, 0, none⟩)] w (BitPost w g t s rest (M.bit l R)) := by
  have hs : s.size = l.length := by rw [← hl, Array.length_toList]; rfl
  have HI := Lib.hid (fun (j : Nat) (hj : j < l.length) wx => run_index_list (P := Tryd.prog) Tryd.underlying9 hl j hj wx)
  have c0 : w.cell? ⟨g, 0, none⟩ = some (.string s) := hB.cell _
  have c1 : w.cell? ⟨g, 1, none⟩ = some (.int .i64 R.pos) := hB.cell _
  have c2 : w.cell? ⟨g, 2, none⟩ = some (.int .i64 R.code) := hB.cell _
  have f1 : w.frozen? ⟨g, 1, none⟩ = false := hB.frozen _
  have f2 : w.frozen? ⟨g, 2, none⟩ = false := hB.frozen _
  have HB := Lib.hid hB
  obtain ⟨p, hp⟩ : ∃ p, p = R.pos := ⟨_, rfl⟩
  have hp1 : p ≤ 1000 := by omega
  by_cases h0 : R.code = 0
  · by_cases h1 : p = s.size
    · have hm : M.bit l R = (48, { R with code := 7 }) := by
        unfold M.bit
        rw [if_pos h0, if_pos (by omega)]
      have HM := Lib.hid hm
      rw [h0] at c2
      rw [← hp, h1] at c1
      clear hm h0 h1 hp hs hl hB
      go_enter Tryd.func62, Tryd.ntmps62
      go_wp2
      go_quiet (fail)
      go_wp2
      go_ret
      rw [HM.out]
      exact ⟨rfl, (HB.out.set_ 2 (.int .i64 7)).drewN _, only_setCell (only_drewN (only_refl w (some g)) _) (p := ⟨g, 2, none⟩) (.inl rfl) _⟩
    · have hlt : p < s.size := by omega
      have hj : p < l.length := by omega
      have hm : M.bit l R = (l[p], { R with pos := p + 1 }) := by
        unfold M.bit
        rw [if_pos h0, if_neg (by omega), ← hp, List.getD_eq_getElem?_getD, List.getElem?_eq_getElem hj]
        rfl
      have HM := Lib.hid hm
      have hix := HI.out p hj
      obtain ⟨c, hc⟩ : ∃ c, c = l[p] := ⟨_, rfl⟩
      rw [← hc] at hix hm
      have HC := Lib.hid hc
      have ht : ((p : Int) == (s.size : Int)) = false := by rw [beq_eq_false_iff_ne]; omega
      rw [h0] at c2
      rw [← hp] at c1
      clear hm h0 h1 hp hs hl hB hc
      go_enter Tryd.func62, Tryd.ntmps62
      go_wp2
      go_quiet (fail)
      go_wp2
      go_quiet (fail)
      go_wp2
      go_ret
      rw [HM.out, ← HC.out]
      exact ⟨rfl, by exact ((HB.out.drewN _).set_ 1 (.int .i64 ((p + 1 : Nat) : Int))).drewN _, by exact only_drewN (only_setCell (only_drewN (only_refl w (some g)) _) (p := ⟨g, 1, none⟩) (.inl rfl) _) _⟩
  · have hm : M.bit l R = (48, R) := by
      unfold M.bit
      rw [if_neg h0]
    have HM := Lib.hid hm
    obtain ⟨k, hk⟩ : ∃ k, k = R.code := ⟨_, rfl⟩
    have ht : (k != 0) = true := by rw [bne_iff_ne, hk]; exact h0
    rw [← hk] at c2
    clear hm h0 hp hs hl hB hk
    go_enter Tryd.func62, Tryd.ntmps62
    go_wp2
    go_ret
    rw [HM.out]
    exact ⟨rfl, HB.out, only_refl _ _⟩

theorem pos_bit {l : List UInt8} {R : M.RS} (h : R.pos ≤ l.length) : (M.bit l R).2.pos ≤ l.length := by
  unfold M.bit
  split
  · split
    · exact h
    · show R.pos + 1 ≤ _; omega
  · exact h
theorem pos_exp {l : List UInt8} {R : M.RS} (h : R.pos ≤ l.length) (b : UInt8) : (M.exp l R b).pos ≤ l.length := by
  unfold M.exp
  split <;> exact pos_bit h
theorem pos_after {l : List UInt8} {R : M.RS} (h : R.pos ≤ l.length) (b : UInt8) : (M.after l R b).pos ≤ l.length := by
  unfold M.after
  split
  · exact pos_exp (R := M.cnt R b) h b
  · exact h
theorem n_bit (l : List UInt8) (R : M.RS) : (M.bit l R).2.n = R.n ∧ (M.bit l R).2.last = R.last := by
  unfold M.bit
  split
  · split <;> exact ⟨rfl, rfl⟩
  · exact ⟨rfl, rfl⟩
theorem n_exp (l : List UInt8) (R : M.RS) (b : UInt8) : (M.exp l R b).n = R.n ∧ (M.exp l R b).last = R.last := by
  unfold M.exp
  split <;> exact n_bit l R
theorem n_after (l : List UInt8) (R : M.RS) (b : UInt8) : (M.after l R b).n ≤ R.n + 1 := by
  unfold M.after
  split
  · have h := (n_exp l (M.cnt R b) b).2
    have h2 : (M.cnt (M.exp l (M.cnt R b) b) (M.oth b)).n = 1 := by
      unfold M.cnt at h ⊢
      simp only [] at h ⊢
      rw [h, if_neg (M.oth_ne b)]
    omega
  · unfold M.cnt
    simp only []
    split <;> omega

/-- The counter's two cells within a reader. -/
theorem next_reader (w : World) (g : Nat) (t : TypeId) (s : ByteArray) (R : M.RS) (rest : List Value) (hB : Blk w g t (rc s R rest)) (hn : R.n ≤ 1000000) (b : UInt8) (q : Bool) (hq : decide ((M.cnt R b).n = 5) = q) :
    Calls Tryd.prog 22 #[.pointer (some ⟨g, 3, none⟩), .int .u8 b.toNat] w fun e w' =>
      e = .returned (.tuple #[.int .u8 (M.oth b).toNat, .bool q]) ∧ Blk w' g t (rc s (M.cnt R b) rest) ∧ w.grownBy w' (some g) :=
  (next_any w g 3 t _ hB R.last b R.n rfl rfl hn).mono fun e w' h => by
    obtain ⟨he, h1, h2⟩ := h
    have hq' : decide ((if b = R.last then R.n + 1 else 1) = 5) = q := hq
    rw [hq'] at he
    exact ⟨he, h1, h2⟩

theorem bit_at (w : World) (g : Nat) (t : TypeId) (s : ByteArray) (l : List UInt8) (hl : s.data.toList = l) (hlen : l.length ≤ 1000) (R : M.RS) (hR : R.pos ≤ l.length) (rest : List Value) (hB : Blk w g t (rc s R rest)) (b : UInt8) (R' : M.RS) (h : M.bit l R = (b, R')) :
    Calls Tryd.prog 62 #[.pointer (some ⟨g, 0, none⟩)] w fun e w' => e = .returned (.int .u8 b.toNat) ∧ Blk w' g t (rc s R' rest) ∧ w.grownBy w' (some g) :=
  (bit_any w g t s l hl hlen R hR rest hB).mono fun e w' hp => by
    rw [h] at hp
    exact hp

theorem M.take_good {l : List UInt8} {S R1 : M.RS} {b : UInt8} (h : M.bit l S = (b, R1)) (hc : R1.code = 0) {k j : Nat} (hj : j < k) (out : List UInt8) : M.take l (k - j) S out = M.take l (k - (j + 1)) (M.after l R1 b) (out ++ [b]) := by
  rw [show k - j = (k - (j + 1)) + 1 from by omega, M.take, h]
  exact if_pos hc
theorem M.take_bad {l : List UInt8} {S R1 : M.RS} {b : UInt8} (h : M.bit l S = (b, R1)) (hc : ¬ R1.code = 0) {k j : Nat} (hj : j < k) (out : List UInt8) : M.take l (k - j) S out = ([], R1) := by
  rw [show k - j = (k - (j + 1)) + 1 from by omega, M.take, h]
  exact if_neg hc
theorem M.take_end {l : List UInt8} {S : M.RS} {k j : Nat} (hj : ¬ j < k) (out : List UInt8) : M.take l (k - j) S out = if S.code = 0 then (out, S) else ([], S) := by
  rw [show k - j = 0 from by omega, M.take]
theorem M.after_plain {l : List UInt8} {R : M.RS} {b : UInt8} (h : decide ((M.cnt R b).n = 5) = false) : M.after l R b = M.cnt R b := by
  unfold M.after
  rw [if_neg (by simpa using h)]
theorem M.after_five {l : List UInt8} {R : M.RS} {b : UInt8} (h : decide ((M.cnt R b).n = 5) = true) : M.after l R b = M.cnt (M.exp l (M.cnt R b) b) (M.oth b) := by
  unfold M.after
  rw [if_pos (by simpa using h)]

theorem M.cnt_oth {S R : M.RS} {b : UInt8} (h : S.last = b) (hR : R = M.cnt S (M.oth b)) : R.n = 1 := by
  subst hR
  unfold M.cnt
  simp only [h]
  rw [if_neg (M.oth_ne b)]

/-- What (*Reader).Take leaves. -/
def TakePost (w : World) (g : Nat) (t : TypeId) (s : ByteArray) (rest : List Value) (r : List UInt8 × M.RS) (e : Ending) (w' : World) : Prop :=
  e = .returned (sv r.1) ∧ Blk w' g t (rc s r.2 rest) ∧ w.grownBy w' (some g)

/-- What a reader's owner knows behind a call that wrote to it alone, next to an owned row of bytes. -/
theorem reader_frame {w w3 w4 : World} {v : Value} {n : Nat} {xs : List Value} {g : Nat} {t : TypeId} {cs : Array Value} (ht : t ≠ 5) (hown : w3.ownsRow w.heap.size 5 1 v n xs) (hBlk : Blk w3 g t cs)
    (hg : w.grownBy w3 (some g)) (k : w3.grownBy w4 (some g)) : w4.ownsRow w.heap.size 5 1 v n xs ∧ w.grownBy w4 (some g) :=
  ⟨own_only hown hBlk (fun e => ht e.symm) k, only_trans hg k⟩

theorem reader_append {w wr w3 : World} {v : Value} {n : Nat} {xs : List Value} {g : Nat} {t : TypeId} {cs : Array Value} {o : Obj} (ht : t ≠ 5) (hown : wr.ownsRow w.heap.size 5 1 v n xs) (hBlk : Blk wr g t cs)
    (hg : w.grownBy wr (some g)) (hgrow : (wr.alloc o).grownBy w3 v.ownBlock) : Blk w3 g t cs ∧ w.grownBy w3 (some g) := by
  refine ⟨(hBlk.alloc o).grown hgrow (fun e' => own_blk_ne hown hBlk (fun e => ht e.symm) e'.symm), ?_⟩
  have h1 := only_alloc hg o
  refine ⟨hgrow.os.trans h1.os, hgrow.tape.trans h1.tape, hgrow.output.trans h1.output, Nat.le_trans h1.size hgrow.size, fun i hi hn => ?_⟩
  refine (hgrow.block i (Nat.lt_of_lt_of_le hi h1.size) ?_).trans (h1.block i hi hn)
  intro e
  have := (hown.lt i e.symm).1
  omega

set_option maxHeartbeats 1600000 in
theorem take_any (w : World) (g : Nat) (t : TypeId) (ht : t ≠ 5) (s : ByteArray) (l : List UInt8) (hl : s.data.toList = l) (hlen : l.length ≤ 1000) (R : M.RS) (hR : R.pos ≤ l.length) (hRn : R.n ≤ 10) (rest : List Value) (hB : Blk w g t (rc s R rest)) (k : Nat) (hk : k ≤ 1000) :
    Calls Tryd.prog 42 #[.pointer (some ⟨g, 0, none⟩), .int .i64 k] w (TakePost w g t s rest (M.take l k R [])) := by
  obtain ⟨i0, hi, hz0, hz1, hz2⟩ := info_parts Tryd.infoU8
  have HL := Lib.hid hl; clear hl
  go_enter Tryd.func42, Tryd.ntmps42
  go_wp2
  go_loopw [5, 11] (fun v i wr => ∃ (j : Nat) (out : List UInt8) (S : M.RS), j ≤ k ∧ i = .int .i64 j ∧ M.take l (k - j) S out = M.take l k R [] ∧ S.pos ≤ l.length ∧ S.n ≤ 2000 + j ∧ out.length = j ∧
      wr.ownsRow w.heap.size 5 1 v out.length (out.map bv) ∧ Blk wr g t (rc s S rest) ∧ w.grownBy wr (some g))
    (fun _ i _ => k - (intOf i).toNat)
  case atStart => exact ⟨0, [], R, Nat.zero_le _, rfl, rfl, hR, by omega, rfl, World.ownsRow_nil _ _ _ _, hB, only_refl _ _⟩
  case round =>
    obtain ⟨j, out, S, hj, rfl, hT, hSp, hSn, hol, hown, hBlk, hg⟩ := hrel
    have HT := Lib.hid hT; clear hT hB hR hRn
    have holn : out.length ≤ 1000 := by omega
    have HO := Lib.hid hol; clear hol
    by_cases hlt : j < k
    · obtain ⟨⟨b, R1⟩, h1⟩ : ∃ r, M.bit l S = r := ⟨_, rfl⟩
      have H1 := Lib.hid h1
      have hp1 : R1.pos ≤ l.length := by have := pos_bit hSp; rw [h1] at this; exact this
      have hn1 : R1.n ≤ 5000 := by have := (n_bit l S).1; rw [h1] at this; simp only [] at this; omega
      clear h1
      by_cases hc1 : R1.code = 0
      · have HE := Lib.hid (M.take_good H1.out hc1 hlt out)
        have HC1 := Lib.hid hc1
        clear hc1
        by_cases hq : decide ((M.cnt R1 b).n = 5) = true
        · have HA := Lib.hid (M.after_five (l := l) hq)
          have HQ := Lib.hid hq
          clear hq
          obtain ⟨⟨y, R3⟩, h3⟩ : ∃ r, M.bit l (M.cnt R1 b) = r := ⟨_, rfl⟩
          have H3 := Lib.hid h3
          have hp3 : R3.pos ≤ l.length := by have := pos_bit (R := M.cnt R1 b) hp1; rw [h3] at this; exact this
          have hn3 : R3.n ≤ 5 ∧ R3.last = b := by
            have h4 := n_bit l (M.cnt R1 b)
            rw [h3] at h4
            have h5 : (M.cnt R1 b).n = 5 := by simpa using HQ.out
            exact ⟨by have := h4.1; simp only [] at this; omega, h4.2⟩
          have hn3' : R3.n ≤ 5 := hn3.1
          have HX : Hid (M.exp l (M.cnt R1 b) b = if R3.code = 0 ∧ y ≠ M.oth b then { R3 with code := 5 } else R3) := by
            show M.exp l (M.cnt R1 b) b = _
            unfold M.exp
            rw [h3]
          have HL3 := Lib.hid hn3.2
          clear h3 hn3
          by_cases hc3 : R3.code = 0
          · by_cases hy : y = M.oth b
            · have HX2 : Hid (M.exp l (M.cnt R1 b) b = R3) := by
                show M.exp l (M.cnt R1 b) b = R3
                rw [HX.out, if_neg (by rintro ⟨_, h⟩; exact h hy)]
              have hty : ((y.toNat : Int) != ((M.oth b).toNat : Int)) = false := by rw [hy]; simp
              have HC3 := Lib.hid hc3
              clear HX hc3 hy
              go_wp2_with fail
              refine (bit_at _ g t s l HL.out hlen S hSp rest hBlk b R1 H1.out).mono ?_
              rintro e w2 ⟨rfl, hB2, hg2⟩
              have hF2 := reader_frame ht hown hBlk hg hg2
              have c2 : w2.cell? ⟨g, 2, none⟩ = some (.int .i64 0) := by rw [← HC1.out]; exact hB2.cell 2
              go_wp2_with (first
                | (at_builtin; refine wpList_append_own _ rfl (.tmp 20) (.tmp 22) 27 rfl w.heap.size 5 i0 (.int .u8 0) 1 1 Tryd.underlying27 hi hz0 hz1 hz2 rfl (by decide) _ _ _ rfl (hF2.1.alloc _) ⟨w2.heap.size, 0, none⟩ 1 1 [.int .u8 b.toNat] rfl rfl (cell_new_one _ _ _) (one_cell_int _ _) (by unfold maxLen; omega) (by omega) (by have := hF2.2.size; simp; omega) ?_; intro v3 w3 hown3 hg3 _; have hF3 := reader_append ht hF2.1 hB2 hF2.2 hg3))
              refine (next_reader _ g t s R1 rest hF3.1 (by omega) b _ HQ.out).mono ?_
              rintro e w4 ⟨rfl, hB4, hg4⟩
              have hF4 := reader_frame ht hown3 hF3.1 hF3.2 hg4
              go_wp2_with fail
              refine (bit_at _ g t s l HL.out hlen (M.cnt R1 b) hp1 rest hB4 y R3 H3.out).mono ?_
              rintro e w5 ⟨rfl, hB5, hg5⟩
              have hF5 := reader_frame ht hF4.1 hB4 hF4.2 hg5
              have c5 : w5.cell? ⟨g, 2, none⟩ = some (.int .i64 0) := by rw [← HC3.out]; exact hB5.cell 2
              go_wp2_with fail
              refine (next_reader _ g t s R3 rest hB5 (by show R3.n ≤ _; omega) (M.oth b) false (by rw [M.cnt_oth (S := R3) HL3.out rfl]; rfl)).mono ?_
              rintro e w6 ⟨rfl, hB6, hg6⟩
              have hF6 := reader_frame ht hF5.1 hB5 hF5.2 hg6
              go_wp2
              go_roundw
              case rel =>
                refine ⟨j + 1, out ++ [b], M.cnt R3 (M.oth b), by omega, by go_num, ?_, hp3, ?_, by simp [HO.out], ?_, hB6, hF6.2⟩
                · rw [← HT.out, HE.out, HA.out, HX2.out]
                · rw [M.cnt_oth (S := R3) HL3.out rfl]; omega
                · simpa [bv] using hF6.1
              case measure => simp [intOf]; omega
            · have HX2 : Hid (M.exp l (M.cnt R1 b) b = { R3 with code := 5 }) := by
                show M.exp l (M.cnt R1 b) b = _
                rw [HX.out, if_pos ⟨hc3, hy⟩]
              have hty : ((y.toNat : Int) != ((M.oth b).toNat : Int)) = true := by
                rw [bne_iff_ne]
                intro e
                exact hy (UInt8.toNat_inj.1 (by omega))
              have HC3 := Lib.hid hc3
              clear HX hc3 hy
              go_wp2_with fail
              refine (bit_at _ g t s l HL.out hlen S hSp rest hBlk b R1 H1.out).mono ?_
              rintro e w2 ⟨rfl, hB2, hg2⟩
              have hF2 := reader_frame ht hown hBlk hg hg2
              have c2 : w2.cell? ⟨g, 2, none⟩ = some (.int .i64 0) := by rw [← HC1.out]; exact hB2.cell 2
              go_wp2_with (first
                | (at_builtin; refine wpList_append_own _ rfl (.tmp 20) (.tmp 22) 27 rfl w.heap.size 5 i0 (.int .u8 0) 1 1 Tryd.underlying27 hi hz0 hz1 hz2 rfl (by decide) _ _ _ rfl (hF2.1.alloc _) ⟨w2.heap.size, 0, none⟩ 1 1 [.int .u8 b.toNat] rfl rfl (cell_new_one _ _ _) (one_cell_int _ _) (by unfold maxLen; omega) (by omega) (by have := hF2.2.size; simp; omega) ?_; intro v3 w3 hown3 hg3 _; have hF3 := reader_append ht hF2.1 hB2 hF2.2 hg3))
              refine (next_reader _ g t s R1 rest hF3.1 (by omega) b _ HQ.out).mono ?_
              rintro e w4 ⟨rfl, hB4, hg4⟩
              have hF4 := reader_frame ht hown3 hF3.1 hF3.2 hg4
              go_wp2_with fail
              refine (bit_at _ g t s l HL.out hlen (M.cnt R1 b) hp1 rest hB4 y R3 H3.out).mono ?_
              rintro e w5 ⟨rfl, hB5, hg5⟩
              have hF5 := reader_frame ht hF4.1 hB4 hF4.2 hg5
              have c5 : w5.cell? ⟨g, 2, none⟩ = some (.int .i64 0) := by rw [← HC3.out]; exact hB5.cell 2
              have f5 : w5.frozen? ⟨g, 2, none⟩ = false := hB5.frozen 2
              have hB7 := hB5.set_ 2 (.int .i64 5)
              have hF7 := reader_frame ht hF5.1 hB5 hF5.2 (only_setCell (only_refl w5 (some g)) (p := ⟨g, 2, none⟩) (.inl rfl) (.int .i64 5))
              go_wp2_with fail
              refine (next_reader _ g t s { R3 with code := 5 } rest hB7 (by show R3.n ≤ _; omega) (M.oth b) false (by rw [M.cnt_oth (S := { R3 with code := 5 }) HL3.out rfl]; rfl)).mono ?_
              rintro e w6 ⟨rfl, hB6, hg6⟩
              have hF6 := reader_frame ht hF7.1 hB7 hF7.2 hg6
              go_wp2
              go_roundw
              case rel =>
                refine ⟨j + 1, out ++ [b], M.cnt { R3 with code := 5 } (M.oth b), by omega, by go_num, ?_, hp3, ?_, by simp [HO.out], ?_, hB6, hF6.2⟩
                · rw [← HT.out, HE.out, HA.out, HX2.out]
                · rw [M.cnt_oth (S := { R3 with code := 5 }) HL3.out rfl]; omega
                · simpa [bv] using hF6.1
              case measure => simp [intOf]; omega
          · have HX2 : Hid (M.exp l (M.cnt R1 b) b = R3) := by
              show M.exp l (M.cnt R1 b) b = R3
              rw [HX.out, if_neg (by rintro ⟨h, _⟩; exact hc3 h)]
            obtain ⟨q3, hq3⟩ : ∃ q, q = R3.code := ⟨_, rfl⟩
            have ht3 : (q3 == 0) = false := by rw [beq_eq_false_iff_ne, hq3]; exact hc3
            have HQ3 := Lib.hid hq3
            clear HX hc3 hq3
            go_wp2_with fail
            refine (bit_at _ g t s l HL.out hlen S hSp rest hBlk b R1 H1.out).mono ?_
            rintro e w2 ⟨rfl, hB2, hg2⟩
            have hF2 := reader_frame ht hown hBlk hg hg2
            have c2 : w2.cell? ⟨g, 2, none⟩ = some (.int .i64 0) := by rw [← HC1.out]; exact hB2.cell 2
            go_wp2_with (first
              | (at_builtin; refine wpList_append_own _ rfl (.tmp 20) (.tmp 22) 27 rfl w.heap.size 5 i0 (.int .u8 0) 1 1 Tryd.underlying27 hi hz0 hz1 hz2 rfl (by decide) _ _ _ rfl (hF2.1.alloc _) ⟨w2.heap.size, 0, none⟩ 1 1 [.int .u8 b.toNat] rfl rfl (cell_new_one _ _ _) (one_cell_int _ _) (by unfold maxLen; omega) (by omega) (by have := hF2.2.size; simp; omega) ?_; intro v3 w3 hown3 hg3 _; have hF3 := reader_append ht hF2.1 hB2 hF2.2 hg3))
            refine (next_reader _ g t s R1 rest hF3.1 (by omega) b _ HQ.out).mono ?_
            rintro e w4 ⟨rfl, hB4, hg4⟩
            have hF4 := reader_frame ht hown3 hF3.1 hF3.2 hg4
            go_wp2_with fail
            refine (bit_at _ g t s l HL.out hlen (M.cnt R1 b) hp1 rest hB4 y R3 H3.out).mono ?_
            rintro e w5 ⟨rfl, hB5, hg5⟩
            have hF5 := reader_frame ht hF4.1 hB4 hF4.2 hg5
            have c5 : w5.cell? ⟨g, 2, none⟩ = some (.int .i64 q3) := by rw [HQ3.out]; exact hB5.cell 2
            go_wp2_with fail
            refine (next_reader _ g t s R3 rest hB5 (by show R3.n ≤ _; omega) (M.oth b) false (by rw [M.cnt_oth (S := R3) HL3.out rfl]; rfl)).mono ?_
            rintro e w6 ⟨rfl, hB6, hg6⟩
            have hF6 := reader_frame ht hF5.1 hB5 hF5.2 hg6
            go_wp2
            go_roundw
            case rel =>
              refine ⟨j + 1, out ++ [b], M.cnt R3 (M.oth b), by omega, by go_num, ?_, hp3, ?_, by simp [HO.out], ?_, hB6, hF6.2⟩
              · rw [← HT.out, HE.out, HA.out, HX2.out]
              · rw [M.cnt_oth (S := R3) HL3.out rfl]; omega
              · simpa [bv] using hF6.1
            case measure => simp [intOf]; omega
        · have hq' : decide ((M.cnt R1 b).n = 5) = false := by simpa using hq
          have HA := Lib.hid (M.after_plain (l := l) hq')
          have HQ := Lib.hid hq'
          clear hq hq'
          go_wp2_with fail
          refine (bit_at _ g t s l HL.out hlen S hSp rest hBlk b R1 H1.out).mono ?_
          rintro e w2 ⟨rfl, hB2, hg2⟩
          have hF2 := reader_frame ht hown hBlk hg hg2
          have c2 : w2.cell? ⟨g, 2, none⟩ = some (.int .i64 0) := by rw [← HC1.out]; exact hB2.cell 2
          go_wp2_with (first
            | (at_builtin; refine wpList_append_own _ rfl (.tmp 20) (.tmp 22) 27 rfl w.heap.size 5 i0 (.int .u8 0) 1 1 Tryd.underlying27 hi hz0 hz1 hz2 rfl (by decide) _ _ _ rfl (hF2.1.alloc _) ⟨w2.heap.size, 0, none⟩ 1 1 [.int .u8 b.toNat] rfl rfl (cell_new_one _ _ _) (one_cell_int _ _) (by unfold maxLen; omega) (by omega) (by have := hF2.2.size; simp; omega) ?_; intro v3 w3 hown3 hg3 _; have hF3 := reader_append ht hF2.1 hB2 hF2.2 hg3))
          refine (next_reader _ g t s R1 rest hF3.1 (by omega) b _ HQ.out).mono ?_
          rintro e w4 ⟨rfl, hB4, hg4⟩
          have hF4 := reader_frame ht hown3 hF3.1 hF3.2 hg4
          go_wp2
          go_roundw
          case rel =>
            refine ⟨j + 1, out ++ [b], M.cnt R1 b, by omega, by go_num, ?_, hp1, ?_, by simp [HO.out], ?_, hB4, hF4.2⟩
            · rw [← HT.out, HE.out, HA.out]
            · have h2 := n_after l R1 b
              have h3 := (n_bit l S).1
              rw [H1.out] at h3
              rw [HA.out] at h2
              simp only [] at h3
              omega
            · simpa [bv] using hF4.1
          case measure => simp [intOf]; omega
      · obtain ⟨q, hq⟩ : ∃ q, q = R1.code := ⟨_, rfl⟩
        have ht1 : (q != 0) = true := by rw [bne_iff_ne, hq]; exact hc1
        have HE := Lib.hid (M.take_bad H1.out hc1 hlt out)
        have HQ := Lib.hid hq
        clear hc1 hq
        go_wp2_with fail
        refine (bit_at _ g t s l HL.out hlen S hSp rest hBlk b R1 H1.out).mono ?_
        rintro e w2 ⟨rfl, hB2, hg2⟩
        have hF2 := reader_frame ht hown hBlk hg hg2
        have c2 : w2.cell? ⟨g, 2, none⟩ = some (.int .i64 q) := by rw [HQ.out]; exact hB2.cell 2
        go_wp2
        go_ret
        rw [← HT.out, HE.out]
        exact ⟨rfl, hB2, hF2.2⟩
    · have HE := Lib.hid (M.take_end (l := l) (S := S) hlt out)
      have hconv := string_of_own' (P := Tryd.prog) Tryd.underlying27 Tryd.underlying5 Tryd.underlying9 out hown
      by_cases hc : S.code = 0
      · have HC := Lib.hid hc
        have c2 : wr.cell? ⟨g, 2, none⟩ = some (.int .i64 0) := by rw [← hc]; exact hBlk.cell 2
        clear hc
        go_wp2
        go_ret
        rw [← HT.out, HE.out, if_pos HC.out]
        exact ⟨rfl, hBlk, hg⟩
      · have HC := Lib.hid hc
        obtain ⟨q, hq⟩ : ∃ q, q = S.code := ⟨_, rfl⟩
        have ht1 : (q != 0) = true := by rw [bne_iff_ne, hq]; exact hc
        have c2 : wr.cell? ⟨g, 2, none⟩ = some (.int .i64 q) := by rw [hq]; exact hBlk.cell 2
        clear hc hq
        go_wp2
        go_ret
        rw [← HT.out, HE.out, if_neg HC.out]
        exact ⟨rfl, hBlk, hg⟩
end Go.Proofs.YtgfjjffighfkaaaDoor
