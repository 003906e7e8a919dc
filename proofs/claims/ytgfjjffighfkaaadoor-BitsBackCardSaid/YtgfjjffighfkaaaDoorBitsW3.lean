/-
  The walks of bits.Number, Row, Run, Of, Bytes and of slices.Equal on bytes: what they return.
-/
import Derived.Test.YtgfjjffighfkaaaDoorBitsW2
import Derived.Test.YtgfjjffighfkaaaDoorBuild
import Derived.Test.YtgfjjffighfkaaaDoorReads
namespace Go.Proofs.YtgfjjffighfkaaaDoor
open Go.RowKit Go.ChangeShapes Go.WideShapes Go.Shelf

theorem wrap_small (r : Nat) (h : r < 2 ^ 62) : wrap64 (r : Int) = (r : Int) := by
  unfold wrap64; omega

set_option maxHeartbeats 400000 in
theorem number_good (s : ByteArray) (l : List UInt8) (hl : s.data.toList = l) (h : M.chk l = 0) (hn : l.length ≤ 62) (w : World) :
    Calls Tryd.prog 10 #[.string s] w fun e w' => e = .returned (.tuple #[.int .i64 (M.rd l : Nat), .int .i64 0]) ∧ Below w.heap.size w w' := by
  have hsz : s.size = l.length := by rw [← hl, Array.length_toList]; rfl
  have hz := M.chk_zero h
  have hC := Lib.hid (check_any s l hl (by omega) w)
  have hR := Lib.hid (fun w => read_any s l hl hz.2 hn w)
  have hW := Lib.hid (wrap_small (M.rd l) (Nat.lt_of_lt_of_le (M.rd_lt hz.2) (Nat.pow_le_pow_right (by decide) hn)))
  rw [h] at hC
  have hs : s.size ≤ 62 := by omega
  obtain ⟨r, hr⟩ : ∃ r, r = M.rd l := ⟨_, rfl⟩
  rw [← hr] at hR hW ⊢
  clear h hz hl hsz hn hr
  go_enter Tryd.func10, Tryd.ntmps10
  go_wp2_with fail
  refine hC.out.mono ?_
  rintro e w1 ⟨rfl, hb1⟩
  go_wp2_with fail
  refine (hR.out w1).mono ?_
  rintro e w2 ⟨rfl, rfl⟩
  go_wp2
  go_ret2
  exact ⟨ret_two (int_of hW.out) rfl, hb1⟩

theorem shr_zero {N k : Nat} (hN : N < 2 ^ k) : ((N : Int) / 2 ^ k != 0) = false := by
  have : (2 : Int) ^ k = ((2 ^ k : Nat) : Int) := by simp
  rw [this, ← Int.natCast_ediv, Nat.div_eq_of_lt hN]
  rfl
theorem shr_some {N k : Nat} (hN : ¬ N < 2 ^ k) : ((N : Int) / 2 ^ k != 0) = true := by
  have : (2 : Int) ^ k = ((2 ^ k : Nat) : Int) := by simp
  rw [this, ← Int.natCast_ediv, bne_iff_ne]
  have := Nat.div_pos (Nat.le_of_not_lt hN) (Nat.two_pow_pos k)
  omega

set_option maxHeartbeats 400000 in
theorem row_good (N k : Nat) (hk : k ≤ 62) (hN : N < 2 ^ k) (w : World) :
    Calls Tryd.prog 9 #[.int .i64 N, .int .i64 k] w fun e w' => e = .returned (.tuple #[sv (M.wr N k), .int .i64 0]) ∧ Below w.heap.size w w' := by
  have hN2 : N < 2 ^ 62 := Nat.lt_of_lt_of_le hN (Nat.pow_le_pow_right (by decide) hk)
  have hW := Lib.hid (fun w => write_any N k (by omega) (by omega) w)
  have hu : IntKind.u64.wrap (N : Int) = (N : Int) := by rw [IntKind.wrap_u64]; omega
  have hsh := shr_zero hN
  clear hN hN2
  go_enter Tryd.func9, Tryd.ntmps9
  go_wp2_with fail
  refine (hW.out w).mono ?_
  rintro e w1 ⟨rfl, hb1⟩
  go_wp2
  go_ret2
  exact ⟨rfl, hb1⟩

/-- What is wrong with a number and a size: 2 the size, 3 the number; 0: nothing. -/
def M.rowE (n size : Int) : Int := if size < 0 ∨ 62 < size then 2 else if n < 0 ∨ ¬ n.toNat < 2 ^ size.toNat then 3 else 0

set_option maxHeartbeats 800000 in
theorem row_bad (n size : Int) (h : M.rowE n size ≠ 0) (w : World) :
    Calls Tryd.prog 9 #[.int .i64 n, .int .i64 size] w fun e w' => e = .returned (.tuple #[sv [], .int .i64 (M.rowE n size)]) ∧ Below w.heap.size w w' := by
  by_cases h1 : size < 0
  · have hm : M.rowE n size = 2 := by unfold M.rowE; rw [if_pos (.inl h1)]
    rw [hm]
    clear hm h
    go_enter Tryd.func9, Tryd.ntmps9
    go_wp2
    go_ret2
    exact ⟨rfl, Below.refl _ _⟩
  · by_cases h2 : 62 < size
    · have hm : M.rowE n size = 2 := by unfold M.rowE; rw [if_pos (.inr h2)]
      rw [hm]
      clear hm h
      go_enter Tryd.func9, Tryd.ntmps9
      go_wp2
      go_ret2
      exact ⟨rfl, Below.refl _ _⟩
    · obtain ⟨k, rfl⟩ : ∃ k : Nat, size = k := ⟨size.toNat, by omega⟩
      by_cases h3 : n < 0
      · have hm : M.rowE n k = 3 := by unfold M.rowE; rw [if_neg (by omega), if_pos (.inl h3)]
        rw [hm]
        clear hm h
        go_enter Tryd.func9, Tryd.ntmps9
        go_wp2
        go_ret2
        exact ⟨rfl, Below.refl _ _⟩
      · obtain ⟨N, rfl⟩ : ∃ N : Nat, n = N := ⟨n.toNat, by omega⟩
        have h4 : ¬ N < 2 ^ k := by
          intro h5
          apply h
          unfold M.rowE
          rw [if_neg (by omega), if_neg]
          simp only [Int.toNat_natCast]
          rintro (h6 | h6)
          · exact h3 h6
          · exact h6 h5
        have hm : M.rowE N k = 3 := by
          unfold M.rowE
          rw [if_neg (by omega), if_pos]
          simp only [Int.toNat_natCast]
          exact .inr h4
        rw [hm]
        have hsh := shr_some h4
        clear hm h h4
        go_enter Tryd.func9, Tryd.ntmps9
        go_wp2
        go_ret2
        exact ⟨rfl, Below.refl _ _⟩

/-! The closed fact 'rowed'. -/
theorem number_at (s : ByteArray) (l : List UInt8) (hl : s.data.toList = l) (h : M.chk l = 0) (hn : l.length ≤ 62) (Z : Int) (hZ : Z = (M.rd l : Nat)) (w : World) :
    Calls Tryd.prog 10 #[.string s] w fun e w' => e = .returned (.tuple #[.int .i64 Z, .int .i64 0]) ∧ Below w.heap.size w w' := by
  subst hZ
  exact number_good s l hl h hn w
theorem row_at (N k : Nat) (hk : k ≤ 62) (hN : N < 2 ^ k) (n size : Int) (v : Value) (hn : n = N) (hs : size = k) (hv : v = sv (M.wr N k)) (w : World) :
    Calls Tryd.prog 9 #[.int .i64 n, .int .i64 size] w fun e w' => e = .returned (.tuple #[v, .int .i64 0]) ∧ Below w.heap.size w w' := by
  subst hn hs hv
  exact row_good N k hk hN w
theorem rowed_1 (w : World) : Calls Tryd.prog 10 #[.string ⟨#[49, 48, 49, 48]⟩] w fun e w' => e = .returned (.tuple #[.int .i64 10, .int .i64 0]) ∧ Below w.heap.size w w' :=
  number_at _ [49, 48, 49, 48] rfl (by decide +kernel) (by decide) 10 (by decide +kernel) w
theorem rowed_2 (w : World) : Calls Tryd.prog 9 #[.int .i64 10, .int .i64 5] w fun e w' => e = .returned (.tuple #[.string ⟨#[48, 49, 48, 49, 48]⟩, .int .i64 0]) ∧ Below w.heap.size w w' :=
  row_at 10 5 (by decide) (by decide) 10 5 _ rfl rfl (by rfl) w
theorem rowed_any (w : World) : Calls Tryd.prog 11 #[] w fun e w' => e = .returned (.bool true) ∧ Below w.heap.size w w' := by
  go_enter Tryd.func11, Tryd.ntmps11
  go_wp2_with fail
  refine (rowed_1 w).mono ?_
  rintro e w1 ⟨rfl, hb1⟩
  go_wp2_with fail
  refine (rowed_2 w1).mono ?_
  rintro e w2 ⟨rfl, hb2⟩
  go_wp2
  go_ret
  exact ⟨rfl, hb1.trans (hb2.mono hb1.size)⟩

/-! bits.Run -/
theorem run_take (l : List UInt8) (j : Nat) (h : j < l.length) : M.runS (l.take (j + 1)) = M.run1 (M.runS (l.take j)) l[j] := foldl_take _ _ l j h

theorem run_last (l : List UInt8) (j : Nat) (h : j < l.length) : (M.runS (l.take (j + 1))).last = some l[j] := by
  rw [run_take l j h]; rfl

set_option maxHeartbeats 800000 in
theorem run_good (s : ByteArray) (l : List UInt8) (hl : s.data.toList = l) (h : M.chk l = 0) (w : World) :
    Calls Tryd.prog 15 #[.string s] w fun e w' => e = .returned (.tuple #[.int .i64 (M.run l : Nat), .int .i64 0]) ∧ Below w.heap.size w w' := by
  have hsz : s.size = l.length := by rw [← hl, Array.length_toList]; rfl
  have hz := M.chk_zero h
  have hC := Lib.hid (check_any s l hl (by omega) w)
  rw [h] at hC
  have hn' : s.size ≤ 1000 := by omega
  have HI := Lib.hid (fun (j : Nat) (hj : j < l.length) wx => run_index_list (P := Tryd.prog) Tryd.underlying9 hl j hj wx)
  have HS := Lib.hid hsz
  clear hl hsz hz h
  go_enter Tryd.func15, Tryd.ntmps15
  go_wp2_with fail
  refine hC.out.mono ?_
  rintro e w1 ⟨rfl, hb1⟩
  go_wp2
  go_loopw [5, 6, 15] (fun b n i wr => ∃ j : Nat, j ≤ s.size ∧ i = .int .i64 j ∧ b = .int .i64 ((M.runS (l.take j)).best : Nat) ∧ n = .int .i64 ((M.runS (l.take j)).n : Nat) ∧ Below w.heap.size w wr)
    (fun _ _ i _ => s.size - (intOf i).toNat)
  case atStart => exact ⟨0, Nat.zero_le _, rfl, rfl, rfl, hb1⟩
  case round =>
    obtain ⟨j, hj, rfl, rfl, rfl, hb⟩ := hrel
    have hle := M.runS_le (l.take j) ⟨0, 0, none⟩ (Nat.le_refl _)
    obtain ⟨S, hS⟩ : ∃ S, S = M.runS (l.take j) := ⟨_, rfl⟩
    have hle1 : S.n ≤ S.best := by rw [hS]; exact hle.1
    have hle2 : S.best ≤ 1000 := by
      have h2 := hle.2
      rw [List.length_take] at h2
      have h3 : S.best ≤ 0 + min j l.length := by rw [hS]; exact h2
      omega
    rw [← hS]
    obtain ⟨x, hx⟩ : ∃ x, x = S.best := ⟨_, rfl⟩
    obtain ⟨y, hy⟩ : ∃ y, y = S.n := ⟨_, rfl⟩
    have hx2 : x ≤ 1000 := by omega
    have hxy : y ≤ x := by omega
    rw [← hx, ← hy]
    by_cases hlt : j < s.size
    · have hj2 : j < l.length := by rw [← HS.out]; exact hlt
      have hnext := run_take l j hj2
      rw [← hS] at hnext
      have hix := HI.out j hj2
      obtain ⟨c, hc⟩ : ∃ c, c = l[j] := ⟨_, rfl⟩
      rw [← hc] at hix hnext
      by_cases h0 : j = 0
      · have hS0 : S = ⟨0, 0, none⟩ := by rw [hS, h0]; rfl
        have hN : M.runS (l.take (j + 1)) = ⟨max x 1, 1, some c⟩ := by rw [hnext, hx, hS0]; rfl
        have HN := Lib.hid hN
        have hg : decide (0 < j) = false := by rw [h0]; rfl
        clear hS0 hN hnext hx hy hle hle1 hle2 hS hc hj2 h0
        go_wp2
        go_quiet (fail)
        go_wp2
        go_roundw
        case rel => exact ⟨j + 1, by omega, by go_num, by rw [HN.out]; exact int_of (by simp only []; omega), by rw [HN.out]; exact int_of (by simp only []; omega), below_drewN hb _⟩
        case measure => simp [intOf]; omega
      · have hj3 : j - 1 < l.length := by omega
        have hlast : S.last = some l[j - 1] := by
          have h5 := run_last l (j - 1) hj3
          rw [show j - 1 + 1 = j from by omega] at h5
          rw [hS]
          exact h5
        have hix2 := HI.out (j - 1) hj3
        obtain ⟨d, hd⟩ : ∃ d, d = l[j - 1] := ⟨_, rfl⟩
        rw [← hd] at hix2 hlast
        have hg : decide (0 < j) = true := by simp; omega
        have hjm : ((j - 1 : Nat) : Int) = (j : Int) - 1 := by omega
        rw [hjm] at hix2
        by_cases hcd : c = d
        · have hN : M.runS (l.take (j + 1)) = ⟨max x (y + 1), y + 1, some c⟩ := by
            rw [hnext, hx, hy]
            unfold M.run1
            simp only [hlast, hcd]
            rfl
          have HN := Lib.hid hN
          have ht : ((c.toNat : Int) == (d.toNat : Int)) = true := by rw [hcd]; simp
          clear hjm hN hnext hx hy hle hle1 hle2 hS hc hd hlast hj2 h0 hcd hj3
          go_wp2
          go_quiet (fail)
          go_wp2
          go_roundw
          case rel => exact ⟨j + 1, by omega, by go_num, by rw [HN.out]; exact int_of (by simp only []; omega), by rw [HN.out]; exact int_of (by simp only []; omega), below_drewN hb _⟩
          case measure => simp [intOf]; omega
        · have hN : M.runS (l.take (j + 1)) = ⟨max x 1, 1, some c⟩ := by
            rw [hnext, hx]
            unfold M.run1
            simp only [hlast]
            rw [if_neg (by intro e; injection e with e; exact hcd e.symm)]
          have HN := Lib.hid hN
          have ht : ((c.toNat : Int) == (d.toNat : Int)) = false := by
            rw [beq_eq_false_iff_ne]
            intro e
            exact hcd (UInt8.toNat_inj.1 (by omega))
          clear hjm hN hnext hx hy hle hle1 hle2 hS hc hd hlast hj2 h0 hcd hj3
          go_wp2
          go_quiet (fail)
          go_wp2
          go_roundw
          case rel => exact ⟨j + 1, by omega, by go_num, by rw [HN.out]; exact int_of (by simp only []; omega), by rw [HN.out]; exact int_of (by simp only []; omega), below_drewN hb _⟩
          case measure => simp [intOf]; omega
    · have e : l.take j = l := List.take_of_length_le (by rw [← HS.out]; omega)
      have hr : M.run l = x := by rw [hx, hS, e]; rfl
      have HR := Lib.hid hr
      clear e hr hx hy hle hle1 hle2 hS
      go_wp2
      go_ret2
      exact ⟨ret_two (int_of (by rw [HR.out])) rfl, hb⟩

/-! bits.Of -/
def SliceBytes (w : World) (A : Option Addr) (n : Nat) (xs : List UInt8) : Prop := Reads w w.heap.size 1 A n (xs.map bv)

theorem SliceBytes.len {w : World} {A : Option Addr} {n : Nat} {xs : List UInt8} (h : SliceBytes w A n xs) : xs.length = n := by
  have := h.1
  simpa using this
theorem SliceBytes.below {w w' : World} {A : Option Addr} {n : Nat} {xs : List UInt8} (h : SliceBytes w A n xs) (hb : Below w.heap.size w w') : SliceBytes w' A n xs := (Reads.below h hb).more hb.size
theorem SliceBytes.at_ {w : World} {A : Option Addr} {n : Nat} {xs : List UInt8} (h : SliceBytes w A n xs) {k : Nat} (hk : k < n) (hk2 : k < xs.length) : ∃ ad, A = some ad ∧ ad.block < w.heap.size ∧ w.cell? (ad.add k) = some (.int .u8 xs[k].toNat) := by
  obtain ⟨ad, u, e, hb, hu, hc⟩ := Reads.at_ h hk
  rw [List.getElem?_map, List.getElem?_eq_getElem hk2] at hu
  injection hu with hu
  exact ⟨ad, e, hb, by rw [hc, ← hu]; rfl⟩

theorem ofBytes_take (l : List UInt8) (j : Nat) (h : j < l.length) : M.ofBytes (l.take (j + 1)) = M.ofBytes (l.take j) ++ M.wr l[j].toNat 8 := by
  unfold M.ofBytes
  rw [List.take_succ_eq_append_getElem h, List.flatMap_append]
  simp

theorem write_8 (c : UInt8) (x : Nat) (hx : x = c.toNat) (w : World) : Calls Tryd.prog 26 #[.int .u64 x, .int .i64 8] w fun e w' => e = .returned (sv (M.wr c.toNat 8)) ∧ Below w.heap.size w w' := by
  have hc := c.toNat_lt
  subst hx
  exact write_any c.toNat 8 (by omega) (by decide) w

theorem builder_below {B b : Nat} {bs : List Value} {w w' : World} {T e : Nat} (h : Lib.IsBuilder T e B b bs w) (hb : Below w.heap.size w w') : Lib.IsBuilder T e B b bs w' := by
  have key : ∀ p, Lib.BuilderAt T e B b p bs w → Lib.BuilderAt T e B b p bs w' := by
    rintro p ⟨hB, v, hh, hown, hne⟩
    have hlt : b < w.heap.size := (Array.getElem?_eq_some_iff.1 hh).1
    refine ⟨hB, v, (hb.block b hlt).trans hh, ?_, hne⟩
    exact hown.kept (only_of_below hb none) (by cases hv : v.ownBlock <;> simp)
  rcases h with h | h
  · exact .inl (key _ h)
  · exact .inr (key _ h)

set_option maxHeartbeats 800000 in
theorem of_good (A : Option Addr) (n cap : Nat) (l : List UInt8) (hn : n ≤ 125) (w : World) (hA : SliceBytes w A n l) :
    Calls Tryd.prog 12 #[.slice A n cap] w fun e w' => e = .returned (.tuple #[sv (M.ofBytes l), .int .i64 0]) ∧ Below w.heap.size w w' := by
  have hl := hA.len
  have HL := Lib.hid hl
  have hl2 : l.length ≤ 125 := by omega
  clear hl
  have hbld := Lib.fresh_isBuilder 58 5 w
  have hbel := (Below.refl w.heap.size w).alloc (Nat.le_refl _) (.cells #[.pointer none, .slice none 0 0] 58)
  go_enter Tryd.func12, Tryd.ntmps12
  go_wp2
  obtain ⟨w0, hw0⟩ : ∃ w0, w0 = w.alloc (.cells #[.pointer none, .slice none 0 0] 58) := ⟨_, rfl⟩
  rw [← hw0] at hbld hbel ⊢
  clear hw0
  go_loopw [12] (fun i wr => ∃ j : Nat, j ≤ n ∧ i = .int .i64 j ∧ Lib.IsBuilder 58 5 w.heap.size w.heap.size (Lib.byteCells (M.ofBytes (l.take j))) wr ∧ Below w.heap.size w wr)
    (fun i _ => n - (intOf i).toNat)
  case atStart => exact ⟨0, Nat.zero_le _, rfl, hbld, hbel⟩
  case round =>
    clear hbld hbel
    obtain ⟨j, hj, rfl, hB, hb⟩ := hrel
    by_cases hlt : j < n
    · have hj2 : j < l.length := by rw [HL.out]; exact hlt
      obtain ⟨ad, rfl, had, hc⟩ := hA.at_ hlt hj2
      have hcell := (hb.cell (p := ad.add j) (by rw [block_of_add]; exact had)).trans hc
      have hnext := ofBytes_take l j hj2
      obtain ⟨c, hcx⟩ : ∃ c, c = l[j] := ⟨_, rfl⟩
      rw [← hcx] at hcell hnext
      obtain ⟨x, hx⟩ : ∃ x, x = c.toNat := ⟨_, rfl⟩
      have hx255 : x ≤ 255 := by have := c.toNat_lt; omega
      rw [← hx] at hcell
      have HW := Lib.hid (fun w => write_8 c x hx w)
      have HN := Lib.hid hnext
      have hlen : (M.ofBytes (l.take j)).length ≤ 1000 := by rw [M.length_ofBytes, List.length_take]; omega
      clear hc hcx hnext hx had hj2
      have HA := Lib.hid hA
      clear hA
      go_wp2_with fail
      refine (HW.out wr).mono ?_
      rintro e w1 ⟨rfl, hb1⟩
      have hB1 := builder_below hB hb1
      go_wp2_with fail
      refine (writeString_any w.heap.size w.heap.size _ ⟨(M.wr c.toNat 8).toArray⟩ w1 hB1 (by rw [Lib.byteCells_length]; simp [ByteArray.size, M.length_wr]; omega) (by have := hb.size; have := hb1.size; omega)).mono ?_
      rintro e w2 ⟨rfl, hB2, hb2⟩
      go_wp2
      go_roundw
      case rel =>
        refine ⟨j + 1, by omega, by go_num, .inr ?_, (hb.trans (hb1.mono hb.size)).trans hb2⟩
        rw [HN.out, Lib.byteCells_append]
        exact hB2
      case measure => simp [intOf]; omega
    · have e : l.take j = l := List.take_of_length_le (by rw [HL.out]; omega)
      rw [e] at hB
      have hS := Lib.hid (Tryd.Builder_String_any_k w.heap.size w.heap.size (M.ofBytes l) wr (by rcases hB with h | h; exact .inl (Lib.BuilderAtF.of h); exact .inr (Lib.BuilderAtF.of h)) hb.size)
      clear e
      go_wp2_with fail
      refine hS.out.mono ?_
      rintro e w2 ⟨rfl, _, hb2, _⟩
      go_wp2
      go_ret2
      exact ⟨rfl, hb.trans hb2⟩

set_option maxHeartbeats 400000 in
theorem of_bad (A : Option Addr) (n cap : Nat) (hn : 125 < n) (w : World) :
    Calls Tryd.prog 12 #[.slice A n cap] w fun e w' => e = .returned (.tuple #[sv [], .int .i64 2]) ∧ Below w.heap.size w w' := by
  go_enter Tryd.func12, Tryd.ntmps12
  go_wp2
  go_ret2
  exact ⟨rfl, Below.refl _ _⟩

/-! bits.Bytes -/
theorem toBytes_snoc (l : List UInt8) (j : Nat) : M.toBytes l (j + 1) = M.toBytes l j ++ [UInt8.ofNat (M.rd ((l.drop (8 * j)).take 8))] := by
  induction j generalizing l with
  | zero => simp [M.toBytes]
  | succ j ih =>
    rw [M.toBytes, ih, M.toBytes, List.cons_append, List.drop_drop, show 8 + 8 * j = 8 * (j + 1) from by omega]

theorem length_toBytes (l : List UInt8) (k : Nat) : (M.toBytes l k).length = k := by
  induction k generalizing l with
  | zero => rfl
  | succ k ih => rw [M.toBytes, List.length_cons, ih]

theorem take_data (t : ByteArray) (m : Nat) : (t.extract 0 m).data.toList = t.data.toList.take m := by
  rw [Lib.extract_data]; simp

set_option maxHeartbeats 800000 in
theorem bytes_good (s : ByteArray) (l : List UInt8) (hl : s.data.toList = l) (h : M.chk l = 0) (k : Nat) (hk : l.length = 8 * k) (w : World) :
    Calls Tryd.prog 13 #[.string s] w fun e w' => ∃ v, e = .returned (.tuple #[v, .int .i64 0]) ∧ w'.ownsRow w.heap.size 5 1 v k ((M.toBytes l k).map bv) ∧ Below w.heap.size w w' := by
  have hsz : s.size = l.length := by rw [← hl, Array.length_toList]; rfl
  have hz := M.chk_zero h
  obtain ⟨i0, hi, hz0, hz1, hz2⟩ := info_parts Tryd.infoU8
  have hC := Lib.hid (check_any s l hl (by omega) w)
  rw [h] at hC
  have hk2 : k ≤ 125 := by omega
  have hsk := Lib.hid (show s.size = 8 * k by omega)
  have hmod : ((s.size : Int) % 8 != 0) = false := by rw [hsk.out, bne_eq_false_iff_eq]; omega
  have hs0 : s.size ≤ 1000 := by omega
  have HZ := Lib.hid hz.2
  have HK := Lib.hid hk
  have HL := Lib.hid hl
  clear hsz hz h hk hl
  go_enter Tryd.func13, Tryd.ntmps13
  go_wp2_with fail
  refine hC.out.mono ?_
  rintro e w1 ⟨rfl, hb1⟩
  go_wp2
  go_loopw [0, 5] (fun b o wr => ∃ (j : Nat) (t : ByteArray), j ≤ k ∧ b = .string t ∧ t.data.toList = l.drop (8 * j) ∧ t.size = 8 * (k - j) ∧ wr.ownsRow w.heap.size 5 1 o j ((M.toBytes l j).map bv) ∧ Below w.heap.size w wr)
    (fun b _ _ => match b with | .string t => t.size | _ => 0)
  case atStart => exact ⟨0, s, Nat.zero_le _, rfl, by simpa using HL.out, by rw [hsk.out]; rfl, World.ownsRow_nil _ _ _ _, hb1⟩
  case round =>
    obtain ⟨j, t, hj, rfl, ht, hts, hown, hb⟩ := hrel
    by_cases hlt : j < k
    · have ht8 : 8 ≤ t.size := by omega
      have ht1 : 0 < t.size := by omega
      have hle : t.size ≤ 1000 := by omega
      obtain ⟨r, hr⟩ : ∃ r, r = M.rd ((l.drop (8 * j)).take 8) := ⟨_, rfl⟩
      have hall : ((l.drop (8 * j)).take 8).all M.isBit = true := by
        apply all_take
        have := HZ.out
        rw [List.all_eq_true] at this ⊢
        exact fun x hx => this x (List.mem_of_mem_drop hx)
      have hr255 : r ≤ 255 := by
        have h1 := M.rd_lt hall
        have h2 : ((l.drop (8 * j)).take 8).length ≤ 8 := by rw [List.length_take]; omega
        have h3 := Nat.pow_le_pow_right (show 0 < 2 from by decide) h2
        omega
      have hR := Lib.hid (fun w => read_any (t.extract 0 8) ((l.drop (8 * j)).take 8) (by rw [take_data, ht]) hall (by rw [List.length_take]; omega) w)
      rw [← hr] at hR
      have hnext := toBytes_snoc l j
      rw [← hr] at hnext
      have hbv : bv (UInt8.ofNat r) = .int .u8 r := by unfold bv; rw [UInt8.toNat_ofNat_of_lt' (show r < 256 by omega)]
      have HB := Lib.hid hbv
      have HN := Lib.hid hnext
      have HT := Lib.hid (And.intro ht hts)
      clear hr hall hnext hbv ht hts
      go_wp2_with fail
      refine (hR.out wr).mono ?_
      rintro e w2 ⟨rfl, rfl⟩
      go_wp2_with (at_builtin; refine wpList_append_own _ rfl (.tmp 18) (.tmp 23) 27 rfl w.heap.size 5 i0 (.int .u8 0) 1 1 Tryd.underlying27 hi hz0 hz1 hz2 rfl (by decide) _ _ _ rfl (hown.alloc _) ⟨_, 0, none⟩ 1 1 [.int .u8 r] rfl rfl (cell_new_one _ _ _) (one_cell_int _ _) (by unfold maxLen; omega) (by omega) (by have := hb.size; simp; omega) ?_; intro v3 w3 hown3 hg3 _; have hF3 := append_below hown hb (Nat.le_refl _) hg3)
      go_roundw
      case rel =>
        refine ⟨j + 1, t.extract 8 t.size, by omega, rfl, ?_, ?_, ?_, hF3⟩
        · rw [Lib.extract_to_end, HT.out.1, List.drop_drop, show 8 * j + 8 = 8 * (j + 1) from by omega]
        · rw [ByteArray.size_extract, Nat.min_self, HT.out.2]; omega
        · rw [HN.out, List.map_append, List.map_cons, List.map_nil, HB.out]
          exact hown3
      case measure =>
        show (t.extract 8 t.size).size < t.size
        rw [ByteArray.size_extract, Nat.min_self]; omega
    · obtain rfl : j = k := by omega
      have ht0 : t.size = 0 := by omega
      have HT := Lib.hid ht
      clear ht hts
      go_wp2
      go_ret2
      exact ⟨_, rfl, hown, hb⟩

set_option maxHeartbeats 400000 in
theorem bytes_bad (s : ByteArray) (l : List UInt8) (hl : s.data.toList = l) (hs : s.size ≤ 9223372036854775807) (h : M.chk l ≠ 0) (w : World) :
    Calls Tryd.prog 13 #[.string s] w fun e w' => e = .returned (.tuple #[.slice none 0 0, .int .i64 (M.chk l)]) ∧ Below w.heap.size w w' := by
  have hC := Lib.hid (check_any s l hl hs w)
  obtain ⟨q, hq⟩ : ∃ q, q = M.chk l := ⟨_, rfl⟩
  rw [← hq] at hC h ⊢
  have ht : (q != 0) = true := by rw [bne_iff_ne]; exact h
  clear h hq hl
  go_enter Tryd.func13, Tryd.ntmps13
  go_wp2_with fail
  refine hC.out.mono ?_
  rintro e w1 ⟨rfl, hb1⟩
  go_wp2
  go_ret2
  exact ⟨rfl, hb1⟩

/-! slices.Equal of two equal rows of bytes -/
set_option maxHeartbeats 400000 in
theorem equal_same (A1 A2 : Option Addr) (n c1 c2 : Nat) (xs : List UInt8) (hn : n ≤ 1000000) (w : World) (h1 : SliceBytes w A1 n xs) (h2 : SliceBytes w A2 n xs) :
    Calls Tryd.prog 14 #[.slice A1 n c1, .slice A2 n c2] w fun e w' => e = .returned (.bool true) ∧ Below w.heap.size w w' := by
  have hl := Lib.hid h1.len
  go_enter Tryd.func14, Tryd.ntmps14
  go_wp2
  go_loopw [13] (fun i wr => ∃ j : Nat, j ≤ n ∧ i = .int .i64 j ∧ Below w.heap.size w wr) (fun i _ => n - (intOf i).toNat)
  case atStart => exact ⟨0, Nat.zero_le _, rfl, Below.refl _ _⟩
  case round =>
    obtain ⟨j, hj, rfl, hb⟩ := hrel
    by_cases hlt : j < n
    · have hj2 : j < xs.length := by rw [hl.out]; exact hlt
      obtain ⟨a1, rfl, hd1, hc1⟩ := h1.at_ hlt hj2
      obtain ⟨a2, rfl, hd2, hc2⟩ := h2.at_ hlt hj2
      have hx1 := (hb.cell (p := a1.add j) (by rw [block_of_add]; exact hd1)).trans hc1
      have hx2 := (hb.cell (p := a2.add j) (by rw [block_of_add]; exact hd2)).trans hc2
      obtain ⟨x, hx⟩ : ∃ x, x = xs[j].toNat := ⟨_, rfl⟩
      rw [← hx] at hx1 hx2
      have H1 := Lib.hid h1
      have H2 := Lib.hid h2
      clear hc1 hc2 hx hd1 hd2 hj2 h1 h2
      go_wp2
      go_quiet (fail)
      go_wp2
      go_roundw
      case rel => exact ⟨j + 1, by omega, by go_num, below_drewN hb _⟩
      case measure => simp [intOf]; omega
    · go_wp2
      go_ret
      exact ⟨rfl, hb⟩
end Go.Proofs.YtgfjjffighfkaaaDoor
