/-
  The walks of bits.Write and bits.Read: what they return, for every number and row in range; nothing that was there turns.
-/
import Derived.Test.YtgfjjffighfkaaaDoorRows
import Derived.Test.YtgfjjffighfkaaaDoorBitsPlain
import Derived.WalkKit
import Derived.WalkSmall
import Derived.WalkSpells
import Derived.WalkLawsBesides
import Derived.Lib.Hide
namespace Go.Proofs.YtgfjjffighfkaaaDoor
open Go.RowKit Go.ChangeShapes Go.WideShapes

theorem Tryd.infoU8 : (Tryd.prog.info? 5).map (fun i => (i.zero, i.size, i.bytes)) = some (some (.int .u8 0), 1, 1) := by kernel_rfl

/-- A byte as a value. -/
def bv (b : UInt8) : Value := .int .u8 b.toNat

theorem u64_and_one (x N j : Nat) (hx : x = N / 2 ^ j) (hN : N ≤ 18446744073709551615) : bits BinOp.and IntKind.u64 (x : Int) 1 = ((x % 2 : Nat) : Int) := by
  have h1 : x ≤ N := by rw [hx]; exact Nat.div_le_self _ _
  have h := bits_and_u64_nat x 1 (by omega) (by omega)
  rw [Nat.and_one_is_mod] at h
  exact h

theorem bv_bit (n : Nat) : bv (UInt8.ofNat (48 + n % 2)) = .int .u8 (48 + ((n % 2 : Nat) : Int)) := by
  unfold bv
  rcases Nat.mod_two_eq_zero_or_one n with h | h <;> rw [h] <;> rfl

theorem wr_set (N k j x : Nat) (hlt : j < k) (hx : x = N / 2 ^ j) :
    (List.replicate (k - j) (Value.int .u8 0) ++ (M.wr N j).map bv).set (k - 1 - j) (.int .u8 (48 + ((x % 2 : Nat) : Int))) = List.replicate (k - (j + 1)) (Value.int .u8 0) ++ (M.wr N (j + 1)).map bv := by
  obtain ⟨m, rfl⟩ : ∃ m, k = m + 1 + j := ⟨k - 1 - j, by omega⟩
  rw [show m + 1 + j - j = m + 1 from by omega, show m + 1 + j - (j + 1) = m from by omega, show m + 1 + j - 1 - j = m from by omega, List.replicate_succ', List.append_assoc,
    List.set_append_right m _ (by rw [List.length_replicate]; exact Nat.le_refl _), List.length_replicate, Nat.sub_self, List.singleton_append, List.set_cons_zero, M.wr, List.map_cons, Nat.shiftRight_eq_div_pow, ← hx, bv_bit]

/-- A block of bytes that the call owns, turned into a string. -/
theorem string_of_own {P : Program} {w : World} {base g cap e src dst : Nat} {l : List UInt8} (hs : P.underlying src = some (.slice e)) (he : P.underlying e = some (.int .u8)) (hd : P.underlying dst = some .string)
    (h : w.ownsRow base e 1 (.slice (some ⟨g, 0, none⟩) l.length cap) l.length (l.map bv)) : (convert src dst (.slice (some ⟨g, 0, none⟩) l.length cap)).run P w = .ok (.string ⟨l.toArray⟩) w := by
  refine run_convert_bytes_back w src dst e _ cap l hs he hd fun j hj => ?_
  have hadd : (⟨g, 0, none⟩ : Addr).add j = ⟨g, j, none⟩ := by unfold Addr.add; split <;> simp_all
  rw [hadd, h.cellAt j (by omega), List.getElem?_map, List.getElem?_eq_getElem hj]
  rfl

/-- The same of whatever owned row of bytes, nil too. -/
theorem string_of_own' {P : Program} {w : World} {base e src dst : Nat} {v : Value} (hs : P.underlying src = some (.slice e)) (he : P.underlying e = some (.int .u8)) (hd : P.underlying dst = some .string) (l : List UInt8)
    (h : w.ownsRow base e 1 v l.length (l.map bv)) : (convert src dst v).run P w = .ok (.string ⟨l.toArray⟩) w := by
  rcases h.2 with ⟨rfl, h0⟩ | ⟨g, cap, cur, rfl, _⟩
  · have hl : l = [] := List.eq_nil_of_length_eq_zero h0
    subst hl
    rw [run_convert_bytes_nil (P := P) (w := w) src e hs he 0 0 dst hd]
    rfl
  · exact string_of_own hs he hd h

set_option maxHeartbeats 400000 in
theorem write_any (N k : Nat) (hN : N ≤ 18446744073709551615) (hk : k ≤ 64) (w : World) :
    Calls Tryd.prog 26 #[.int .u64 N, .int .i64 k] w fun e w' => e = .returned (.string ⟨(M.wr N k).toArray⟩) ∧ Below w.heap.size w w' := by
  obtain ⟨i0, hi, hz0, hz1, hz2⟩ := info_parts Tryd.infoU8
  have HN := Lib.hid hN; clear hN
  go_enter Tryd.func26, Tryd.ntmps26
  go_wp2_with (at_make; refine wpList_make_full _ rfl _ _ 27 rfl w.heap.size 5 i0 _ 1 Tryd.underlying27 hi hz0 hz1 _ _ _ _ k rfl rfl rfl rfl (by rw [hz2]; omega) (by unfold maxLen; omega) (Nat.le_refl _) ?_; intro w1 hown1 hg1)
  have hb1 : Below w.heap.size w w1 := (Below.refl _ _).grown hg1 (Nat.le_refl _) (by simp)
  have hown0 : w1.ownsRow w.heap.size 5 1 (Value.slice (some ⟨w.heap.size, 0, none⟩) k k) k (List.replicate k (Value.int .u8 0)) := by
    have := hown1
    rw [Nat.mul_one, show (Value.int IntKind.u8 0).cells = #[Value.int IntKind.u8 0] from rfl, toList_madeCells_one] at this
    exact this
  clear hown1 hg1
  go_loopw [0, 10] (fun n i wr => ∃ j : Nat, j ≤ k ∧ i = .int .i64 j ∧ n = .int .u64 (N / 2 ^ j : Nat) ∧
      wr.ownsRow w.heap.size 5 1 (Value.slice (some ⟨w.heap.size, 0, none⟩) k k) k (List.replicate (k - j) (Value.int .u8 0) ++ (M.wr N j).map bv) ∧ Below w.heap.size w wr)
    (fun _ i _ => k - (intOf i).toNat)
  case atStart => exact ⟨0, Nat.zero_le _, rfl, by simp, by simpa [M.wr] using hown0, hb1⟩
  case round =>
    obtain ⟨j, hj, rfl, rfl, hown, hb⟩ := hrel
    obtain ⟨x, hx⟩ : ∃ x, x = N / 2 ^ j := ⟨_, rfl⟩
    have h1 := u64_and_one x N j hx HN.out
    rw [← hx]
    have HX := Lib.hid hx; clear hx
    by_cases hlt : j < k
    · have hc : wr.cell? ⟨w.heap.size, k - 1 - j, none⟩ = some (.int .u8 0) := by
        rw [hown.cellAt _ (by omega)]
        rw [List.getElem?_append_left (by simp; omega)]
        rw [List.getElem?_replicate, if_pos (by omega)]
      have hf := hown.frozenAt (k - 1 - j)
      go_wp2
      go_roundw
      case rel =>
        refine ⟨j + 1, by omega, by go_num, ?_, ?_, ?_⟩
        · rw [Nat.pow_succ, ← Nat.div_div_eq_div_mul, ← HX.out]; rfl
        · have h2 := (hown.stored (k - 1 - j) (.int .u8 (48 + ((x % 2 : Nat) : Int)))).1
          have e := wr_set N k j x hlt HX.out
          rw [e] at h2
          exact h2
        · exact hb.setCell (Nat.le_refl _) _
      case measure => simp [intOf]; omega
    · obtain rfl : j = k := by omega
      have hconv : (convert 27 9 (.slice (some ⟨w.heap.size, 0, none⟩) j j)).run Tryd.prog wr = .ok (.string ⟨(M.wr N j).toArray⟩) wr := by
        have hl := M.length_wr N j
        have h3 := string_of_own (P := Tryd.prog) (w := wr) (base := w.heap.size) (g := w.heap.size) (cap := j) (l := M.wr N j) Tryd.underlying27 Tryd.underlying5 Tryd.underlying9 (by rw [hl]; simpa using hown)
        rw [hl] at h3
        exact h3
      clear h1 HX
      go_wp2
      go_ret
      exact ⟨rfl, hb⟩

/-! bits.Read. -/
theorem rd_take (l : List UInt8) (j : Nat) (h : j < l.length) : M.rd (l.take (j + 1)) = 2 * M.rd (l.take j) + (l[j].toNat - 48) := by
  rw [List.take_succ_eq_append_getElem h, M.rd_snoc]

theorem bit_val {l : List UInt8} (h : l.all M.isBit = true) {j : Nat} (hj : j < l.length) : l[j].toNat = 48 ∨ l[j].toNat = 49 := by
  rw [List.all_eq_true] at h
  rcases M.isBit_iff.1 (h l[j] (List.getElem_mem hj)) with e | e <;> rw [e] <;> decide

theorem all_take {l : List UInt8} {p : UInt8 → Bool} (h : l.all p = true) (j : Nat) : (l.take j).all p = true := by
  rw [List.all_eq_true] at h ⊢
  exact fun x hx => h x (List.mem_of_mem_take hx)

theorem u64_or_bit (r b : Nat) (h : r < 9223372036854775808) (hb : b ≤ 1) : bits BinOp.or IntKind.u64 ((2 * r : Nat) : Int) (b : Int) = ((2 * r + b : Nat) : Int) := by
  rw [bits_or_u64_nat _ _ (by omega) (by omega)]
  congr 1
  rw [Nat.mul_comm, show r * 2 = r <<< 1 from by rw [Nat.shiftLeft_eq], ← Nat.shiftLeft_add_eq_or_of_lt (by omega)]

/-- One round of bits.Read, in numbers. -/
theorem rd_step (l : List UInt8) (h : l.all M.isBit = true) (hn : l.length ≤ 63) (j : Nat) (hj : j < l.length) (r r' : Nat) (hr : r = M.rd (l.take j)) (hr' : r' = M.rd (l.take (j + 1))) :
    bits BinOp.or IntKind.u64 (IntKind.u64.wrap ((r : Int) * 2)) (((l[j].toNat : Int) - 48) % 256) = (r' : Int) := by
  have h1 := M.rd_lt (all_take h j)
  have h2 : (l.take j).length ≤ 62 := by rw [List.length_take]; omega
  have h3 : M.rd (l.take j) < 2 ^ 62 := Nat.lt_of_lt_of_le h1 (Nat.pow_le_pow_right (by decide) h2)
  have hb := bit_val h hj
  have e2 : ((l[j].toNat : Int) - 48) % 256 = ((l[j].toNat - 48 : Nat) : Int) := by
    rcases hb with e | e <;> rw [e] <;> rfl
  have e1 : IntKind.u64.wrap ((r : Int) * 2) = ((2 * r : Nat) : Int) := by
    rw [IntKind.wrap_u64]; omega
  rw [e1, e2, u64_or_bit r _ (by omega) (by omega), hr', rd_take l j hj, hr]

/-- A byte of a string, read: as the list's. -/
theorem run_index_list {P : Program} {t : Nat} (ht : P.underlying t = some .string) {s : ByteArray} {l : List UInt8} (hl : s.data.toList = l) (j : Nat) (hj : j < l.length) (wx : World) :
    (Instr.index t (.string s) (.int .i64 (j : Int))).run P wx = .ok (.int .u8 ((l[j].toNat : Nat) : Int)) wx := by
  have hs : s.size = l.length := by rw [← hl, Array.length_toList]; rfl
  rw [run_index_string wx t s .i64 j ht, dif_pos ⟨by omega, by omega⟩]
  have e : s[(j : Int).toNat]'(by omega) = l[j] := by
    subst hl
    simp [ByteArray.getElem_eq_getElem_data]
  rw [e]

set_option maxHeartbeats 400000 in
theorem read_any (s : ByteArray) (l : List UInt8) (hl : s.data.toList = l) (h : l.all M.isBit = true) (hn : l.length ≤ 62) (w : World) :
    Calls Tryd.prog 27 #[.string s] w fun e w' => e = .returned (.int .u64 (M.rd l : Nat)) ∧ w' = w := by
  have hs : s.size = l.length := by rw [← hl, Array.length_toList]; rfl
  have hn' : s.size ≤ 62 := by omega
  have HI := Lib.hid (fun (j : Nat) (hj : j < l.length) wx => run_index_list (P := Tryd.prog) Tryd.underlying9 hl j hj wx)
  have HS := Lib.hid hs; clear hs hl
  go_enter Tryd.func27, Tryd.ntmps27
  go_wp2
  go_loop [3, 7] (fun n i => ∃ j : Nat, j ≤ s.size ∧ i = .int .i64 j ∧ n = .int .u64 (M.rd (l.take j) : Nat)) (fun _ i => s.size - (intOf i).toNat)
  case atStart => exact ⟨0, Nat.zero_le _, rfl, rfl⟩
  case round =>
    obtain ⟨j, hj, rfl, rfl⟩ := hrel
    obtain ⟨r, hr⟩ : ∃ r, r = M.rd (l.take j) := ⟨_, rfl⟩
    rw [← hr]
    by_cases hlt : j < s.size
    · have hj2 : j < l.length := by rw [← HS.out]; exact hlt
      obtain ⟨c, hc⟩ : ∃ c : Nat, c = l[j].toNat := ⟨_, rfl⟩
      have hi := HI.out j hj2
      have hst := rd_step l h (by omega) j hj2 r _ hr rfl
      obtain ⟨r', hr'⟩ : ∃ r, r = M.rd (l.take (j + 1)) := ⟨_, rfl⟩
      rw [← hc] at hi hst
      rw [← hr'] at hst
      have HH := Lib.hid hr'
      clear hc hr hr' h hn hj2
      go_wp2
      go_round
      case rel => exact ⟨j + 1, by omega, by go_num, by rw [← HH.out]⟩
      case measure => simp [intOf]; omega
    · have e : l.take j = l := List.take_of_length_le (by rw [← HS.out]; omega)
      rw [e] at hr
      have HR := Lib.hid hr; clear hr e
      go_wp2
      go_ret
      exact ⟨by rw [← HR.out]; rfl, rfl⟩
end Go.Proofs.YtgfjjffighfkaaaDoor
