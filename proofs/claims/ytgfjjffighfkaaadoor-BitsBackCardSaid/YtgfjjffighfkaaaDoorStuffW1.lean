/-
  The walks of package stuff's counter and of stuff.Put: what they return, for every row in range; nothing that was there turns but the counter.
-/
import Derived.Test.YtgfjjffighfkaaaDoorBitsW1
import Derived.Test.YtgfjjffighfkaaaDoorBlk
import Derived.BigQuiet
import Derived.Deep.QuietTactic
import Derived.Deep.RegionWith
namespace Go.Proofs.YtgfjjffighfkaaaDoor
open Go.RowKit Go.ChangeShapes Go.WideShapes

/-- What (*stuff.Counter).Next leaves: the other bit, whether the count is five, the counter's two cells turned. -/
def NextPost (w : World) (g o : Nat) (t : TypeId) (cs : Array Value) (last : UInt8) (n : Nat) (b : UInt8) (e : Ending) (w' : World) : Prop :=
  e = .returned (.tuple #[bv (M.oth b), .bool (decide ((if b = last then n + 1 else 1) = 5))]) ∧
    Blk w' g t ((cs.setIfInBounds o (bv b)).setIfInBounds (o + 1) (.int .i64 ((if b = last then n + 1 else 1 : Nat) : Int))) ∧ w.grownBy w' (some g)

theorem bv_oth (b : UInt8) : Value.int .u8 ((97 - (b.toNat : Int)) % 256) = bv (M.oth b) := by
  unfold bv
  rw [M.oth_toNat]
  have := b.toNat_lt
  congr 1
  omega

theorem ret_one {a a' : Value} (h : a = a') : Ending.returned a = .returned a' := by rw [h]
theorem ret_two {a b a' b' : Value} (h : a = a') (k : b = b') : Ending.returned (.tuple #[a, b]) = .returned (.tuple #[a', b']) := by rw [h, k]
theorem ret_three {a b c a' b' c' : Value} (h : a = a') (k : b = b') (l : c = c') : Ending.returned (.tuple #[a, b, c]) = .returned (.tuple #[a', b', c']) := by rw [h, k, l]
theorem bool_of {p q : Bool} (h : p = q) : Value.bool p = .bool q := by rw [h]
theorem int_of {k : IntKind} {p q : Int} (h : p = q) : Value.int k p = .int k q := by rw [h]

set_option maxHeartbeats 400000 in
theorem next_same (w : World) (g o : Nat) (t : TypeId) (cs : Array Value) (hB : Blk w g t cs) (b : UInt8) (n : Nat) (h0 : cs[o]? = some (bv b)) (h1 : cs[o + 1]? = some (.int .i64 n)) (hn : n ≤ 1000000) :
    Calls Tryd.prog 22 #[.pointer (some ⟨g, o, none⟩), .int .u8 b.toNat] w (NextPost w g o t cs b n b) := by
  have c0 : w.cell? ⟨g, o, none⟩ = some (.int .u8 b.toNat) := (hB.cell _).trans h0
  have c1 : w.cell? ⟨g, o + 1, none⟩ = some (.int .i64 n) := (hB.cell _).trans h1
  have f1 : w.frozen? ⟨g, o + 1, none⟩ = false := hB.frozen _
  have hset : cs.setIfInBounds o (bv b) = cs := by
    apply Array.ext_getElem?
    intro i
    rw [Array.getElem?_setIfInBounds]
    split
    · rename_i e; subst e; rw [h0]; split <;> simp_all
    · rfl
  have hv := Lib.hid (bv_oth b)
  have hq := Lib.hid (And.intro hB hset)
  obtain ⟨x, hx⟩ : ∃ x, x = b.toNat := ⟨_, rfl⟩
  rw [← hx] at hv c0 ⊢
  clear hB h0 h1 hx hset
  go_enter Tryd.func22, Tryd.ntmps22
  go_wp2
  go_quiet (fail)
  go_wp2
  go_ret2
  refine ⟨ret_two hv.out (bool_of ?_), ?_, ?_⟩
  · rw [if_pos rfl, Bool.eq_iff_iff]
    simp
    omega
  · rw [if_pos rfl, hq.out.2]
    exact (hq.out.1.set_ (o + 1) _).drewN _
  · exact only_drewN (only_setCell (only_refl _ _) (.inl rfl) _) _

set_option maxHeartbeats 400000 in
theorem next_other (w : World) (g o : Nat) (t : TypeId) (cs : Array Value) (hB : Blk w g t cs) (last b : UInt8) (hne : b ≠ last) (n : Nat) (h0 : cs[o]? = some (bv last)) (h1 : cs[o + 1]? = some (.int .i64 n)) :
    Calls Tryd.prog 22 #[.pointer (some ⟨g, o, none⟩), .int .u8 b.toNat] w (NextPost w g o t cs last n b) := by
  have c0 : w.cell? ⟨g, o, none⟩ = some (.int .u8 last.toNat) := (hB.cell _).trans h0
  have c1 : w.cell? ⟨g, o + 1, none⟩ = some (.int .i64 n) := (hB.cell _).trans h1
  have f0 : w.frozen? ⟨g, o, none⟩ = false := hB.frozen _
  have f1 : w.frozen? ⟨g, o + 1, none⟩ = false := hB.frozen _
  have ht : ((b.toNat : Int) == (last.toNat : Int)) = false := by
    rw [beq_eq_false_iff_ne]
    intro e
    exact hne (UInt8.toNat_inj.1 (by omega))
  have hv := Lib.hid (bv_oth b)
  have hq := Lib.hid hB
  have hN := Lib.hid hne
  obtain ⟨x, hx⟩ : ∃ x, x = b.toNat := ⟨_, rfl⟩
  obtain ⟨y, hy⟩ : ∃ y, y = last.toNat := ⟨_, rfl⟩
  have hX := Lib.hid hx
  rw [← hx] at hv ht ⊢
  rw [← hy] at c0 ht
  clear hB h0 h1 hx hy hne
  go_enter Tryd.func22, Tryd.ntmps22
  go_wp2
  go_quiet (fail)
  go_wp2
  go_ret2
  refine ⟨ret_two hv.out (bool_of ?_), ?_, ?_⟩
  · rw [if_neg hN.out]; rfl
  · rw [if_neg hN.out]
    rw [hX.out]
    exact ((hq.out.set_ o (.int .u8 b.toNat)).set_ (o + 1) (.int .i64 1)).drewN _
  · exact only_drewN (only_setCell (only_setCell (only_refl w (some g)) (p := ⟨g, o, none⟩) (.inl rfl) _) (p := ⟨g, o + 1, none⟩) (.inl rfl) _) _

theorem next_any (w : World) (g o : Nat) (t : TypeId) (cs : Array Value) (hB : Blk w g t cs) (last b : UInt8) (n : Nat) (h0 : cs[o]? = some (bv last)) (h1 : cs[o + 1]? = some (.int .i64 n)) (hn : n ≤ 1000000) :
    Calls Tryd.prog 22 #[.pointer (some ⟨g, o, none⟩), .int .u8 b.toNat] w (NextPost w g o t cs last n b) := by
  by_cases h : b = last
  · subst h
    exact next_same w g o t cs hB b n h0 h1 hn
  · exact next_other w g o t cs hB last b h n h0 h1

theorem Tryd.infoCounter : (Tryd.prog.info? 46).map (fun i => (i.zero, i.size)) = some (some (.agg #[.int .u8 0, .int .i64 0]), 2) := by kernel_rfl

/-- A string of the list's bytes. -/
def sv (l : List UInt8) : Value := .string ⟨l.toArray⟩

/-- 'out = append(out, x)' of one byte that lies in a new block: what is owned behind it. -/
theorem cell_new_one (w : World) (u : Value) (t : TypeId) : ∀ j v, [u][j]? = some v → (w.alloc (.cells #[u] t)).cell? ((⟨w.heap.size, 0, none⟩ : Addr).add j) = some v := by
  intro j v hj
  match j, hj with
  | 0, hj => simp at hj; subst hj; simp [Addr.add]

theorem one_cell_int (k : IntKind) (x : Int) : ∀ u ∈ [Value.int k x], u.oneCell' = true := by
  intro u hu
  simp at hu
  subst hu
  rfl

/-- The counter by itself in a block. -/
theorem next_own (w : World) (g : Nat) (t : TypeId) (last b : UInt8) (n : Nat) (hB : Blk w g t #[bv last, .int .i64 n]) (hn : n ≤ 1000000) (m : Nat) (hm : (if b = last then n + 1 else 1) = m) (q : Bool) (hq : decide (m = 5) = q) :
    Calls Tryd.prog 22 #[.pointer (some ⟨g, 0, none⟩), .int .u8 b.toNat] w fun e w' =>
      e = .returned (.tuple #[.int .u8 (M.oth b).toNat, .bool q]) ∧ Blk w' g t #[bv b, .int .i64 m] ∧ w.grownBy w' (some g) :=
  (next_any w g 0 t _ hB last b n rfl rfl hn).mono fun e w' h => by
    obtain ⟨he, h1, h2⟩ := h
    rw [hm] at he h1
    rw [hq] at he
    exact ⟨he, h1, h2⟩

theorem foldl_take {α β : Type} (f : α → β → α) (a : α) (l : List β) (j : Nat) (h : j < l.length) : (l.take (j + 1)).foldl f a = f ((l.take j).foldl f a) l[j] := by
  rw [List.take_succ_eq_append_getElem h, List.foldl_append]
  rfl

theorem M.putS_n (l : List UInt8) : (M.putS l).n ≤ l.length := by
  have h : ∀ (l : List UInt8) (s : M.St), (l.foldl M.put1 s).n ≤ s.n + l.length := by
    intro l
    induction l with
    | nil => intro s; exact Nat.le_refl _
    | cons b r ih =>
      intro s
      have := ih (M.put1 s b)
      have h2 : (M.put1 s b).n ≤ s.n + 1 := by
        unfold M.put1
        simp only []
        split <;> split <;> simp
      simp only [List.foldl_cons, List.length_cons]
      omega
  simpa [M.putS] using h l ⟨[], 0, 0⟩

theorem M.put1_no {S : M.St} {c : UInt8} {m : Nat} (hm : (if c = S.last then S.n + 1 else 1) = m) (h5 : decide (m = 5) = false) : M.put1 S c = ⟨S.out ++ [c], c, m⟩ := by
  unfold M.put1
  simp only [hm]
  rw [if_neg (by simpa using h5)]
theorem M.put1_yes {S : M.St} {c : UInt8} {m : Nat} (hm : (if c = S.last then S.n + 1 else 1) = m) (h5 : decide (m = 5) = true) : M.put1 S c = ⟨S.out ++ [c] ++ [M.oth c], M.oth c, 1⟩ := by
  unfold M.put1
  simp only [hm]
  rw [if_pos (by simpa using h5)]
  simp
theorem M.oth_ne (c : UInt8) : M.oth c ≠ c := by
  intro h
  have h2 := M.oth_toNat c
  rw [h] at h2
  have := c.toNat_lt
  omega

/-- What the loop of stuff.Put holds behind j rounds. -/
def PutRel (w : World) (g : Nat) (S : M.St) (v : Value) (wr : World) : Prop :=
  wr.ownsRow w.heap.size 5 1 v S.out.length (S.out.map bv) ∧ Blk wr g 46 #[bv S.last, .int .i64 S.n] ∧ Below w.heap.size w wr

set_option maxHeartbeats 800000 in
/-- stuff.Put of a row that bits.Check lets by. -/
theorem put_go (s : ByteArray) (l : List UInt8) (hl : s.data.toList = l) (hlen : l.length ≤ 1000)
    (w : World) (hchk : ∀ w, Calls Tryd.prog 21 #[.string s] w fun e w' => e = .returned (.int .i64 0) ∧ Below w.heap.size w w') :
    Calls Tryd.prog 6 #[.string s] w fun e w' => e = .returned (.tuple #[sv (M.put l), .int .i64 0]) ∧ Below w.heap.size w w' := by
  have hs : s.size = l.length := by rw [← hl, Array.length_toList]; rfl
  have hn' : s.size ≤ 1000 := by omega
  have HI := Lib.hid (fun (j : Nat) (hj : j < l.length) wx => run_index_list (P := Tryd.prog) Tryd.underlying9 hl j hj wx)
  have HS := Lib.hid hs; clear hs hl
  have HC := Lib.hid hchk; clear hchk
  obtain ⟨i0, hi, hz0, hz1, hz2⟩ := info_parts Tryd.infoU8
  go_enter Tryd.func6, Tryd.ntmps6
  go_wp2_with (go_at_call 21; refine (HC.out _).mono ?_; rintro e w1 ⟨rfl, hb1⟩)
  have hsz := hb1.size
  obtain ⟨g, hg⟩ : ∃ g, g = w1.heap.size := ⟨_, rfl⟩
  have hgw : w.heap.size ≤ g := by rw [hg]; exact hsz
  rw [← hg]
  have hB0 : Blk (w1.alloc (.cells #[.int .u8 0, .int .i64 0] 46)) g 46 #[.int .u8 0, .int .i64 0] := by rw [hg]; exact Blk.new _ _ _
  have hbel0 := hb1.alloc hsz (.cells #[.int .u8 0, .int .i64 0] 46)
  generalize w1.alloc (.cells #[.int .u8 0, .int .i64 0] 46) = w2 at hB0 hbel0 ⊢
  clear hg hsz hb1
  go_loopw [5, 17] (fun v i wr => ∃ j : Nat, j ≤ s.size ∧ i = .int .i64 j ∧ PutRel w g (M.putS (l.take j)) v wr)
    (fun _ i _ => s.size - (intOf i).toNat)
  case atStart => exact ⟨0, Nat.zero_le _, rfl, World.ownsRow_nil _ _ _ _, hB0, hbel0⟩
  case round =>
    obtain ⟨j, hj, rfl, hrel⟩ := hrel
    by_cases hlt : j < s.size
    · have hj2 : j < l.length := by rw [← HS.out]; exact hlt
      obtain ⟨c, hc⟩ : ∃ c : UInt8, c = l[j] := ⟨_, rfl⟩
      obtain ⟨S, hS⟩ : ∃ S, S = M.putS (l.take j) := ⟨_, rfl⟩
      have hSn : S.n ≤ 1000 := by
        have := M.putS_n (l.take j)
        rw [← hS, List.length_take] at this
        omega
      have hSl : S.out.length ≤ 2000 := by
        have := M.length_put (l.take j)
        unfold M.put at this
        rw [← hS, List.length_take] at this
        omega
      have hnext : M.putS (l.take (j + 1)) = M.put1 S c := by
        unfold M.putS
        rw [foldl_take _ _ _ _ hj2, hc, hS]
        rfl
      rw [← hS] at hrel
      have hix := HI.out j hj2
      rw [← hc] at hix
      have HN := Lib.hid hnext
      clear hc hS hnext hj2 hB0 hbel0
      obtain ⟨hown, hBlk, hbel⟩ := hrel
      obtain ⟨m, hm⟩ : ∃ m, (if c = S.last then S.n + 1 else 1) = m := ⟨_, rfl⟩
      have HM := Lib.hid hm
      by_cases h5 : m = 5
      · have hq : decide (m = 5) = true := by simp [h5]
        have HQ := Lib.hid hq
        have HO := Lib.hid (show (if M.oth c = c then m + 1 else 1) = 1 from if_neg (M.oth_ne c))
        have hm5 : m ≤ 1000 := by omega
        clear hm h5 hq
        go_wp2_with (first
          | (at_builtin; refine wpList_append_own _ rfl (.tmp 20) (.tmp 24) 27 rfl w.heap.size 5 i0 (.int .u8 0) 1 1 Tryd.underlying27 hi hz0 hz1 hz2 rfl (by decide) _ _ _ rfl (hown.alloc _) ⟨wr.heap.size, 0, none⟩ 1 1 [.int .u8 c.toNat] rfl rfl (cell_new_one _ _ _) (one_cell_int _ _) (by unfold maxLen; omega) (by omega) (by have := hbel.size; simp; omega) ?_; intro v2 w3 hown2 hg2 _; have hF := append_frame hown hBlk (by decide) hbel (Nat.le_refl _) hg2)
          | (at_builtin; refine wpList_append_own _ rfl (.tmp 34) (.tmp 36) 27 rfl w.heap.size 5 i0 (.int .u8 0) 1 1 Tryd.underlying27 hi hz0 hz1 hz2 rfl (by decide) _ _ _ rfl (hF4.1.alloc _) ⟨w4.heap.size, 0, none⟩ 1 1 [.int .u8 (M.oth c).toNat] rfl rfl (cell_new_one _ _ _) (one_cell_int _ _) (by unfold maxLen; omega) (by omega) (by have := hF4.2.size; simp; omega) ?_; intro v5 w5 hown5 hg5 _; have hF5 := append_frame hF4.1 hBlk4 (by decide) hF4.2 (Nat.le_refl _) hg5)
          | (go_at_call_of 22 (Value.int .u8 c.toNat); refine (next_own _ _ _ _ _ _ hF.1 (by omega) m HM.out _ HQ.out).mono ?_; rintro e w4 ⟨rfl, hBlk4, hg4⟩; have hF4 := write_frame hown2 hF.1 (by decide) hF.2 (Nat.le_refl _) hgw hg4)
          | (go_at_call_of 22 (Value.int .u8 (M.oth c).toNat); refine (next_own _ _ _ _ _ _ hF5.1 (by omega) 1 HO.out false rfl).mono ?_; rintro e w6 ⟨rfl, hBlk6, hg6⟩; have hF6 := write_frame hown5 hF5.1 (by decide) hF5.2 (Nat.le_refl _) hgw hg6))
        go_roundw
        case rel =>
          refine ⟨j + 1, by omega, by go_num, ?_⟩
          rw [HN.out, M.put1_yes HM.out HQ.out]
          refine ⟨?_, hBlk6, hF6.2⟩
          simpa [bv] using hF6.1
        case measure => simp [intOf]; omega
      · have hq : decide (m = 5) = false := by simp [h5]
        have HQ := Lib.hid hq
        clear hm h5 hq
        go_wp2_with (first
          | (at_builtin; refine wpList_append_own _ rfl (.tmp 20) (.tmp 24) 27 rfl w.heap.size 5 i0 (.int .u8 0) 1 1 Tryd.underlying27 hi hz0 hz1 hz2 rfl (by decide) _ _ _ rfl (hown.alloc _) ⟨wr.heap.size, 0, none⟩ 1 1 [.int .u8 c.toNat] rfl rfl (cell_new_one _ _ _) (one_cell_int _ _) (by unfold maxLen; omega) (by omega) (by have := hbel.size; simp; omega) ?_; intro v2 w3 hown2 hg2 _; have hF := append_frame hown hBlk (by decide) hbel (Nat.le_refl _) hg2)
          | (go_at_call 22; refine (next_own _ _ _ _ _ _ hF.1 (by omega) m HM.out _ HQ.out).mono ?_; rintro e w4 ⟨rfl, hBlk4, hg4⟩; have hF4 := write_frame hown2 hF.1 (by decide) hF.2 (Nat.le_refl _) hgw hg4))
        go_roundw
        case rel =>
          refine ⟨j + 1, by omega, by go_num, ?_⟩
          rw [HN.out, M.put1_no HM.out HQ.out]
          refine ⟨?_, hBlk4, hF4.2⟩
          simpa [bv] using hF4.1
        case measure => simp [intOf]; omega
    · have e : l.take j = l := List.take_of_length_le (by rw [← HS.out]; omega)
      rw [e] at hrel
      clear e
      obtain ⟨hown, hBlk, hbel⟩ := hrel
      have hconv := string_of_own' (P := Tryd.prog) Tryd.underlying27 Tryd.underlying5 Tryd.underlying9 (M.put l) hown
      clear hB0 hbel0
      go_wp2
      go_ret2
      exact ⟨rfl, hbel⟩
end Go.Proofs.YtgfjjffighfkaaaDoor
