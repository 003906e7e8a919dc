/-
  Plain facts on rows of bits (lists of the bytes 48 and 49): no program in sight. What the functions of packages bits and stuff compute, as Lean functions on lists of bytes.
-/
namespace Go.Proofs.YtlfdpcddbnkpjaaDoor
namespace M

/-- The bytes '0' and '1'. -/
def isBit (c : UInt8) : Bool := c == 48 || c == 49

/-- The other bit, as the program reckons it: 97 less the byte. -/
def oth (c : UInt8) : UInt8 := 97 - c

/-- bits.Check as an error number: 2 too long, 4 not of bits, 0 right. -/
def chk (l : List UInt8) : Int := if 1000 < l.length then 2 else if l.all isBit then 0 else 4

/-- bits.Write: so many bits of a number, the one that counts most first. -/
def wr (n : Nat) : Nat → List UInt8
  | 0 => []
  | k + 1 => UInt8.ofNat (48 + (n >>> k) % 2) :: wr n k

/-- bits.Read: the number of a row. -/
def rd (l : List UInt8) : Nat := l.foldl (fun n c => 2 * n + (c.toNat - 48)) 0

/-- The state of stuff.Put behind some bytes: what is put out, the last byte, how many are alike. -/
structure St where
  out : List UInt8
  last : UInt8
  n : Nat

/-- One byte of stuff.Put. -/
def put1 (s : St) (b : UInt8) : St :=
  let n := if b = s.last then s.n + 1 else 1
  if n = 5 then ⟨s.out ++ [b, oth b], oth b, 1⟩ else ⟨s.out ++ [b], b, n⟩

def putS (l : List UInt8) : St := l.foldl put1 ⟨[], 0, 0⟩

/-- stuff.Put of a right row. -/
def put (l : List UInt8) : List UInt8 := (putS l).out

/-- The state of bits.Run: the best, the run at the end, the byte ahead (if any). -/
structure Rn where
  best : Nat
  n : Nat
  last : Option UInt8

def run1 (s : Rn) (b : UInt8) : Rn :=
  let n := if s.last = some b then s.n + 1 else 1
  ⟨max s.best n, n, some b⟩

def runS (l : List UInt8) : Rn := l.foldl run1 ⟨0, 0, none⟩
def run (l : List UInt8) : Nat := (runS l).best

theorem isBit_iff {c : UInt8} : isBit c = true ↔ c = 48 ∨ c = 49 := by simp [isBit]

theorem oth_bit {c : UInt8} (h : isBit c = true) : isBit (oth c) = true := by
  rcases isBit_iff.1 h with rfl | rfl <;> decide

theorem oth_toNat (c : UInt8) : (oth c).toNat = (353 - c.toNat) % 256 := by
  unfold oth
  rw [UInt8.toNat_sub]
  have := c.toNat_lt
  show (2 ^ 8 - c.toNat + 97) % 2 ^ 8 = _
  omega

theorem oth_oth (c : UInt8) : oth (oth c) = c := by
  apply UInt8.toNat_inj.1
  rw [oth_toNat, oth_toNat]
  have := c.toNat_lt
  omega

theorem oth_inj {a b : UInt8} : oth a = oth b ↔ a = b := ⟨fun h => by rw [← oth_oth a, h, oth_oth], fun h => by rw [h]⟩

theorem chk_oth (l : List UInt8) (h : chk l = 0) : chk (l.map oth) = 0 := by
  unfold chk at h ⊢
  rw [List.length_map]
  split at h
  · cases h
  · rename_i h1
    rw [if_neg h1]
    split at h
    · rename_i h2
      rw [if_pos]
      rw [List.all_map]
      rw [List.all_eq_true] at h2 ⊢
      intro c hc
      exact oth_bit (h2 c hc)
    · cases h

theorem chk_zero {l : List UInt8} (h : chk l = 0) : l.length ≤ 1000 ∧ l.all isBit = true := by
  unfold chk at h
  split at h
  · cases h
  · split at h
    · exact ⟨by omega, by assumption⟩
    · cases h

theorem chk_of {l : List UInt8} (h1 : l.length ≤ 1000) (h2 : l.all isBit = true) : chk l = 0 := by
  unfold chk
  rw [if_neg (by omega), if_pos h2]

theorem map_oth_oth (l : List UInt8) : (l.map oth).map oth = l := by
  rw [List.map_map]
  have : oth ∘ oth = id := funext oth_oth
  rw [this, List.map_id]

/-- All bytes that stuff.Put puts out are bits. -/
theorem putS_bits (l : List UInt8) (s : St) (hs : s.out.all isBit = true) (h : l.all isBit = true) : (l.foldl put1 s).out.all isBit = true := by
  induction l generalizing s with
  | nil => exact hs
  | cons b r ih =>
    rw [List.all_cons, Bool.and_eq_true] at h
    refine ih _ ?_ h.2
    unfold put1
    simp only []
    split <;> split <;> simp [hs, h.1, oth_bit h.1]

theorem put_bits {l : List UInt8} (h : l.all isBit = true) : (put l).all isBit = true := putS_bits l _ rfl h

/-- Two states of which the one is the other turned. -/
theorem put1_oth (s : St) (b : UInt8) : put1 ⟨s.out.map oth, oth s.last, s.n⟩ (oth b) = ⟨(put1 s b).out.map oth, oth (put1 s b).last, (put1 s b).n⟩ := by
  unfold put1
  simp only [oth_inj]
  split <;> split <;> simp_all

theorem putS_oth (l : List UInt8) (s : St) : (l.map oth).foldl put1 ⟨s.out.map oth, oth s.last, s.n⟩ = ⟨(l.foldl put1 s).out.map oth, oth (l.foldl put1 s).last, (l.foldl put1 s).n⟩ := by
  induction l generalizing s with
  | nil => rfl
  | cons b r ih =>
    rw [List.map_cons, List.foldl_cons, List.foldl_cons, put1_oth, ih]

/-- The first byte of a right row is no nought byte, nor is it 97: the counter begins anew. -/
theorem put1_first {b : UInt8} (h : isBit b = true) (x : UInt8) (hx : x = 0 ∨ x = 97) : put1 ⟨[], x, 0⟩ b = ⟨[b], b, 1⟩ := by
  rcases isBit_iff.1 h with rfl | rfl <;> rcases hx with rfl | rfl <;> simp [put1]

theorem put_oth {l : List UInt8} (h : l.all isBit = true) : put (l.map oth) = (put l).map oth := by
  cases l with
  | nil => rfl
  | cons b r =>
    rw [List.all_cons, Bool.and_eq_true] at h
    unfold put putS
    rw [List.map_cons, List.foldl_cons, List.foldl_cons, put1_first (oth_bit h.1) 0 (.inl rfl), put1_first h.1 0 (.inl rfl)]
    have := putS_oth r ⟨[b], b, 1⟩
    simp only [List.map_cons, List.map_nil] at this
    rw [this]

theorem length_put1 (s : St) (b : UInt8) : (put1 s b).out.length ≤ s.out.length + 2 := by
  unfold put1
  simp only []
  split <;> split <;> simp

theorem length_putS (l : List UInt8) (s : St) : (l.foldl put1 s).out.length ≤ s.out.length + 2 * l.length := by
  induction l generalizing s with
  | nil => simp
  | cons b r ih =>
    have h1 := ih (put1 s b)
    have h2 := length_put1 s b
    simp only [List.foldl_cons, List.length_cons]
    omega

theorem length_put (l : List UInt8) : (put l).length ≤ 2 * l.length := by
  have := length_putS l ⟨[], 0, 0⟩
  simpa [put, putS] using this

/-- bits.Run of a row that is turned. -/
theorem run1_oth (s : Rn) (b : UInt8) : run1 ⟨s.best, s.n, s.last.map oth⟩ (oth b) = ⟨(run1 s b).best, (run1 s b).n, (run1 s b).last.map oth⟩ := by
  unfold run1
  have h : (s.last.map oth = some (oth b)) ↔ s.last = some b := by
    cases s.last <;> simp [oth_inj]
  simp only [h, Option.map_some]

theorem runS_oth (l : List UInt8) (s : Rn) : (l.map oth).foldl run1 ⟨s.best, s.n, s.last.map oth⟩ = ⟨(l.foldl run1 s).best, (l.foldl run1 s).n, (l.foldl run1 s).last.map oth⟩ := by
  induction l generalizing s with
  | nil => rfl
  | cons b r ih => rw [List.map_cons, List.foldl_cons, List.foldl_cons, run1_oth, ih]

theorem run_oth (l : List UInt8) : run (l.map oth) = run l := by
  have h : (l.map oth).foldl run1 ⟨0, 0, none⟩ = _ := runS_oth l ⟨0, 0, none⟩
  unfold run runS
  rw [h]

theorem runS_le (l : List UInt8) (s : Rn) (h1 : s.n ≤ s.best) : (l.foldl run1 s).n ≤ (l.foldl run1 s).best ∧ (l.foldl run1 s).best ≤ s.best + l.length := by
  induction l generalizing s with
  | nil => exact ⟨h1, Nat.le_refl _⟩
  | cons b r ih =>
    have hb : (run1 s b).n ≤ (run1 s b).best := by unfold run1; exact Nat.le_max_right _ _
    have := ih _ hb
    refine ⟨this.1, Nat.le_trans this.2 ?_⟩
    have : (run1 s b).best ≤ s.best + 1 := by
      unfold run1
      simp only []
      split <;> omega
    simp only [List.length_cons]
    omega

/-! Write and Read. -/
theorem length_wr (n k : Nat) : (wr n k).length = k := by
  induction k with
  | zero => rfl
  | succ k ih => simp [wr, ih]

theorem wr_bits (n k : Nat) : (wr n k).all isBit = true := by
  induction k with
  | zero => rfl
  | succ k ih =>
    rw [wr, List.all_cons, ih, Bool.and_true]
    rcases Nat.mod_two_eq_zero_or_one (n >>> k) with h | h <;> rw [h] <;> decide

theorem rdF (l : List UInt8) (a : Nat) : l.foldl (fun n c => 2 * n + (c.toNat - 48)) a = a * 2 ^ l.length + rd l := by
  unfold rd
  induction l generalizing a with
  | nil => simp
  | cons b r ih =>
    simp only [List.foldl_cons, List.length_cons]
    rw [ih (2 * a + (b.toNat - 48)), ih (2 * 0 + (b.toNat - 48)), Nat.pow_succ]
    simp only [Nat.mul_zero, Nat.zero_add, Nat.add_mul]
    rw [Nat.mul_comm (2 ^ r.length) 2, ← Nat.mul_assoc, Nat.mul_comm a 2]
    omega

theorem rd_cons (b : UInt8) (r : List UInt8) : rd (b :: r) = (b.toNat - 48) * 2 ^ r.length + rd r := by
  rw [show rd (b :: r) = r.foldl (fun n c => 2 * n + (c.toNat - 48)) (2 * 0 + (b.toNat - 48)) from rfl, rdF]
  simp

theorem rd_snoc (l : List UInt8) (b : UInt8) : rd (l ++ [b]) = 2 * rd l + (b.toNat - 48) := by
  unfold rd
  rw [List.foldl_append]
  rfl

theorem wr_head (x : Nat) : (UInt8.ofNat (48 + x % 2)).toNat - 48 = x % 2 := by
  rcases Nat.mod_two_eq_zero_or_one x with h | h <;> rw [h] <;> decide

theorem rd_wr (n k : Nat) : rd (wr n k) = n % 2 ^ k := by
  induction k with
  | zero => simp [wr, rd, Nat.mod_one]
  | succ k ih =>
    rw [wr, rd_cons, ih, length_wr, wr_head, Nat.shiftRight_eq_div_pow, Nat.pow_succ, Nat.mod_mul]
    rw [Nat.mul_comm]
    omega

theorem rd_lt {l : List UInt8} (h : l.all isBit = true) : rd l < 2 ^ l.length := by
  induction l with
  | nil => simp [rd]
  | cons b r ih =>
    rw [List.all_cons, Bool.and_eq_true] at h
    have := ih h.2
    rw [rd_cons, List.length_cons, Nat.pow_succ]
    have hb : b.toNat - 48 ≤ 1 := by rcases isBit_iff.1 h.1 with rfl | rfl <;> decide
    have h2 : (b.toNat - 48) * 2 ^ r.length ≤ 1 * 2 ^ r.length := Nat.mul_le_mul_right _ hb
    omega

/-- Eight bits a byte, and back. -/
def ofBytes (l : List UInt8) : List UInt8 := l.flatMap fun b => wr b.toNat 8

theorem length_ofBytes (l : List UInt8) : (ofBytes l).length = 8 * l.length := by
  unfold ofBytes
  induction l with
  | nil => rfl
  | cons b r ih => rw [List.flatMap_cons, List.length_append, ih, length_wr, List.length_cons]; omega

theorem ofBytes_bits (l : List UInt8) : (ofBytes l).all isBit = true := by
  unfold ofBytes
  induction l with
  | nil => rfl
  | cons b r ih => rw [List.flatMap_cons, List.all_append, ih, wr_bits]; rfl

/-- bits.Bytes of a right row whose length is so many bytes'. -/
def toBytes (l : List UInt8) : Nat → List UInt8
  | 0 => []
  | k + 1 => UInt8.ofNat (rd (l.take 8)) :: toBytes (l.drop 8) k

theorem toBytes_ofBytes (l : List UInt8) : toBytes (ofBytes l) l.length = l := by
  induction l with
  | nil => rfl
  | cons b r ih =>
    have e : ofBytes (b :: r) = wr b.toNat 8 ++ ofBytes r := rfl
    have l8 : (wr b.toNat 8).length = 8 := length_wr _ _
    rw [List.length_cons, toBytes, e, List.take_left' l8, List.drop_left' l8, ih, rd_wr]
    congr 1
    rw [Nat.mod_eq_of_lt (by have := b.toNat_lt; omega)]
    simp

/-! The reader of a row in which bits were put. -/

/-- Where it stands, what is wrong, the last byte, how many are alike. -/
structure RS where
  pos : Nat
  code : Int
  last : UInt8
  n : Nat

/-- (*stuff.Reader).bit -/
def bit (l : List UInt8) (R : RS) : UInt8 × RS :=
  if R.code = 0 then
    if R.pos = l.length then (48, { R with code := 7 }) else (l.getD R.pos 48, { R with pos := R.pos + 1 })
  else (48, R)

/-- The counter steps. -/
def cnt (R : RS) (b : UInt8) : RS := { R with last := b, n := if b = R.last then R.n + 1 else 1 }

/-- Behind five alike: the bit that was put in is read and held against the other one. -/
def exp (l : List UInt8) (R : RS) (b : UInt8) : RS :=
  if (bit l R).2.code = 0 ∧ (bit l R).1 ≠ oth b then { (bit l R).2 with code := 5 } else (bit l R).2

/-- One round of (*stuff.Reader).Take behind a bit that was read well. -/
def after (l : List UInt8) (R : RS) (b : UInt8) : RS :=
  if (cnt R b).n = 5 then cnt (exp l (cnt R b) b) (oth b) else cnt R b

/-- (*stuff.Reader).Take -/
def take (l : List UInt8) : Nat → RS → List UInt8 → List UInt8 × RS
  | 0, R, out => if R.code = 0 then (out, R) else ([], R)
  | k + 1, R, out =>
    if (bit l R).2.code = 0 then take l k (after l (bit l R).2 (bit l R).1) (out ++ [(bit l R).1]) else ([], (bit l R).2)

end M
end Go.Proofs.YtlfdpcddbnkpjaaDoor
