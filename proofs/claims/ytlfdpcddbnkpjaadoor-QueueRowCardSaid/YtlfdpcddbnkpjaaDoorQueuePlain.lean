/-
  Queues in plain Lean: the order of names, where a frame is qins, what Put and Renew answer. No program in sight.
-/
import Derived.Test.YtlfdpcddbnkpjaaDoorQueueW3
namespace Go.Proofs.YtlfdpcddbnkpjaaDoor
namespace M
theorem bless_eq : ∀ (x y : List UInt8), Op.bytesLess x y = decide (x < y)
  | [], [] => by simp [Op.bytesLess]
  | _ :: _, [] => by simp [Op.bytesLess]
  | [], _ :: _ => by simp [Op.bytesLess]
  | a :: x, b :: y => by
    rw [Op.bytesLess, bless_eq x y, Bool.eq_iff_iff]
    simp [List.cons_lt_cons_iff]

theorem leq_iff (a b : List UInt8) : leq a b = true ↔ a ≤ b := by
  unfold leq
  rw [bless_eq]
  simp only [Bool.or_eq_true, decide_eq_true_iff, beq_iff_eq]
  constructor
  · rintro (h | rfl)
    · exact List.le_of_lt h
    · exact List.le_refl _
  · intro h
    by_cases e : a = b
    · exact .inr e
    · left
      rcases List.le_total a b with h1 | h1
      · exact Std.lt_of_le_of_ne h e
      · exact absurd (List.le_antisymm h h1) e

theorem nless_iff (a b : List UInt8) : ¬ Op.bytesLess a b = true ↔ b ≤ a := by
  rw [bless_eq, decide_eq_true_iff]
  exact Iff.rfl

/-- All right, and in the order of their names. -/
def Srt (l : List Frm) : Prop := (∀ f ∈ l, f.chk = 0) ∧ l.Pairwise fun a b => a.name ≤ b.name

theorem qscan_zero (l : List Frm) (last : List UInt8) : qscan last l = 0 ↔ Srt l ∧ ∀ f ∈ l, last ≤ f.name := by
  induction l generalizing last with
  | nil => simp [qscan, Srt]
  | cons f r ih =>
    rw [qscan]
    by_cases h : f.chk = 0
    · rw [if_neg (by simpa using h)]
      by_cases hl : Op.bytesLess f.name last = true
      · rw [if_pos hl]
        refine ⟨fun e => absurd e (by decide), fun ⟨_, h2⟩ => ?_⟩
        exact absurd hl ((nless_iff _ _).2 (h2 f (by simp)))
      · rw [if_neg hl, ih]
        have hle := (nless_iff _ _).1 hl
        unfold Srt
        rw [List.pairwise_cons]
        constructor
        · rintro ⟨⟨h1, h2⟩, h3⟩
          refine ⟨⟨?_, h3, h2⟩, ?_⟩
          · intro g hg
            rcases List.mem_cons.1 hg with rfl | hg
            · exact h
            · exact h1 g hg
          · intro g hg
            rcases List.mem_cons.1 hg with rfl | hg
            · exact hle
            · exact List.le_trans hle (h3 g hg)
        · rintro ⟨⟨h1, h3, h2⟩, _⟩
          exact ⟨⟨fun g hg => h1 g (by simp [hg]), h2⟩, h3⟩
    · rw [if_pos h]
      exact ⟨fun e => absurd e h, fun ⟨⟨h1, _⟩, _⟩ => absurd (h1 f (by simp)) h⟩

theorem nil_le_ (a : List UInt8) : [] ≤ a := by
  cases a with
  | nil => exact List.le_refl _
  | cons x r => exact List.le_of_lt (List.nil_lt_cons _ _)

theorem srt_iff (l : List Frm) : qscan [] l = 0 ↔ Srt l := by
  rw [qscan_zero]
  exact ⟨fun h => h.1, fun h => ⟨h, fun f _ => nil_le_ _⟩⟩

theorem qchk_zero {l : List Frm} : qchk l = 0 ↔ l.length ≤ 16 ∧ Srt l := by
  unfold qchk
  split
  · exact ⟨fun h => absurd h (by decide), fun h => by omega⟩
  · rw [srt_iff]
    exact ⟨fun h => ⟨by omega, h⟩, fun h => h.2⟩

theorem Srt.le {l : List Frm} (h : Srt l) {x y : Nat} {a b : Frm} (hxy : x < y) (ha : l[x]? = some a) (hb : l[y]? = some b) : a.name ≤ b.name := by
  obtain ⟨hx, rfl⟩ := List.getElem?_eq_some_iff.1 ha
  obtain ⟨hy, rfl⟩ := List.getElem?_eq_some_iff.1 hb
  exact List.pairwise_iff_getElem.1 h.2 x y hx hy hxy

theorem Srt.mono {l : List Frm} (h : Srt l) (t : List UInt8) {x y : Nat} {a b : Frm} (hxy : x < y) (ha : l[x]? = some a) (hb : l[y]? = some b) (hq : leq b.name t = true) : leq a.name t = true :=
  (leq_iff _ _).2 (List.le_trans (h.le hxy ha hb) ((leq_iff _ _).1 hq))

/-- Behind the last of the first j whose name isn't greater. -/
def atTo (l : List Frm) (t : List UInt8) : Nat → Nat
  | 0 => 0
  | j + 1 => match l[j]? with
    | some x => if leq x.name t = true then j + 1 else atTo l t j
    | none => atTo l t j

theorem atTo_le (l : List Frm) (t : List UInt8) (j : Nat) : atTo l t j ≤ j := by
  induction j with
  | zero => exact Nat.le_refl _
  | succ j ih =>
    rw [atTo]
    split
    · split
      · exact Nat.le_refl _
      · omega
    · omega

theorem atTo_unique (l : List Frm) (t : List UInt8) (k : Nat) (hk : k ≤ l.length) (h1 : ∀ (x : Nat) (a : Frm), x < k → l[x]? = some a → leq a.name t = true) (h2 : ∀ (x : Nat) (a : Frm), k ≤ x → l[x]? = some a → leq a.name t = false) :
    ∀ j, k ≤ j → j ≤ l.length → atTo l t j = k := by
  intro j
  induction j with
  | zero => intro h _; simp [atTo]; omega
  | succ j ih =>
    intro hkj hj
    have hx : l[j]? = some l[j] := List.getElem?_eq_getElem (by omega)
    rw [atTo, hx]
    rcases Nat.lt_or_ge j k with h | h
    · obtain rfl : k = j + 1 := by omega
      simp only [h1 j _ h hx, if_true]
    · simp only [h2 j _ h hx, Bool.false_eq_true, if_false]
      exact ih h (by omega)

def putAt (l : List Frm) (k : Nat) (f : Frm) : List Frm := l.take k ++ f :: l.drop k
def qins (l : List Frm) (f : Frm) : List Frm := putAt l (atTo l f.name l.length) f

theorem length_putAt (l : List Frm) (k : Nat) (f : Frm) : (putAt l k f).length = l.length + 1 := by
  simp [putAt]
  omega

theorem length_qins (l : List Frm) (f : Frm) : (qins l f).length = l.length + 1 := length_putAt _ _ _

theorem atTo_low {l : List Frm} (h : Srt l) (t : List UInt8) : ∀ j, j ≤ l.length → ∀ (x : Nat) (a : Frm), x < atTo l t j → l[x]? = some a → leq a.name t = true := by
  intro j
  induction j with
  | zero => intro _ x a hx; simp [atTo] at hx
  | succ j ih =>
    intro hj x a hx ha
    have hg : l[j]? = some l[j] := List.getElem?_eq_getElem (by omega)
    rw [atTo, hg] at hx
    by_cases hq : leq l[j].name t = true
    · simp only [hq, if_true] at hx
      rcases Nat.lt_or_ge x j with h1 | h1
      · exact h.mono t h1 ha hg hq
      · obtain rfl : x = j := by omega
        rw [hg] at ha
        cases ha
        exact hq
    · simp only [hq] at hx
      exact ih (by omega) x a hx ha

theorem atTo_high (l : List Frm) (t : List UInt8) : ∀ j, ∀ (x : Nat) (a : Frm), x < j → atTo l t j ≤ x → l[x]? = some a → leq a.name t = false := by
  intro j
  induction j with
  | zero => intro x a hx; omega
  | succ j ih =>
    intro x a hx hge ha
    rw [atTo] at hge
    rcases Nat.lt_or_ge x j with h1 | h1
    · cases hg : l[j]? with
      | none => rw [hg] at hge; exact ih x a h1 hge ha
      | some b =>
        rw [hg] at hge
        by_cases hq : leq b.name t = true
        · simp only [hq, if_true] at hge
          omega
        · simp only [hq] at hge
          exact ih x a h1 hge ha
    · obtain rfl : x = j := by omega
      rw [ha] at hge
      by_cases hq : leq a.name t = true
      · simp only [hq, if_true] at hge
        omega
      · simpa using hq

theorem nleq_le {a b : List UInt8} (h : leq a b = false) : b ≤ a := by
  rcases List.le_total a b with h1 | h1
  · rw [(leq_iff _ _).2 h1] at h; cases h
  · exact h1

theorem Srt.ins {l : List Frm} (h : Srt l) {f : Frm} (hf : f.chk = 0) : Srt (qins l f) := by
  have hlo := atTo_low h f.name l.length (Nat.le_refl _)
  have hhi := atTo_high l f.name l.length
  unfold M.qins putAt
  generalize hk : atTo l f.name l.length = k at hlo hhi ⊢
  refine ⟨?_, ?_⟩
  · intro g hg
    rw [List.mem_append, List.mem_cons] at hg
    rcases hg with hg | rfl | hg
    · exact h.1 g (List.mem_of_mem_take hg)
    · exact hf
    · exact h.1 g (List.mem_of_mem_drop hg)
  · rw [List.pairwise_append]
    refine ⟨h.2.take, ?_, ?_⟩
    · rw [List.pairwise_cons]
      refine ⟨?_, h.2.drop⟩
      intro g hg
      obtain ⟨i, hi⟩ := List.mem_iff_getElem?.1 hg
      rw [List.getElem?_drop] at hi
      have hlt := (List.getElem?_eq_some_iff.1 hi).1
      exact nleq_le (hhi (k + i) g hlt (by omega) hi)
    · intro a ha b hb
      obtain ⟨i, hi⟩ := List.mem_iff_getElem?.1 ha
      have hik : i < k := by
        rcases Nat.lt_or_ge i k with h1 | h1
        · exact h1
        · rw [List.getElem?_take_eq_none h1] at hi; cases hi
      rw [List.getElem?_take_of_lt hik] at hi
      have haf := (leq_iff _ _).1 (hlo i a hik hi)
      rcases List.mem_cons.1 hb with rfl | hb
      · exact haf
      · obtain ⟨j, hj⟩ := List.mem_iff_getElem?.1 hb
        rw [List.getElem?_drop] at hj
        exact h.le (by omega) hi hj

/-- queue.Put. -/
def qput (l : List Frm) (f : Frm) : List Frm × Int :=
  if qchk l ≠ 0 then ([], qchk l) else if f.chk ≠ 0 then ([], f.chk) else if l.length = 16 then ([], 11) else (qins l f, 0)

/-- The first place from j on with a name. -/
def nameAt (t : List UInt8) : List Frm → Option Nat
  | [] => none
  | f :: r => if f.name = t then some 0 else (nameAt t r).map (· + 1)

def qrenew (l : List Frm) (f : Frm) : List Frm × Int :=
  if qchk l ≠ 0 then ([], qchk l) else if f.chk ≠ 0 then ([], f.chk) else match nameAt f.name l with
    | some i => (l.set i f, 0)
    | none => qput l f
end M
end Go.Proofs.YtlfdpcddbnkpjaaDoor
