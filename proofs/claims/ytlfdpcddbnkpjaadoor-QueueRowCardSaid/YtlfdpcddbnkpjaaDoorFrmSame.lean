/-
  The walks of slices.Equal of bytes, the document's SameFrame and frame.Same.
-/
import Derived.Test.YtlfdpcddbnkpjaaDoorFrmMem
namespace Go.Proofs.YtlfdpcddbnkpjaaDoor
open Go.RowKit Go.ChangeShapes Go.WideShapes

deriving instance DecidableEq for M.Frm

theorem take_eq_succ {xs ys : List UInt8} {j : Nat} (h1 : j < xs.length) (h2 : j < ys.length) (h : xs.take j = ys.take j) (he : xs[j] = ys[j]) : xs.take (j + 1) = ys.take (j + 1) := by
  rw [List.take_succ_eq_append_getElem h1, List.take_succ_eq_append_getElem h2, h, he]

set_option maxRecDepth 100000 in
set_option maxHeartbeats 800000 in
theorem equal_any (A1 A2 : Option Addr) (n1 n2 c1 c2 : Nat) (xs ys : List UInt8) (hn : n1 ≤ 140737488355328) (w : World) (h1 : SliceBytes w A1 n1 xs) (h2 : SliceBytes w A2 n2 ys) (q : Bool) (hq : q = decide (xs = ys)) :
    Calls Tryd.prog 33 #[.slice A1 n1 c1, .slice A2 n2 c2] w fun e w' => e = .returned (.bool q) ∧ Below w.heap.size w w' := by
  have hl1 := Lib.hid h1.len
  have hl2 := Lib.hid h2.len
  have hQ := Lib.hid hq
  clear hq
  by_cases hne : n1 = n2
  · subst hne
    have H1 := Lib.hid h1
    have H2 := Lib.hid h2
    clear h1 h2
    go_enter Tryd.func33, Tryd.ntmps33
    go_wp2
    go_loopw [13] (fun i wr => ∃ j : Nat, j ≤ n1 ∧ i = .int .i64 j ∧ xs.take j = ys.take j ∧ Below w.heap.size w wr) (fun i _ => n1 - (intOf i).toNat)
    case atStart => exact ⟨0, Nat.zero_le _, rfl, by simp, Below.refl _ _⟩
    case round =>
      obtain ⟨j, hj, rfl, heq, hb⟩ := hrel
      have HE := Lib.hid heq
      clear heq
      by_cases hlt : j < n1
      · have hj1 : j < xs.length := by rw [hl1.out]; exact hlt
        have hj2 : j < ys.length := by rw [hl2.out]; exact hlt
        obtain ⟨a1, rfl, hd1, hc1⟩ := H1.out.at_ hlt hj1
        obtain ⟨a2, rfl, hd2, hc2⟩ := H2.out.at_ hlt hj2
        have hx1 := (hb.cell (p := a1.add j) (by rw [block_of_add]; exact hd1)).trans hc1
        have hx2 := (hb.cell (p := a2.add j) (by rw [block_of_add]; exact hd2)).trans hc2
        by_cases hxy : xs[j] = ys[j]
        · have HN := Lib.hid (take_eq_succ hj1 hj2 HE.out hxy)
          rw [← hxy] at hx2
          obtain ⟨x, hx⟩ : ∃ x, x = xs[j].toNat := ⟨_, rfl⟩
          rw [← hx] at hx1 hx2
          clear hc1 hc2 hx hd1 hd2 hj1 hj2 hxy
          go_wp2
          go_quiet (fail)
          go_wp2
          go_roundw
          case rel => exact ⟨j + 1, by omega, by go_num, HN.out, below_drewN hb _⟩
          case measure => simp [intOf]; omega
        · have hF : q = false := by
            rw [hQ.out, decide_eq_false_iff_not]
            rintro rfl
            exact hxy rfl
          have hq2 := Lib.hid hF
          have hne : (((xs[j].toNat : Nat) : Int) != ((ys[j].toNat : Nat) : Int)) = true := by
            rw [bne_iff_ne]
            intro e
            exact hxy (UInt8.toNat_inj.1 (by omega))
          obtain ⟨x, hx⟩ : ∃ x, x = xs[j].toNat := ⟨_, rfl⟩
          obtain ⟨y, hy⟩ : ∃ y, y = ys[j].toNat := ⟨_, rfl⟩
          rw [← hx] at hx1 hne
          rw [← hy] at hx2 hne
          clear hc1 hc2 hx hy hd1 hd2 hj1 hj2 hxy hF
          go_wp2
          go_quiet (fail)
          go_wp2
          go_ret
          exact ⟨ret_one (bool_of hq2.out.symm), below_drewN hb _⟩
      · have e : j = n1 := by omega
        have hT : q = true := by
          have h3 := HE.out
          rw [e, List.take_of_length_le (by rw [hl1.out]; exact Nat.le_refl _), List.take_of_length_le (by rw [hl2.out]; exact Nat.le_refl _)] at h3
          rw [hQ.out, decide_eq_true_iff]
          exact h3
        have hq2 := Lib.hid hT
        clear hT e
        go_wp2
        go_ret
        exact ⟨ret_one (bool_of hq2.out.symm), hb⟩
  · have hF : q = false := by
      rw [hQ.out, decide_eq_false_iff_not]
      rintro rfl
      exact hne (hl1.out.symm.trans hl2.out)
    have hq2 := Lib.hid hF
    have hne2 : ((n1 : Int) != (n2 : Int)) = true := by
      rw [bne_iff_ne]
      omega
    clear h1 h2 hne hF
    go_enter Tryd.func33, Tryd.ntmps33
    go_wp2
    go_ret
    exact ⟨ret_one (bool_of hq2.out.symm), Below.refl _ _⟩

set_option maxRecDepth 100000 in
set_option maxHeartbeats 1600000 in
theorem same_any (f g : M.Fr) (hn : f.data.length ≤ 140737488355328) (w : World) (hf : f.ok w) (hg : g.ok w) (q : Bool) (hq : q = true ↔ f.abs = g.abs) :
    Calls Tryd.prog 17 #[f.val, g.val] w fun e w' => e = .returned (.bool q) ∧ Below w.heap.size w w' := by
  obtain ⟨id, lo, fa, re, sz, xs, A, c⟩ := f
  obtain ⟨id', lo', fa', re', sz', ys, A', c'⟩ := g
  simp only [M.Fr.val, M.Fr.ok, M.Fr.abs, fv] at hf hg hn hq ⊢
  have hx : ∀ (o1 o2 : Obj), SliceBytes ((w.alloc o1).alloc o2) A xs.length xs := fun o1 o2 => hf.below (((Below.refl _ _).alloc (Nat.le_refl _) _).alloc (by simp) _)
  have hy : ∀ (o1 o2 : Obj), SliceBytes ((w.alloc o1).alloc o2) A' ys.length ys := fun o1 o2 => hg.below (((Below.refl _ _).alloc (Nat.le_refl _) _).alloc (by simp) _)
  have HX := Lib.hid hx
  have HY := Lib.hid hy
  have hbox : ∀ (o1 o2 : Obj), Below w.heap.size w ((w.alloc o1).alloc o2) := fun o1 o2 => ((Below.refl _ _).alloc (Nat.le_refl _) _).alloc (by simp) _
  have HBX := Lib.hid hbox
  obtain ⟨n, hl⟩ : ∃ n, n = xs.length := ⟨_, rfl⟩
  obtain ⟨n', hl'⟩ : ∃ n', n' = ys.length := ⟨_, rfl⟩
  rw [← hl] at hn ⊢
  rw [← hl'] 
  have HL := Lib.hid hl
  have HL' := Lib.hid hl'
  have HQ := Lib.hid hq
  clear hf hg hx hy hbox hl hl' hq
  by_cases h : id = id'
  rotate_left
  · have hF : q = false := by
      rw [Bool.eq_false_iff]
      intro e
      have e2 := HQ.out.1 e
      injection e2
      exact h (by assumption)
    have hq2 := Lib.hid hF
    have hne : (id == id') = false := by rw [beq_eq_false_iff_ne]; exact h
    clear hF h
    go_enter Tryd.func17, Tryd.ntmps17
    go_wp2
    go_ret
    exact ⟨ret_one (bool_of hq2.out.symm), HBX.out _ _⟩
  subst h
  by_cases h : lo = lo'
  rotate_left
  · have hF : q = false := by
      rw [Bool.eq_false_iff]
      intro e
      have e2 := HQ.out.1 e
      injection e2
      exact h (by assumption)
    have hq2 := Lib.hid hF
    have hne : (lo == lo') = false := by rw [beq_eq_false_iff_ne]; exact h
    clear hF h
    go_enter Tryd.func17, Tryd.ntmps17
    go_wp2
    go_ret
    exact ⟨ret_one (bool_of hq2.out.symm), HBX.out _ _⟩
  subst h
  by_cases h : fa = fa'
  rotate_left
  · have hF : q = false := by
      rw [Bool.eq_false_iff]
      intro e
      have e2 := HQ.out.1 e
      injection e2
      exact h (by assumption)
    have hq2 := Lib.hid hF
    have hne : (fa == fa') = false := by rw [beq_eq_false_iff_ne]; exact h
    clear hF h
    go_enter Tryd.func17, Tryd.ntmps17
    go_wp2
    go_ret
    exact ⟨ret_one (bool_of hq2.out.symm), HBX.out _ _⟩
  subst h
  by_cases h : re = re'
  rotate_left
  · have hF : q = false := by
      rw [Bool.eq_false_iff]
      intro e
      have e2 := HQ.out.1 e
      injection e2
      exact h (by assumption)
    have hq2 := Lib.hid hF
    have hne : (re == re') = false := by rw [beq_eq_false_iff_ne]; exact h
    clear hF h
    go_enter Tryd.func17, Tryd.ntmps17
    go_wp2
    go_ret
    exact ⟨ret_one (bool_of hq2.out.symm), HBX.out _ _⟩
  subst h
  by_cases h : sz = sz'
  rotate_left
  · have hF : q = false := by
      rw [Bool.eq_false_iff]
      intro e
      have e2 := HQ.out.1 e
      injection e2
      exact h (by assumption)
    have hq2 := Lib.hid hF
    have hne : (sz == sz') = false := by rw [beq_eq_false_iff_ne]; exact h
    clear hF h
    go_enter Tryd.func17, Tryd.ntmps17
    go_wp2
    go_ret
    exact ⟨ret_one (bool_of hq2.out.symm), HBX.out _ _⟩
  subst h
  have hq3 : q = decide (xs = ys) := by
    rw [Bool.eq_iff_iff, HQ.out, decide_eq_true_iff]
    constructor
    · intro e
      injection e
    · intro e
      rw [e]
  have HQ3 := Lib.hid hq3
  clear hq3
  go_enter Tryd.func17, Tryd.ntmps17
  go_wp2_with (go_at_call 33; refine (equal_any A A' n n' c c' xs ys hn _ (HL.out ▸ HX.out _ _) (HL'.out ▸ HY.out _ _) q HQ3.out).mono ?_; rintro e w1 ⟨rfl, hb1⟩)
  go_ret
  exact ⟨rfl, (two_boxes hb1).2.2.1⟩

set_option maxRecDepth 100000 in
set_option maxHeartbeats 1600000 in
theorem frameSame_any (f g : M.Fr) (hn : f.data.length ≤ 140737488355328) (w : World) (hf : f.ok w) (hg : g.ok w) (q : Bool) (hq : q = true ↔ f.abs = g.abs) :
    Calls Tryd.prog 24 #[f.val, g.val] w fun e w' => e = .returned (.bool q) ∧ Below w.heap.size w w' := by
  obtain ⟨id, lo, fa, re, sz, xs, A, c⟩ := f
  obtain ⟨id', lo', fa', re', sz', ys, A', c'⟩ := g
  simp only [M.Fr.val, M.Fr.ok, M.Fr.abs, fv] at hf hg hn hq ⊢
  have hx : ∀ (o1 o2 : Obj), SliceBytes ((w.alloc o1).alloc o2) A xs.length xs := fun o1 o2 => hf.below (((Below.refl _ _).alloc (Nat.le_refl _) _).alloc (by simp) _)
  have hy : ∀ (o1 o2 : Obj), SliceBytes ((w.alloc o1).alloc o2) A' ys.length ys := fun o1 o2 => hg.below (((Below.refl _ _).alloc (Nat.le_refl _) _).alloc (by simp) _)
  have HX := Lib.hid hx
  have HY := Lib.hid hy
  have hbox : ∀ (o1 o2 : Obj), Below w.heap.size w ((w.alloc o1).alloc o2) := fun o1 o2 => ((Below.refl _ _).alloc (Nat.le_refl _) _).alloc (by simp) _
  have HBX := Lib.hid hbox
  obtain ⟨n, hl⟩ : ∃ n, n = xs.length := ⟨_, rfl⟩
  obtain ⟨n', hl'⟩ : ∃ n', n' = ys.length := ⟨_, rfl⟩
  rw [← hl] at hn ⊢
  rw [← hl'] 
  have HL := Lib.hid hl
  have HL' := Lib.hid hl'
  have HQ := Lib.hid hq
  clear hf hg hx hy hbox hl hl' hq
  by_cases h : id = id'
  rotate_left
  · have hF : q = false := by
      rw [Bool.eq_false_iff]
      intro e
      have e2 := HQ.out.1 e
      injection e2
      exact h (by assumption)
    have hq2 := Lib.hid hF
    have hne : (id == id') = false := by rw [beq_eq_false_iff_ne]; exact h
    clear hF h
    go_enter Tryd.func24, Tryd.ntmps24
    go_wp2
    go_ret
    exact ⟨ret_one (bool_of hq2.out.symm), HBX.out _ _⟩
  subst h
  by_cases h : lo = lo'
  rotate_left
  · have hF : q = false := by
      rw [Bool.eq_false_iff]
      intro e
      have e2 := HQ.out.1 e
      injection e2
      exact h (by assumption)
    have hq2 := Lib.hid hF
    have hne : (lo == lo') = false := by rw [beq_eq_false_iff_ne]; exact h
    clear hF h
    go_enter Tryd.func24, Tryd.ntmps24
    go_wp2
    go_ret
    exact ⟨ret_one (bool_of hq2.out.symm), HBX.out _ _⟩
  subst h
  by_cases h : fa = fa'
  rotate_left
  · have hF : q = false := by
      rw [Bool.eq_false_iff]
      intro e
      have e2 := HQ.out.1 e
      injection e2
      exact h (by assumption)
    have hq2 := Lib.hid hF
    have hne : (fa == fa') = false := by rw [beq_eq_false_iff_ne]; exact h
    clear hF h
    go_enter Tryd.func24, Tryd.ntmps24
    go_wp2
    go_ret
    exact ⟨ret_one (bool_of hq2.out.symm), HBX.out _ _⟩
  subst h
  by_cases h : re = re'
  rotate_left
  · have hF : q = false := by
      rw [Bool.eq_false_iff]
      intro e
      have e2 := HQ.out.1 e
      injection e2
      exact h (by assumption)
    have hq2 := Lib.hid hF
    have hne : (re == re') = false := by rw [beq_eq_false_iff_ne]; exact h
    clear hF h
    go_enter Tryd.func24, Tryd.ntmps24
    go_wp2
    go_ret
    exact ⟨ret_one (bool_of hq2.out.symm), HBX.out _ _⟩
  subst h
  by_cases h : sz = sz'
  rotate_left
  · have hF : q = false := by
      rw [Bool.eq_false_iff]
      intro e
      have e2 := HQ.out.1 e
      injection e2
      exact h (by assumption)
    have hq2 := Lib.hid hF
    have hne : (sz == sz') = false := by rw [beq_eq_false_iff_ne]; exact h
    clear hF h
    go_enter Tryd.func24, Tryd.ntmps24
    go_wp2
    go_ret
    exact ⟨ret_one (bool_of hq2.out.symm), HBX.out _ _⟩
  subst h
  have hq3 : q = decide (xs = ys) := by
    rw [Bool.eq_iff_iff, HQ.out, decide_eq_true_iff]
    constructor
    · intro e
      injection e
    · intro e
      rw [e]
  have HQ3 := Lib.hid hq3
  clear hq3
  go_enter Tryd.func24, Tryd.ntmps24
  go_wp2_with (go_at_call 33; refine (equal_any A A' n n' c c' xs ys hn _ (HL.out ▸ HX.out _ _) (HL'.out ▸ HY.out _ _) q HQ3.out).mono ?_; rintro e w1 ⟨rfl, hb1⟩)
  go_ret
  exact ⟨rfl, (two_boxes hb1).2.2.1⟩
end Go.Proofs.YtlfdpcddbnkpjaaDoor
