/-
  The walk of queue.Put.
-/
import Derived.Test.YtlfdpcddbnkpjaaDoorQueueIns
namespace Go.Proofs.YtlfdpcddbnkpjaaDoor
open Go.RowKit Go.ChangeShapes Go.WideShapes

theorem place_of {l : List M.Fr} {f : M.Fr} {k : Nat} (hk : k ≤ l.length) (h1 : ∀ (x : Nat) (a : M.Fr), x < k → l[x]? = some a → M.leq a.abs.name f.abs.name = true) (h2 : ∀ (x : Nat) (a : M.Fr), k ≤ x → l[x]? = some a → M.leq a.abs.name f.abs.name = false) :
    M.atTo (l.map M.Fr.abs) f.abs.name (l.map M.Fr.abs).length = k := by
  refine M.atTo_unique _ _ k (by simpa using hk) (fun x a hx ha => ?_) (fun x a hx ha => ?_) _ (by simpa using hk) (Nat.le_refl _)
  · rw [List.getElem?_map] at ha
    obtain ⟨b, hb, rfl⟩ := Option.map_eq_some_iff.1 ha
    exact h1 x b hx hb
  · rw [List.getElem?_map] at ha
    obtain ⟨b, hb, rfl⟩ := Option.map_eq_some_iff.1 ha
    exact h2 x b hx hb

theorem map_put {l l' : List M.Fr} {f g : M.Fr} {k : Nat} (hl : l'.map M.Fr.abs = l.map M.Fr.abs) (hg : g.abs = f.abs) (hk : M.atTo (l.map M.Fr.abs) f.abs.name (l.map M.Fr.abs).length = k) : (l'.take k ++ g :: l'.drop k).map M.Fr.abs = M.qins (l.map M.Fr.abs) f.abs := by
  unfold M.qins M.putAt
  rw [hk, List.map_append, List.map_cons, List.map_take, List.map_drop, hl, hg]

theorem srt_good {l : List M.Fr} (h : M.Srt (l.map M.Fr.abs)) : ∀ f ∈ l, f.abs.chk = 0 := fun f hf => h.1 _ (List.mem_map.2 ⟨f, hf, rfl⟩)
theorem srt_mono {l : List M.Fr} (h : M.Srt (l.map M.Fr.abs)) (t : List UInt8) : ∀ (x y : Nat) (a b : M.Fr), x < y → l[x]? = some a → l[y]? = some b → M.leq b.abs.name t = true → M.leq a.abs.name t = true := by
  intro x y a b hxy ha hb
  exact h.mono t hxy (by rw [List.getElem?_map, ha]; rfl) (by rw [List.getElem?_map, hb]; rfl)

theorem len_of {l l' : List M.Fr} {n : Nat} (h : l'.map M.Fr.abs = l.map M.Fr.abs) (hl : l.length = n) : l'.length = n := by
  have := congrArg List.length h
  rw [List.length_map, List.length_map, hl] at this
  exact this
theorem le_of_len {k m n : Nat} (h : m = n) (hk : k ≤ n) : k ≤ m := by omega
theorem big_of_len {m n : Nat} (h : m = n) (hk : (n + 1) * 48 ≤ 140737488355328) : (m + 1) * 48 ≤ 140737488355328 := by omega

set_option maxRecDepth 100000 in
set_option maxHeartbeats 1600000 in
/-- queue.Put where all goes well. -/
theorem qput_good (A : Option Addr) (n c : Nat) (l : List M.Fr) (f : M.Fr) (hd : ∀ f ∈ l, f.data.length ≤ 140737488355328) (hfd : f.data.length ≤ 140737488355328) (w : World) (h : Frs w A n l) (hfo : f.ok w) (hy : 0 = M.qchk (l.map M.Fr.abs)) (hck : f.abs.chk = 0) (hf16 : n ≠ 16) :
    Calls Tryd.prog 12 #[.slice A n c, .agg #[.int .i64 f.id, .bool f.long, .bool f.fast, .bool f.remote, .int .i64 f.size, .slice f.A f.data.length f.c]] w fun e w' =>
      ∃ (v : Value) (l' : List M.Fr), e = .returned (.tuple #[v, .int .i64 0]) ∧ OwnQ w.heap.size w' v l' ∧ l'.map M.Fr.abs = M.qins (l.map M.Fr.abs) f.abs ∧ Below w.heap.size w w' := by
  have hl := Lib.hid h.len
  have H := Lib.hid h
  have HD := Lib.hid hd
  have HO := Lib.hid hfo
  have hbox : ∀ (o : Obj), Below w.heap.size w (w.alloc o) := fun o => (Below.refl _ _).alloc (Nat.le_refl _) _
  have HB := Lib.hid hbox
  have HY := Lib.hid hy
  have hs := (M.qchk_zero).1 hy.symm
  have hn16 : n ≤ 16 := by
    have := hs.1
    rw [List.length_map, hl.out] at this
    exact this
  have HS := Lib.hid hs.2
  have HK := Lib.hid (show M.fchk f.id f.long f.fast f.remote f.size f.data.length = 0 from hck)
  have HK2 := Lib.hid hck
  have ht : ((n : Int) == 16) = false := by rw [beq_eq_false_iff_ne]; omega
  have hn48 : n * 48 ≤ 140737488355328 := by omega
  have hn49 : (n + 1) * 48 ≤ 140737488355328 := by omega
  have hn1 : n ≤ 1000000 := by omega
  clear hs h hd hfo hbox hy hck hf16
  go_enter Tryd.func12, Tryd.ntmps12
  go_wp2_with (first
    | (go_at_call 15; refine (qcheck_any A n c l _ (H.out.below (HB.out _)) 0 HY.out).mono ?_; rintro e w1 ⟨rfl, hb1⟩; have HX := Lib.hid ((BoxF.start (Below.refl _ w)).step hb1); obtain ⟨x0, x1, x2, x3, x4, x5, -, -⟩ := HX.out.flat)
    | (go_at_call 31; refine (check_any f.id f.long f.fast f.remote f.size f.A f.data.length f.c _).mono ?_; rw [HK.out]; rintro e w2 ⟨rfl, hb2⟩; have HX2 := Lib.hid (HX.out.step hb2)))
  clear x0 x1 x2 x3 x4 x5
  go_region_held3 (fun wx => wx.cell? ⟨w.heap.size, 0, none⟩ = some (.int .i64 f.id) ∧ wx.cell? ⟨w.heap.size, 1, none⟩ = some (.bool f.long) ∧ wx.cell? ⟨w.heap.size, 2, none⟩ = some (.bool f.fast) ∧ wx.cell? ⟨w.heap.size, 3, none⟩ = some (.bool f.remote) ∧ wx.cell? ⟨w.heap.size, 4, none⟩ = some (.int .i64 f.size) ∧ wx.cell? ⟨w.heap.size, 5, none⟩ = some (.slice f.A f.data.length f.c) ∧ w.heap.size < wx.heap.size ∧ Below w.heap.size w wx)
    (first | exact HX2.out.flat | exact HX2.out.drew.flat | exact HX3.out.flat | exact HX4.out.flat | exact HX5.out.flat | exact (HX5.out.alloc _).flat | exact HX6.out.flat)
    (first
      | (go_at_call 25; refine (own_any A n c l hn48 HD.out _ (H.out.below HX2.out.drew.bel)).mono ?_; rintro e w3 ⟨v3, l3, rfl, ho3, ha3, hg3, hb3⟩; have HX3 := Lib.hid (HX2.out.drew.step hb3); have HA3 := Lib.hid ha3; have HL3 := Lib.hid (len_of ha3 hl.out); have HQ3 := Lib.hid (show OwnQ (w.heap.size + 1) w3 v3 l3 from OwnQ.weaken (show OwnQ w2.drew.heap.size w3 v3 l3 from ⟨(len_of ha3 hl.out).symm ▸ ho3, hg3⟩) (Nat.succ_le_of_lt HX2.out.lt)); clear ho3 hg3 ha3)
      | (go_at_call 27; refine (place_any A n c l f hn1 _ (H.out.below HX3.out.bel) (srt_good HS.out) HK2.out (srt_mono HS.out _)).mono ?_; rintro e w4 ⟨k, hk, hp1, hp2, rfl, hb4⟩; have HX4 := Lib.hid (HX3.out.step hb4); have HP := Lib.hid (place_of (hl.out.symm ▸ hk) hp1 hp2); clear hp1 hp2)
      | (go_at_call 28; refine (copy_any_agg f hfd _ (HO.out.below HX4.out.bel)).mono ?_; rintro e w5 ⟨g, hga, rfl, hgo, hb5⟩; have HX5 := Lib.hid (HX4.out.step hb5); have HGA := Lib.hid hga; have HQ5 := Lib.hid ((HQ3.out.step hb4).step hb5); have HG5 := Lib.hid (show g.own (w.heap.size + 1) w5 from own_weaken hgo (Nat.succ_le_of_lt HX4.out.lt)); clear hga hgo)
      | (go_at_call 26; refine (insq_any (w.heap.size + 1) v3 l3 k g w5 (le_of_len HL3.out hk) (big_of_len HL3.out hn49) HQ5.out HG5.out (Nat.succ_le_of_lt HX5.out.lt)).mono ?_; rintro e w6 ⟨v6, rfl, hQ6, hb6⟩; have HQ6 := Lib.hid hQ6; have HX6 := Lib.hid (HX5.out.stepB hb6 (Nat.lt_succ_self _) (Nat.le_succ _)); clear hQ6))
  go_wp2
  go_ret2
  exact ⟨v6, _, rfl, HQ6.out.weaken (Nat.le_succ _), map_put HA3.out HGA.out HP.out, HX6.out.bel⟩

set_option maxRecDepth 100000 in
set_option maxHeartbeats 1600000 in
theorem qput_any (A : Option Addr) (n c : Nat) (l : List M.Fr) (f : M.Fr) (hd : ∀ f ∈ l, f.data.length ≤ 140737488355328) (hfd : f.data.length ≤ 140737488355328) (w : World) (h : Frs w A n l) (hfo : f.ok w) (q : List M.Frm) (z : Int) (hr : (q, z) = M.qput (l.map M.Fr.abs) f.abs) :
    Calls Tryd.prog 12 #[.slice A n c, .agg #[.int .i64 f.id, .bool f.long, .bool f.fast, .bool f.remote, .int .i64 f.size, .slice f.A f.data.length f.c]] w fun e w' =>
      ∃ (v : Value) (l' : List M.Fr), e = .returned (.tuple #[v, .int .i64 z]) ∧ OwnQ w.heap.size w' v l' ∧ l'.map M.Fr.abs = q ∧ Below w.heap.size w w' := by
  have hlen := h.len
  obtain ⟨y, hy⟩ : ∃ y, y = M.qchk (l.map M.Fr.abs) := ⟨_, rfl⟩
  have hbox : ∀ (o : Obj), Below w.heap.size w (w.alloc o) := fun o => (Below.refl _ _).alloc (Nat.le_refl _) _
  by_cases h0 : y = 0
  · subst h0
    obtain ⟨x, hx⟩ : ∃ x, M.fchk f.id f.long f.fast f.remote f.size f.data.length = x := ⟨_, rfl⟩
    by_cases hck : x = 0
    · subst hck
      by_cases hf16 : n = 16
      · have hz : q = [] ∧ z = 11 := by
          unfold M.qput at hr
          rw [← hy, if_neg (by simp), if_neg (by rw [show f.abs.chk = 0 from hx]; simp), if_pos (by rw [List.length_map, hlen, hf16])] at hr
          exact ⟨by injection hr, by injection hr⟩
        obtain ⟨rfl, rfl⟩ := hz
        have ht : ((n : Int) == 16) = true := by rw [beq_iff_eq]; omega
        have H := Lib.hid h
        have HB := Lib.hid hbox
        have HY := Lib.hid hy
        have HK := Lib.hid hx
        clear hr hy hf16 h hlen hx hbox hfo hd
        go_enter Tryd.func12, Tryd.ntmps12
        go_wp2_with (first
          | (go_at_call 15; refine (qcheck_any A n c l _ (H.out.below (HB.out _)) 0 HY.out).mono ?_; rintro e w1 ⟨rfl, hb1⟩; have HX := Lib.hid ((BoxF.start (Below.refl _ w)).step hb1); obtain ⟨x0, x1, x2, x3, x4, x5, -, -⟩ := HX.out.flat)
          | (go_at_call 31; refine (check_any f.id f.long f.fast f.remote f.size f.A f.data.length f.c _).mono ?_; rw [HK.out]; rintro e w2 ⟨rfl, hb2⟩; have hbe := HX.out.bel.trans (hb2.mono HX.out.bel.size)))
        go_ret2
        exact ⟨_, [], rfl, OwnQ.nil_ _ _, rfl, hbe⟩
      · have hz : q = M.qins (l.map M.Fr.abs) f.abs ∧ z = 0 := by
          unfold M.qput at hr
          rw [← hy, if_neg (by simp), if_neg (by rw [show f.abs.chk = 0 from hx]; simp), if_neg (by rw [List.length_map, hlen]; exact hf16)] at hr
          exact ⟨by injection hr, by injection hr⟩
        obtain ⟨rfl, rfl⟩ := hz
        exact qput_good A n c l f hd hfd w h hfo hy hx hf16
    · have hz : q = [] ∧ z = x := by
        unfold M.qput at hr
        rw [← hy, if_neg (by simp), if_pos (by rw [show f.abs.chk = x from hx]; exact hck), show f.abs.chk = x from hx] at hr
        exact ⟨by injection hr, by injection hr⟩
      obtain ⟨rfl, rfl⟩ := hz
      have hy2 : (z != 0) = true := by rw [bne_iff_ne]; exact hck
      have H := Lib.hid h
      have HB := Lib.hid hbox
      have HY := Lib.hid hy
      have HK := Lib.hid hx
      clear hr hy h hlen hx hbox hfo hd hck
      go_enter Tryd.func12, Tryd.ntmps12
      go_wp2_with (first
        | (go_at_call 15; refine (qcheck_any A n c l _ (H.out.below (HB.out _)) 0 HY.out).mono ?_; rintro e w1 ⟨rfl, hb1⟩; have HX := Lib.hid ((BoxF.start (Below.refl _ w)).step hb1); obtain ⟨x0, x1, x2, x3, x4, x5, -, -⟩ := HX.out.flat)
        | (go_at_call 31; refine (check_any f.id f.long f.fast f.remote f.size f.A f.data.length f.c _).mono ?_; rw [HK.out]; rintro e w2 ⟨rfl, hb2⟩; have hbe := HX.out.bel.trans (hb2.mono HX.out.bel.size)))
      go_ret2
      exact ⟨_, [], rfl, OwnQ.nil_ _ _, rfl, hbe⟩
  · have hz : q = [] ∧ z = y := by
      unfold M.qput at hr
      rw [← hy, if_pos h0] at hr
      exact ⟨by injection hr, by injection hr⟩
    obtain ⟨rfl, rfl⟩ := hz
    have hy2 : (z != 0) = true := by rw [bne_iff_ne]; exact h0
    have H := Lib.hid h
    have HB := Lib.hid hbox
    have HY := Lib.hid hy
    clear hr hy h hlen hbox hfo hd h0
    go_enter Tryd.func12, Tryd.ntmps12
    go_wp2_with (go_at_call 15; refine (qcheck_any A n c l _ (H.out.below (HB.out _)) z HY.out).mono ?_; rintro e w1 ⟨rfl, hb1⟩; have hbe := (HB.out _).trans (hb1.mono (HB.out _).size))
    go_ret2
    exact ⟨_, [], rfl, OwnQ.nil_ _ _, rfl, hbe⟩
end Go.Proofs.YtlfdpcddbnkpjaaDoor
