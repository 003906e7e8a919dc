/-
  The row's last step where the call made new memory of which only 'Below' is known. Of whatever program.
-/
import Derived.Below
import Derived.ChangeSame
import Derived.ProofKit
import Derived.Test.YtlfdpcddbnkpjaaDoorReads
namespace Go.Proofs.YtlfdpcddbnkpjaaDoor
open Go.RowKit Go.WideShapes Go.ChangeShapes
section
variable {H : Type} {enc : TypeId × Value → H} {P : Program}
theorem post_of_below {f : Func} {s : ChangeSpec} {apart fresh handsOn again : Bool} {W W' : World} {args : Array Value} {v : Value} {ds gs : List (DataW H)} {before pa pv : List MemPlace}
    (hW : DataW.Whole enc P f.params.toList s.vars apart W args.toList ds gs before)
    (hres : ∀ (b : Nat) (sp : Nat → Bool) (hd : Bool), DataW.TrodAll enc P W' b sp hd f.resultTypes.toList (v.resultList f.resultTypes.size) (s.fn H (ds ++ gs)).results [])
    (hargs : ∀ sp : Nat → Bool, (∀ p ∈ before, sp p.block = true) → DataW.TrodAll enc P W' 0 sp true f.params.toList args.toList (s.fn H (ds ++ gs)).args pa)
    (hvars : ∀ sp : Nat → Bool, (∀ p ∈ before, sp p.block = true) → DataW.TrodVars enc P W' sp s.vars (s.fn H (ds ++ gs)).vars pv)
    (hps : before = pa ++ pv) (hb : Below W.heap.size W W')
    (hok : ∀ (j : Nat) (t : TypeId) (r : Value), f.resultTypes[j]? = some t → (v.resultList f.resultTypes.size)[j]? = some r → Value.okWide P W' .any 0 t r) :
    s.post enc P f apart fresh handsOn again W args v W' := by
  have hlt : ∀ p ∈ before, p.block < W.heap.size := fun p hp => hW.lt p hp
  have hold : ∀ p ∈ before, (fun b => decide (b < W.heap.size)) p.block = true := fun p hp => by simpa using hlt p hp
  refine ⟨ds, gs, before, [], pa, pv, hW, hres _ _ _, hargs _ hold, hvars _ hold, World.keptBut_mono (fun p hp => ⟨hp, ?_⟩) (hb.frame (· ∈ before)), fun _ => ?_⟩
  · rw [hps, List.mem_append] at hp
    exact Or.inr hp
  · obtain ⟨_, _, _, _, _, hz, hn⟩ := hW
    refine ⟨hok, _, _, ([] ++ pa) ++ pv, ⟨[] ++ pa, pv, trodAll_append (hargs _ (fun _ _ => rfl)) (hres _ _ _), hvars _ (fun _ _ => rfl), rfl, ?_, ?_⟩, ?_⟩
    · intro b off hp
      have hin : MemPlace.cell b off ∈ before := by rw [hps]; simpa using hp
      rw [hb.frozen (hlt _ hin)]
      exact hz b off hin
    · intro ha
      have := hn ha
      rw [hps] at this
      simpa using this
    · intro p hp _
      rw [hps]
      simpa using hp

/-- All arguments read behind the call as they read before it, whatever their types. -/
theorem trodAll_stays (hl : laidOutB P = true) {W W' : World} (hb : Below W.heap.size W W') (sp : Nat → Bool) :
    ∀ (ts : List TypeId) (vs : List Value) (ds : List (DataW H)) (ps : List MemPlace), (∀ t ∈ ts, P.readableRec t = true ∧ t < P.types.size) → DataW.TrodAll enc P W 0 (fun _ => true) true ts vs ds ps → (∀ x ∈ ps, x.block < W.heap.size) → (∀ x ∈ ps, sp x.block = true) →
      DataW.TrodAll enc P W' 0 sp true ts vs ds ps
  | [], vs, ds, ps, _, h, _, _ => by
    obtain ⟨rfl, rfl, rfl⟩ := trodAll_nil h
    exact trodAll_mk0
  | t :: ts, vs, ds, ps, hr, h, hlt, hsp => by
    obtain ⟨v, vs', d, ds', p, q, rfl, rfl, rfl, h0, h1⟩ := trodAll_cons h
    have hrt := hr t (by simp)
    refine ⟨p, q, WideElems.Trod_stays hl hrt.1 hrt.2 h0 (fun x hx => hb.same (hlt x (List.mem_append_left _ hx))) (fun x hx => hsp x (List.mem_append_left _ hx)), ?_, rfl⟩
    exact trodAll_stays hl hb sp ts vs' ds' q (fun t ht => hr t (List.mem_cons_of_mem _ ht)) h1 (fun x hx => hlt x (List.mem_append_right _ hx)) (fun x hx => hsp x (List.mem_append_right _ hx))

/-- The post of a law that returned true in a world that is as the old one below. -/
theorem law_post {f : Func} {s : ChangeSpec} {apart : Bool} {W W' : World} {args : Array Value} {ds gs : List (DataW H)} {before : List MemPlace} {tb : TypeId} (hl : laidOutB P = true) (hv : s.vars = [])
    (hW : DataW.Whole enc P f.params.toList s.vars apart W args.toList ds gs before) (hr : ∀ t ∈ f.params.toList, P.readableRec t = true ∧ t < P.types.size)
    (hs : s.fn H (ds ++ gs) = { results := [.lit (.bool true)], args := ds }) (ht : f.resultTypes = #[tb]) (hb : P.underlying tb = some .bool) (hB : Below W.heap.size W W') :
    ∃ v, Ending.returned (.bool true) = .returned v ∧ s.post enc P f false true false false W args v W' := by
  have hW' := hW
  have hlt : ∀ p ∈ before, p.block < W.heap.size := fun p hp => hW.lt p hp
  obtain ⟨p, q, hA, hV, rfl, hz, hn⟩ := hW
  rw [hv] at hV
  obtain ⟨rfl, rfl⟩ := trodVars_none hV
  rw [List.append_nil] at hlt
  have hW2 : DataW.Whole enc P f.params.toList s.vars false W args.toList ds [] (p ++ []) := by
    obtain ⟨p', q', h1, h2, h3, h4, _⟩ := hW'
    exact ⟨p', q', h1, h2, h3, h4, fun h => by cases h⟩
  refine ⟨_, rfl, post_of_below (pa := p) (pv := []) hW2 (fun _ _ _ => ?_) (fun sp hsp => ?_) (fun _ _ => ?_) rfl hB ?_⟩
  · rw [hs, ht]
    exact trodAll_mk1 (shut_bool hb _)
  · rw [hs]
    exact trodAll_stays hl hB sp _ _ _ _ hr hA hlt (fun x hx => hsp x (by simpa using hx))
  · rw [hs, hv]
    rfl
  · exact ok_one ht rfl (okWide_bool_mk hb _)

/-- A slice of bytes that came in, nil too. -/
theorem open_bytes {W : World} {t e : TypeId} {v : Value} {d : DataW H} {p : List MemPlace} {r : Reach} {b0 : Nat} (ht : P.underlying t = some (.slice e)) (he : P.underlying e = some (.int .u8)) (hc : P.cellsOf e = 1)
    (hv : Value.okWide P W r b0 t v) (h : DataW.Trod enc P W 0 (fun _ => true) true t v d p) :
    ∃ (A : Option Addr) (n cap : Nat) (xs : List UInt8), v = .slice A n cap ∧ Reads W W.heap.size 1 A n (xs.map fun b => .int .u8 b.toNat) ∧ n ≤ cap ∧ cap ≤ maxLen := by
  obtain ⟨A, n, cap, rfl⟩ := okWide_slice ht hv
  obtain ⟨fuel, hf⟩ := h
  rcases open_ints ht he hc hf with ⟨hcs, _⟩ | ⟨a, len, cap', zs, hcs, _, hl, hm, hz, hx, hcell, hw⟩
  · simp only [Value.cells] at hcs
    injection hcs with hcs
    injection hcs with h1 h2 h3
    subst h1 h2 h3
    exact ⟨none, 0, 0, [], rfl, Reads.none_, Nat.le_refl _, by unfold maxLen; omega⟩
  · simp only [Value.cells] at hcs
    injection hcs with hcs
    injection hcs with h1 h2 h3
    subst h1 h2 h3
    have hzl : zs.length = cap := by simpa using hz
    have hlen : (zs.take n).length = n := by rw [List.length_take]; omega
    refine ⟨some a, n, cap, (zs.take n).map fun z => UInt8.ofNat z.toNat, rfl, ⟨by simp; omega, fun hn => ⟨a, rfl, ?_, fun j u hu => ?_⟩⟩, hl, hm⟩
    · have h0 := World.block_lt_of_cell? W _ (hcell 0 (by omega))
      rw [block_of_add] at h0
      exact h0
    · rw [List.map_map, List.getElem?_map] at hu
      obtain ⟨z, hzj, rfl⟩ := Option.map_eq_some_iff.1 hu
      have hjl : j < (zs.take n).length := (List.getElem?_eq_some_iff.1 hzj).1
      rw [List.getElem?_take_of_lt (by omega)] at hzj
      have hjz : j < zs.length := (List.getElem?_eq_some_iff.1 hzj).1
      have hcj := hcell j hjz
      rw [List.getD_eq_getElem?_getD, hzj] at hcj
      rw [hcj]
      have hwz := hw z (List.mem_of_getElem? hzj)
      have hb : 0 ≤ z ∧ z ≤ 255 := by simpa [Lit.wf, IntKind.min, IntKind.max, IntKind.signed, IntKind.bits] using hwz
      simp only [Option.getD_some, Function.comp]
      congr 2
      rw [UInt8.toNat_ofNat_of_lt' (show z.toNat < 256 by omega)]
      omega
end
end Go.Proofs.YtlfdpcddbnkpjaaDoor
