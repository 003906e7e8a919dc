/-
  The walk of queue.place.
-/
import Derived.Test.YtlfdpcddbnkpjaaDoorQueueW4
namespace Go.Proofs.YtlfdpcddbnkpjaaDoor
open Go.RowKit Go.ChangeShapes Go.WideShapes

set_option maxRecDepth 100000 in
theorem place_any (A : Option Addr) (n c : Nat) (l : List M.Fr) (f : M.Fr) (hn : n ≤ 1000000) (w : World) (h : Frs w A n l) (hg : ∀ f ∈ l, f.abs.chk = 0) (hf : f.abs.chk = 0)
    (hm : ∀ (x y : Nat) (a b : M.Fr), x < y → l[x]? = some a → l[y]? = some b → M.leq b.abs.name f.abs.name = true → M.leq a.abs.name f.abs.name = true) :
    Calls Tryd.prog 27 #[.slice A n c, .agg #[.int .i64 f.id, .bool f.long, .bool f.fast, .bool f.remote, .int .i64 f.size, .slice f.A f.data.length f.c]] w fun e w' =>
      ∃ (k : Nat), k ≤ n ∧ (∀ (x : Nat) (a : M.Fr), x < k → l[x]? = some a → M.leq a.abs.name f.abs.name = true) ∧ (∀ (x : Nat) (a : M.Fr), k ≤ x → l[x]? = some a → M.leq a.abs.name f.abs.name = false) ∧ e = .returned (.int .i64 k) ∧ Below w.heap.size w w' := by
  have H := Lib.hid h
  have HG := Lib.hid hg
  have HM := Lib.hid hm
  have HK := Lib.hid (show M.fchk f.id f.long f.fast f.remote f.size f.data.length = 0 from hf)
  clear h hg hm hf
  go_enter Tryd.func27, Tryd.ntmps27
  go_wp2_with (first
    | (go_at_call 32; refine (name_good f.id f.long f.fast f.remote f.size f.A f.data.length f.c _ HK.out).mono ?_; rintro e w1 ⟨s1, hs1, rfl, hb1⟩; have HS := Lib.hid hs1; clear hs1)
    | (go_at_call 41; refine (search_any A n c l s1 hn _ (H.out.below (box_below hb1)) HG.out (HS.out ▸ HM.out)).mono ?_; rintro e w2 ⟨k, b, hk, h1, h2, rfl, hb2⟩; have H1 := Lib.hid h1; have H2 := Lib.hid h2; clear h1 h2))
  go_ret
  have hs : s1.data.toList = f.abs.name := HS.out
  refine ⟨k, hk, fun x a hx ha => ?_, fun x a hx ha => ?_, rfl, (box_below hb1).trans (hb2.mono (box_below hb1).size)⟩
  · have := H1.out x a hx ha
    rw [hs] at this
    exact this
  · have := H2.out x a hx ha
    rw [hs] at this
    exact this
end Go.Proofs.YtlfdpcddbnkpjaaDoor
