/-
  The walk of queue.place's comparison: -1 of a frame whose name is not greater, else 1.
-/
import Derived.Test.YtlfdpcddbnkpjaaDoorQueueW1
namespace Go.Proofs.YtlfdpcddbnkpjaaDoor
open Go.RowKit Go.ChangeShapes Go.WideShapes

/-- Is a name not greater than another? -/
def M.leq (a b : List UInt8) : Bool := Op.bytesLess a b || a == b

theorem leq_of {a b : ByteArray} {l : List UInt8} {q : Bool} (h : a.data.toList = l) (hq : M.leq l b.data.toList = q) : (Op.bytesLess a.toList b.toList || a.toList == b.toList) = q := by
  rw [list_data, list_data, h]
  exact hq

theorem place1_any (f : M.Fr) (t : ByteArray) (w : World) (h : f.abs.chk = 0) (z : Int) (hz : z = if M.leq f.abs.name t.data.toList = true then -1 else 1) :
    Calls Tryd.prog 42 #[.agg #[.int .i64 f.id, .bool f.long, .bool f.fast, .bool f.remote, .int .i64 f.size, .slice f.A f.data.length f.c], .string t] w fun e w' => e = .returned (.int .i64 z) ∧ Below w.heap.size w w' := by
  have HK := Lib.hid (show M.fchk f.id f.long f.fast f.remote f.size f.data.length = 0 from h)
  have HZ := Lib.hid hz
  clear h hz
  obtain ⟨q, hq⟩ : ∃ q, M.leq f.abs.name t.data.toList = q := ⟨_, rfl⟩
  have HQ := Lib.hid hq
  clear hq
  cases q
  all_goals
    go_enter Tryd.func42, Tryd.ntmps42
    go_wp2_with (go_at_call 32; refine (name_good f.id f.long f.fast f.remote f.size f.A f.data.length f.c _ HK.out).mono ?_; rintro e w1 ⟨s1, hs1, rfl, hb1⟩; have hbl := leq_of hs1 HQ.out; clear hs1)
    go_ret
    refine ⟨ret_one (int_of ?_), box_below hb1⟩
    rw [HZ.out, HQ.out]
    rfl
end Go.Proofs.YtlfdpcddbnkpjaaDoor
