/-
  Words that all walks share: bytes and strings as values, endings, slices that read as bytes. No function of the program.
-/
import Derived.Test.YtlfdpcddbnkpjaaDoorRows
import Derived.Test.YtlfdpcddbnkpjaaDoorReads
import Derived.WalkKit
import Derived.WalkSmall
import Derived.WalkSpells
import Derived.WalkLawsBesides
import Derived.Lib.Hide
import Derived.BigQuiet
import Derived.Deep.QuietTactic
import Derived.Deep.RegionWith
namespace Go.Proofs.YtlfdpcddbnkpjaaDoor
open Go.RowKit Go.ChangeShapes Go.WideShapes

theorem Tryd.infoU8 : (Tryd.prog.info? 5).map (fun i => (i.zero, i.size, i.bytes)) = some (some (.int .u8 0), 1, 1) := by kernel_rfl

/-- A byte as a value. -/
def bv (b : UInt8) : Value := .int .u8 b.toNat

/-- A block of bytes that the call owns, turned into a string. -/
theorem string_of_own {P : Program} {w : World} {base g cap e src dst : Nat} {l : List UInt8} (hs : P.underlying src = some (.slice e)) (he : P.underlying e = some (.int .u8)) (hd : P.underlying dst = some .string)
    (h : w.ownsRow base e 1 (.slice (some ⟨g, 0, none⟩) l.length cap) l.length (l.map bv)) : (convert src dst (.slice (some ⟨g, 0, none⟩) l.length cap)).run P w = .ok (.string ⟨l.toArray⟩) w := by
  refine run_convert_bytes_back w src dst e _ cap l hs he hd fun j hj => ?_
  have hadd : (⟨g, 0, none⟩ : Addr).add j = ⟨g, j, none⟩ := by unfold Addr.add; split <;> simp_all
  rw [hadd, h.cellAt j (by omega), List.getElem?_map, List.getElem?_eq_getElem hj]
  rfl

/-- The same of whatever owned row of bytes, nil too. -/
theorem string_of_own' {P : Program} {w : World} {base e src dst : Nat} {v : Value} (hs : P.underlying src = some (.slice e)) (he : P.underlying e = some (.int .u8)) (hd : P.underlying dst = some .string) (l : List UInt8)
    (h : w.ownsRow base e 1 v l.length (l.map bv)) : (convert src dst v).run P w = .ok (.string ⟨l.toArray⟩) w := by
  rcases h.2 with ⟨rfl, h0⟩ | ⟨g, cap, cur, rfl, _⟩
  · have hl : l = [] := List.eq_nil_of_length_eq_zero h0
    subst hl
    rw [run_convert_bytes_nil (P := P) (w := w) src e hs he 0 0 dst hd]
    rfl
  · exact string_of_own hs he hd h

theorem all_take {l : List UInt8} {p : UInt8 → Bool} (h : l.all p = true) (j : Nat) : (l.take j).all p = true := by
  rw [List.all_eq_true] at h ⊢
  exact fun x hx => h x (List.mem_of_mem_take hx)

/-- A byte of a string, read: as the list's. -/
theorem run_index_list {P : Program} {t : Nat} (ht : P.underlying t = some .string) {s : ByteArray} {l : List UInt8} (hl : s.data.toList = l) (j : Nat) (hj : j < l.length) (wx : World) :
    (Instr.index t (.string s) (.int .i64 (j : Int))).run P wx = .ok (.int .u8 ((l[j].toNat : Nat) : Int)) wx := by
  have hs : s.size = l.length := by rw [← hl, Array.length_toList]; rfl
  rw [run_index_string wx t s .i64 j ht, dif_pos ⟨by omega, by omega⟩]
  have e : s[(j : Int).toNat]'(by omega) = l[j] := by
    subst hl
    simp [ByteArray.getElem_eq_getElem_data]
  rw [e]

theorem ret_one {a a' : Value} (h : a = a') : Ending.returned a = .returned a' := by rw [h]

theorem ret_two {a b a' b' : Value} (h : a = a') (k : b = b') : Ending.returned (.tuple #[a, b]) = .returned (.tuple #[a', b']) := by rw [h, k]

theorem ret_three {a b c a' b' c' : Value} (h : a = a') (k : b = b') (l : c = c') : Ending.returned (.tuple #[a, b, c]) = .returned (.tuple #[a', b', c']) := by rw [h, k, l]

theorem bool_of {p q : Bool} (h : p = q) : Value.bool p = .bool q := by rw [h]

theorem int_of {k : IntKind} {p q : Int} (h : p = q) : Value.int k p = .int k q := by rw [h]

/-- A string of the list's bytes. -/
def sv (l : List UInt8) : Value := .string ⟨l.toArray⟩

/-- 'out = append(out, x)' of one byte that lies in a new block: what is owned behind it. -/
theorem cell_new_one (w : World) (u : Value) (t : TypeId) : ∀ j v, [u][j]? = some v → (w.alloc (.cells #[u] t)).cell? ((⟨w.heap.size, 0, none⟩ : Addr).add j) = some v := by
  intro j v hj
  match j, hj with
  | 0, hj => simp at hj; subst hj; simp [Addr.add]

theorem one_cell_int (k : IntKind) (x : Int) : ∀ u ∈ [Value.int k x], u.oneCell' = true := by
  intro u hu
  simp at hu
  subst hu
  rfl

theorem foldl_take {α β : Type} (f : α → β → α) (a : α) (l : List β) (j : Nat) (h : j < l.length) : (l.take (j + 1)).foldl f a = f ((l.take j).foldl f a) l[j] := by
  rw [List.take_succ_eq_append_getElem h, List.foldl_append]
  rfl

def SliceBytes (w : World) (A : Option Addr) (n : Nat) (xs : List UInt8) : Prop := Reads w w.heap.size 1 A n (xs.map bv)

theorem SliceBytes.len {w : World} {A : Option Addr} {n : Nat} {xs : List UInt8} (h : SliceBytes w A n xs) : xs.length = n := by
  have := h.1
  simpa using this

theorem SliceBytes.below {w w' : World} {A : Option Addr} {n : Nat} {xs : List UInt8} (h : SliceBytes w A n xs) (hb : Below w.heap.size w w') : SliceBytes w' A n xs := (Reads.below h hb).more hb.size

theorem SliceBytes.at_ {w : World} {A : Option Addr} {n : Nat} {xs : List UInt8} (h : SliceBytes w A n xs) {k : Nat} (hk : k < n) (hk2 : k < xs.length) : ∃ ad, A = some ad ∧ ad.block < w.heap.size ∧ w.cell? (ad.add k) = some (.int .u8 xs[k].toNat) := by
  obtain ⟨ad, u, e, hb, hu, hc⟩ := Reads.at_ h hk
  rw [List.getElem?_map, List.getElem?_eq_getElem hk2] at hu
  injection hu with hu
  exact ⟨ad, e, hb, by rw [hc, ← hu]; rfl⟩
end Go.Proofs.YtlfdpcddbnkpjaaDoor
