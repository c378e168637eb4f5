/- Acts upon a root that came in. No condition. -/
import Derived.Test.YthlmkjkjebcpfaaRoot
namespace Go.Proofs.Ythlmkjkjebcpfaa
open Go.Den Go.Disk Go.Root
structure Ac where
  dn : Int
  n : Int
  rt : Rt
  tv : Value
  nm : ByteArray
  bv : Value
def encAc (a : Ac) : List Value := [.int .i64 a.dn, .int .i64 a.n, .int .u64 (a.rt.gen : Int), .int .i64 a.rt.lanes, .int .i64 a.rt.pay, .int .i64 a.rt.del, .int .i64 a.rt.seg, a.tv, .string a.nm, a.bv]
theorem encAc_len (a : Ac) : (encAc a).length = 10 := rfl
abbrev FAc := Ac × List Int × List UInt8
structure ActsT (w : World) (lv : Value) (xs : List FAc) : Prop where
  arr : Arr encAc 10 w lv (xs.map (·.1))
  ins : ∀ x ∈ xs, Arr encI 1 w x.1.tv x.2.1 ∧ Arr encB 1 w x.1.bv x.2.2
  one : ∀ x ∈ xs, x.1.tv.oneCell' = true ∧ x.1.bv.oneCell' = true
  num : ∀ x ∈ xs, x.1.n ≤ 9223372036854775807 ∧ x.1.nm.size ≤ 9223372036854775807
theorem ActsT.fr {w w' : World} {lv : Value} {xs : List FAc} (h : ActsT w lv xs) (f : Fr [] w w') : ActsT w' lv xs :=
  ⟨h.arr.fr f (by simp), fun x hx => ⟨(h.ins x hx).1.fr f (by simp), (h.ins x hx).2.fr f (by simp)⟩, h.one, h.num⟩
theorem encAc_one {w : World} {lv : Value} {xs : List FAc} (h : ActsT w lv xs) {x : FAc} (hx : x ∈ xs) : ∀ u ∈ encAc x.1, u.oneCell' = true := by
  intro u hu
  obtain ⟨o1, o2⟩ := h.one x hx
  simp only [encAc, List.mem_cons, List.not_mem_nil, or_false] at hu
  rcases hu with rfl | rfl | rfl | rfl | rfl | rfl | rfl | rfl | rfl | rfl <;> first | rfl | assumption
theorem root_of {w : World} {b : Nat} {a : Ac} {T : Nat} (h : blk w b = some (.cells (encAc a).toArray T (0, 0))) : loadn 5 w (.pointer (some ⟨b, 0 + 2, none⟩)) = some (.agg (encT a.rt).toArray) := by
  rw [loadn_blk h (by simp [encAc])]; rfl
end Go.Proofs.Ythlmkjkjebcpfaa
