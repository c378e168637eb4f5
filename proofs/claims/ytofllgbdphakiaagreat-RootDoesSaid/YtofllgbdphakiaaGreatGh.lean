/- Worlds as blocks; what the words of 'den' come to on them; slices, maps, frames. No condition. From a law's walk to its row: how arguments read, and that they read behind the call as before. No condition. What every row asks of the program itself. No condition. Parts of slices, as what an append takes. No condition. Things put behind others; maps whose entries bear stamps; what came in and what is one's own, read alike. No condition. Structs' blocks; slices of several things, made at once. No condition. Steps of a walk put shortly: what stands at a place, loops that count, ways that meet. No condition. How slices that stand in structs read. No condition. Things that lie apart in memory: which blocks each has; one is changed, the others stay. No condition. Two things that lie apart: one is changed, then the other one. No condition. Sums of 32 bits, in plain words. No condition. Numbers of few bytes, in plain words. No condition. A disk, in plain words: what each call makes of it, and answers. No condition. A disk in memory; its directory, what may be done, names. No condition but sizes. Sums of bytes, walked. No condition but sizes. Parts of a slice that came in. No condition. DERIVED: THE SHELF's CONTRACTS AT THIS DUMP, IN PLAIN WORDS (tools/lay-plain.mjs out of 'TryzShelf.lean', which tools/lay-shelf.mjs wrote): THE SAME DECLARATIONS UNDER THE SAME NAMES: 'import', 'namespace', 'open', 'def', 'theorem' AND NOTHING ELSE: no command of the shelf's: FOR A HAND-IN. Each laying: the table of numbers ('.._ren') and one theorem, a field a fact of the dump's own or the kernel's comparison; each contract: ONE APPLICATION. Sums put behind bytes, and taken off. No condition but sizes. Numbers of few bytes, walked. No condition but sizes. Frames, in plain words. No condition. Frames, walked. No condition but sizes. -/
import Derived.Test.YtofllgbdphakiaaGreatGa
import Derived.Laws.Append
import Derived.ProofKit
import Derived.OpenShut
import Derived.ShutString
import Derived.ChangeOld
import Derived.Below
import Derived.Deep.Slices
import Derived.Deep.Strs
import Derived.Test.YtofllgbdphakiaaGreatRows
import Derived.MapKept
import Derived.Laws.Strings
import Derived.Lib.SmallJoins
import Derived.Test.YtofllgbdphakiaaGreatMa
import Derived.Shelf.SlIter.Nil
import Derived.Shelf.SortM.Plain
import Derived.Shelf.SortM.SortNone
import Derived.Shelf.SlMaps.Clone
import Derived.Shelf.Spec.SlicesGrow
import Derived.Shelf.Small.Bits
import Derived.Shelf.Strconv.Itoa0
import Derived.Shelf.Sort.Plain
import Derived.Shelf.Slices.Turned
import Derived.Shelf.Slices.In.SortNone
import Derived.Test.YtofllgbdphakiaaGreatProg
set_option linter.unusedVariables false
set_option linter.unusedSimpArgs false
section
namespace Go.Den

theorem snoc_ind {α : Type} {P : List α → Prop} (h0 : P []) (h1 : ∀ xs a, P xs → P (xs ++ [a])) (xs : List α) : P xs := by
  have key : ∀ n (xs : List α), xs.length = n → P xs := by
    intro n
    induction n with
    | zero => intro xs h; rw [List.length_eq_zero_iff.1 h]; exact h0
    | succ n ih =>
      intro xs h
      have hne : xs ≠ [] := by intro e; subst e; simp at h
      rw [← List.dropLast_concat_getLast hne]
      exact h1 _ _ (ih _ (by simp [h]))
  exact key _ xs rfl

/-! ## Blocks -/
def blk (w : World) (b : Nat) : Option Obj := w.heap[b]?
def hsz (w : World) : Nat := w.heap.size
def setB (w : World) (b : Nat) (o : Obj) : World := { w with heap := w.heap.setIfInBounds b o }

theorem blk_lt {w : World} {b : Nat} {o : Obj} (h : blk w b = some o) : b < hsz w := (Array.getElem?_eq_some_iff.1 h).1
theorem blk_none {w : World} {b : Nat} (h : hsz w ≤ b) : blk w b = none := Array.getElem?_eq_none h
@[simp] theorem blk_drew (w : World) (b : Nat) : blk w.drew b = blk w b := rfl
@[simp] theorem hsz_drew (w : World) : hsz w.drew = hsz w := rfl
@[simp] theorem hsz_alloc (w : World) (o : Obj) : hsz (w.alloc o) = hsz w + 1 := by simp [hsz]
@[simp] theorem hsz_setB (w : World) (b : Nat) (o : Obj) : hsz (setB w b o) = hsz w := by simp [hsz, setB]
@[simp] theorem heap_size (w : World) : w.heap.size = hsz w := rfl
theorem blk_alloc (w : World) (o : Obj) (b : Nat) : blk (w.alloc o) b = if b = hsz w then some o else blk w b := by
  simp only [blk, World.alloc, Array.getElem?_push]
  rfl
@[simp] theorem blk_alloc_new (w : World) (o : Obj) : blk (w.alloc o) (hsz w) = some o := by simp [blk_alloc]
theorem blk_alloc_old {w : World} {o : Obj} {b : Nat} (h : b ≠ hsz w) : blk (w.alloc o) b = blk w b := by simp [blk_alloc, h]
theorem blk_alloc_some {w : World} {o x : Obj} {b : Nat} (h : blk w b = some x) : blk (w.alloc o) b = some x := by
  rw [blk_alloc_old (Nat.ne_of_lt (blk_lt h)), h]
theorem blk_setB (w : World) (b b' : Nat) (o : Obj) : blk (setB w b o) b' = if b = b' then (blk w b).map fun _ => o else blk w b' := by
  simp only [blk, setB, Array.getElem?_setIfInBounds]
  split
  · rename_i h
    subst h
    cases hb : w.heap[b]? with
    | none => simp at hb; simp [Nat.not_lt.2 hb]
    | some x => have : b < hsz w := (Array.getElem?_eq_some_iff.1 hb).1; simp [this]
  · rfl
theorem blk_setB_same {w : World} {b : Nat} {o x : Obj} (h : blk w b = some x) : blk (setB w b o) b = some o := by simp [blk_setB, h]
theorem blk_setB_other {w : World} {b b' : Nat} {o : Obj} (h : b ≠ b') : blk (setB w b o) b' = blk w b' := by simp [blk_setB, h]

theorem heap_ext {w w' : World} (h : w'.heap = w.heap) (b : Nat) : blk w' b = blk w b := by simp [blk, h]

/-- what a walk may change of the memory that was there: the blocks F. -/
structure Fr (F : List Nat) (w w' : World) : Prop where
  grow : hsz w ≤ hsz w'
  keep : ∀ b, b < hsz w → b ∉ F → blk w' b = blk w b
  rest : w'.os = w.os ∧ w'.tape = w.tape ∧ w'.output = w.output
theorem Fr.refl (F : List Nat) (w : World) : Fr F w w := ⟨Nat.le_refl _, fun _ _ _ => rfl, rfl, rfl, rfl⟩
theorem Fr.drew (F : List Nat) (w : World) : Fr F w w.drew := ⟨Nat.le_refl _, fun _ _ _ => rfl, rfl, rfl, rfl⟩
theorem Fr.alloc (F : List Nat) (w : World) (o : Obj) : Fr F w (w.alloc o) := ⟨by simp, fun b hb _ => blk_alloc_old (Nat.ne_of_lt hb), rfl, rfl, rfl⟩
theorem Fr.setB {F : List Nat} {w : World} {b : Nat} (h : b ∈ F ∨ hsz w ≤ b) (o : Obj) : Fr F w (setB w b o) :=
  ⟨by simp, fun c hc hn => blk_setB_other fun e => by subst e; rcases h with h | h; exact hn h; omega, rfl, rfl, rfl⟩
theorem Fr.trans {F G : List Nat} {w w1 w2 : World} (h : Fr F w w1) (h' : Fr G w1 w2) (hs : ∀ b ∈ G, b ∈ F ∨ hsz w ≤ b) : Fr F w w2 :=
  ⟨Nat.le_trans h.grow h'.grow, fun b hb hn => by
    rw [h'.keep b (Nat.lt_of_lt_of_le hb h.grow) (fun hg => (hs b hg).elim hn (fun h => by omega)), h.keep b hb hn],
    h'.rest.1.trans h.rest.1, h'.rest.2.1.trans h.rest.2.1, h'.rest.2.2.trans h.rest.2.2⟩
theorem Fr.trans' {F : List Nat} {w w1 w2 : World} (h : Fr F w w1) (h' : Fr F w1 w2) : Fr F w w2 := h.trans h' fun _ hb => .inl hb
theorem Fr.wider {F G : List Nat} {w w' : World} (h : Fr F w w') (hs : ∀ b ∈ F, b ∈ G) : Fr G w w' :=
  ⟨h.grow, fun b hb hn => h.keep b hb fun hf => hn (hs b hf), h.rest⟩
theorem Fr.nil {F : List Nat} {w w' : World} (h : Fr [] w w') : Fr F w w' := h.wider (by simp)
theorem Fr.some {F : List Nat} {w w' : World} (h : Fr F w w') {b : Nat} (hn : b ∉ F) {o : Obj} (hb : blk w b = some o) : blk w' b = some o := by
  rw [h.keep b (blk_lt hb) hn, hb]

@[simp] theorem cells_agg (cs : Array Value) : (Value.agg cs).cells = cs := rfl
@[simp] theorem cells_int (k : IntKind) (n : Int) : (Value.int k n).cells = #[.int k n] := rfl
@[simp] theorem cells_bool (b : Bool) : (Value.bool b).cells = #[.bool b] := rfl
@[simp] theorem cells_string (s : ByteArray) : (Value.string s).cells = #[.string s] := rfl
@[simp] theorem cells_pointer (a : Option Addr) : (Value.pointer a).cells = #[.pointer a] := rfl
@[simp] theorem cells_slice (a : Option Addr) (n c : Nat) : (Value.slice a n c).cells = #[.slice a n c] := rfl
@[simp] theorem cells_map (r : Option Nat) : (Value.map r).cells = #[.map r] := rfl
@[simp] theorem cells_func (f : Fn) (a b : Array Value) : (Value.func f a b).cells = #[.func f a b] := rfl
@[simp] theorem cells_nilFunc : Value.nilFunc.cells = #[.nilFunc] := rfl

/-! ## The words -/
theorem BND_step {α : Type} {o : Option α} {v : α} {k : α → Prop} (h : o = some v) (hk : k v) : BND o k := ⟨v, h, hk⟩
theorem JOIN_elim {α : Type} {f : α → Prop} {k : α} (h : ∀ K, K = k → f K) : JOIN f k := h k rfl
theorem GEF_elim {c : Bool} {f : (Value → World → Prop) → Prop} {w : World} {k : Value → World → Prop} (h : ∀ K, K = k → GEF c f w K) : GEF c f w k := h k rfl
@[simp] theorem COND_true (t e : Prop) : COND (.bool true) t e ↔ t := ⟨fun h => by cases h with | yes _ ht => exact ht | no h _ => simp at h, fun h => .yes rfl h⟩
@[simp] theorem COND_false (t e : Prop) : COND (.bool false) t e ↔ e := ⟨fun h => by cases h with | yes h _ => simp at h | no _ h => exact h, fun h => .no rfl h⟩
theorem COND_dec_true {p : Prop} [Decidable p] (h : p) {t e : Prop} (ht : t) : COND (.bool (decide p)) t e := .yes (by simp [h]) ht
theorem COND_dec_false {p : Prop} [Decidable p] (h : ¬ p) {t e : Prop} (he : e) : COND (.bool (decide p)) t e := .no (by simp [h]) he
theorem COND_bool (b : Bool) (t e : Prop) : COND (.bool b) t e ↔ if b = true then t else e := by cases b <;> simp
@[simp] theorem NEW_newv (T : Nat) (w : World) (v : Value) (k : Value → World → Prop) : NEW (newv T w v) k ↔ k (.pointer (some ⟨hsz w, 0, none⟩)) (w.alloc (.cells v.cells T)) :=
  ⟨fun h => h.h, fun h => ⟨h⟩⟩
@[simp] theorem NEW_newmap (w : World) (k : Value → World → Prop) : NEW (newmap w) k ↔ k (.map (some (hsz w))) (w.alloc (.map #[] 0)) := ⟨fun h => h.h, fun h => ⟨h⟩⟩
@[simp] theorem NEW_pair (v : Value) (w : World) (k : Value → World → Prop) : NEW (v, w) k ↔ k v w := ⟨fun h => h.h, fun h => ⟨h⟩⟩
theorem NEW_intro {T : Nat} {w : World} {v : Value} {k : Value → World → Prop} (h : ∀ w', blk w' (hsz w) = some (.cells v.cells T (0, 0)) → Fr [] w w' → hsz w' = hsz w + 1 → k (.pointer (some ⟨hsz w, 0, none⟩)) w') :
    NEW (newv T w v) k := (NEW_newv T w v k).2 (h _ (by simp) (Fr.alloc _ _ _) (by simp))
theorem NEWMAP_intro {w : World} {k : Value → World → Prop} (h : ∀ w', blk w' (hsz w) = some (.map #[] 0) → Fr [] w w' → hsz w' = hsz w + 1 → k (.map (some (hsz w))) w') :
    NEW (newmap w) k := (NEW_newmap w k).2 (h _ (by simp) (Fr.alloc _ _ _) (by simp))
theorem CALLV_func {P : Program} {f : Nat} {a b : Array Value} {args : List Value} {w : World} {k : Value → World → Prop} (hok : okCallee P f = true) :
    CALLV P (.func (.func f) a b) args w k ↔ CALL P f (a.toList ++ args ++ b.toList) w k :=
  ⟨fun ⟨g, x, y, h, _, hc⟩ => by cases h; exact hc, fun h => ⟨f, a, b, rfl, hok, h⟩⟩
theorem CALL_mono' {P : Program} {f : Nat} {args : List Value} {w : World} {k k' : Value → World → Prop} (h : CALL P f args w k) (hk : ∀ v w, k v w → k' v w) : CALL P f args w k' := CALL_mono hk h

@[simp] theorem nilchk_ptr (a : Addr) : nilchk (.pointer (some a)) = some (.pointer (some a)) := rfl
@[simp] theorem nilchk_func (f : Nat) (a b : Array Value) : nilchk (.func (.func f) a b) = some (.func (.func f) a b) := rfl
@[simp] theorem faddr_ptr (off b o : Nat) : faddr off (.pointer (some ⟨b, o, none⟩)) = some (.pointer (some ⟨b, o + off, none⟩)) := by
  unfold faddr Addr.add
  by_cases h : off = 0 <;> simp [h]
@[simp] theorem extractv_tuple (vs : Array Value) (i : Nat) : extractv (.tuple vs) i = vs[i]? := rfl
@[simp] theorem lenl_slice (a : Option Addr) (n c : Nat) : lenl (.slice a n c) = some (.int .i64 n) := rfl
@[simp] theorem lens_string (s : ByteArray) : lens (.string s) = some (.int .i64 s.size) := rfl
@[simp] theorem pickv_true (a b : Value) : pickv (.bool true) a b = some a := rfl
@[simp] theorem pickv_false (a b : Value) : pickv (.bool false) a b = some b := rfl
@[simp] theorem unv_not (b : Bool) : unv .not (.bool b) = some (.bool !b) := rfl
@[simp] theorem isB_bool (b c : Bool) : isB (.bool b) c = (b == c) := rfl
@[simp] theorem isB_tt : isB (.bool true) true = true := rfl
@[simp] theorem isB_tf : isB (.bool true) false = false := rfl
@[simp] theorem isB_ft : isB (.bool false) true = false := rfl
@[simp] theorem isB_ff : isB (.bool false) false = true := rfl
@[simp] theorem GEF_true (f : (Value → World → Prop) → Prop) (w : World) (k : Value → World → Prop) : GEF true f w k ↔ f k := ⟨fun h => h.yes rfl, fun h => ⟨fun _ => h, (fun hc => by cases hc)⟩⟩
@[simp] theorem GEF_false (f : (Value → World → Prop) → Prop) (w : World) (k : Value → World → Prop) : GEF false f w k ↔ k undef w := ⟨fun h => h.no rfl, fun h => ⟨(fun hc => by cases hc), fun _ => h⟩⟩
@[simp] theorem isB_undef (c : Bool) : isB undef c = false := rfl
@[simp] theorem grd_true (o : Option Value) : grd true o = o := rfl
@[simp] theorem grd_false (o : Option Value) : grd false o = some undef := rfl
theorem beq_dec (a b : Int) : (a == b) = decide (a = b) := by
  by_cases h : a = b <;> simp [h]
theorem binv_int (t : TK) (op : BinOp) (k : IntKind) (a b : Int) (h1 : op ≠ .shl) (h2 : op ≠ .shr) : binv t op (.int k a) (.int k b) = bini op k a b := by
  cases op <;> simp [binv] at * 
@[simp] theorem binv_lss (t : TK) (k : IntKind) (a b : Int) : binv t .lss (.int k a) (.int k b) = some (.bool (decide (a < b))) := by simp [binv, bini]
@[simp] theorem binv_leq (t : TK) (k : IntKind) (a b : Int) : binv t .leq (.int k a) (.int k b) = some (.bool (decide (a ≤ b))) := by simp [binv, bini]
@[simp] theorem binv_gtr (t : TK) (k : IntKind) (a b : Int) : binv t .gtr (.int k a) (.int k b) = some (.bool (decide (b < a))) := by simp [binv, bini]
@[simp] theorem binv_geq (t : TK) (k : IntKind) (a b : Int) : binv t .geq (.int k a) (.int k b) = some (.bool (decide (b ≤ a))) := by simp [binv, bini]
@[simp] theorem binv_eql (t : TK) (k : IntKind) (a b : Int) : binv t .eql (.int k a) (.int k b) = some (.bool (decide (a = b))) := by
  simp [binv, bini, beq_dec]
@[simp] theorem binv_neq (t : TK) (k : IntKind) (a b : Int) : binv t .neq (.int k a) (.int k b) = some (.bool (!decide (a = b))) := by
  simp [binv, bini, bne, beq_dec]
@[simp] theorem binv_add (t : TK) (k : IntKind) (a b : Int) : binv t .add (.int k a) (.int k b) = some (.int k (k.wrap (a + b))) := by simp [binv, bini]
@[simp] theorem binv_sub (t : TK) (k : IntKind) (a b : Int) : binv t .sub (.int k a) (.int k b) = some (.int k (k.wrap (a - b))) := by simp [binv, bini]
@[simp] theorem binv_mul (t : TK) (k : IntKind) (a b : Int) : binv t .mul (.int k a) (.int k b) = some (.int k (k.wrap (a * b))) := by simp [binv, bini]
theorem binv_quo (t : TK) (k : IntKind) (a b : Int) (h : b ≠ 0) : binv t .quo (.int k a) (.int k b) = some (.int k (k.wrap (a.tdiv b))) := by simp [binv, bini, h]
theorem binv_rem (t : TK) (k : IntKind) (a b : Int) (h : b ≠ 0) : binv t .rem (.int k a) (.int k b) = some (.int k (a.tmod b)) := by simp [binv, bini, h]
@[simp] theorem binv_eqb (a b : Bool) : binv .bool .eql (.bool a) (.bool b) = some (.bool (a == b)) := rfl
@[simp] theorem binv_neb (a b : Bool) : binv .bool .neq (.bool a) (.bool b) = some (.bool (a != b)) := rfl
@[simp] theorem binv_ptr_nil (a : Addr) : binv .ptr .eql (.pointer (some a)) (.pointer none) = some (.bool false) := rfl
@[simp] theorem binv_ptr_nnil (a : Addr) : binv .ptr .neq (.pointer (some a)) (.pointer none) = some (.bool true) := rfl
@[simp] theorem binv_nil_nil : binv .ptr .eql (.pointer none) (.pointer none) = some (.bool true) := rfl
@[simp] theorem binv_nil_nnil : binv .ptr .neq (.pointer none) (.pointer none) = some (.bool false) := rfl

theorem wrap_i64 {n : Int} (h : -9223372036854775808 ≤ n) (h' : n ≤ 9223372036854775807) : IntKind.i64.wrap n = n := by
  simp only [IntKind.wrap, IntKind.bits, IntKind.signed]
  simp
  omega
theorem wrap_u64 {n : Int} (h : 0 ≤ n) (h' : n < 18446744073709551616) : IntKind.u64.wrap n = n := by
  simp only [IntKind.wrap, IntKind.bits, IntKind.signed]
  simp
  omega

/-! ## Cells -/
theorem cell?_blk {w : World} {b : Nat} {c : Array Value} {T : Nat} {f : Nat × Nat} (h : blk w b = some (.cells c T f)) (o : Nat) : w.cell? ⟨b, o, none⟩ = c[o]? := by
  have h' : w.heap[b]? = some (.cells c T f) := h
  simp [World.cell?, h']
theorem add_none (b o i : Nat) : (⟨b, o, none⟩ : Addr).add i = ⟨b, o + i, none⟩ := by
  unfold Addr.add; by_cases h : i = 0 <;> simp [h]
theorem load1_blk {w : World} {b o : Nat} {c : Array Value} {T : Nat} {f : Nat × Nat} (h : blk w b = some (.cells c T f)) : load1 w (.pointer (some ⟨b, o, none⟩)) = c[o]? := cell?_blk h o
theorem loads_blk {w : World} {b o : Nat} {c : Array Value} {T : Nat} {f : Nat × Nat} (h : blk w b = some (.cells c T f)) : ∀ n i, o + i + n ≤ c.size →
    loads w ⟨b, o, none⟩ i n = some ((c.toList.drop (o + i)).take n)
  | 0, i, _ => by simp [loads]
  | n + 1, i, hs => by
    have hlt : o + i < c.size := by omega
    rw [loads, add_none, cell?_blk h, Array.getElem?_eq_getElem hlt, loads_blk h n (i + 1) (by omega)]
    simp only [Option.some.injEq]
    rw [List.drop_eq_getElem_cons (i := o + i) (by simpa using hlt), List.take_succ_cons]
    congr 1
theorem loadn_blk {w : World} {b o n : Nat} {c : Array Value} {T : Nat} {f : Nat × Nat} (h : blk w b = some (.cells c T f)) (hs : o + n ≤ c.size) :
    loadn n w (.pointer (some ⟨b, o, none⟩)) = some (.agg ((c.toList.drop o).take n).toArray) := by
  simp [loadn, loads_blk h n 0 (by simpa using hs)]

/-- cells laid over others, from a place on. -/
def splice (c : Array Value) (o : Nat) : List Value → Array Value
  | [] => c
  | v :: vs => splice (c.setIfInBounds o v) (o + 1) vs
@[simp] theorem size_splice : ∀ (vs : List Value) (c : Array Value) (o : Nat), (splice c o vs).size = c.size
  | [], c, o => rfl
  | v :: vs, c, o => by rw [splice, size_splice vs]; simp
theorem splice_get : ∀ (vs : List Value) (c : Array Value) (o i : Nat), o + vs.length ≤ c.size → (splice c o vs)[i]? = if o ≤ i ∧ i < o + vs.length then vs[i - o]? else c[i]?
  | [], c, o, i, _ => by
    have : ¬ (o ≤ i ∧ i < o + ([] : List Value).length) := by simp
    rw [if_neg this]; rfl
  | v :: vs, c, o, i, h => by
    simp only [List.length_cons] at h
    rw [splice, splice_get vs _ _ _ (by simp; omega)]
    by_cases h1 : o + 1 ≤ i ∧ i < o + 1 + vs.length
    · rw [if_pos h1, if_pos (by simp; omega)]
      obtain ⟨j, rfl⟩ : ∃ j, i = o + 1 + j := ⟨i - (o + 1), by omega⟩
      rw [show o + 1 + j - (o + 1) = j by omega, show o + 1 + j - o = j + 1 by omega]; rfl
    · rw [if_neg h1]
      by_cases h2 : i = o
      · subst h2
        rw [if_pos (by simp)]
        simp [show i < c.size by omega]
      · rw [if_neg (by simp; omega), Array.getElem?_setIfInBounds_ne (by omega)]

theorem setCell_setB {w : World} {b o : Nat} {c : Array Value} {T : Nat} {f : Nat × Nat} (h : blk w b = some (.cells c T f)) (v : Value) :
    w.setCell ⟨b, o, none⟩ v = setB w b (.cells (c.setIfInBounds o v) T f) := by
  unfold World.setCell setB
  congr 1
  apply Array.ext
  · simp
  · intro i h1 h2
    simp at h1
    have h' : w.heap[b]? = some (.cells c T f) := h
    by_cases hi : b = i
    · subst hi
      have := (Array.getElem?_eq_some_iff.1 h').2
      simp [Array.getElem_modify, this]
    · rw [Array.getElem_modify_of_ne hi, Array.getElem_setIfInBounds_ne _ hi]
theorem setB_setB (w : World) (b : Nat) (o o' : Obj) : setB (setB w b o) b o' = setB w b o' := by
  simp [setB]
theorem stores_blk {b o T : Nat} : ∀ (vs : List Value) (i : Nat) (w : World) (c : Array Value), blk w b = some (.cells c T (0, 0)) → (∀ v ∈ vs, v.oneCell' = true) → o + i + vs.length ≤ c.size → vs ≠ [] →
    stores w ⟨b, o, none⟩ i vs = some (setB w b (.cells (splice c (o + i) vs) T (0, 0)))
  | [], _, _, _, _, _, _, hn => absurd rfl hn
  | v :: vs, i, w, c, h, h1, hs, _ => by
    simp only [List.length_cons] at hs
    have hlt : o + i < c.size := by omega
    have hfr : w.frozen? ⟨b, o + i, none⟩ = false := by
      have h' : w.heap[b]? = some (.cells c T (0, 0)) := h
      simp [World.frozen?, h']
    rw [stores, if_pos (h1 v (by simp)), add_none, cell?_blk h, Array.getElem?_eq_getElem hlt]
    simp only [hfr, Bool.false_eq_true, if_false]
    rw [setCell_setB h]
    cases vs with
    | nil => simp [stores, splice]
    | cons u us =>
      rw [stores_blk (u :: us) (i + 1) _ (c.setIfInBounds (o + i) v) (blk_setB_same h) (fun x hx => h1 x (by simp [hx])) (by simp at *; omega) (by simp), setB_setB]
      rfl
theorem storev1_blk {w : World} {b o T : Nat} {c : Array Value} {v : Value} (h : blk w b = some (.cells c T (0, 0))) (ho : o < c.size) (hv : v.cells = #[v]) (h1 : v.oneCell' = true) :
    storev 1 w (.pointer (some ⟨b, o, none⟩)) v = some (setB w b (.cells (c.setIfInBounds o v) T (0, 0))) := by
  unfold storev
  rw [hv]
  simp only [List.size_toArray, List.length_cons, List.length_nil, if_true]
  rw [stores_blk [v] 0 w c h (by simpa using h1) (by simp; omega) (by simp)]
  rfl
theorem storevn_blk {w : World} {b o T n : Nat} {c : Array Value} {vs : List Value} (h : blk w b = some (.cells c T (0, 0))) (hn : vs.length = n) (hs : o + n ≤ c.size) (h1 : ∀ v ∈ vs, v.oneCell' = true) (hne : vs ≠ []) :
    storev n w (.pointer (some ⟨b, o, none⟩)) (.agg vs.toArray) = some (setB w b (.cells (splice c o vs) T (0, 0))) := by
  unfold storev
  simp only [Value.cells, List.size_toArray, hn, if_true]
  rw [stores_blk vs 0 w c h h1 (by omega) hne]
  rfl

theorem fold_splice (off : Nat) : ∀ (vs : List Value) (k : Nat) (cs : Array Value), (vs.zipIdx k).foldl (fun cs (x : Value × Nat) => cs.setIfInBounds (off + x.2) x.1) cs = splice cs (off + k) vs
  | [], k, cs => rfl
  | v :: vs, k, cs => by
    simp only [List.zipIdx_cons, List.foldl_cons, splice]
    exact fold_splice off vs (k + 1) _
theorem splice_all (cs : Array Value) (vs : List Value) (h : vs.length = cs.size) : splice cs 0 vs = vs.toArray := by
  apply Array.ext_getElem?
  intro i
  rw [splice_get _ _ _ _ (by omega)]
  by_cases hi : i < vs.length
  · rw [if_pos (by omega)]; simp
  · rw [if_neg (by omega), Array.getElem?_eq_none (by omega)]
    simp; omega
theorem newslice_one (E sz : Nat) (zero : Array Value) (vs : List Value) (hl : vs.length = sz) (w : World) :
    newslice E zero sz 1 [(0, sz, .agg vs.toArray)] w = some (.slice (some ⟨hsz w, 0, none⟩) 1 1, w.alloc (.cells vs.toArray E)) := by
  have h1 : (vs.toArray.zipIdx.foldl (fun cs (x : Value × Nat) => cs.setIfInBounds (0 + x.2) x.1) ((Array.range (1 * sz)).map (zero[· % zero.size]!))) = vs.toArray := by
    rw [← Array.foldl_toList, Array.toList_zipIdx, fold_splice 0 vs 0]
    exact splice_all _ _ (by simp [hl])
  have h3 : fillv ((Array.range (1 * sz)).map (zero[· % zero.size]!)) [(0, sz, .agg vs.toArray)] = some vs.toArray := by
    unfold fillv
    split
    · rename_i h; simp [hl] at h
    · exact congrArg some h1
  unfold newslice
  rw [h3]
  rfl

/-! ## Slices that are a row of their own -/
/-- the slice v has the things xs, each laid into sz cells, at the head of the block of F (none, of nil). -/
def Slc {α : Type} (enc : α → List Value) (sz : Nat) (w : World) (v : Value) (xs : List α) (F : List Nat) : Prop :=
  (v = .slice none 0 0 ∧ xs = [] ∧ F = []) ∨
  ∃ b cap c T, v = .slice (some ⟨b, 0, none⟩) xs.length cap ∧ blk w b = some (.cells c T (0, 0)) ∧ xs.length ≤ cap ∧ c.size = cap * sz ∧ F = [b] ∧
    ∀ i x, xs[i]? = some x → ∀ j, j < sz → c[i * sz + j]? = (enc x)[j]?
section
variable {α : Type} {enc : α → List Value} {sz : Nat} {w w' : World} {v : Value} {xs : List α} {F : List Nat} {b : Nat}
theorem Slc.lt (h : Slc enc sz w v xs F) : ∀ b ∈ F, b < hsz w := by
  rcases h with ⟨_, _, rfl⟩ | ⟨b, cap, c, T, _, hb, _, _, rfl, _⟩
  · simp
  · intro b' hb'; simp at hb'; subst hb'; exact blk_lt hb
theorem Slc.congr (h : Slc enc sz w v xs F) (hw : ∀ b ∈ F, blk w' b = blk w b) : Slc enc sz w' v xs F := by
  rcases h with h | ⟨b, cap, c, T, h1, hb, h2, h3, rfl, h4⟩
  · exact .inl h
  · exact .inr ⟨b, cap, c, T, h1, by rw [hw b (by simp), hb], h2, h3, rfl, h4⟩
theorem Slc.fr (h : Slc enc sz w v xs F) {G : List Nat} (hf : Fr G w w') (hd : ∀ b ∈ F, b ∉ G) : Slc enc sz w' v xs F :=
  h.congr fun b hb => hf.keep b (h.lt b hb) (hd b hb)
theorem Slc.one (h : Slc enc sz w v xs F) : v.cells = #[v] ∧ v.oneCell' = true := by
  rcases h with ⟨rfl, rfl, _⟩ | ⟨b, cap, c, T, rfl, _⟩ <;> exact ⟨rfl, rfl⟩
theorem Slc.len (h : Slc enc sz w v xs F) : lenl v = some (.int .i64 xs.length) := by
  rcases h with ⟨rfl, rfl, _⟩ | ⟨b, cap, c, T, rfl, _⟩ <;> rfl
theorem Slc.iaddr (h : Slc enc sz w v xs F) {i : Nat} (hi : i < xs.length) (k : IntKind) : ∃ b, F = [b] ∧ Den.iaddr sz v (.int k (i : Int)) = some (.pointer (some ⟨b, i * sz, none⟩)) := by
  rcases h with ⟨_, rfl, _⟩ | ⟨b, cap, c, T, rfl, _, _, _, rfl, _⟩
  · simp at hi
  · refine ⟨b, rfl, ?_⟩
    simp [Den.iaddr, hi, add_none]
theorem Slc.cells (h : Slc enc sz w v xs F) {b : Nat} (hF : F = [b]) : ∃ cap c T, v = .slice (some ⟨b, 0, none⟩) xs.length cap ∧ blk w b = some (.cells c T (0, 0)) ∧ xs.length ≤ cap ∧ c.size = cap * sz ∧
    ∀ i x, xs[i]? = some x → ∀ j, j < sz → c[i * sz + j]? = (enc x)[j]? := by
  rcases h with ⟨_, _, rfl⟩ | ⟨b', cap, c, T, h1, h2, h3, h4, rfl, h5⟩
  · simp at hF
  · simp at hF; subst hF; exact ⟨cap, c, T, h1, h2, h3, h4, h5⟩
theorem idx_lt {i n cap sz j : Nat} (hi : i < n) (hn : n ≤ cap) (hj : j < sz) : i * sz + j < cap * sz := by
  have : (i + 1) * sz ≤ cap * sz := Nat.mul_le_mul_right _ (by omega)
  rw [Nat.succ_mul] at this
  omega
theorem Slc.load1 (h : Slc enc sz w v xs [b]) {i j : Nat} {x : α} (hx : xs[i]? = some x) (hj : j < sz) : Den.load1 w (.pointer (some ⟨b, i * sz + j, none⟩)) = (enc x)[j]? := by
  obtain ⟨cap, c, T, _, hb, _, _, he⟩ := h.cells rfl
  rw [load1_blk hb, he i x hx j hj]
theorem Slc.loadn (h : Slc enc sz w v xs [b]) {i : Nat} {x : α} (hx : xs[i]? = some x) (he : (enc x).length = sz) : Den.loadn sz w (.pointer (some ⟨b, i * sz, none⟩)) = some (.agg (enc x).toArray) := by
  obtain ⟨cap, c, T, _, hb, hc, hs, hel⟩ := h.cells rfl
  have hi : i < xs.length := (List.getElem?_eq_some_iff.1 hx).1
  have hle : i * sz + sz ≤ c.size := by
    have : (i + 1) * sz ≤ cap * sz := Nat.mul_le_mul_right _ (by omega)
    rw [Nat.succ_mul] at this; omega
  rw [loadn_blk hb hle]
  have : (c.toList.drop (i * sz)).take sz = enc x := by
    apply List.ext_getElem?
    intro j
    rw [List.getElem?_take]
    split
    · rename_i hj
      rw [List.getElem?_drop]
      have := hel i x hx j hj
      simpa using this
    · rename_i hj
      exact (List.getElem?_eq_none (by omega)).symm
  rw [this]
theorem Fr.of_set {w w' : World} {b : Nat} (h : Fr [b] w w') (_ : ∀ b', b' ≠ b → blk w' b' = blk w b') : Fr [b] w w' := h
theorem Slc.set (h : Slc enc sz w v xs [b]) {i : Nat} {x : α} (hi : i < xs.length) (hl : (enc x).length = sz) (h1 : ∀ u ∈ enc x, u.oneCell' = true) (hz : 0 < sz) :
    ∃ w', storev sz w (.pointer (some ⟨b, i * sz, none⟩)) (.agg (enc x).toArray) = some w' ∧ Slc enc sz w' v (xs.set i x) [b] ∧ Fr [b] w w' ∧ ∀ b', b' ≠ b → blk w' b' = blk w b' := by
  obtain ⟨cap, c, T, hv, hb, hc, hs, hel⟩ := h.cells rfl
  have hle : i * sz + sz ≤ c.size := by
    have : (i + 1) * sz ≤ cap * sz := Nat.mul_le_mul_right _ (by omega)
    rw [Nat.succ_mul] at this; omega
  refine ⟨_, storevn_blk hb hl hle h1 (by intro e; rw [e] at hl; simp at hl; omega), ?_, Fr.setB (.inl (by simp)) _, fun b' hb' => blk_setB_other (Ne.symm hb')⟩
  refine .inr ⟨b, cap, _, T, by simpa using hv, blk_setB_same hb, by simpa using hc, by simpa using hs, rfl, fun k y hy j hj => ?_⟩
  rw [splice_get _ _ _ _ (by omega), hl]
  by_cases hki : k = i
  · subst hki
    rw [if_pos (by omega)]
    simp [hi] at hy; subst hy
    congr 1; omega
  · rw [List.getElem?_set_ne (Ne.symm hki)] at hy
    rw [if_neg, hel k y hy j hj]
    rintro ⟨h3, h4⟩
    rcases Nat.lt_or_ge k i with hk | hk
    · have : (k + 1) * sz ≤ i * sz := Nat.mul_le_mul_right _ (by omega)
      rw [Nat.succ_mul] at this; omega
    · have : (i + 1) * sz ≤ k * sz := Nat.mul_le_mul_right _ (by omega)
      rw [Nat.succ_mul] at this; omega
theorem Slc.set1 (h : Slc enc sz w v xs [b]) {i j : Nat} {x y : α} {u : Value} (hx : xs[i]? = some x) (hj : j < sz) (hy : ∀ m, m < sz → (enc y)[m]? = if m = j then some u else (enc x)[m]?)
    (hu : u.cells = #[u]) (h1 : u.oneCell' = true) :
    ∃ w', storev 1 w (.pointer (some ⟨b, i * sz + j, none⟩)) u = some w' ∧ Slc enc sz w' v (xs.set i y) [b] ∧ Fr [b] w w' ∧ ∀ b', b' ≠ b → blk w' b' = blk w b' := by
  obtain ⟨cap, c, T, hv, hb, hc, hs, hel⟩ := h.cells rfl
  have hi : i < xs.length := (List.getElem?_eq_some_iff.1 hx).1
  have hlt : i * sz + j < c.size := by rw [hs]; exact idx_lt hi hc hj
  refine ⟨_, storev1_blk hb hlt hu h1, ?_, Fr.setB (.inl (by simp)) _, fun b' hb' => blk_setB_other (Ne.symm hb')⟩
  refine .inr ⟨b, cap, _, T, by simpa using hv, blk_setB_same hb, by simpa using hc, by simpa using hs, rfl, fun k z hz m hm => ?_⟩
  rw [Array.getElem?_setIfInBounds]
  by_cases hki : k = i
  · subst hki
    simp [hi] at hz; subst hz
    rw [hy m hm]
    by_cases hmj : m = j
    · subst hmj; simp [hlt]
    · rw [if_neg (by omega), if_neg hmj]
      exact hel k x hx m hm
  · rw [List.getElem?_set_ne (Ne.symm hki)] at hz
    rw [if_neg, hel k z hz m hm]
    intro e
    rcases Nat.lt_or_ge k i with hk | hk
    · have : (k + 1) * sz ≤ i * sz := Nat.mul_le_mul_right _ (by omega)
      rw [Nat.succ_mul] at this; omega
    · have : (i + 1) * sz ≤ k * sz := Nat.mul_le_mul_right _ (by omega)
      rw [Nat.succ_mul] at this; omega
end

/-! ## Slices that came in: read alone -/
/-- the slice v reads as xs, each of sz cells. -/
def Arr {α : Type} (enc : α → List Value) (sz : Nat) (w : World) (v : Value) (xs : List α) : Prop :=
  ∃ a cap, v = .slice a xs.length cap ∧ (xs = [] ∨ ∃ b o c T fz, a = some ⟨b, o, none⟩ ∧ blk w b = some (.cells c T fz) ∧
    ∀ i x, xs[i]? = some x → o + i * sz + sz ≤ c.size ∧ ∀ j, j < sz → c[o + i * sz + j]? = (enc x)[j]?)
section
variable {α : Type} {enc : α → List Value} {sz : Nat} {w w' : World} {v : Value} {xs : List α}
theorem Arr.fr (h : Arr enc sz w v xs) {F : List Nat} (hf : Fr F w w') (hF : ∀ b ∈ F, hsz w ≤ b) : Arr enc sz w' v xs := by
  obtain ⟨a, cap, rfl, h⟩ := h
  refine ⟨a, cap, rfl, ?_⟩
  rcases h with h | ⟨b, o, c, T, fz, h1, h2, h3⟩
  · exact .inl h
  · refine .inr ⟨b, o, c, T, fz, h1, hf.some (fun hb => ?_) h2, h3⟩
    have := blk_lt h2; have := hF b hb; omega
theorem Arr.len (h : Arr enc sz w v xs) : lenl v = some (.int .i64 xs.length) := by
  obtain ⟨a, cap, rfl, _⟩ := h; rfl
/-- 'x := v[i]': where it stands, and what is read there. -/
theorem Arr.at (h : Arr enc sz w v xs) {i : Nat} {x : α} (hx : xs[i]? = some x) (he : (enc x).length = sz) (k : IntKind) :
    ∃ p, Den.iaddr sz v (.int k (i : Int)) = some p ∧ Den.loadn sz w p = some (.agg (enc x).toArray) ∧ (∀ j, j < sz → ∃ q, faddr j p = some q ∧ Den.load1 w q = (enc x)[j]?) := by
  obtain ⟨a, cap, rfl, h⟩ := h
  have hi : i < xs.length := (List.getElem?_eq_some_iff.1 hx).1
  rcases h with rfl | ⟨b, o, c, T, fz, rfl, h2, h3⟩
  · simp at hi
  · obtain ⟨h4, h5⟩ := h3 i x hx
    refine ⟨.pointer (some ⟨b, o + i * sz, none⟩), by simp [Den.iaddr, hi, add_none], ?_, fun j hj => ⟨_, faddr_ptr _ _ _, ?_⟩⟩
    · rw [loadn_blk h2 h4]
      have : (c.toList.drop (o + i * sz)).take sz = enc x := by
        apply List.ext_getElem?
        intro j
        rw [List.getElem?_take]
        split
        · rename_i hj
          rw [List.getElem?_drop]
          simpa using h5 j hj
        · rename_i hj
          exact (List.getElem?_eq_none (by omega)).symm
      rw [this]
    · rw [load1_blk h2]; exact h5 j hj
end
/-- a variable that is made and at once given a struct. -/
theorem box_step {T n : Nat} {w : World} {zs vs : List Value} {k : Value → World → Prop} (hz : zs.length = n) (hv : vs.length = n) (h1 : ∀ u ∈ vs, u.oneCell' = true) (hn : vs ≠ [])
    (h : ∀ w', blk w' (hsz w) = some (.cells vs.toArray T (0, 0)) → Fr [] w w' → hsz w' = hsz w + 1 → k (.pointer (some ⟨hsz w, 0, none⟩)) w') :
    NEW (newv T w (.agg zs.toArray)) fun o w4 => BND (storev n w4 o (.agg vs.toArray)) fun w5 => k o w5 := by
  refine NEW_intro fun w4 b4 f4 z4 => ?_
  refine BND_step (storevn_blk (o := 0) b4 hv (by simp; omega) h1 hn) ?_
  have he : splice zs.toArray 0 vs = vs.toArray := splice_all _ _ (by simp; omega)
  simp only [cells_agg]
  rw [he]
  exact h _ (blk_setB_same b4) (f4.trans (Fr.setB (F := [hsz w]) (.inl (by simp)) _) (by simp)) (by simp [z4])

/-! ## append, x[:n], on such slices -/
section
variable {α : Type} {enc : α → List Value} {sz : Nat} {w w' : World} {v : Value} {xs ys : List α} {F G : List Nat} {b : Nat}
/-- the cells of the things, one behind the other. -/
def flat (enc : α → List Value) (xs : List α) : List Value := xs.flatMap enc
theorem flat_len (hl : ∀ x, (enc x).length = sz) : ∀ xs : List α, (flat enc xs).length = xs.length * sz
  | [] => by simp [flat]
  | x :: xs => by
    have := flat_len hl xs
    simp only [flat, List.flatMap_cons, List.length_append, hl, List.length_cons] at *
    rw [this, Nat.succ_mul]; omega
theorem flat_get (hl : ∀ x, (enc x).length = sz) : ∀ (xs : List α) (i : Nat) (x : α) (j : Nat), xs[i]? = some x → j < sz → (flat enc xs)[i * sz + j]? = (enc x)[j]?
  | [], i, x, j, h, _ => by simp at h
  | y :: ys, 0, x, j, h, hj => by
    simp at h; subst h
    simp only [flat, List.flatMap_cons, Nat.zero_mul, Nat.zero_add]
    rw [List.getElem?_append_left (by rw [hl]; exact hj)]
  | y :: ys, i + 1, x, j, h, hj => by
    have := flat_get hl ys i x j (by simpa using h) hj
    simp only [flat, List.flatMap_cons] at *
    rw [List.getElem?_append_right (by rw [hl, Nat.succ_mul]; omega), hl, ← this]
    congr 1
    rw [Nat.succ_mul]; omega
theorem flat_one (hl1 : ∀ x, ∀ u ∈ enc x, u.oneCell' = true) (xs : List α) : ∀ u ∈ flat enc xs, u.oneCell' = true := by
  intro u hu
  obtain ⟨x, _, hx⟩ := List.mem_flatMap.1 hu
  exact hl1 x u hx
theorem app_get (A B : List Value) (C : Array Value) {n : Nat} (h : n < (A ++ B).length) : (A.toArray ++ B.toArray ++ C)[n]? = (A ++ B)[n]? := by
  have e : A.toArray ++ B.toArray = (A ++ B).toArray := by simp
  rw [e, Array.getElem?_append_left (by simpa using h)]
  simp
theorem flat_append (xs ys : List α) : flat enc (xs ++ ys) = flat enc xs ++ flat enc ys := by simp [flat]
theorem Slc.loads (h : Slc enc sz w v xs F) (hl : ∀ x, (enc x).length = sz) : cellsOfArg w sz v = some (flat enc xs, xs.length) := by
  rcases h with ⟨rfl, rfl, _⟩ | ⟨b, cap, c, T, rfl, hb, hc, hs, rfl, hel⟩
  · rfl
  · have hle : 0 + 0 + xs.length * sz ≤ c.size := by rw [hs]; simpa using Nat.mul_le_mul_right sz hc
    simp only [cellsOfArg, loads_blk hb _ 0 hle, Option.map_some]
    congr 2
    apply List.ext_getElem?
    intro m
    rw [List.getElem?_take]
    split
    · rename_i hm
      have hz : 0 < sz := by rcases Nat.eq_zero_or_pos sz with h0 | h0; simp [h0] at hm; exact h0
      have hi : m / sz < xs.length := Nat.div_lt_of_lt_mul (by rwa [Nat.mul_comm] at hm)
      have h1 := hel (m / sz) xs[m / sz] (List.getElem?_eq_getElem hi) (m % sz) (Nat.mod_lt _ hz)
      have h2 := flat_get hl xs (m / sz) xs[m / sz] (m % sz) (List.getElem?_eq_getElem hi) (Nat.mod_lt _ hz)
      rw [Nat.mul_comm, Nat.div_add_mod] at h1 h2
      simp [h1, h2]
    · rename_i hm
      exact (List.getElem?_eq_none (by rw [flat_len hl]; omega)).symm
/-- 'append(v, u...)': the things of both; in the block that v had, or in a new one. -/
theorem APPEND_slc {E bytes : Nat} {zero u : Value} {k : Value → World → Prop} (hv : Slc enc sz w v xs F) (hu : cellsOfArg w sz u = some (flat enc ys, ys.length)) (hl : ∀ x, (enc x).length = sz)
    (hl1 : ∀ x, ∀ u ∈ enc x, u.oneCell' = true) (hz : zero.cells.size = sz) (hb : (xs.length + ys.length) * bytes ≤ 140737488355328) (hmax : xs.length + ys.length ≤ 9223372036854775807)
    (hk : ∀ v' w' F', Slc enc sz w' v' (xs ++ ys) F' → Fr F w w' → (∀ b ∈ F', b ∈ F ∨ hsz w ≤ b) → k v' w') : APPEND E sz bytes zero v u w k := by
  refine ⟨?_⟩
  have hlo := hv.loads hl
  unfold APPENDS
  rcases hv with ⟨rfl, rfl, rfl⟩ | ⟨b, cap, c, T, rfl, hb', hc, hs, rfl, hel⟩
  · simp only [hu]
    split
    · rename_i h0
      have hy : ys = [] := by cases ys with
        | nil => rfl
        | cons y ys => simp at h0
      subst hy
      exact hk _ _ [] (.inl ⟨rfl, rfl, rfl⟩) (Fr.refl _ _) (by simp)
    · rename_i h0
      refine ⟨?_, ?_, ?_⟩
      · simp at hmax ⊢
        have : (IntKind.i64.max : Int) = 9223372036854775807 := by decide
        omega
      · simp only [Nat.zero_add]
        exact growslice_fits (by omega) (by simpa using hb)
      · rw [hlo]
        simp only [BND_some]
        intro cp w' hcp hh hrest
        have hsz' : hsz w' = hsz w := by unfold hsz; rw [hh]
        have heq : w'.heap = w.heap := hh
        refine hk _ _ [hsz w] (.inr ⟨hsz w, cp, _, E, by simp, by rw [← hsz']; exact blk_alloc_new _ _, by simpa using hcp, ?_, rfl, ?_⟩) ⟨by simp [hsz'], fun b hb1 _ => ?_, hrest.1, hrest.2.1, hrest.2.2⟩ (by simp)
        · simp only [Array.size_append, List.size_toArray, flat_len hl, Builtin.zeroCells, Array.size_map, Array.size_range, hz, List.length_nil, Nat.zero_mul, Nat.zero_add]
          rw [← Nat.add_mul]
          congr 1; simp at hcp; omega
        · intro i x hx j hj
          have h3 := flat_get hl ([] ++ ys) i x j hx hj
          have h4 := flat_len (enc := enc) hl ([] ++ ys)
          have hi : i < ([] ++ ys).length := (List.getElem?_eq_some_iff.1 hx).1
          have h5 : i * sz + j < (flat enc ([] ++ ys)).length := by rw [h4]; exact idx_lt hi (Nat.le_refl _) hj
          rw [← h3]
          rw [flat_append] at h5 ⊢
          exact app_get _ _ _ h5
        · rw [blk_alloc_old (by omega), heap_ext heq]
  · simp only [hu]
    split
    · rename_i hle
      have hbnd : xs.length * sz + (ys.length * sz) ≤ c.size := by
        rw [hs, ← Nat.add_mul]; exact Nat.mul_le_mul_right _ hle
      have hadd : (⟨b, 0, none⟩ : Addr).add (xs.length * sz) = ⟨b, xs.length * sz, none⟩ := by rw [add_none, Nat.zero_add]
      rw [hadd]
      by_cases hy : flat enc ys = []
      · have hys : ys.length * sz = 0 := by rw [← flat_len hl, hy]; rfl
        rw [hy]
        simp only [stores, BND_some]
        refine hk _ _ [b] (.inr ⟨b, cap, c, T, by simp, hb', by simpa using hle, hs, rfl, fun i x hx j hj => ?_⟩) (Fr.refl _ _) (fun _ h => .inl h)
        have hj0 : 0 < sz := by omega
        have : ys = [] := by
          cases ys with
          | nil => rfl
          | cons y ys => simp [Nat.succ_mul] at hys; omega
        subst this
        exact hel i x (by simpa using hx) j hj
      · rw [stores_blk (flat enc ys) 0 w c hb' (flat_one hl1 ys) (by rw [flat_len hl]; omega) hy]
        simp only [BND_some]
        refine hk _ _ [b] (.inr ⟨b, cap, _, T, by simp, blk_setB_same hb', by simpa using hle, by simpa using hs, rfl, fun i x hx j hj => ?_⟩) (Fr.setB (.inl (by simp)) _) (fun _ h => .inl h)
        rw [Nat.add_zero, splice_get _ _ _ _ (by rw [flat_len hl]; omega), flat_len hl]
        by_cases hi : i < xs.length
        · rw [List.getElem?_append_left hi] at hx
          have := idx_lt hi (Nat.le_refl _) hj
          rw [if_neg (by omega)]
          exact hel i x hx j hj
        · rw [List.getElem?_append_right (by omega)] at hx
          have hi2 : i - xs.length < ys.length := (List.getElem?_eq_some_iff.1 hx).1
          have h5 := idx_lt hi2 (Nat.le_refl _) hj
          have h6 : i * sz + j = xs.length * sz + ((i - xs.length) * sz + j) := by
            have : i = xs.length + (i - xs.length) := by omega
            rw [← Nat.add_assoc, ← Nat.add_mul, ← this]
          rw [if_pos (by omega), h6, Nat.add_sub_cancel_left]
          exact flat_get hl ys _ x j hx hj
    · rename_i hle
      refine ⟨?_, ?_, ?_⟩
      · have : (IntKind.i64.max : Int) = 9223372036854775807 := by decide
        omega
      · exact growslice_fits (by omega) hb
      · rw [hlo]
        simp only [BND_some]
        intro cp w' hcp hh hrest
        have hsz' : hsz w' = hsz w := by unfold hsz; rw [hh]
        have heq : w'.heap = w.heap := hh
        refine hk _ _ [hsz w] (.inr ⟨hsz w, cp, _, E, by simp, by rw [← hsz']; exact blk_alloc_new _ _, by simpa using hcp, ?_, rfl, ?_⟩) ⟨by simp [hsz'], fun b hb1 _ => ?_, hrest.1, hrest.2.1, hrest.2.2⟩ (by simp)
        · simp only [Array.size_append, List.size_toArray, flat_len hl, Builtin.zeroCells, Array.size_map, Array.size_range, hz]
          rw [← Nat.add_mul, ← Nat.add_mul]
          congr 1; omega
        · intro i x hx j hj
          have h3 := flat_get hl (xs ++ ys) i x j hx hj
          have h4 := flat_len (enc := enc) hl (xs ++ ys)
          have hi : i < (xs ++ ys).length := (List.getElem?_eq_some_iff.1 hx).1
          have h5 : i * sz + j < (flat enc (xs ++ ys)).length := by rw [h4]; exact idx_lt hi (Nat.le_refl _) hj
          rw [← h3]
          rw [flat_append] at h5 ⊢
          exact app_get _ _ _ h5
        · rw [blk_alloc_old (by omega), heap_ext heq]
/-- 'v[:n]'. -/
theorem Slc.take (h : Slc enc sz w v xs F) {n : Nat} (hn : n ≤ xs.length) (hpos : 0 < xs.length) (k : IntKind) : ∃ v', slicev sz v none (some (.int k (n : Int))) = some v' ∧ Slc enc sz w v' (xs.take n) F := by
  rcases h with ⟨_, rfl, _⟩ | ⟨b, cap, c, T, rfl, hb, hc, hs, rfl, hel⟩
  · simp at hpos
  · have h1 : n ≤ cap := by omega
    refine ⟨.slice (some ⟨b, 0, none⟩) n cap, ?_, .inr ⟨b, cap, c, T, by simp [Nat.min_eq_left hn], hb, by simp; omega, hs, rfl, fun i x hx j hj => ?_⟩⟩
    · simp [slicev, natOf, h1, Addr.add]
    · rw [List.getElem?_take] at hx
      split at hx
      · exact hel i x hx j hj
      · simp at hx
end

/-! ## Maps -/
structure KeyOk {κ : Type} (kd : TypeDesc) (enc : κ → Value) [DecidableEq κ] : Prop where
  same : ∀ a b, Instr.sameNow kd (enc a) (enc b) = some (decide (a = b))
  bits : ∀ a, Instr.sameBits 10000 (enc a) (enc a) = true
theorem keyInt (k : IntKind) : KeyOk (.int k) (fun n : Int => Value.int k n) :=
  ⟨fun a b => by simp [Instr.sameNow, beq_dec], fun a => by simp [Instr.sameBits]⟩
theorem ba_beq (a b : ByteArray) : (a == b) = decide (a = b) := by
  have h : (a == b) = (a.data == b.data) := rfl
  rw [h]
  by_cases hab : a = b
  · subst hab; simp
  · have : a.data ≠ b.data := fun e => hab (ByteArray.ext e)
    simp [hab, this]
theorem keyStr : KeyOk .string (fun s : ByteArray => Value.string s) :=
  ⟨fun a b => by simp [Instr.sameNow, ba_beq], fun a => by simp [Instr.sameBits, ba_beq]⟩

/-- the entries read as the pairs L: each key once. -/
structure MapL {κ : Type} (enc : κ → Value) (es : Array MapEntry) (L : List (κ × Value)) : Prop where
  ents : es.toList.map (fun e => (e.key, e.val)) = L.map fun p => (enc p.1, p.2)
  once : (L.map (·.1)).Nodup
section
variable {κ : Type} [DecidableEq κ] {enc : κ → Value} {kd : TypeDesc} {es : Array MapEntry} {L : List (κ × Value)}
def findL : List (κ × Value) → κ → Nat → Option (Nat × Value)
  | [], _, _ => none
  | (k', v) :: r, k, i => if k = k' then some (i, v) else findL r k (i + 1)
def lk (L : List (κ × Value)) (k : κ) : Option Value := (findL L k 0).map (·.2)
def insL : List (κ × Value) → κ → Value → List (κ × Value)
  | [], k, v => [(k, v)]
  | (k', v') :: r, k, v => if k = k' then (k, v) :: r else (k', v') :: insL r k v
def delL : List (κ × Value) → κ → List (κ × Value)
  | [], _ => []
  | (k', v') :: r, k => if k = k' then r else (k', v') :: delL r k
theorem findNow_L (hk : KeyOk kd enc) (k : κ) : ∀ (es : List MapEntry) (L : List (κ × Value)) (i : Nat), es.map (fun e => (e.key, e.val)) = L.map (fun p => (enc p.1, p.2)) →
    Instr.findNow kd (enc k) es i = some (findL L k i)
  | [], L, i, h => by
    have : L = [] := by simpa using h.symm
    subst this; rfl
  | e :: es, L, i, h => by
    cases L with
    | nil => simp at h
    | cons p L =>
      obtain ⟨k', v'⟩ := p
      simp only [List.map_cons, List.cons.injEq, Prod.mk.injEq] at h
      obtain ⟨⟨h1, h2⟩, h3⟩ := h
      simp only [Instr.findNow, h1, hk.same, findL]
      by_cases hkk : k = k'
      · simp [hkk, h2]
      · simp [hkk, findNow_L hk k es L (i + 1) h3]
theorem mfind_L (hk : KeyOk kd enc) (h : MapL enc es L) (k : κ) : mfind kd (enc k) es = some (findL L k 0) := findNow_L hk k _ _ _ h.ents
theorem findL_some {k : κ} {v : Value} {j : Nat} : ∀ {L : List (κ × Value)} {s : Nat}, findL L k s = some (j, v) → ∃ i, j = s + i ∧ L[i]? = some (k, v) ∧ (∀ u, insL L k u = L.set i (k, u)) ∧ delL L k = L.eraseIdx i
  | [], s, h => by simp [findL] at h
  | (k', v') :: L, s, h => by
    simp only [findL] at h
    by_cases hkk : k = k'
    · simp [hkk] at h
      obtain ⟨rfl, rfl⟩ := h
      exact ⟨0, by simp [hkk, insL, delL]⟩
    · rw [if_neg hkk] at h
      obtain ⟨i, h1, h2, h3, h4⟩ := findL_some h
      refine ⟨i + 1, by omega, by simpa using h2, fun u => by simp [insL, hkk, h3], by simp [delL, hkk, h4]⟩
theorem findL_none {k : κ} : ∀ {L : List (κ × Value)} {s : Nat}, findL L k s = none → k ∉ L.map (·.1) ∧ (∀ u, insL L k u = L ++ [(k, u)]) ∧ delL L k = L
  | [], s, _ => by simp [insL, delL]
  | (k', v') :: L, s, h => by
    simp only [findL] at h
    by_cases hkk : k = k'
    · simp [hkk] at h
    · rw [if_neg hkk] at h
      obtain ⟨h1, h2, h3⟩ := findL_none h
      refine ⟨?_, fun u => by simp [insL, hkk, h2], by simp [delL, hkk, h3]⟩
      simp only [List.map_cons, List.mem_cons, not_or]
      exact ⟨hkk, h1⟩
theorem lk_cons (k' : κ) (v' : Value) (L : List (κ × Value)) (k : κ) : lk ((k', v') :: L) k = if k = k' then some v' else lk L k := by
  have hsh : ∀ (L : List (κ × Value)) s t, (findL L k s).map (·.2) = (findL L k t).map (·.2) := by
    intro L
    induction L with
    | nil => intro s t; rfl
    | cons p L ih =>
      intro s t
      obtain ⟨a, b⟩ := p
      simp only [findL]
      split
      · rfl
      · exact ih _ _
  simp only [lk, findL]
  split
  · rfl
  · exact hsh L _ _
theorem lk_nil (k : κ) : lk ([] : List (κ × Value)) k = none := rfl
theorem lk_ins (L : List (κ × Value)) (k k2 : κ) (v : Value) : lk (insL L k v) k2 = if k2 = k then some v else lk L k2 := by
  induction L with
  | nil => simp only [insL, lk_cons, lk_nil]
  | cons p L ih =>
    obtain ⟨a, b⟩ := p
    simp only [insL]
    by_cases h : k = a
    · subst h
      simp only [if_true, lk_cons]
      split <;> rfl
    · rw [if_neg h, lk_cons, lk_cons, ih]
      by_cases h2 : k2 = a
      · subst h2
        rw [if_pos rfl, if_pos rfl, if_neg (fun e => h e.symm)]
      · rw [if_neg h2, if_neg h2]
theorem lk_mem {L : List (κ × Value)} {k : κ} : (lk L k).isSome ↔ k ∈ L.map (·.1) := by
  induction L with
  | nil => simp [lk_nil]
  | cons p L ih =>
    obtain ⟨a, b⟩ := p
    rw [lk_cons]
    by_cases h : k = a
    · simp [h]
    · rw [if_neg h, ih]; simp [h]
theorem lk_del {L : List (κ × Value)} (hn : (L.map (·.1)).Nodup) (k k2 : κ) : lk (delL L k) k2 = if k2 = k then none else lk L k2 := by
  induction L with
  | nil => simp [delL, lk_nil]
  | cons p L ih =>
    obtain ⟨a, b⟩ := p
    simp only [List.map_cons, List.nodup_cons] at hn
    simp only [delL]
    by_cases h : k = a
    · subst h
      rw [if_pos rfl, lk_cons]
      by_cases h2 : k2 = k
      · subst h2
        rw [if_pos rfl]
        have : ¬ (lk L k2).isSome := fun hh => hn.1 (lk_mem.1 hh)
        cases hl : lk L k2 with
        | none => rfl
        | some x => rw [hl] at this; simp at this
      · rw [if_neg h2, if_neg h2]
    · rw [if_neg h, lk_cons, lk_cons, ih hn.2]
      by_cases h2 : k2 = a
      · subst h2
        rw [if_pos rfl, if_pos rfl, if_neg (fun e => h e.symm)]
      · rw [if_neg h2, if_neg h2]
theorem keys_ins (L : List (κ × Value)) (k : κ) (v : Value) : (insL L k v).map (·.1) = if k ∈ L.map (·.1) then L.map (·.1) else L.map (·.1) ++ [k] := by
  induction L with
  | nil => simp [insL]
  | cons p L ih =>
    obtain ⟨a, b⟩ := p
    simp only [insL]
    by_cases h : k = a
    · simp [h]
    · rw [if_neg h]
      simp only [List.map_cons, List.mem_cons, h, false_or, ih]
      split <;> simp
theorem keys_del (L : List (κ × Value)) (k : κ) : (delL L k).map (·.1) = (L.map (·.1)).erase k := by
  induction L with
  | nil => simp [delL]
  | cons p L ih =>
    obtain ⟨a, b⟩ := p
    simp only [delL]
    by_cases h : k = a
    · subst h; simp
    · rw [if_neg h]
      simp only [List.map_cons, ih]
      rw [List.erase_cons_tail]
      simpa using fun e => h e.symm
theorem once_ins {L : List (κ × Value)} (h : (L.map (·.1)).Nodup) (k : κ) (v : Value) : ((insL L k v).map (·.1)).Nodup := by
  rw [keys_ins]
  split
  · exact h
  · rename_i hn
    rw [List.nodup_append]
    exact ⟨h, by simp, fun a ha b hb => by simp at hb; subst hb; exact fun e => hn (e ▸ ha)⟩
theorem once_del {L : List (κ × Value)} (h : (L.map (·.1)).Nodup) (k : κ) : ((delL L k).map (·.1)).Nodup := by
  rw [keys_del]; exact h.erase k

omit [DecidableEq κ] in
theorem MapL.size (h : MapL enc es L) : es.size = L.length := by
  have := congrArg List.length h.ents
  simpa using this
theorem mapOf_blk {w : World} {b : Nat} {ck : Nat} (h : blk w b = some (.map es ck)) : mapOf w (.map (some b)) = some es := by
  have h' : w.heap[b]? = some (.map es ck) := h
  simp [mapOf, h']
theorem lookv_L (hk : KeyOk kd enc) {w : World} {b ck : Nat} (hb : blk w b = some (.map es ck)) (h : MapL enc es L) (zero : Value) (k : κ) :
    lookv kd zero true w (.map (some b)) (enc k) = some (.tuple #[(lk L k).getD zero, .bool (lk L k).isSome]) := by
  unfold lookv
  rw [mapOf_blk hb]
  simp only [mfind_L hk h, lk]
  cases hf : findL L k 0 with
  | none => simp
  | some p => obtain ⟨i, v⟩ := p; simp
theorem lookv_L1 (hk : KeyOk kd enc) {w : World} {b ck : Nat} (hb : blk w b = some (.map es ck)) (h : MapL enc es L) (zero : Value) (k : κ) :
    lookv kd zero false w (.map (some b)) (enc k) = some ((lk L k).getD zero) := by
  unfold lookv
  rw [mapOf_blk hb]
  simp only [mfind_L hk h, lk]
  cases hf : findL L k 0 with
  | none => simp
  | some p => obtain ⟨i, v⟩ := p; simp
omit [DecidableEq κ] in
theorem mlenv_L {w : World} {b ck : Nat} (hb : blk w b = some (.map es ck)) (h : MapL enc es L) : mlenv w (.map (some b)) = some (.int .i64 L.length) := by
  simp [mlenv, mapOf_blk hb, h.size]
theorem mupd_L (hk : KeyOk kd enc) {w : World} {b ck : Nat} (hb : blk w b = some (.map es ck)) (h : MapL enc es L) (k : κ) (v : Value) :
    ∃ es' ck', mupd kd w (.map (some b)) (enc k) v = some (setB w b (.map es' ck')) ∧ MapL enc es' (insL L k v) := by
  have h' : w.heap[b]? = some (.map es ck) := hb
  unfold mupd
  simp only [h', mfind_L hk h]
  cases hf : findL L k 0 with
  | none =>
    obtain ⟨h1, h2, _⟩ := findL_none hf
    refine ⟨_, _, rfl, ?_, once_ins h.once k v⟩
    simp [h2, h.ents]
  | some p =>
    obtain ⟨i, u⟩ := p
    obtain ⟨j, hj, h2, h3, _⟩ := findL_some hf
    simp at hj; subst hj
    have hlen : es.size = L.length := h.size
    have hi : i < L.length := (List.getElem?_eq_some_iff.1 h2).1
    have hkey : (((es[i]?).map (·.key)).getD (enc k)) = enc k := by
      have := congrArg (fun l : List (Value × Value) => l[i]?) h.ents
      simp only [List.getElem?_map, h2, Option.map_some, Array.getElem?_toList] at this
      cases he : es[i]? with
      | none => rfl
      | some e => rw [he] at this; simp at this; simp [this.1]
    simp only [hkey, hk.bits, if_true]
    refine ⟨_, _, rfl, ?_, once_ins h.once k v⟩
    rw [h3]
    apply List.ext_getElem?
    intro n
    have := congrArg (fun l : List (Value × Value) => l[n]?) h.ents
    simp only [List.getElem?_map, Array.getElem?_toList] at this
    simp only [List.getElem?_map, Array.getElem?_toList, Array.getElem?_modify, List.getElem?_set]
    by_cases hn : i = n
    · subst hn
      have hes : i < es.size := by omega
      simp [hi, hes]
    · simp [hn, this]
theorem mdel_L (hk : KeyOk kd enc) {w : World} {b ck : Nat} (hb : blk w b = some (.map es ck)) (h : MapL enc es L) (k : κ) :
    ∃ es' ck', mdel kd w (.map (some b)) (enc k) = some (setB w b (.map es' ck')) ∧ MapL enc es' (delL L k) := by
  have h' : w.heap[b]? = some (.map es ck) := hb
  unfold mdel
  simp only [h', mfind_L hk h]
  cases hf : findL L k 0 with
  | none =>
    obtain ⟨h1, _, h2⟩ := findL_none hf
    exact ⟨_, _, rfl, by rw [h2]; exact h.ents, once_del h.once k⟩
  | some p =>
    obtain ⟨i, u⟩ := p
    obtain ⟨j, hj, h2, _, h3⟩ := findL_some hf
    simp at hj; subst hj
    have hi : i < L.length := (List.getElem?_eq_some_iff.1 h2).1
    refine ⟨_, _, rfl, ?_, once_del h.once k⟩
    have hes : i < es.size := by rw [h.size]; exact hi
    rw [h3]
    simp only [Array.eraseIdxIfInBounds, hes, dif_pos, Array.toList_eraseIdx]
    apply List.ext_getElem?
    intro n
    have hh := fun n : Nat => congrArg (fun l : List (Value × Value) => l[n]?) h.ents
    simp only [List.getElem?_map] at hh
    simp only [List.getElem?_map, List.getElem?_eraseIdx]
    split <;> exact hh _
end

end Go.Den
end

section
namespace Go.Den
open Go.ChangeShapes Go.WideShapes Go.ChangeAt Go.RowKit

theorem Fr.below {w w' : World} (h : Fr [] w w') : Below w.heap.size w w' :=
  ⟨h.rest.1, h.rest.2.1, h.rest.2.2, h.grow, fun k hk => h.keep k hk (by simp)⟩

theorem cells?_spec {w : World} {base : Nat} {a : Addr} {n : Nat} {cs : List Value} (h : w.cells? base a n = some cs) : cs.length = n ∧ ∀ j, j < n → w.cell? (a.add j) = cs[j]? := by
  unfold World.cells? at h
  split at h
  · have key : ∀ (n s : Nat) (cs : List Value), (List.range' s n).mapM (fun i => w.cell? (a.add i)) = some cs → cs.length = n ∧ ∀ j, j < n → w.cell? (a.add (s + j)) = cs[j]? := by
      intro n
      induction n with
      | zero => intro s cs h; simp at h; subst h; simp
      | succ n ih =>
        intro s cs h
        rw [List.range'_succ, List.mapM_cons] at h
        cases hc : w.cell? (a.add s) with
        | none => simp [hc] at h
        | some v =>
          cases hr : (List.range' (s + 1) n).mapM (fun i => w.cell? (a.add i)) with
          | none => simp [hc, hr] at h
          | some r =>
            simp [hc, hr] at h
            subst h
            obtain ⟨h1, h2⟩ := ih (s + 1) r hr
            refine ⟨by simp [h1], fun j hj => ?_⟩
            cases j with
            | zero => simpa using hc
            | succ j =>
              have := h2 j (by omega)
              rw [show s + 1 + j = s + (j + 1) by omega] at this
              simpa using this
    rw [List.range_eq_range'] at h
    simpa using key n 0 cs h
  · simp at h

section
variable {α H : Type} {enc : TypeId × Value → H} {P : Program} {w : World} {encS : α → List Value} {OK : α → Prop}
/-- a slice that came in reads as a list of things, if each of its elements does. -/
theorem arr_of_trod {t e sz : Nat} {v : Value} {d : DataW H} {ps : List MemPlace} (ht : P.underlying t = some (.slice e)) (hc : P.cellsOf e = sz) (hsz : 0 < sz) (hl : ∀ x, (encS x).length = sz)
    (hdec : ∀ fuel cs y, DataW.trod enc P w 0 (fun _ => true) true fuel e cs = some y → ∃ x, cs = encS x ∧ OK x)
    (h : DataW.Trod enc P w 0 (fun _ => true) true t v d ps) (hv : ∃ a n c, v = .slice a n c) : ∃ xs, Arr encS sz w v xs ∧ ∀ x ∈ xs, OK x := by
  obtain ⟨a, n, c, rfl⟩ := hv
  obtain ⟨fuel, hf⟩ := h
  rcases Deep.open_slice ht hf with ⟨hcs, _⟩ | ⟨x, len, cap, m, k, D, Pl, hcs, _, hle, _, hm, _, hel⟩
  · simp [Value.cells] at hcs
    obtain ⟨rfl, rfl, rfl⟩ := hcs
    exact ⟨[], ⟨none, 0, rfl, .inl rfl⟩, by simp⟩
  · simp [Value.cells] at hcs
    obtain ⟨rfl, rfl, rfl⟩ := hcs
    have hnm : n ≤ m := by rw [hm]; simp; omega
    have hex : ∀ i, i < n → ∃ y : α, OK y ∧ ∀ j, j < sz → w.cell? (x.add (i * sz + j)) = (encS y)[j]? := fun i hi => by
      obtain ⟨cs', h1, h2⟩ := hel i (by omega)
      obtain ⟨y, rfl, hy⟩ := hdec _ _ _ h2
      rw [hc] at h1
      obtain ⟨_, h4⟩ := cells?_spec h1
      refine ⟨y, hy, fun j hj => ?_⟩
      have := h4 j hj
      have hadd : (x.add (i * sz)).add j = x.add (i * sz + j) := by
        unfold Addr.add
        by_cases h0 : i * sz = 0
        · simp [h0]
        · by_cases h1 : j = 0
          · simp [h0, h1]
          · simp [h0, h1, Nat.add_assoc]
      rwa [hadd] at this
    have key : ∀ n', n' ≤ n → ∃ xs : List α, xs.length = n' ∧ (∀ y ∈ xs, OK y) ∧ ∀ i y, xs[i]? = some y → ∀ j, j < sz → w.cell? (x.add (i * sz + j)) = (encS y)[j]? := by
      intro n'
      induction n' with
      | zero => intro _; exact ⟨[], rfl, by simp, by simp⟩
      | succ n' ih =>
        intro hn'
        obtain ⟨xs, h1, h2, h3⟩ := ih (by omega)
        obtain ⟨y, hy, hcell⟩ := hex n' (by omega)
        refine ⟨xs ++ [y], by simp [h1], fun z hz => ?_, fun i z hz j hj => ?_⟩
        · rcases List.mem_append.1 hz with h | h
          · exact h2 z h
          · simp at h; subst h; exact hy
        · by_cases hi : i < xs.length
          · rw [List.getElem?_append_left hi] at hz; exact h3 i z hz j hj
          · rw [List.getElem?_append_right (by omega)] at hz
            have : i = n' := by
              by_cases e : i - xs.length = 0
              · omega
              · simp [e] at hz
            subst this
            simp [h1] at hz; subst hz
            exact hcell j hj
    obtain ⟨xs, h1, h2, h3⟩ := key n (Nat.le_refl _)
    subst h1
    refine ⟨xs, ⟨some x, c, rfl, ?_⟩, h2⟩
    cases xs with
    | nil => exact .inl rfl
    | cons y ys =>
      right
      obtain ⟨b, o, spot⟩ := x
      have h00 := h3 0 y rfl 0 hsz
      rw [Nat.zero_mul, Nat.zero_add] at h00
      have hlen := hl y
      have hsome : ∃ u, w.cell? ⟨b, o, spot⟩ = some u := by
        have : (⟨b, o, spot⟩ : Addr).add 0 = ⟨b, o, spot⟩ := rfl
        rw [this] at h00
        exact ⟨(encS y)[0], by rw [h00, List.getElem?_eq_getElem (by omega)]⟩
      obtain ⟨u, hu⟩ := hsome
      have hspot : spot = none := World.cell?_spot hu
      subst hspot
      have hblk : ∃ c T fz, blk w b = some (.cells c T fz) := by
        unfold World.cell? at hu
        unfold blk
        split at hu
        · exact ⟨_, _, _, by assumption⟩
        · cases hu
      obtain ⟨cc, T, fz, hb⟩ := hblk
      refine ⟨b, o, cc, T, fz, rfl, hb, fun i z hz => ?_⟩
      have hz3 := h3 i z hz
      have hget : ∀ j, j < sz → cc[o + i * sz + j]? = (encS z)[j]? := fun j hj => by
        have := hz3 j hj
        rw [add_none, cell?_blk hb] at this
        rw [Nat.add_assoc]; exact this
      refine ⟨?_, hget⟩
      have h4 := hget (sz - 1) (by omega)
      rw [List.getElem?_eq_getElem (by rw [hl]; omega)] at h4
      have := (Array.getElem?_eq_some_iff.1 h4).1
      omega
theorem trodAll_below {ts : List TypeId} {vs : List Value} {ds : List (DataW H)} {ps : List MemPlace} {w' : World} (hl : laidOutB P = true) (hts : ts.all (fun t => P.readableRec t && decide (t < P.types.size)) = true)
    (h : DataW.TrodAll enc P w 0 (fun _ => true) true ts vs ds ps) (hb : Below w.heap.size w w') : DataW.TrodAll enc P w' 0 (fun b => decide (b < w.heap.size)) true ts vs ds ps := by
  induction ts generalizing vs ds ps with
  | nil =>
    obtain ⟨rfl, rfl, rfl⟩ := trodAll_nil h
    exact trodAll_mk0
  | cons t ts ih =>
    simp only [List.all_cons, Bool.and_eq_true, decide_eq_true_eq] at hts
    obtain ⟨v, vs', d, ds', p, q, rfl, rfl, rfl, h1, h2⟩ := trodAll_cons h
    have lt : ∀ x ∈ p, x.block < w.heap.size := by obtain ⟨m, hm⟩ := h1; exact DataW.trod_lt m _ _ _ hm
    exact trodAll_cons_mk (Below.trod hl hts.1.1 hts.1.2 h1 hb lt) (ih hts.2 h2)
end

/-- the frame of a row, with what its arguments weigh. -/
theorem handed_sized {H : Type} {enc : TypeId × Value → H} {a : Assume} {C : Checked} {os : Os} {f : FuncId} {fn : Func} {s : ChangeSpec} {conds : List PathCond} {apart fresh handsOn again : Bool}
    (own : ownKnob C.prog.godebug = none) (started : os.Started) (noInit : C.prog.inits.idxOf? f = none) (hfn : C.prog.funcs[f]? = some fn)
    (witness : ∃ (w : World) (tape : Tape) (i : Input), w.os = os ∧ (w.forCall tape i).Shaped C.prog ∧ i.vars = [] ∧ Input.okWide C.prog (w.forCall tape i) .any w.heap.size f i ∧
      s.pre6 enc C.prog fn conds apart (w.forCall tape i).memory i.args ∧ a.holds C.prog (lone (Frame.enter C.prog f i.args .normal) [] (w.forCall tape i)))
    (contract : ∀ (W : World) (base : Nat) (args : Array Value) (ds gs : List (DataW H)) (before : List MemPlace),
      (∀ (j : Nat) t v, fn.params[j]? = some t → args[j]? = some v → Value.okWide C.prog W .any base t v) →
      DataW.Whole enc C.prog fn.params.toList s.vars apart W args.toList ds gs before →
      (DataW.weightsEach C.prog (fn.params.toList ++ s.plain.varTypes C.prog) (ds ++ gs)).all (· ≤ reachBytes) = true →
      Calls C.prog f args W fun e W' => ∃ v, e = .returned v ∧ s.post enc C.prog fn apart fresh handsOn again W args v W') :
    ReturnsInHanded a C os f .any (s.pre6 enc C.prog fn conds apart) (s.post enc C.prog fn apart fresh handsOn again) := by
  refine returnsInHanded_of_calls own started noInit witness ?_
  intro w tape i _ _ _ hok hpre hholds
  obtain ⟨_, _, _, fn', hfn', _, _, _, _, hval⟩ := hok
  have e : fn' = fn := Option.some.inj (hfn'.symm.trans hfn)
  subst e
  obtain ⟨⟨ds, gs, before, hw, hc⟩, hz⟩ := hpre
  have hw' := DataW.Whole.of_heap (w' := w.forCall tape i) (by rfl) hw
  refine (contract (w.forCall tape i) w.heap.size i.args ds gs before hval hw' (hz.weights hw)).mono fun e W' ⟨v, he, hp⟩ => ?_
  subst he
  exact ChangeSpec.post_blind hp

theorem int_bounds_u64 {n : Int} (h : (Lit.int .u64 n).wf = true) : 0 ≤ n ∧ n < 18446744073709551616 := by
  have := bounds_u64 h; omega

end Go.Den
end

section
namespace Go.Proofs.YtofllgbdphakiaaGreat
theorem ownK : ownKnob Tryz.prog.godebug = none := by kernel_rfl
theorem laidOutK : laidOutB Tryz.prog = true := by kernel_rfl
end Go.Proofs.YtofllgbdphakiaaGreat
end

section
namespace Go.Den
section
variable {α : Type} {enc : α → List Value} {sz : Nat} {w w' : World} {v : Value} {xs ys : List α} {F G : List Nat} {b : Nat}
theorem flat_take (hl : ∀ x, (enc x).length = sz) : ∀ (xs : List α) (n : Nat), (flat enc xs).take (n * sz) = flat enc (xs.take n)
  | [], n => by simp [flat]
  | x :: xs, 0 => by simp [flat]
  | x :: xs, n + 1 => by
    have ih := flat_take hl xs n
    simp only [flat, List.flatMap_cons, List.take_succ_cons] at ih ⊢
    rw [List.take_append, hl, List.take_of_length_le (by rw [hl, Nat.succ_mul]; omega), Nat.succ_mul, Nat.add_sub_cancel, ih]
theorem flat_drop (hl : ∀ x, (enc x).length = sz) : ∀ (xs : List α) (n : Nat), (flat enc xs).drop (n * sz) = flat enc (xs.drop n)
  | [], n => by simp [flat]
  | x :: xs, 0 => by simp [flat]
  | x :: xs, n + 1 => by
    have ih := flat_drop hl xs n
    simp only [flat, List.flatMap_cons, List.drop_succ_cons] at ih ⊢
    rw [List.drop_append, hl, List.drop_of_length_le (by rw [hl, Nat.succ_mul]; omega), Nat.succ_mul, Nat.add_sub_cancel, ih, List.nil_append]
theorem Slc.row (h : Slc enc sz w v xs F) (hl : ∀ x, (enc x).length = sz) : v = .slice none 0 0 ∧ xs = [] ∨ ∃ b cap c T fz, v = .slice (some ⟨b, 0, none⟩) xs.length cap ∧ blk w b = some (.cells c T fz) ∧ xs.length ≤ cap ∧ c.size = cap * sz ∧
    c.toList.take (xs.length * sz) = flat enc xs := by
  have hlo := h.loads hl
  rcases h with ⟨rfl, rfl, rfl⟩ | ⟨b, cap, c, T, rfl, hb, hc, hs, rfl, hel⟩
  · exact .inl ⟨rfl, rfl⟩
  · refine .inr ⟨b, cap, c, T, _, rfl, hb, hc, hs, ?_⟩
    have hle : 0 + 0 + xs.length * sz ≤ c.size := by rw [hs]; simpa using Nat.mul_le_mul_right sz hc
    simpa [cellsOfArg, loads_blk hb _ 0 hle] using hlo
/-- 'v[:n]', to be read. -/
theorem Slc.upto (h : Slc enc sz w v xs F) (hl : ∀ x, (enc x).length = sz) {n : Nat} (hn : n ≤ xs.length) (k : IntKind) :
    ∃ v', slicev sz v none (some (.int k (n : Int))) = some v' ∧ ∀ w', (∀ b ∈ F, blk w' b = blk w b) → cellsOfArg w' sz v' = some (flat enc (xs.take n), (xs.take n).length) := by
  have hcg := fun (w' : World) (hw : ∀ b ∈ F, blk w' b = blk w b) => h.congr hw
  rcases h.row hl with ⟨rfl, rfl⟩ | ⟨b, cap, c, T, fz, rfl, hb, hc, hs, _⟩
  · have : n = 0 := by simpa using hn
    subst this
    exact ⟨.slice none 0 0, by simp [slicev, natOf], fun w' _ => by simp [cellsOfArg, flat]⟩
  · have h1 : n ≤ cap := by omega
    refine ⟨.slice (some ⟨b, 0, none⟩) n cap, by simp [slicev, natOf, h1, Addr.add], fun w' hw => ?_⟩
    rcases (hcg w' hw).row hl with ⟨h0, _⟩ | ⟨b', cap', c', T', fz', h0, hb', hc', hs', hr'⟩
    · cases h0
    · cases h0
      have hle : 0 + 0 + n * sz ≤ c'.size := by rw [hs']; simpa using Nat.mul_le_mul_right sz h1
      simp only [cellsOfArg, loads_blk hb' _ 0 hle, Option.map_some, Nat.zero_add, List.drop_zero]
      rw [← flat_take hl, ← hr', List.take_take, Nat.min_eq_left (Nat.mul_le_mul_right sz hn), List.length_take, Nat.min_eq_left hn]
/-- 'v[n:]', to be read. -/
theorem Slc.from (h : Slc enc sz w v xs F) (hl : ∀ x, (enc x).length = sz) {n : Nat} (hn : n ≤ xs.length) (k : IntKind) :
    ∃ v', slicev sz v (some (.int k (n : Int))) none = some v' ∧ ∀ w', (∀ b ∈ F, blk w' b = blk w b) → cellsOfArg w' sz v' = some (flat enc (xs.drop n), (xs.drop n).length) := by
  have hcg := fun (w' : World) (hw : ∀ b ∈ F, blk w' b = blk w b) => h.congr hw
  rcases h.row hl with ⟨rfl, rfl⟩ | ⟨b, cap, c, T, fz, rfl, hb, hc, hs, _⟩
  · have : n = 0 := by simpa using hn
    subst this
    exact ⟨.slice none 0 0, by simp [slicev, natOf], fun w' _ => by simp [cellsOfArg, flat]⟩
  · refine ⟨.slice (some (if cap = n then ⟨b, 0, none⟩ else ⟨b, n * sz, none⟩)) (xs.length - n) (cap - n), ?_, fun w' hw => ?_⟩
    · simp only [slicev, natOf, Int.toNat_natCast, Int.natCast_nonneg, if_true, hc, hn, and_self]
      by_cases hcn : cap = n
      · simp [hcn]
      · simp [hcn, add_none]
    rcases (hcg w' hw).row hl with ⟨h0, _⟩ | ⟨b', cap', c', T', fz', h0, hb', hc', hs', hr'⟩
    · cases h0
    · cases h0
      have hdr : flat enc (xs.drop n) = (c'.toList.drop (n * sz)).take ((xs.length - n) * sz) := by
        rw [← flat_drop hl, ← hr', List.drop_take, Nat.sub_mul]
      by_cases hcn : cap = n
      · have h0 : xs.length - n = 0 := by omega
        rw [h0] at hdr
        simp only [hcn, if_true, h0]
        rw [hdr]
        simp [cellsOfArg, Den.loads, h0]
      · simp only [hcn, if_false]
        have hle : n * sz + 0 + (xs.length - n) * sz ≤ c'.size := by
          rw [hs', Nat.add_zero, ← Nat.add_mul]; exact Nat.mul_le_mul_right sz (by omega)
        simp only [cellsOfArg, loads_blk hb' _ 0 hle, Option.map_some, Nat.add_zero]
        rw [hdr, List.length_drop]
end
/-- '[]T{}'. -/
theorem newslice_none {α : Type} (enc : α → List Value) (E sz : Nat) (zero : Array Value) (w : World) : ∃ v w', newslice E zero sz 0 [] w = some (v, w') ∧ Slc enc sz w' v [] [hsz w] ∧ Fr [] w w' := by
  refine ⟨.slice (some ⟨hsz w, 0, none⟩) 0 0, w.alloc (.cells #[] E), ?_, .inr ⟨hsz w, 0, #[], E, rfl, by simp, by simp, by simp, rfl, fun i x hx => by simp at hx⟩, Fr.alloc _ _ _⟩
  unfold newslice
  have h0 : (Array.range (0 * sz)).map (zero[· % zero.size]!) = #[] := by apply Array.eq_empty_of_size_eq_zero; simp
  rw [h0]
  rfl
end Go.Den
end

section
namespace Go.Den
section
variable {α : Type} {enc : α → List Value} {sz : Nat} {w w' : World} {v : Value} {xs ys : List α} {F G : List Nat} {b : Nat}
theorem newslice_val (E sz : Nat) (zero : Array Value) (vs : List Value) (y : Value) (hy : y.cells = vs.toArray) (hl : vs.length = sz) (w : World) :
    newslice E zero sz 1 [(0, sz, y)] w = some (.slice (some ⟨hsz w, 0, none⟩) 1 1, w.alloc (.cells vs.toArray E)) := by
  have h := newslice_one E sz zero vs hl w
  unfold newslice fillv at h ⊢
  simp only [hy, cells_agg] at h ⊢
  exact h
/-- '[]T{x}', as what an append takes. -/
theorem newone_step {E : Nat} {zero : Array Value} {y : Value} {x : α} {k : Value → World → Prop} (hl : ∀ x, (enc x).length = sz) (hy : y.cells = (enc x).toArray)
    (h : ∀ t w1, Slc enc sz w1 t [x] [hsz w] → Fr [] w w1 → hsz w1 = hsz w + 1 → k t w1) : BND (newslice E zero sz 1 [(0, sz, y)] w) fun p => NEW p k := by
  refine BND_step (newslice_val E sz zero (enc x) y hy (hl x) w) <| (NEW_pair _ _ _).2 ?_
  refine h _ _ (.inr ⟨hsz w, 1, (enc x).toArray, E, rfl, blk_alloc_new _ _, by simp, by simp [hl], rfl, fun i u hu j hj => ?_⟩) (Fr.alloc _ _ _) (by simp)
  cases i with
  | zero => simp at hu; subst hu; simp
  | succ i => simp at hu
theorem newnil_step {E : Nat} {zero : Array Value} {k : Value → World → Prop} (enc : α → List Value) (h : ∀ t w1, Slc enc sz w1 t [] [hsz w] → Fr [] w w1 → hsz w1 = hsz w + 1 → k t w1) :
    BND (newslice E zero sz 0 [] w) fun p => NEW p k := by
  refine BND_step (v := (.slice (some ⟨hsz w, 0, none⟩) 0 0, w.alloc (.cells #[] E))) ?_ <| (NEW_pair _ _ _).2 ?_
  · unfold newslice
    have h0 : (Array.range (0 * sz)).map (zero[· % zero.size]!) = #[] := by apply Array.eq_empty_of_size_eq_zero; simp
    rw [h0]
    rfl
  · exact h _ _ (.inr ⟨hsz w, 0, #[], E, rfl, by simp, by simp, by simp, rfl, fun i x hx => by simp at hx⟩) (Fr.alloc _ _ _) (by simp)
theorem Slc.nil (enc : α → List Value) (sz : Nat) (w : World) : Slc enc sz w (.slice none 0 0) [] [] := .inl ⟨rfl, rfl, rfl⟩
/-- one's own slice reads as one that came in. -/
theorem Slc.arr (h : Slc enc sz w v xs F) : Arr enc sz w v xs := by
  rcases h with ⟨rfl, rfl, rfl⟩ | ⟨b, cap, c, T, rfl, hb, hc, hs, rfl, hel⟩
  · exact ⟨none, 0, rfl, .inl rfl⟩
  · refine ⟨some ⟨b, 0, none⟩, cap, rfl, .inr ⟨b, 0, c, T, (0, 0), rfl, hb, fun i x hx => ⟨?_, fun j hj => ?_⟩⟩⟩
    · have hi : i < xs.length := (List.getElem?_eq_some_iff.1 hx).1
      rw [hs, Nat.zero_add]
      have : (i + 1) * sz ≤ cap * sz := Nat.mul_le_mul_right _ (by omega)
      rw [Nat.succ_mul] at this
      exact this
    · rw [Nat.zero_add]; exact hel i x hx j hj
theorem Arr.src (h : Arr enc sz w v xs) (hl : ∀ x, (enc x).length = sz) (hsz : 0 < sz) : cellsOfArg w sz v = some (flat enc xs, xs.length) := by
  obtain ⟨a, cap, rfl, h⟩ := h
  rcases h with rfl | ⟨b, o, c, T, fz, rfl, h2, h3⟩
  · cases a <;> simp [cellsOfArg, flat, Den.loads]
  · by_cases h0 : xs = []
    · subst h0; simp [cellsOfArg, flat, Den.loads]
    have hpos : 0 < xs.length := List.length_pos_iff.2 h0
    have hbound : o + 0 + xs.length * sz ≤ c.size := by
      have hx := List.getElem?_eq_getElem (l := xs) (i := xs.length - 1) (by omega)
      have := (h3 _ _ hx).1
      have e : (xs.length - 1) * sz + sz = xs.length * sz := by
        rw [← Nat.succ_mul]; congr 1; omega
      omega
    simp only [cellsOfArg, loads_blk h2 _ 0 hbound, Option.map_some, Nat.add_zero]
    congr 2
    apply List.ext_getElem?
    intro n
    rw [List.getElem?_take, List.getElem?_drop]
    by_cases hn : n < xs.length * sz
    · rw [if_pos hn]
      have hd : n / sz < xs.length := Nat.div_lt_of_lt_mul (by rw [Nat.mul_comm]; exact hn)
      have hm : n % sz < sz := Nat.mod_lt _ hsz
      have hx := List.getElem?_eq_getElem hd
      have e1 := (h3 _ _ hx).2 _ hm
      have e2 := flat_get hl xs _ _ _ hx hm
      have e3 : n / sz * sz + n % sz = n := by rw [Nat.mul_comm]; exact Nat.div_add_mod n sz
      rw [Nat.add_assoc, e3] at e1
      rw [e3] at e2
      rw [e2, ← e1, Array.getElem?_toList]
    · rw [if_neg hn, List.getElem?_eq_none]
      rw [flat_len hl]; omega
end

/-! ## Maps with stamps -/
structure MapB {κ : Type} (enc : κ → Value) (es : Array MapEntry) (ck : Nat) (L : List (κ × Value)) : Prop where
  l : MapL enc es L
  lt : ∀ x ∈ es.toList, x.born < ck
  nd : (es.toList.map (·.born)).Nodup
section
variable {κ : Type} [DecidableEq κ] {enc : κ → Value} {kd : TypeDesc} {es : Array MapEntry} {ck : Nat} {L : List (κ × Value)}
omit [DecidableEq κ] in
theorem MapB.nil (enc : κ → Value) : MapB enc #[] 0 [] := ⟨⟨rfl, by simp⟩, by simp, by simp⟩
theorem modify_toList {α : Type} (es : Array α) (i : Nat) (f : α → α) : (es.modify i f).toList = es.toList.modify i f := by
  apply List.ext_getElem?
  intro n
  rw [Array.getElem?_toList, Array.getElem?_modify, List.getElem?_modify, Array.getElem?_toList]
  by_cases h : i = n <;> simp [h]
theorem map_modify_same {α β : Type} (g : α → β) (f : α → α) (h : ∀ x, g (f x) = g x) (l : List α) (i : Nat) : (l.modify i f).map g = l.map g := by
  apply List.ext_getElem?
  intro n
  rw [List.getElem?_map, List.getElem?_modify, List.getElem?_map]
  by_cases hn : i = n
  · subst hn; cases l[i]? <;> simp [h]
  · simp [hn]
theorem mem_modify {α : Type} {l : List α} {i : Nat} {f : α → α} {x : α} (h : x ∈ l.modify i f) : x ∈ l ∨ ∃ y ∈ l, x = f y := by
  obtain ⟨n, hn⟩ := List.mem_iff_getElem?.1 h
  rw [List.getElem?_modify] at hn
  cases hl : l[n]? with
  | none => simp [hl] at hn
  | some y =>
    simp [hl] at hn
    have hy := List.mem_of_getElem? hl
    by_cases hi : i = n
    · simp [hi] at hn; exact .inr ⟨y, hy, hn.symm⟩
    · simp [hi] at hn; exact .inl (hn ▸ hy)
theorem findBorn {es : Array MapEntry} (hnd : (es.toList.map (·.born)).Nodup) {i : Nat} {e : MapEntry} (he : es[i]? = some e) : es.findIdx? (fun x => (x.born : Int) == (e.born : Int)) = some i := by
  obtain ⟨hi, rfl⟩ := Array.getElem?_eq_some_iff.1 he
  rw [Array.findIdx?_eq_some_iff_getElem]
  refine ⟨hi, by simp, fun j hj => ?_⟩
  simp only [beq_iff_eq, Int.natCast_inj]
  intro e
  have hp := List.pairwise_iff_getElem.1 (List.nodup_iff_pairwise_ne.1 hnd) j i (by simp; omega) (by simpa using hi) hj
  simp at hp
  exact hp e
theorem mupd_B (hk : KeyOk kd enc) {w : World} {b : Nat} (hb : blk w b = some (.map es ck)) (h : MapB enc es ck L) (k : κ) (v : Value) :
    ∃ es' ck', mupd kd w (.map (some b)) (enc k) v = some (setB w b (.map es' ck')) ∧ MapB enc es' ck' (insL L k v) := by
  have h' : w.heap[b]? = some (.map es ck) := hb
  obtain ⟨es1, ck1, e1, l1⟩ := mupd_L hk hb h.l k v
  have e2 := e1
  unfold mupd at e2
  simp only [h', mfind_L hk h.l] at e2
  have key : ∀ es2 ck2, some ({ w with heap := w.heap.setIfInBounds b (.map es2 ck2) } : World) = some (setB w b (.map es1 ck1)) → es1 = es2 ∧ ck1 = ck2 := by
    intro es2 ck2 e
    have h1 : blk (setB w b (.map es2 ck2)) b = blk (setB w b (.map es1 ck1)) b := congrArg (fun x : World => blk x b) (Option.some.inj e)
    rw [blk_setB_same hb, blk_setB_same hb] at h1
    cases h1
    exact ⟨rfl, rfl⟩
  refine ⟨es1, ck1, e1, l1, ?_, ?_⟩
  all_goals
    cases hf : findL L k 0 with
    | none =>
      simp only [hf] at e2
      obtain ⟨rfl, rfl⟩ := key _ _ e2
      first
        | (intro x hx
           simp at hx
           rcases hx with hx | rfl
           · have := h.lt x (by simpa using hx); omega
           · simp)
        | (simp only [Array.toList_push, List.map_append, List.map_cons, List.map_nil]
           rw [List.nodup_append]
           refine ⟨h.nd, by simp, fun a ha c hc => ?_⟩
           simp at hc
           subst hc
           obtain ⟨x, hx, rfl⟩ := List.mem_map.1 ha
           have := h.lt x hx
           omega)
    | some p =>
      obtain ⟨i, u⟩ := p
      simp only [hf] at e2
      split at e2
      · obtain ⟨rfl, rfl⟩ := key _ _ e2
        rw [modify_toList]
        first
          | (intro x hx
             rcases mem_modify hx with hx | ⟨y, hy, rfl⟩
             · exact h.lt x hx
             · exact h.lt y hy)
          | (rw [map_modify_same (fun x : MapEntry => x.born) _ (by intro x; rfl)]; exact h.nd)
      · cases e2
/-- an entry made, and given its value. -/
theorem entry_B (hk : KeyOk kd enc) (zero : Value) {w : World} {b : Nat} (hb : blk w b = some (.map es ck)) (h : MapB enc es ck L) (k : κ) (v : Value) :
    ∃ es1 ck1 u n es2, mentry kd zero w (.map (some b)) (enc k) = some (.tuple #[u, .int .i64 n], setB w b (.map es1 ck1)) ∧
      (∀ w1, blk w1 b = some (.map es1 ck1) → mestore w1 (.map (some b)) (.int .i64 n) v = some (setB w1 b (.map es2 ck1))) ∧ MapB enc es2 ck1 (insL L k v) := by
  have h' : w.heap[b]? = some (.map es ck) := hb
  obtain ⟨es3, ck3, e3, l3⟩ := mupd_B hk hb h k v
  have e4 := e3
  unfold mupd at e4
  simp only [h', mfind_L hk h.l] at e4
  have key : ∀ es2 ck2, some ({ w with heap := w.heap.setIfInBounds b (.map es2 ck2) } : World) = some (setB w b (.map es3 ck3)) → es3 = es2 ∧ ck3 = ck2 := by
    intro es2 ck2 e
    have h1 : blk (setB w b (.map es2 ck2)) b = blk (setB w b (.map es3 ck3)) b := congrArg (fun x : World => blk x b) (Option.some.inj e)
    rw [blk_setB_same hb, blk_setB_same hb] at h1
    cases h1
    exact ⟨rfl, rfl⟩
  cases hf : findL L k 0 with
  | none =>
    simp only [hf] at e4
    obtain ⟨rfl, rfl⟩ := key _ _ e4
    refine ⟨es.push ⟨enc k, zero, ck⟩, ck + 1, zero, ck, es.push ⟨enc k, v, ck⟩, ?_, fun w1 hw1 => ?_, l3⟩
    · unfold mentry
      simp only [h', mfind_L hk h.l, hf]
      rfl
    · have h1 : w1.heap[b]? = some (.map (es.push ⟨enc k, zero, ck⟩) (ck + 1)) := hw1
      have hnd : ((es.push ⟨enc k, zero, ck⟩).toList.map (·.born)).Nodup := by
        have := l3.nd
        simpa using this
      have hfi := findBorn (i := es.size) (e := ⟨enc k, zero, ck⟩) hnd (by simp)
      unfold mestore
      simp only [h1, hfi]
      congr 2
      have : (es.push (⟨enc k, zero, ck⟩ : MapEntry)).modify es.size (fun e => { e with val := v }) = es.push ⟨enc k, v, ck⟩ := by
        apply Array.ext'
        rw [modify_toList, Array.toList_push, Array.toList_push]
        apply List.ext_getElem?
        intro n
        rw [List.getElem?_modify]
        by_cases hn : es.size = n
        · subst hn; simp
        · simp only [hn, if_false, List.getElem?_append, Array.length_toList]
          split
          · simp
          · have : n - es.size ≠ 0 := by omega
            obtain ⟨m, hm⟩ := Nat.exists_eq_succ_of_ne_zero this
            rw [hm]; simp
      rw [this]
  | some p =>
    obtain ⟨i, u⟩ := p
    simp only [hf] at e4
    split at e4
    · rename_i hs
      obtain ⟨rfl, rfl⟩ := key _ _ e4
      obtain ⟨j, hj, h2, _, _⟩ := findL_some hf
      simp at hj; subst hj
      have hi : i < es.size := by rw [h.l.size]; exact (List.getElem?_eq_some_iff.1 h2).1
      refine ⟨es.modify i (fun e => { e with key := enc k }), ck3, u, es[i].born, es.modify i (fun e => { e with key := enc k, val := v }), ?_, fun w1 hw1 => ?_, l3⟩
      · unfold mentry
        simp only [h', mfind_L hk h.l, hf, hs, if_true]
        simp [hi]
        rfl
      · have h1 : w1.heap[b]? = some (.map (es.modify i (fun e => { e with key := enc k })) ck3) := hw1
        have hnd : ((es.modify i (fun e : MapEntry => { e with key := enc k })).toList.map (·.born)).Nodup := by
          rw [modify_toList, map_modify_same (fun x : MapEntry => x.born) _ (by intro x; rfl)]; exact h.nd
        have hfi := findBorn (i := i) (e := ⟨enc k, es[i].val, es[i].born⟩) hnd (by rw [Array.getElem?_modify]; simp [hi])
        unfold mestore
        simp only [h1, hfi]
        congr 2
        have : (es.modify i (fun e : MapEntry => { e with key := enc k })).modify i (fun e => { e with val := v }) = es.modify i (fun e => { e with key := enc k, val := v }) := by
          apply Array.ext'
          rw [modify_toList, modify_toList, modify_toList]
          apply List.ext_getElem?
          intro n
          rw [List.getElem?_modify, List.getElem?_modify, List.getElem?_modify]
          by_cases hn : i = n
          · subst hn; cases es.toList[i]? <;> simp
          · simp [hn]
        rw [this]
    · cases e4
end
end Go.Den
end

section
namespace Go.Den
/-- a struct's block is given another struct. -/
theorem put_step {T n b : Nat} {w : World} {zs : Array Value} {vs : List Value} {K : World → Prop} (b1 : blk w b = some (.cells zs T (0, 0))) (hz : zs.size = n) (hv : vs.length = n) (h1 : ∀ u ∈ vs, u.oneCell' = true) (hn : vs ≠ [])
    (h : ∀ w', blk w' b = some (.cells vs.toArray T (0, 0)) → Fr [b] w w' → hsz w' = hsz w → K w') : BND (storev n w (.pointer (some ⟨b, 0, none⟩)) (.agg vs.toArray)) K := by
  refine BND_step (storevn_blk (o := 0) b1 hv (by omega) h1 hn) ?_
  have he : splice zs 0 vs = vs.toArray := splice_all _ _ (by omega)
  rw [he]
  exact h _ (blk_setB_same b1) (Fr.setB (.inl (by simp)) _) (by simp)
theorem loadn_all {T n b : Nat} {w : World} {vs : List Value} {f : Nat × Nat} (h : blk w b = some (.cells vs.toArray T f)) (hn : vs.length = n) : loadn n w (.pointer (some ⟨b, 0, none⟩)) = some (.agg vs.toArray) := by
  rw [loadn_blk h (by simp; omega)]
  subst hn
  simp
theorem splice_take {c : Array Value} {o : Nat} {vs : List Value} (h : o + vs.length ≤ c.size) : (splice c o vs).toList.take (o + vs.length) = c.toList.take o ++ vs := by
  apply List.ext_getElem?
  intro i
  rw [List.getElem?_take]
  have hs : (c.toList.take o).length = o := by simp; omega
  split
  · rename_i hi
    rw [Array.getElem?_toList, splice_get vs c o i h]
    by_cases ho : o ≤ i
    · rw [if_pos ⟨ho, hi⟩, List.getElem?_append_right (by omega), hs]
    · rw [if_neg (by omega), List.getElem?_append_left (by omega), List.getElem?_take, if_pos (by omega), Array.getElem?_toList]
  · rename_i hi
    exact (List.getElem?_eq_none (by simp; omega)).symm
section
variable {α : Type} {enc : α → List Value} {sz : Nat}
def partsAt (sz : Nat) (val : α → Value) : Nat → List α → List (Nat × Nat × Value)
  | _, [] => []
  | k, x :: xs => (k * sz, sz, val x) :: partsAt sz val (k + 1) xs
theorem fillv_parts (hl : ∀ x, (enc x).length = sz) {val : α → Value} (hv : ∀ x, (val x).cells = (enc x).toArray) : ∀ (xs : List α) (k : Nat) (c : Array Value), c.size = (k + xs.length) * sz →
    fillv c (partsAt sz val k xs) = some ((c.toList.take (k * sz) ++ flat enc xs).toArray)
  | [], k, c, h => by
    simp only [partsAt, fillv, flat, List.flatMap_nil, List.append_nil, List.length_nil, Nat.add_zero] at h ⊢
    rw [List.take_of_length_le (by simp; omega)]
  | x :: xs, k, c, h => by
    have hk : (k + (x :: xs).length) * sz = k * sz + sz + xs.length * sz := by
      simp only [List.length_cons]
      rw [show k + (xs.length + 1) = k + 1 + xs.length by omega, Nat.add_mul, Nat.succ_mul]
    rw [hk] at h
    have hs : (val x).cells.size = sz := by rw [hv]; simp [hl]
    have hc1 : ((val x).cells.zipIdx.foldl (fun cs (c, j) => cs.setIfInBounds (k * sz + j) c) c) = splice c (k * sz) (enc x) := by
      rw [hv]
      have := fold_splice (k * sz) (enc x) 0 c
      rw [Nat.add_zero] at this
      rw [← this, ← Array.foldl_toList, Array.toList_zipIdx]
    simp only [partsAt, fillv, hs]
    rw [if_neg (by simp; omega), hc1]
    have hss : (splice c (k * sz) (enc x)).size = c.size := by simp
    rw [fillv_parts hl hv xs (k + 1) _ (by rw [hss, h, Nat.add_mul, Nat.succ_mul])]
    congr 2
    have ht := splice_take (c := c) (o := k * sz) (vs := enc x) (by rw [hl]; omega)
    rw [hl] at ht
    rw [Nat.succ_mul, ht, flat, flat, List.flatMap_cons, List.append_assoc]
theorem newparts_step (hl : ∀ x, (enc x).length = sz) {val : α → Value} (hv : ∀ x, (val x).cells = (enc x).toArray) (xs : List α) {E n : Nat} {zero : Array Value} {ps : List (Nat × Nat × Value)} {w : World} {k : Value → World → Prop} (hn : n = xs.length) (hp : ps = partsAt sz val 0 xs)
    (h : ∀ t w1, Slc enc sz w1 t xs [hsz w] → Fr [] w w1 → hsz w1 = hsz w + 1 → k t w1) : BND (newslice E zero sz n ps w) fun p => NEW p k := by
  subst hn; subst hp
  have he : newslice E zero sz xs.length (partsAt sz val 0 xs) w = some (.slice (some ⟨hsz w, 0, none⟩) xs.length xs.length, w.alloc (.cells (flat enc xs).toArray E)) := by
    unfold newslice
    rw [fillv_parts hl hv xs 0 _ (by simp)]
    simp
  refine BND_step he <| (NEW_pair _ _ _).2 <| h _ _ (.inr ⟨hsz w, xs.length, _, E, rfl, blk_alloc_new _ _, Nat.le_refl _, by simp [flat_len hl], rfl, fun i x hx j hj => ?_⟩) (Fr.alloc _ _ _) (by simp)
  have := flat_get hl xs i x j hx hj
  simpa using this
end
end Go.Den
end

section
namespace Go.Den
theorem cell?_congr {w w' : World} {b o : Nat} (h : blk w' b = blk w b) : w'.cell? ⟨b, o, none⟩ = w.cell? ⟨b, o, none⟩ := by
  have h' : w'.heap[b]? = w.heap[b]? := h
  simp [World.cell?, h']
theorem loads_congr {w w' : World} {b o : Nat} (h : blk w' b = blk w b) : ∀ n i, loads w' ⟨b, o, none⟩ i n = loads w ⟨b, o, none⟩ i n
  | 0, _ => rfl
  | n + 1, i => by
    rw [loads, loads, add_none, cell?_congr h, loads_congr h n (i + 1)]
theorem loadn_congr {w w' : World} {b o n : Nat} (h : blk w' b = blk w b) : loadn n w' (.pointer (some ⟨b, o, none⟩)) = loadn n w (.pointer (some ⟨b, o, none⟩)) := by
  simp [loadn, loads_congr h]
theorem BND_cg {α : Type} {o o' : Option α} {k : α → Prop} (h : o = o') : BND o k = BND o' k := by rw [h]
theorem COND_cg {v v' : Value} {t e : Prop} (h : v = v') : COND v t e = COND v' t e := by rw [h]
theorem GEF_cg {c c' : Bool} {f : (Value → World → Prop) → Prop} {w : World} {k : Value → World → Prop} (h : c = c') : GEF c f w k = GEF c' f w k := by rw [h]
theorem load1_at {w : World} {b o : Nat} {c : List Value} {T : Nat} {f : Nat × Nat} {v : Value} (h : blk w b = some (.cells c.toArray T f)) (e : c[o]? = some v) : load1 w (.pointer (some ⟨b, o, none⟩)) = some v := by
  rw [load1_blk h, List.getElem?_toArray, e]
theorem BND_ld {w : World} {b o : Nat} {c : List Value} {T : Nat} {f : Nat × Nat} {v : Value} {k : Value → Prop} (h : blk w b = some (.cells c.toArray T f)) (e : c[o]? = some v) (hk : k v) : BND (load1 w (.pointer (some ⟨b, o, none⟩))) k := ⟨v, load1_at h e, hk⟩
theorem FLT_ld {S : World → Prop} {b o : Nat} {c : List Value} {T : Nat} {f : Nat × Nat} {v : Value} {k : Value → Prop} (h : ∀ w, S w → blk w b = some (.cells c.toArray T f)) (e : c[o]? = some v) (hk : k v) : FLT S (fun w_ => load1 w_ (.pointer (some ⟨b, o, none⟩))) k := ⟨v, fun w hw => load1_at (h w hw) e, hk⟩
theorem BND_ext {vs : List Value} {i : Nat} {v : Value} {k : Value → Prop} (e : vs[i]? = some v) (hk : k v) : BND (extractv (.tuple vs.toArray) i) k := ⟨v, by rw [extractv_tuple, List.getElem?_toArray, e], hk⟩
theorem BND_part {vs : List Value} {o n : Nat} {k : Value → Prop} (us : List Value) (e : (vs.drop o).take n = us) (hk : k (.agg us.toArray)) : BND (partn (.agg vs.toArray) o n) k := ⟨_, by simp [partn, List.extract_eq_take_drop, e], hk⟩
theorem inc_ {n : Nat} (h : n < 4000000000000000000) : binv .int .add (.int .i64 (n : Int)) (.int .i64 1) = some (.int .i64 ((n + 1 : Nat) : Int)) := by
  rw [binv_add, wrap_i64 (by omega) (by omega)]; congr 2
theorem dec_ {n : Nat} (h0 : 0 < n) (h : n < 4000000000000000000) : binv .int .sub (.int .i64 (n : Int)) (.int .i64 1) = some (.int .i64 ((n - 1 : Nat) : Int)) := by
  rw [binv_sub, wrap_i64 (by omega) (by omega)]; congr 2; omega
theorem addn_ {n m : Nat} (h : n + m < 4000000000000000000) : binv .int .add (.int .i64 (n : Int)) (.int .i64 (m : Int)) = some (.int .i64 ((n + m : Nat) : Int)) := by
  rw [binv_add, wrap_i64 (by omega) (by omega)]; congr 2
theorem subn_ {n m : Nat} (h0 : m ≤ n) (h : n < 4000000000000000000) : binv .int .sub (.int .i64 (n : Int)) (.int .i64 (m : Int)) = some (.int .i64 ((n - m : Nat) : Int)) := by
  rw [binv_sub, wrap_i64 (by omega) (by omega)]; congr 2; omega

theorem COND_nd_true {p : Prop} [Decidable p] (h : ¬ p) {t e : Prop} (ht : t) : COND (.bool (!decide p)) t e := .yes (by simp [h]) ht
theorem COND_nd_false {p : Prop} [Decidable p] (h : p) {t e : Prop} (he : e) : COND (.bool (!decide p)) t e := .no (by simp [h]) he
theorem BND_inc {n : Nat} {k : Value → Prop} (h : n < 4000000000000000000) (hk : k (.int .i64 ((n + 1 : Nat) : Int))) : BND (binv .int .add (.int .i64 (n : Int)) (.int .i64 1)) k := ⟨_, inc_ h, hk⟩
theorem BND_dec {n : Nat} {k : Value → Prop} (h : 0 < n ∧ n < 4000000000000000000) (hk : k (.int .i64 ((n - 1 : Nat) : Int))) : BND (binv .int .sub (.int .i64 (n : Int)) (.int .i64 1)) k := ⟨_, dec_ h.1 h.2, hk⟩
theorem steq (a b : ByteArray) : binv .str .eql (.string a) (.string b) = some (.bool (decide (a = b))) := by
  show some (Value.bool (a.toList == b.toList)) = _
  by_cases h : a = b
  · subst h; simp
  · have : ¬ a.toList = b.toList := fun e => h (by rw [ByteArray.toList_eq, ByteArray.toList_eq] at e; exact ByteArray.ext (Array.ext' e))
    simp [h, this]
theorem stne (a b : ByteArray) : binv .str .neq (.string a) (.string b) = some (.bool (!decide (a = b))) := by
  have := steq a b
  have h2 : binv .str .neq (.string a) (.string b) = (binv .str .eql (.string a) (.string b)).bind fun v => unv .not v := rfl
  rw [h2, this]; rfl
/-- a struct put together. -/
def spliceL : List Value → Nat → List Value → List Value
  | c, _, [] => c
  | c, o, v :: vs => spliceL (c.set o v) (o + 1) vs
def buildL : List Value → List (Nat × Nat × Value) → Option (List Value)
  | c, [] => some c
  | c, (off, size, v) :: rest => bif Nat.beq v.cells.toList.length size && Nat.ble (off + size) c.length then buildL (spliceL c off v.cells.toList) rest else none
theorem splice_L : ∀ (vs c : List Value) (o : Nat), splice c.toArray o vs = (spliceL c o vs).toArray
  | [], _, _ => rfl
  | v :: vs, c, o => by rw [splice, spliceL, List.setIfInBounds_toArray]; exact splice_L vs _ _
theorem fillv_L : ∀ (ps : List (Nat × Nat × Value)) (c vs : List Value), buildL c ps = some vs → fillv c.toArray ps = some vs.toArray
  | [], c, vs, h => by simp [buildL] at h; subst h; rfl
  | (off, size, v) :: rest, c, vs, h => by
    rw [buildL] at h
    cases hb : (Nat.beq v.cells.toList.length size && Nat.ble (off + size) c.length) with
    | false => rw [hb] at h; cases h
    | true =>
      rw [hb] at h
      simp only [Bool.and_eq_true, Nat.beq_eq, Nat.ble_eq] at hb
      have hs : v.cells.size = size := by simpa using hb.1
      have hf := fold_splice off v.cells.toList 0 c.toArray
      rw [Nat.add_zero, splice_L] at hf
      have hf2 : (v.cells.zipIdx.foldl (fun cs (x : Value × Nat) => cs.setIfInBounds (off + x.2) x.1) c.toArray) = (spliceL c off v.cells.toList).toArray := by
        rw [← hf, ← Array.foldl_toList, Array.toList_zipIdx]
      rw [fillv, if_neg (by simp [hs]; omega)]
      exact (congrArg (fun x => fillv x rest) hf2).trans (fillv_L rest _ _ h)
theorem build_at {zs : List Value} {ps : List (Nat × Nat × Value)} {vs : List Value} (h : buildL zs ps = some vs) : buildv zs.toArray ps = some (.agg vs.toArray) := by
  unfold buildv
  rw [fillv_L ps zs vs h]; rfl
theorem BND_build {zs : List Value} {ps : List (Nat × Nat × Value)} {k : Value → Prop} (vs : List Value) (h : buildL zs ps = some vs) (hk : k (.agg vs.toArray)) : BND (buildv zs.toArray ps) k := ⟨_, build_at h, hk⟩
/-! ## Steps that need no fact -/
class Ev (o : Option Value) (v : outParam Value) : Prop where
  h : o = some v
theorem stp {o : Option Value} {v : Value} {k : Value → Prop} [h : Ev o v] (hk : k v) : BND o k := ⟨v, h.h, hk⟩
section
variable {t : TK} {k : IntKind} {a b : Int} {p q : Bool} {x y z : Value} {s u : ByteArray}
instance : Ev (some x) x := ⟨rfl⟩
instance {off b o : Nat} : Ev (faddr off (.pointer (some ⟨b, o, none⟩))) (.pointer (some ⟨b, o + off, none⟩)) := ⟨faddr_ptr _ _ _⟩
instance {c : Addr} : Ev (nilchk (.pointer (some c))) (.pointer (some c)) := ⟨rfl⟩
instance {f : Nat} {c d : Array Value} : Ev (nilchk (.func (.func f) c d)) (.func (.func f) c d) := ⟨rfl⟩
instance : Ev (binv t .lss (.int k a) (.int k b)) (.bool (decide (a < b))) := ⟨binv_lss _ _ _ _⟩
instance : Ev (binv t .leq (.int k a) (.int k b)) (.bool (decide (a ≤ b))) := ⟨binv_leq _ _ _ _⟩
instance : Ev (binv t .gtr (.int k a) (.int k b)) (.bool (decide (b < a))) := ⟨binv_gtr _ _ _ _⟩
instance : Ev (binv t .geq (.int k a) (.int k b)) (.bool (decide (b ≤ a))) := ⟨binv_geq _ _ _ _⟩
instance : Ev (binv t .eql (.int k a) (.int k b)) (.bool (decide (a = b))) := ⟨binv_eql _ _ _ _⟩
instance : Ev (binv t .neq (.int k a) (.int k b)) (.bool (!decide (a = b))) := ⟨binv_neq _ _ _ _⟩
instance : Ev (binv .str .eql (.string s) (.string u)) (.bool (decide (s = u))) := ⟨steq _ _⟩
instance : Ev (binv .str .neq (.string s) (.string u)) (.bool (!decide (s = u))) := ⟨stne _ _⟩
instance : Ev (binv .bool .eql (.bool p) (.bool q)) (.bool (p == q)) := ⟨rfl⟩
instance : Ev (binv .bool .neq (.bool p) (.bool q)) (.bool (p != q)) := ⟨rfl⟩
instance {c : Addr} : Ev (binv .ptr .eql (.pointer (some c)) (.pointer none)) (.bool false) := ⟨rfl⟩
instance {c : Addr} : Ev (binv .ptr .neq (.pointer (some c)) (.pointer none)) (.bool true) := ⟨rfl⟩
instance : Ev (binv .ptr .eql (.pointer none) (.pointer none)) (.bool true) := ⟨rfl⟩
instance : Ev (binv .ptr .neq (.pointer none) (.pointer none)) (.bool false) := ⟨rfl⟩
instance : Ev (lens (.string s)) (.int .i64 s.size) := ⟨rfl⟩
instance {c : Option Addr} {n m : Nat} : Ev (lenl (.slice c n m)) (.int .i64 n) := ⟨rfl⟩
instance : Ev (unv .not (.bool p)) (.bool (!p)) := ⟨rfl⟩
instance : Ev (pickv (.bool true) x y) x := ⟨rfl⟩
instance : Ev (pickv (.bool false) x y) y := ⟨rfl⟩
instance : Ev (extractv (.tuple #[x, y]) 0) x := ⟨rfl⟩
instance : Ev (extractv (.tuple #[x, y]) 1) y := ⟨rfl⟩
instance : Ev (extractv (.tuple #[x, y, z]) 0) x := ⟨rfl⟩
instance : Ev (extractv (.tuple #[x, y, z]) 1) y := ⟨rfl⟩
instance : Ev (extractv (.tuple #[x, y, z]) 2) z := ⟨rfl⟩
end
/-- what a bool says. -/
class Dc (b : Bool) (p : outParam Prop) : Prop where
  h : b = true ↔ p
instance {p : Prop} [Decidable p] : Dc (decide p) p := ⟨by simp⟩
instance {p : Prop} [Decidable p] : Dc (!decide p) (¬ p) := ⟨by simp⟩
theorem cyes {b : Bool} {p : Prop} [d : Dc b p] {t e : Prop} (h : p) (ht : t) : COND (.bool b) t e := .yes (by rw [d.h.2 h]) ht
theorem cno {b : Bool} {p : Prop} [d : Dc b p] {t e : Prop} (h : ¬ p) (he : e) : COND (.bool b) t e := .no (by
  cases hb : b with
  | true => exact absurd (d.h.1 hb) h
  | false => rfl) he
theorem gs1 : (∀ {p : Prop} [Decidable p], p → decide p = true) ∧ (∀ {p : Prop} [Decidable p], ¬ p → decide p = false) := ⟨fun h => decide_eq_true h, fun h => decide_eq_false h⟩
theorem gs2 : isB (.bool true) true = true ∧ isB (.bool true) false = false ∧ isB (.bool false) true = false ∧ isB (.bool false) false = true ∧ (∀ o, grd true o = o) ∧ (∀ o, grd false o = some undef) ∧
    (∀ f w k, GEF true f w k ↔ f k) ∧ (∀ f w k, GEF false f w k ↔ k undef w) ∧ (∀ a b : Value, pickv (.bool true) a b = some a) ∧ (∀ a b : Value, pickv (.bool false) a b = some b) ∧ (∀ t e, COND (.bool true) t e ↔ t) ∧ (∀ t e, COND (.bool false) t e ↔ e) ∧ (∀ c, isB undef c = false) :=
  ⟨rfl, rfl, rfl, rfl, fun _ => rfl, fun _ => rfl, GEF_true, GEF_false, fun _ _ => rfl, fun _ _ => rfl, COND_true, COND_false, fun _ => rfl⟩
/-- a loop whose one variable counts up. -/
theorem loop_up {B : (Value → World → Prop) → (Value → World → Nat) → Value → World → Prop} {w : World} (s n : Nat) (I : Nat → World → Prop) (h0 : I s w) (hs : s ≤ n)
    (h : ∀ i w1, s ≤ i → i ≤ n → I i w1 → ∀ J m, (∀ w', i < n → I (i + 1) w' → J (.int .i64 ((i + 1 : Nat) : Int)) w' ∧ m (.int .i64 ((i + 1 : Nat) : Int)) w' < m (.int .i64 (i : Int)) w1) → B J m (.int .i64 (i : Int)) w1) :
    ∃ (J : Value → World → Prop) (m : Value → World → Nat), J (.int .i64 (s : Int)) w ∧ ∀ (_d : Env) (t : Value) (w1 : World), J t w1 → B J m t w1 := by
  refine ⟨fun t w' => ∃ i : Nat, t = .int .i64 i ∧ s ≤ i ∧ i ≤ n ∧ I i w', fun t _ => match t with | .int _ k => n - k.toNat | _ => 0, ⟨s, rfl, Nat.le_refl _, hs, h0⟩, ?_⟩
  rintro _ _ w1 ⟨i, rfl, h1, h2, h3⟩
  exact h i w1 h1 h2 h3 _ _ fun w' h4 h5 => ⟨⟨i + 1, rfl, by omega, by omega, h5⟩, by simp; omega⟩
/-- a loop of something made, and a variable that counts up. -/
theorem loop_up2 {B : (Value → Value → World → Prop) → (Value → Value → World → Nat) → Value → Value → World → Prop} {w : World} {o : Value} (s n : Nat) (I : Value → Nat → World → Prop) (h0 : I o s w) (hs : s ≤ n)
    (h : ∀ o i w1, s ≤ i → i ≤ n → I o i w1 → ∀ J m, (∀ o' w', i < n → I o' (i + 1) w' → J o' (.int .i64 ((i + 1 : Nat) : Int)) w' ∧ m o' (.int .i64 ((i + 1 : Nat) : Int)) w' < m o (.int .i64 (i : Int)) w1) → B J m o (.int .i64 (i : Int)) w1) :
    ∃ (J : Value → Value → World → Prop) (m : Value → Value → World → Nat), J o (.int .i64 (s : Int)) w ∧ ∀ (_d : Env) (o t : Value) (w1 : World), J o t w1 → B J m o t w1 := by
  refine ⟨fun o t w' => ∃ i : Nat, t = .int .i64 i ∧ s ≤ i ∧ i ≤ n ∧ I o i w', fun _ t _ => match t with | .int _ k => n - k.toNat | _ => 0, ⟨s, rfl, Nat.le_refl _, hs, h0⟩, ?_⟩
  rintro _ o _ w1 ⟨i, rfl, h1, h2, h3⟩
  exact h o i w1 h1 h2 h3 _ _ fun o' w' h4 h5 => ⟨⟨i + 1, rfl, by omega, by omega, h5⟩, by simp; omega⟩
/-- two ways that meet: what is known there. -/
theorem join_w {f : (World → Prop) → Prop} {k : World → Prop} (Q : World → Prop) (h : ∀ K, (∀ w', Q w' → K w') → f K) (hk : ∀ w', Q w' → k w') : JOIN f k := h k hk
theorem join_v {f : (Value → World → Prop) → Prop} {k : Value → World → Prop} (Q : Value → World → Prop) (h : ∀ K, (∀ v w', Q v w' → K v w') → f K) (hk : ∀ v w', Q v w' → k v w') : JOIN f k := h k hk

section
variable {α : Type} {enc : α → List Value} {sz : Nat} {w w' : World} {v : Value} {xs : List α} {F : List Nat} {i : Nat} {x : α}
/-- where an element stands. -/
theorem Arr.spot (h : Arr enc sz w v xs) (hx : xs[i]? = some x) (hl : (enc x).length = sz) (k : IntKind) :
    ∃ b o, iaddr sz v (.int k (i : Int)) = some (.pointer (some ⟨b, o, none⟩)) ∧ loadn sz w (.pointer (some ⟨b, o, none⟩)) = some (.agg (enc x).toArray) ∧ b < hsz w ∧
      ∀ {w'}, blk w' b = blk w b → ∀ {j u}, (enc x)[j]? = some u → load1 w' (.pointer (some ⟨b, o + j, none⟩)) = some u := by
  obtain ⟨p, e1, e2, e3⟩ := h.at hx hl k
  obtain ⟨a, cap, rfl, h⟩ := h
  have hi : i < xs.length := (List.getElem?_eq_some_iff.1 hx).1
  rcases h with rfl | ⟨b, o, c, T, fz, rfl, h2, h3⟩
  · simp at hi
  · have ep : p = .pointer (some ⟨b, o + i * sz, none⟩) := by simp [Den.iaddr, hi, add_none] at e1; exact e1.symm
    subst ep
    refine ⟨b, o + i * sz, e1, e2, blk_lt h2, fun hb j u hj => ?_⟩
    rw [load1_blk (hb.trans h2)]
    have hjl : j < sz := by have := (List.getElem?_eq_some_iff.1 hj).1; omega
    rw [(h3 i x hx).2 j hjl, hj]
theorem Arr.ofLen {v2 : Value} (h : Arr enc sz w v xs) (hv : v2 = v) : Arr enc sz w v2 xs := hv ▸ h
theorem Arr.le (h : Arr enc sz w v xs) : ∃ a c, v = .slice a xs.length c := by obtain ⟨a, c, e, _⟩ := h; exact ⟨a, c, e⟩
/-- where an element of a slice that came in stands. -/
def elemP (sz : Nat) (v : Value) (i : Nat) : Value :=
  match v with
  | .slice (some a) _ _ => .pointer (some (a.add (i * sz)))
  | _ => .pointer none
theorem Arr.ui (h : Arr enc sz w v xs) (n : Int) (hx : 0 ≤ n ∧ xs[n.toNat]? = some x) {k : IntKind} : Den.iaddr sz v (.int k n) = some (elemP sz v n.toNat) := by
  obtain ⟨a, cap, rfl, h⟩ := h
  obtain ⟨h0, hx⟩ := hx
  have hi : n.toNat < xs.length := (List.getElem?_eq_some_iff.1 hx).1
  rcases h with rfl | ⟨b, o, c, T, fz, rfl, h2, h3⟩
  · simp at hi
  · simp only [Den.iaddr, elemP]
    rw [if_pos (by omega)]
theorem Arr.ul (h : Arr enc 1 w v xs) {u : Value} (hx : (xs[i]?).bind (fun x => (enc x)[0]?) = some u) : Den.load1 w (elemP 1 v i) = some u := by
  cases hy : xs[i]? with
  | none => simp [hy] at hx
  | some x =>
    simp [hy] at hx
    obtain ⟨a, cap, rfl, h⟩ := h
    have hi : i < xs.length := (List.getElem?_eq_some_iff.1 hy).1
    rcases h with rfl | ⟨b, o, c, T, fz, rfl, h2, h3⟩
    · simp at hi
    · simp only [elemP, add_none]
      have := (h3 i x hy).2 0 (by omega)
      rw [Nat.add_zero] at this
      rw [load1_blk h2, this, hx]
theorem Arr.bui {k : Value → Prop} (h : Arr enc sz w v xs) {n : Int} {kk : IntKind} (hx : 0 ≤ n ∧ xs[n.toNat]? = some x) (hk : k (elemP sz v n.toNat)) : BND (Den.iaddr sz v (.int kk n)) k := ⟨_, h.ui n hx, hk⟩
theorem Arr.bul {k : Value → Prop} (h : Arr enc 1 w v xs) {u : Value} (hx : (xs[i]?).bind (fun x => (enc x)[0]?) = some u) (hk : k u) : BND (Den.load1 w (elemP 1 v i)) k := ⟨_, h.ul hx, hk⟩
theorem FLT_ul {S : World → Prop} {k : Value → Prop} (h : ∀ w, S w → Arr enc 1 w v xs) {u : Value} (hx : (xs[i]?).bind (fun x => (enc x)[0]?) = some u) (hk : k u) : FLT S (fun w_ => Den.load1 w_ (elemP 1 v i)) k := ⟨u, fun w hw => (h w hw).ul hx, hk⟩
/-- a field is given a value. -/
theorem fstore_step {T TT j : Nat} {fs : List Value} {u : Value} {K : World → Prop} (g : blk w T = some (.cells fs.toArray TT (0, 0))) (hu : u.cells = #[u] ∧ u.oneCell' = true) (hj : j < fs.length)
    (h : ∀ w', blk w' T = some (.cells (fs.set j u).toArray TT (0, 0)) → Fr [T] w w' → hsz w' = hsz w → K w') : BND (storev 1 w (.pointer (some ⟨T, j, none⟩)) u) K := by
  refine BND_step (storev1_blk g (by simpa using hj) hu.1 hu.2) ?_
  refine h _ ?_ (Fr.setB (.inl (by simp)) _) (by simp)
  rw [blk_setB_same g, List.setIfInBounds_toArray]
/-- its length is within its capacity. -/
def Capd (v : Value) : Prop := ∃ a n c, v = .slice a n c ∧ n ≤ c
theorem Slc.capd (h : Slc enc sz w v xs F) : Capd v := by
  rcases h with ⟨rfl, _, _⟩ | ⟨b, cap, c, T, rfl, _, hc, _⟩
  · exact ⟨none, 0, 0, rfl, Nat.le_refl _⟩
  · exact ⟨_, _, _, rfl, hc⟩
end
theorem BND_rw {α : Type} {o o' : Option α} {k : α → Prop} (h : o = o') (hk : BND o' k) : BND o k := h ▸ hk
theorem COND_rw {v v' : Value} {t e : Prop} (h : v = v') (hk : COND v' t e) : COND v t e := h ▸ hk
theorem GEF_rw {c c' : Bool} {f : (Value → World → Prop) → Prop} {w : World} {k : Value → World → Prop} (h : c = c') (hk : GEF c' f w k) : GEF c f w k := h ▸ hk
theorem FLT_rw {S : World → Prop} {f f' : World → Option Value} {k : Value → Prop} (h : ∀ w, f w = f' w) (hk : FLT S f' k) : FLT S f k := by
  obtain rfl : f = f' := funext h
  exact hk
/-- what is plain is stepped on, as long as there is something. -/
structure Hid (Q : Prop) : Prop where
  h : Q
theorem gg {P Q : Prop} (h : Q) (k : Hid Q → P := by
    intro h_
    first | refine BND_step (by assumption) ?_ | refine BND_ld (by assumption) (by exact rfl) ?_ | refine stp ?_ | (apply BND_inc; omega) | (apply BND_dec; omega) | refine BND_step (rfl : some _ = some _) ?_ | (apply cyes; first | assumption | omega) | (apply cno; first | assumption | omega) | refine (COND_true _ _).2 ?_ | refine (COND_false _ _).2 ?_ | refine FLT_ld (fun _ h_ => h_) (by exact rfl) ?_ | refine (GEF_true _ _ _).2 ?_ | refine (GEF_false _ _ _).2 ?_ | refine BND_rw (by (simp (disch := first | assumption | omega | rfl) only [gs1, gs2, decide_true, decide_false, beq_self_eq_true, Bool.not_true, Bool.not_false]); try rfl) ?_ | refine COND_rw (by (simp (disch := first | assumption | omega | rfl) only [gs1, gs2, decide_true, decide_false, beq_self_eq_true, Bool.not_true, Bool.not_false]); try rfl) ?_ | refine GEF_rw (by (simp (disch := first | assumption | omega | rfl) only [gs1, gs2, decide_true, decide_false, beq_self_eq_true, Bool.not_true, Bool.not_false]); try rfl) ?_ | refine FLT_rw (fun _ => (by (simp (disch := first | assumption | omega | rfl) only [gs1, gs2, decide_true, decide_false, beq_self_eq_true, Bool.not_true, Bool.not_false]); try rfl)) ?_
    repeat (first | refine BND_step (by assumption) ?_ | refine BND_ld (by assumption) (by exact rfl) ?_ | refine stp ?_ | (apply BND_inc; omega) | (apply BND_dec; omega) | refine BND_step (rfl : some _ = some _) ?_ | (apply cyes; first | assumption | omega) | (apply cno; first | assumption | omega) | refine (COND_true _ _).2 ?_ | refine (COND_false _ _).2 ?_ | refine FLT_ld (fun _ h_ => h_) (by exact rfl) ?_ | refine (GEF_true _ _ _).2 ?_ | refine (GEF_false _ _ _).2 ?_ | refine BND_rw (by (simp (disch := first | assumption | omega | rfl) only [gs1, gs2, decide_true, decide_false, beq_self_eq_true, Bool.not_true, Bool.not_false]); try rfl) ?_ | refine COND_rw (by (simp (disch := first | assumption | omega | rfl) only [gs1, gs2, decide_true, decide_false, beq_self_eq_true, Bool.not_true, Bool.not_false]); try rfl) ?_ | refine GEF_rw (by (simp (disch := first | assumption | omega | rfl) only [gs1, gs2, decide_true, decide_false, beq_self_eq_true, Bool.not_true, Bool.not_false]); try rfl) ?_ | refine FLT_rw (fun _ => (by (simp (disch := first | assumption | omega | rfl) only [gs1, gs2, decide_true, decide_false, beq_self_eq_true, Bool.not_true, Bool.not_false]); try rfl)) ?_)
    exact h_.h) : P := k ⟨h⟩
end Go.Den
end

section
namespace Go.Den
open Go.ChangeShapes Go.WideShapes Go.ChangeAt Go.RowKit
section
variable {α H : Type} {enc : TypeId × Value → H} {P : Program} {w : World} {encS : α → List Value} {OK : α → Prop}
theorem trodS1 {base : Nat} {spare : Nat → Bool} {held : Bool} {t : TypeId} {f0 : Field} {fuel : Nat} {cs : List Value} {x : DataW H × List MemPlace} (ht : P.underlying t = some (.struct #[f0])) (h : DataW.trod enc P w base spare held fuel t cs = some x) :
    ∃ y0 n, x.1 = .agg [y0.1] ∧ cs.length = P.cellsOf t ∧ DataW.trod enc P w base spare held n f0.type ((cs.drop f0.offset).take (P.cellsOf f0.type)) = some y0 := by
  obtain ⟨xs, n, _, rfl, hl, hlen, hf⟩ := DataW.trod_struct ht h
  match xs, hlen with
  | [y0], _ => exact ⟨y0, n, rfl, hl, by simpa using hf 0 f0 rfl⟩
theorem trodS2 {base : Nat} {spare : Nat → Bool} {held : Bool} {t : TypeId} {f0 f1 : Field} {fuel : Nat} {cs : List Value} {x : DataW H × List MemPlace} (ht : P.underlying t = some (.struct #[f0, f1])) (h : DataW.trod enc P w base spare held fuel t cs = some x) :
    ∃ y0 y1 n, x.1 = .agg [y0.1, y1.1] ∧ cs.length = P.cellsOf t ∧ DataW.trod enc P w base spare held n f0.type ((cs.drop f0.offset).take (P.cellsOf f0.type)) = some y0 ∧
      DataW.trod enc P w base spare held n f1.type ((cs.drop f1.offset).take (P.cellsOf f1.type)) = some y1 := by
  obtain ⟨xs, n, _, rfl, hl, hlen, hf⟩ := DataW.trod_struct ht h
  match xs, hlen with
  | [y0, y1], _ => exact ⟨y0, y1, n, rfl, hl, by simpa using hf 0 f0 rfl, by simpa using hf 1 f1 rfl⟩
theorem trodS3 {base : Nat} {spare : Nat → Bool} {held : Bool} {t : TypeId} {f0 f1 f2 : Field} {fuel : Nat} {cs : List Value} {x : DataW H × List MemPlace} (ht : P.underlying t = some (.struct #[f0, f1, f2])) (h : DataW.trod enc P w base spare held fuel t cs = some x) :
    ∃ y0 y1 y2 n, x.1 = .agg [y0.1, y1.1, y2.1] ∧ cs.length = P.cellsOf t ∧ DataW.trod enc P w base spare held n f0.type ((cs.drop f0.offset).take (P.cellsOf f0.type)) = some y0 ∧
      DataW.trod enc P w base spare held n f1.type ((cs.drop f1.offset).take (P.cellsOf f1.type)) = some y1 ∧
      DataW.trod enc P w base spare held n f2.type ((cs.drop f2.offset).take (P.cellsOf f2.type)) = some y2 := by
  obtain ⟨xs, n, _, rfl, hl, hlen, hf⟩ := DataW.trod_struct ht h
  match xs, hlen with
  | [y0, y1, y2], _ => exact ⟨y0, y1, y2, n, rfl, hl, by simpa using hf 0 f0 rfl, by simpa using hf 1 f1 rfl, by simpa using hf 2 f2 rfl⟩
theorem trodS4 {base : Nat} {spare : Nat → Bool} {held : Bool} {t : TypeId} {f0 f1 f2 f3 : Field} {fuel : Nat} {cs : List Value} {x : DataW H × List MemPlace} (ht : P.underlying t = some (.struct #[f0, f1, f2, f3])) (h : DataW.trod enc P w base spare held fuel t cs = some x) :
    ∃ y0 y1 y2 y3 n, x.1 = .agg [y0.1, y1.1, y2.1, y3.1] ∧ cs.length = P.cellsOf t ∧ DataW.trod enc P w base spare held n f0.type ((cs.drop f0.offset).take (P.cellsOf f0.type)) = some y0 ∧
      DataW.trod enc P w base spare held n f1.type ((cs.drop f1.offset).take (P.cellsOf f1.type)) = some y1 ∧
      DataW.trod enc P w base spare held n f2.type ((cs.drop f2.offset).take (P.cellsOf f2.type)) = some y2 ∧
      DataW.trod enc P w base spare held n f3.type ((cs.drop f3.offset).take (P.cellsOf f3.type)) = some y3 := by
  obtain ⟨xs, n, _, rfl, hl, hlen, hf⟩ := DataW.trod_struct ht h
  match xs, hlen with
  | [y0, y1, y2, y3], _ => exact ⟨y0, y1, y2, y3, n, rfl, hl, by simpa using hf 0 f0 rfl, by simpa using hf 1 f1 rfl, by simpa using hf 2 f2 rfl, by simpa using hf 3 f3 rfl⟩
theorem trodS5 {base : Nat} {spare : Nat → Bool} {held : Bool} {t : TypeId} {f0 f1 f2 f3 f4 : Field} {fuel : Nat} {cs : List Value} {x : DataW H × List MemPlace} (ht : P.underlying t = some (.struct #[f0, f1, f2, f3, f4])) (h : DataW.trod enc P w base spare held fuel t cs = some x) :
    ∃ y0 y1 y2 y3 y4 n, x.1 = .agg [y0.1, y1.1, y2.1, y3.1, y4.1] ∧ cs.length = P.cellsOf t ∧ DataW.trod enc P w base spare held n f0.type ((cs.drop f0.offset).take (P.cellsOf f0.type)) = some y0 ∧
      DataW.trod enc P w base spare held n f1.type ((cs.drop f1.offset).take (P.cellsOf f1.type)) = some y1 ∧
      DataW.trod enc P w base spare held n f2.type ((cs.drop f2.offset).take (P.cellsOf f2.type)) = some y2 ∧
      DataW.trod enc P w base spare held n f3.type ((cs.drop f3.offset).take (P.cellsOf f3.type)) = some y3 ∧
      DataW.trod enc P w base spare held n f4.type ((cs.drop f4.offset).take (P.cellsOf f4.type)) = some y4 := by
  obtain ⟨xs, n, _, rfl, hl, hlen, hf⟩ := DataW.trod_struct ht h
  match xs, hlen with
  | [y0, y1, y2, y3, y4], _ => exact ⟨y0, y1, y2, y3, y4, n, rfl, hl, by simpa using hf 0 f0 rfl, by simpa using hf 1 f1 rfl, by simpa using hf 2 f2 rfl, by simpa using hf 3 f3 rfl, by simpa using hf 4 f4 rfl⟩
theorem trodS6 {base : Nat} {spare : Nat → Bool} {held : Bool} {t : TypeId} {f0 f1 f2 f3 f4 f5 : Field} {fuel : Nat} {cs : List Value} {x : DataW H × List MemPlace} (ht : P.underlying t = some (.struct #[f0, f1, f2, f3, f4, f5])) (h : DataW.trod enc P w base spare held fuel t cs = some x) :
    ∃ y0 y1 y2 y3 y4 y5 n, x.1 = .agg [y0.1, y1.1, y2.1, y3.1, y4.1, y5.1] ∧ cs.length = P.cellsOf t ∧ DataW.trod enc P w base spare held n f0.type ((cs.drop f0.offset).take (P.cellsOf f0.type)) = some y0 ∧
      DataW.trod enc P w base spare held n f1.type ((cs.drop f1.offset).take (P.cellsOf f1.type)) = some y1 ∧
      DataW.trod enc P w base spare held n f2.type ((cs.drop f2.offset).take (P.cellsOf f2.type)) = some y2 ∧
      DataW.trod enc P w base spare held n f3.type ((cs.drop f3.offset).take (P.cellsOf f3.type)) = some y3 ∧
      DataW.trod enc P w base spare held n f4.type ((cs.drop f4.offset).take (P.cellsOf f4.type)) = some y4 ∧
      DataW.trod enc P w base spare held n f5.type ((cs.drop f5.offset).take (P.cellsOf f5.type)) = some y5 := by
  obtain ⟨xs, n, _, rfl, hl, hlen, hf⟩ := DataW.trod_struct ht h
  match xs, hlen with
  | [y0, y1, y2, y3, y4, y5], _ => exact ⟨y0, y1, y2, y3, y4, y5, n, rfl, hl, by simpa using hf 0 f0 rfl, by simpa using hf 1 f1 rfl, by simpa using hf 2 f2 rfl, by simpa using hf 3 f3 rfl, by simpa using hf 4 f4 rfl, by simpa using hf 5 f5 rfl⟩
theorem trodS7 {base : Nat} {spare : Nat → Bool} {held : Bool} {t : TypeId} {f0 f1 f2 f3 f4 f5 f6 : Field} {fuel : Nat} {cs : List Value} {x : DataW H × List MemPlace} (ht : P.underlying t = some (.struct #[f0, f1, f2, f3, f4, f5, f6])) (h : DataW.trod enc P w base spare held fuel t cs = some x) :
    ∃ y0 y1 y2 y3 y4 y5 y6 n, x.1 = .agg [y0.1, y1.1, y2.1, y3.1, y4.1, y5.1, y6.1] ∧ cs.length = P.cellsOf t ∧ DataW.trod enc P w base spare held n f0.type ((cs.drop f0.offset).take (P.cellsOf f0.type)) = some y0 ∧
      DataW.trod enc P w base spare held n f1.type ((cs.drop f1.offset).take (P.cellsOf f1.type)) = some y1 ∧
      DataW.trod enc P w base spare held n f2.type ((cs.drop f2.offset).take (P.cellsOf f2.type)) = some y2 ∧
      DataW.trod enc P w base spare held n f3.type ((cs.drop f3.offset).take (P.cellsOf f3.type)) = some y3 ∧
      DataW.trod enc P w base spare held n f4.type ((cs.drop f4.offset).take (P.cellsOf f4.type)) = some y4 ∧
      DataW.trod enc P w base spare held n f5.type ((cs.drop f5.offset).take (P.cellsOf f5.type)) = some y5 ∧
      DataW.trod enc P w base spare held n f6.type ((cs.drop f6.offset).take (P.cellsOf f6.type)) = some y6 := by
  obtain ⟨xs, n, _, rfl, hl, hlen, hf⟩ := DataW.trod_struct ht h
  match xs, hlen with
  | [y0, y1, y2, y3, y4, y5, y6], _ => exact ⟨y0, y1, y2, y3, y4, y5, y6, n, rfl, hl, by simpa using hf 0 f0 rfl, by simpa using hf 1 f1 rfl, by simpa using hf 2 f2 rfl, by simpa using hf 3 f3 rfl, by simpa using hf 4 f4 rfl, by simpa using hf 5 f5 rfl, by simpa using hf 6 f6 rfl⟩
theorem trodS8 {base : Nat} {spare : Nat → Bool} {held : Bool} {t : TypeId} {f0 f1 f2 f3 f4 f5 f6 f7 : Field} {fuel : Nat} {cs : List Value} {x : DataW H × List MemPlace} (ht : P.underlying t = some (.struct #[f0, f1, f2, f3, f4, f5, f6, f7])) (h : DataW.trod enc P w base spare held fuel t cs = some x) :
    ∃ y0 y1 y2 y3 y4 y5 y6 y7 n, x.1 = .agg [y0.1, y1.1, y2.1, y3.1, y4.1, y5.1, y6.1, y7.1] ∧ cs.length = P.cellsOf t ∧ DataW.trod enc P w base spare held n f0.type ((cs.drop f0.offset).take (P.cellsOf f0.type)) = some y0 ∧
      DataW.trod enc P w base spare held n f1.type ((cs.drop f1.offset).take (P.cellsOf f1.type)) = some y1 ∧
      DataW.trod enc P w base spare held n f2.type ((cs.drop f2.offset).take (P.cellsOf f2.type)) = some y2 ∧
      DataW.trod enc P w base spare held n f3.type ((cs.drop f3.offset).take (P.cellsOf f3.type)) = some y3 ∧
      DataW.trod enc P w base spare held n f4.type ((cs.drop f4.offset).take (P.cellsOf f4.type)) = some y4 ∧
      DataW.trod enc P w base spare held n f5.type ((cs.drop f5.offset).take (P.cellsOf f5.type)) = some y5 ∧
      DataW.trod enc P w base spare held n f6.type ((cs.drop f6.offset).take (P.cellsOf f6.type)) = some y6 ∧
      DataW.trod enc P w base spare held n f7.type ((cs.drop f7.offset).take (P.cellsOf f7.type)) = some y7 := by
  obtain ⟨xs, n, _, rfl, hl, hlen, hf⟩ := DataW.trod_struct ht h
  match xs, hlen with
  | [y0, y1, y2, y3, y4, y5, y6, y7], _ => exact ⟨y0, y1, y2, y3, y4, y5, y6, y7, n, rfl, hl, by simpa using hf 0 f0 rfl, by simpa using hf 1 f1 rfl, by simpa using hf 2 f2 rfl, by simpa using hf 3 f3 rfl, by simpa using hf 4 f4 rfl, by simpa using hf 5 f5 rfl, by simpa using hf 6 f6 rfl, by simpa using hf 7 f7 rfl⟩
theorem trodS9 {base : Nat} {spare : Nat → Bool} {held : Bool} {t : TypeId} {f0 f1 f2 f3 f4 f5 f6 f7 f8 : Field} {fuel : Nat} {cs : List Value} {x : DataW H × List MemPlace} (ht : P.underlying t = some (.struct #[f0, f1, f2, f3, f4, f5, f6, f7, f8])) (h : DataW.trod enc P w base spare held fuel t cs = some x) :
    ∃ y0 y1 y2 y3 y4 y5 y6 y7 y8 n, x.1 = .agg [y0.1, y1.1, y2.1, y3.1, y4.1, y5.1, y6.1, y7.1, y8.1] ∧ cs.length = P.cellsOf t ∧ DataW.trod enc P w base spare held n f0.type ((cs.drop f0.offset).take (P.cellsOf f0.type)) = some y0 ∧
      DataW.trod enc P w base spare held n f1.type ((cs.drop f1.offset).take (P.cellsOf f1.type)) = some y1 ∧
      DataW.trod enc P w base spare held n f2.type ((cs.drop f2.offset).take (P.cellsOf f2.type)) = some y2 ∧
      DataW.trod enc P w base spare held n f3.type ((cs.drop f3.offset).take (P.cellsOf f3.type)) = some y3 ∧
      DataW.trod enc P w base spare held n f4.type ((cs.drop f4.offset).take (P.cellsOf f4.type)) = some y4 ∧
      DataW.trod enc P w base spare held n f5.type ((cs.drop f5.offset).take (P.cellsOf f5.type)) = some y5 ∧
      DataW.trod enc P w base spare held n f6.type ((cs.drop f6.offset).take (P.cellsOf f6.type)) = some y6 ∧
      DataW.trod enc P w base spare held n f7.type ((cs.drop f7.offset).take (P.cellsOf f7.type)) = some y7 ∧
      DataW.trod enc P w base spare held n f8.type ((cs.drop f8.offset).take (P.cellsOf f8.type)) = some y8 := by
  obtain ⟨xs, n, _, rfl, hl, hlen, hf⟩ := DataW.trod_struct ht h
  match xs, hlen with
  | [y0, y1, y2, y3, y4, y5, y6, y7, y8], _ => exact ⟨y0, y1, y2, y3, y4, y5, y6, y7, y8, n, rfl, hl, by simpa using hf 0 f0 rfl, by simpa using hf 1 f1 rfl, by simpa using hf 2 f2 rfl, by simpa using hf 3 f3 rfl, by simpa using hf 4 f4 rfl, by simpa using hf 5 f5 rfl, by simpa using hf 6 f6 rfl, by simpa using hf 7 f7 rfl, by simpa using hf 8 f8 rfl⟩
theorem trodS10 {base : Nat} {spare : Nat → Bool} {held : Bool} {t : TypeId} {f0 f1 f2 f3 f4 f5 f6 f7 f8 f9 : Field} {fuel : Nat} {cs : List Value} {x : DataW H × List MemPlace} (ht : P.underlying t = some (.struct #[f0, f1, f2, f3, f4, f5, f6, f7, f8, f9])) (h : DataW.trod enc P w base spare held fuel t cs = some x) :
    ∃ y0 y1 y2 y3 y4 y5 y6 y7 y8 y9 n, x.1 = .agg [y0.1, y1.1, y2.1, y3.1, y4.1, y5.1, y6.1, y7.1, y8.1, y9.1] ∧ cs.length = P.cellsOf t ∧ DataW.trod enc P w base spare held n f0.type ((cs.drop f0.offset).take (P.cellsOf f0.type)) = some y0 ∧
      DataW.trod enc P w base spare held n f1.type ((cs.drop f1.offset).take (P.cellsOf f1.type)) = some y1 ∧
      DataW.trod enc P w base spare held n f2.type ((cs.drop f2.offset).take (P.cellsOf f2.type)) = some y2 ∧
      DataW.trod enc P w base spare held n f3.type ((cs.drop f3.offset).take (P.cellsOf f3.type)) = some y3 ∧
      DataW.trod enc P w base spare held n f4.type ((cs.drop f4.offset).take (P.cellsOf f4.type)) = some y4 ∧
      DataW.trod enc P w base spare held n f5.type ((cs.drop f5.offset).take (P.cellsOf f5.type)) = some y5 ∧
      DataW.trod enc P w base spare held n f6.type ((cs.drop f6.offset).take (P.cellsOf f6.type)) = some y6 ∧
      DataW.trod enc P w base spare held n f7.type ((cs.drop f7.offset).take (P.cellsOf f7.type)) = some y7 ∧
      DataW.trod enc P w base spare held n f8.type ((cs.drop f8.offset).take (P.cellsOf f8.type)) = some y8 ∧
      DataW.trod enc P w base spare held n f9.type ((cs.drop f9.offset).take (P.cellsOf f9.type)) = some y9 := by
  obtain ⟨xs, n, _, rfl, hl, hlen, hf⟩ := DataW.trod_struct ht h
  match xs, hlen with
  | [y0, y1, y2, y3, y4, y5, y6, y7, y8, y9], _ => exact ⟨y0, y1, y2, y3, y4, y5, y6, y7, y8, y9, n, rfl, hl, by simpa using hf 0 f0 rfl, by simpa using hf 1 f1 rfl, by simpa using hf 2 f2 rfl, by simpa using hf 3 f3 rfl, by simpa using hf 4 f4 rfl, by simpa using hf 5 f5 rfl, by simpa using hf 6 f6 rfl, by simpa using hf 7 f7 rfl, by simpa using hf 8 f8 rfl, by simpa using hf 9 f9 rfl⟩
theorem weightsAll_mem {e : TypeId} {p : Nat → Bool} {d : DataW H} : ∀ {l : List (DataW H)}, d ∈ l → (DataW.weightsAll P e l).all p = true → (d.weights P e).all p = true
  | a :: l, h, hw => by
    simp only [DataW.weightsAll, List.all_append, Bool.and_eq_true] at hw
    rcases List.mem_cons.1 h with rfl | h
    · exact hw.1
    · exact weightsAll_mem h hw.2
theorem arr_of_trodW {t e sz : Nat} {v : Value} {OKW : α → Prop} {d : DataW H} {ps : List MemPlace} (ht : P.underlying t = some (.slice e)) (hc : P.cellsOf e = sz) (hsz : 0 < sz) (hl : ∀ x, (encS x).length = sz)
    (hdec : ∀ fuel cs y, DataW.trod enc P w 0 (fun _ => true) true fuel e cs = some y → ∃ x, cs = encS x ∧ OK x ∧ ((y.1.weights P e).all (· ≤ reachBytes) = true → OKW x))
    (h : DataW.Trod enc P w 0 (fun _ => true) true t v d ps) (hv : ∃ a n c, v = .slice a n c) : ∃ xs, Arr encS sz w v xs ∧ ∀ x ∈ xs, OK x ∧ ((d.weights P t).all (· ≤ reachBytes) = true → OKW x) := by
  obtain ⟨a, n, c, rfl⟩ := hv
  obtain ⟨fuel, hf⟩ := h
  rcases Deep.open_slice ht hf with ⟨hcs, _⟩ | ⟨x, len, cap, m, k, D, Pl, hcs, _, hle, _, hm, hx, hel⟩
  · simp [Value.cells] at hcs
    obtain ⟨rfl, rfl, rfl⟩ := hcs
    exact ⟨[], ⟨none, 0, rfl, .inl rfl⟩, by simp⟩
  · simp [Value.cells] at hcs
    obtain ⟨rfl, rfl, rfl⟩ := hcs
    have hnm : n ≤ m := by rw [hm]; simp; omega
    have hex : ∀ i, i < n → ∃ y : α, (OK y ∧ ((d.weights P t).all (· ≤ reachBytes) = true → OKW y)) ∧ ∀ j, j < sz → w.cell? (x.add (i * sz + j)) = (encS y)[j]? := fun i hi => by
      obtain ⟨cs', h1, h2⟩ := hel i (by omega)
      obtain ⟨y, rfl, hy1, hy2⟩ := hdec _ _ _ h2
      have hy : OK y ∧ ((d.weights P t).all (· ≤ reachBytes) = true → OKW y) := ⟨hy1, fun hW => hy2 (by
        obtain rfl := congrArg Prod.fst hx
        simp only [DataW.weights, ht, List.all_cons, List.all_append, Bool.and_eq_true] at hW
        exact weightsAll_mem (List.mem_map.2 ⟨i, List.mem_range.2 hi, rfl⟩) hW.2.1)⟩
      rw [hc] at h1
      obtain ⟨_, h4⟩ := cells?_spec h1
      refine ⟨y, hy, fun j hj => ?_⟩
      have := h4 j hj
      have hadd : (x.add (i * sz)).add j = x.add (i * sz + j) := by
        unfold Addr.add
        by_cases h0 : i * sz = 0
        · simp [h0]
        · by_cases h1 : j = 0
          · simp [h0, h1]
          · simp [h0, h1, Nat.add_assoc]
      rwa [hadd] at this
    have key : ∀ n', n' ≤ n → ∃ xs : List α, xs.length = n' ∧ (∀ y ∈ xs, OK y ∧ ((d.weights P t).all (· ≤ reachBytes) = true → OKW y)) ∧ ∀ i y, xs[i]? = some y → ∀ j, j < sz → w.cell? (x.add (i * sz + j)) = (encS y)[j]? := by
      intro n'
      induction n' with
      | zero => intro _; exact ⟨[], rfl, by simp, by simp⟩
      | succ n' ih =>
        intro hn'
        obtain ⟨xs, h1, h2, h3⟩ := ih (by omega)
        obtain ⟨y, hy, hcell⟩ := hex n' (by omega)
        refine ⟨xs ++ [y], by simp [h1], fun z hz => ?_, fun i z hz j hj => ?_⟩
        · rcases List.mem_append.1 hz with h | h
          · exact h2 z h
          · simp at h; subst h; exact hy
        · by_cases hi : i < xs.length
          · rw [List.getElem?_append_left hi] at hz; exact h3 i z hz j hj
          · rw [List.getElem?_append_right (by omega)] at hz
            have : i = n' := by
              by_cases e : i - xs.length = 0
              · omega
              · simp [e] at hz
            subst this
            simp [h1] at hz; subst hz
            exact hcell j hj
    obtain ⟨xs, h1, h2, h3⟩ := key n (Nat.le_refl _)
    subst h1
    refine ⟨xs, ⟨some x, c, rfl, ?_⟩, h2⟩
    cases xs with
    | nil => exact .inl rfl
    | cons y ys =>
      right
      obtain ⟨b, o, spot⟩ := x
      have h00 := h3 0 y rfl 0 hsz
      rw [Nat.zero_mul, Nat.zero_add] at h00
      have hlen := hl y
      have hsome : ∃ u, w.cell? ⟨b, o, spot⟩ = some u := by
        have : (⟨b, o, spot⟩ : Addr).add 0 = ⟨b, o, spot⟩ := rfl
        rw [this] at h00
        exact ⟨(encS y)[0], by rw [h00, List.getElem?_eq_getElem (by omega)]⟩
      obtain ⟨u, hu⟩ := hsome
      have hspot : spot = none := World.cell?_spot hu
      subst hspot
      have hblk : ∃ c T fz, blk w b = some (.cells c T fz) := by
        unfold World.cell? at hu
        unfold blk
        split at hu
        · exact ⟨_, _, _, by assumption⟩
        · cases hu
      obtain ⟨cc, T, fz, hb⟩ := hblk
      refine ⟨b, o, cc, T, fz, rfl, hb, fun i z hz => ?_⟩
      have hz3 := h3 i z hz
      have hget : ∀ j, j < sz → cc[o + i * sz + j]? = (encS z)[j]? := fun j hj => by
        have := hz3 j hj
        rw [add_none, cell?_blk hb] at this
        rw [Nat.add_assoc]; exact this
      refine ⟨?_, hget⟩
      have h4 := hget (sz - 1) (by omega)
      rw [List.getElem?_eq_getElem (by rw [hl]; omega)] at h4
      have := (Array.getElem?_eq_some_iff.1 h4).1
      omega
theorem wts_slice {t e B fuel n c R : Nat} {a : Option Addr} {y : DataW H × List MemPlace} (ht : P.underlying t = some (.slice e)) (hB : P.bytesOf e = B) (h : DataW.trod enc P w 0 (fun _ => true) true fuel t [.slice a n c] = some y)
    (hw : (y.1.weights P t).all (· ≤ R) = true) : n * B ≤ R := by
  rcases Deep.open_slice ht h with ⟨hcs, _⟩ | ⟨x, len, cap, m, k, D, Pl, hcs, _, hle, _, hm, hx, _⟩
  · simp at hcs
    obtain ⟨_, rfl, _⟩ := hcs
    simp
  · simp at hcs
    obtain ⟨_, rfl, rfl⟩ := hcs
    rw [hx] at hw
    simp only [DataW.weights, ht, List.all_cons, Bool.and_eq_true, decide_eq_true_eq, List.length_map, List.length_range, hB] at hw
    exact Nat.le_trans (Nat.mul_le_mul_right _ (by omega)) hw.1
theorem arr_of_cells {t e sz fuel : Nat} {cs : List Value} {y : DataW H × List MemPlace} (ht : P.underlying t = some (.slice e)) (hc : P.cellsOf e = sz) (hsz : 0 < sz) (hl : ∀ x, (encS x).length = sz)
    (hdec : ∀ fuel cs y, DataW.trod enc P w 0 (fun _ => true) true fuel e cs = some y → ∃ x, cs = encS x ∧ OK x)
    (h : DataW.trod enc P w 0 (fun _ => true) true fuel t cs = some y) : ∃ v, cs = [v] ∧ Capd v ∧ ∃ xs, Arr encS sz w v xs ∧ (∀ x ∈ xs, OK x) ∧ ((y.1.weights P t).all (· ≤ reachBytes) = true → xs.length * P.bytesOf e ≤ reachBytes) := by
  have hv : ∃ a n c, cs = [.slice a n c] ∧ n ≤ c := by
    rcases Deep.open_slice ht h with ⟨rfl, _⟩ | ⟨x, len, cap, m, k, D, Pl, rfl, _, hle, _⟩
    · exact ⟨_, _, _, rfl, Nat.le_refl _⟩
    · exact ⟨_, _, _, rfl, hle⟩
  obtain ⟨a, n, c, rfl, hle⟩ := hv
  refine ⟨_, rfl, ⟨_, _, _, rfl, hle⟩, ?_⟩
  obtain ⟨xs, h1, h2⟩ := arr_of_trod (encS := encS) (OK := OK) (d := y.1) (ps := y.2) ht hc hsz hl hdec ⟨fuel, by simpa [Value.cells] using h⟩ ⟨_, _, _, rfl⟩
  refine ⟨xs, h1, h2, fun hw => ?_⟩
  obtain ⟨_, _, e, _⟩ := h1
  cases e
  exact wts_slice ht rfl h hw
theorem capd_of {t e : Nat} {v : Value} {d : DataW H} {ps : List MemPlace} (ht : P.underlying t = some (.slice e)) (h : DataW.Trod enc P w 0 (fun _ => true) true t v d ps) (hv : ∃ a n c, v = .slice a n c) : Capd v := by
  obtain ⟨a, n, c, rfl⟩ := hv
  obtain ⟨fuel, hf⟩ := h
  rcases Deep.open_slice ht hf with ⟨hcs, _⟩ | ⟨x, len, cap, m, k, D, Pl, hcs, _, hle, _⟩
  · simp [Value.cells] at hcs
    obtain ⟨rfl, rfl, rfl⟩ := hcs
    exact ⟨_, _, _, rfl, Nat.le_refl _⟩
  · simp [Value.cells] at hcs
    obtain ⟨rfl, rfl, rfl⟩ := hcs
    exact ⟨_, _, _, rfl, hle⟩
theorem u64_of_wf {n : Int} (h : (Lit.int .u64 n).wf = true) : 0 ≤ n ∧ n < 18446744073709551616 := int_bounds_u64 h
end
end Go.Den
end

section
namespace Go.Den
/-- what is said of memory, and of which blocks. -/
structure HP where
  p : World → List Nat → Prop
  lt : ∀ {w F}, p w F → ∀ b ∈ F, b < hsz w
  st : ∀ {w w' F}, p w F → (∀ b ∈ F, blk w' b = blk w b) → p w' F
theorem HP.fr (P : HP) {w w' : World} {F G : List Nat} (h : P.p w F) (f : Fr G w w') (hd : ∀ b ∈ F, b ∉ G) : P.p w' F := P.st h fun b hb => f.keep b (P.lt h b hb) (hd b hb)
def pts (b : Nat) (cs : List Value) : HP where
  p w F := (∃ T, blk w b = some (.cells cs.toArray T (0, 0))) ∧ F = [b]
  lt := by rintro w F ⟨⟨T, h⟩, rfl⟩ c hc; simp at hc; subst hc; exact blk_lt h
  st := by rintro w w' F ⟨⟨T, h⟩, rfl⟩ hk; exact ⟨⟨T, by rw [hk b (by simp), h]⟩, rfl⟩
def slc {α : Type} (enc : α → List Value) (sz : Nat) (v : Value) (xs : List α) : HP where
  p w F := Slc enc sz w v xs F
  lt := fun h => h.lt
  st := fun h hk => h.congr hk
def pure_ (φ : Prop) : HP where
  p _ F := φ ∧ F = []
  lt := by rintro w F ⟨_, rfl⟩ b hb; simp at hb
  st := fun h _ => h
def ex {α : Type} (f : α → HP) : HP where
  p w F := ∃ a, (f a).p w F
  lt := by rintro w F ⟨a, h⟩; exact (f a).lt h
  st := by rintro w w' F ⟨a, h⟩ hk; exact ⟨a, (f a).st h hk⟩
def star (P Q : HP) : HP where
  p w F := ∃ A B, P.p w A ∧ Q.p w B ∧ F = A ++ B ∧ ∀ b ∈ A, b ∉ B
  lt := by
    rintro w F ⟨A, B, h1, h2, rfl, _⟩ b hb
    rcases List.mem_append.1 hb with hb | hb
    · exact P.lt h1 b hb
    · exact Q.lt h2 b hb
  st := by
    rintro w w' F ⟨A, B, h1, h2, rfl, hd⟩ hk
    exact ⟨A, B, P.st h1 fun b hb => hk b (by simp [hb]), Q.st h2 fun b hb => hk b (by simp [hb]), rfl, hd⟩
def emp : HP := pure_ True
def stars : List HP → HP
  | [] => emp
  | P :: ps => star P (stars ps)
theorem stars_upd : ∀ (ps : List HP) (i : Nat) (P : HP) {w : World} {F : List Nat}, ps[i]? = some P → (stars ps).p w F → ∃ A, P.p w A ∧ (∀ b ∈ A, b ∈ F) ∧
    ∀ w' A' P', P'.p w' A' → Fr A w w' → (∀ b ∈ A', b ∈ A ∨ hsz w ≤ b) → ∃ F', (stars (ps.set i P')).p w' F' ∧ ∀ b ∈ F', b ∈ F ∨ hsz w ≤ b
  | [], i, P, w, F, hi, _ => by simp at hi
  | Q :: ps, 0, P, w, F, hi, h => by
    simp at hi; subst hi
    obtain ⟨A, B, h1, h2, rfl, hd⟩ := h
    refine ⟨A, h1, fun b hb => by simp [hb], fun w' A' P' h' f sub => ⟨A' ++ B, ⟨A', B, h', (stars ps).fr h2 f fun b hb hb' => hd b hb' hb, rfl, fun b hb hb' => ?_⟩, fun b hb => ?_⟩⟩
    · rcases sub b hb with hx | hx
      · exact hd b hx hb'
      · have := (stars ps).lt h2 b hb'; omega
    · rcases List.mem_append.1 hb with hb | hb
      · rcases sub b hb with hx | hx
        · exact .inl (by simp [hx])
        · exact .inr hx
      · exact .inl (by simp [hb])
  | Q :: ps, i + 1, P, w, F, hi, h => by
    obtain ⟨A, B, h1, h2, rfl, hd⟩ := h
    obtain ⟨C, h3, h4, h5⟩ := stars_upd ps i P (by simpa using hi) h2
    refine ⟨C, h3, fun b hb => by simp [h4 b hb], fun w' A' P' h' f sub => ?_⟩
    obtain ⟨F', h6, h7⟩ := h5 w' A' P' h' f sub
    refine ⟨A ++ F', ⟨A, F', Q.fr h1 f (fun b hb hb' => hd b hb (h4 b hb')), h6, rfl, fun b hb hb' => ?_⟩, fun b hb => ?_⟩
    · rcases h7 b hb' with hx | hx
      · exact hd b hb hx
      · have := Q.lt h1 b hb; omega
    · rcases List.mem_append.1 hb with hb | hb
      · exact .inl (by simp [hb])
      · rcases h7 b hb with hx | hx
        · exact .inl (by simp [hx])
        · exact .inr hx
theorem stars_get : ∀ (ps : List HP) (i : Nat) (P : HP) {w : World} {F : List Nat}, ps[i]? = some P → (stars ps).p w F → ∃ A, P.p w A ∧ ∀ b ∈ A, b ∈ F := fun ps i P w F hi h => by
  obtain ⟨A, h1, h2, _⟩ := stars_upd ps i P hi h
  exact ⟨A, h1, h2⟩

/-- since w0 only blocks of F0 have changed, of those that were there; P is said of some of these and of new ones. -/
def At (w0 : World) (F0 : List Nat) (P : HP) (w : World) : Prop := ∃ F, P.p w F ∧ (∀ b ∈ F, b ∈ F0 ∨ hsz w0 ≤ b) ∧ Fr F0 w0 w
section
variable {w0 w w' : World} {F0 : List Nat} {P Q : HP} {ps : List HP}
theorem At.start (h : P.p w F0) : At w F0 P w := ⟨F0, h, fun _ hb => .inl hb, Fr.refl _ _⟩
theorem At.frame (h : At w0 F0 P w) : Fr F0 w0 w := by obtain ⟨F, _, _, h⟩ := h; exact h
theorem At.fr0 (h : At w0 F0 P w) (f : Fr [] w w') : At w0 F0 P w' := by
  obtain ⟨F, h1, h2, h3⟩ := h
  exact ⟨F, P.fr h1 f (by simp), h2, h3.trans' f.nil⟩
theorem At.upd (h : At w0 F0 (stars ps) w) (i : Nat) {P : HP} (hi : ps[i]? = some P) : ∃ A, P.p w A ∧ ∀ w' A' P', P'.p w' A' → Fr A w w' → (∀ b ∈ A', b ∈ A ∨ hsz w ≤ b) → At w0 F0 (stars (ps.set i P')) w' := by
  obtain ⟨F, h1, h2, h3⟩ := h
  obtain ⟨A, h4, h5, h6⟩ := stars_upd ps i P hi h1
  have gr := h3.grow
  refine ⟨A, h4, fun w' A' P' h' f sub => ?_⟩
  obtain ⟨F', h7, h8⟩ := h6 w' A' P' h' f sub
  refine ⟨F', h7, fun b hb => ?_, h3.trans f fun b hb => h2 b (h5 b hb)⟩
  rcases h8 b hb with hx | hx
  · exact h2 b hx
  · exact .inr (by omega)
theorem At.get (h : At w0 F0 (stars ps) w) (i : Nat) {P : HP} (hi : ps[i]? = some P) : ∃ A, P.p w A ∧ ∀ b ∈ A, b ∈ F0 ∨ hsz w0 ≤ b := by
  obtain ⟨F, h1, h2, h3⟩ := h
  obtain ⟨A, h4, h5⟩ := stars_get ps i P hi h1
  exact ⟨A, h4, fun b hb => h2 b (h5 b hb)⟩
theorem At.add (h : At w0 F0 (stars ps) w) (f : Fr [] w w') {P : HP} {A : List Nat} (hP : P.p w' A) (hA : ∀ b ∈ A, hsz w ≤ b) : At w0 F0 (stars (P :: ps)) w' := by
  obtain ⟨F, h1, h2, h3⟩ := h
  have gr := h3.grow
  refine ⟨A ++ F, ⟨A, F, hP, (stars ps).fr h1 f (by simp), rfl, fun b hb hb' => ?_⟩, fun b hb => ?_, h3.trans' f.nil⟩
  · have := (stars ps).lt h1 b hb'; have := hA b hb; omega
  · rcases List.mem_append.1 hb with hb | hb
    · have := hA b hb; exact .inr (by omega)
    · exact h2 b hb
theorem At.nothing (w : World) : At w [] (stars []) w := ⟨[], ⟨trivial, rfl⟩, by simp, Fr.refl _ _⟩
theorem At.add0 (h : At w0 F0 (stars ps) w) {P : HP} (hP : P.p w []) : At w0 F0 (stars (P :: ps)) w := by
  obtain ⟨F, h1, h2, h3⟩ := h
  exact ⟨F, ⟨[], F, hP, h1, rfl, by simp⟩, h2, h3⟩
theorem At.cell {i b : Nat} {cs : List Value} (h : At w0 F0 (stars ps) w) (hi : ps[i]? = some (pts b cs)) : ∃ T, blk w b = some (.cells cs.toArray T (0, 0)) := by
  obtain ⟨A, ⟨h1, _⟩, _⟩ := h.get i hi
  exact h1
/-- a field of a block is given a value. -/
theorem At.store {i b j : Nat} {cs : List Value} {u : Value} {K : World → Prop} (h : At w0 F0 (stars ps) w) (hi : ps[i]? = some (pts b cs)) (hu : u.cells = #[u] ∧ u.oneCell' = true) (hj : j < cs.length)
    (hK : ∀ w', At w0 F0 (stars (ps.set i (pts b (cs.set j u)))) w' → Fr [b] w w' → K w') : BND (storev 1 w (.pointer (some ⟨b, j, none⟩)) u) K := by
  obtain ⟨A, ⟨⟨T, h1⟩, rfl⟩, upd⟩ := h.upd i hi
  exact fstore_step h1 hu hj fun w' b' f' _ => hK w' (upd w' [b] (pts b (cs.set j u)) ⟨⟨T, b'⟩, rfl⟩ f' (fun _ hb => .inl hb)) f'
/-- a whole block is given values. -/
theorem At.put {i b n : Nat} {cs vs : List Value} {K : World → Prop} (h : At w0 F0 (stars ps) w) (hi : ps[i]? = some (pts b cs)) (hz : cs.length = n) (hv : vs.length = n) (h1 : ∀ u ∈ vs, u.oneCell' = true) (hn : vs ≠ [])
    (hK : ∀ w', At w0 F0 (stars (ps.set i (pts b vs))) w' → Fr [b] w w' → K w') : BND (storev n w (.pointer (some ⟨b, 0, none⟩)) (.agg vs.toArray)) K := by
  obtain ⟨A, ⟨⟨T, h2⟩, rfl⟩, upd⟩ := h.upd i hi
  exact put_step h2 (by simpa using hz) hv h1 hn fun w' b' f' _ => hK w' (upd w' [b] (pts b vs) ⟨⟨T, b'⟩, rfl⟩ f' (fun _ hb => .inl hb)) f'
/-- things are put behind a slice. -/
theorem At.append2 {α : Type} {enc : α → List Value} {sz i E bytes : Nat} {zero v u : Value} {xs ys : List α} {K : Value → World → Prop} (h : At w0 F0 (stars ps) w) (hi : ps[i]? = some (slc enc sz v xs)) (hu : cellsOfArg w sz u = some (flat enc ys, ys.length))
    (hl : ∀ x, (enc x).length = sz) (hl1 : ∀ x, ∀ u ∈ enc x, u.oneCell' = true) (hz : zero.cells.size = sz) (hb : (xs.length + ys.length) * bytes ≤ 140737488355328) (hmax : xs.length + ys.length ≤ 9223372036854775807)
    (hK : ∀ v' w', At w0 F0 (stars (ps.set i (slc enc sz v' (xs ++ ys)))) w' → v'.cells = #[v'] ∧ v'.oneCell' = true → K v' w') : APPEND E sz bytes zero v u w K := by
  obtain ⟨A, hA, upd⟩ := h.upd i hi
  have hA' : Slc enc sz w v xs A := hA
  exact APPEND_slc hA' hu hl hl1 hz hb hmax fun v' w' F' s' f' sub => hK v' w' (upd w' F' (slc enc sz v' (xs ++ ys)) s' f' sub) s'.one
theorem At.append {α : Type} {enc : α → List Value} {sz i E bytes : Nat} {zero v u : Value} {xs ys : List α} {K : Value → World → Prop} (h : At w0 F0 (stars ps) w) (hi : ps[i]? = some (slc enc sz v xs)) (hu : cellsOfArg w sz u = some (flat enc ys, ys.length))
    (hl : ∀ x, (enc x).length = sz) (hl1 : ∀ x, ∀ u ∈ enc x, u.oneCell' = true) (hz : zero.cells.size = sz) (hb : bytes ≤ 1000) (hmax : xs.length + ys.length < 100000000000)
    (hK : ∀ v' w', At w0 F0 (stars (ps.set i (slc enc sz v' (xs ++ ys)))) w' → v'.cells = #[v'] ∧ v'.oneCell' = true → K v' w') : APPEND E sz bytes zero v u w K :=
  h.append2 hi hu hl hl1 hz (Nat.le_trans (Nat.mul_le_mul_left _ hb) (by omega)) (by omega) hK
theorem At.slc1 {α : Type} {enc : α → List Value} {sz : Nat} {v : Value} {xs : List α} (h : At w0 F0 (stars ps) w) {i : Nat} (hi : ps[i]? = some (slc enc sz v xs)) : ∃ F, Slc enc sz w v xs F ∧ ∀ b ∈ F, b ∈ F0 ∨ hsz w0 ≤ b := h.get i hi
theorem At.arr {α : Type} {enc : α → List Value} {sz : Nat} {v : Value} {xs : List α} (h : At w0 F0 (stars ps) w) {i : Nat} (hi : ps[i]? = some (slc enc sz v xs)) : Arr enc sz w v xs := by
  obtain ⟨F, h1, _⟩ := h.slc1 hi
  exact h1.arr
theorem At.swap {P Q : HP} (h : At w0 F0 (stars (P :: Q :: ps)) w) : At w0 F0 (stars (Q :: P :: ps)) w := by
  obtain ⟨F, ⟨A, B, p1, ⟨C, D, p2, p3, rfl, p4⟩, rfl, p5⟩, p6, p7⟩ := h
  refine ⟨C ++ (A ++ D), ⟨C, A ++ D, p2, ⟨A, D, p1, p3, rfl, fun b hb hd => p5 b hb (by simp [hd])⟩, rfl, fun b hb hd => ?_⟩, fun b hb => p6 b ?_, p7⟩
  · rcases List.mem_append.1 hd with hd | hd
    · exact p5 b hd (by simp [hb])
    · exact p4 b hb hd
  · simp only [List.mem_append] at hb ⊢
    rcases hb with h | h | h
    · exact .inr (.inl h)
    · exact .inl h
    · exact .inr (.inr h)
theorem At.base {w1 : World} (f : Fr [] w0 w1) (h : At w1 [] P w) : At w0 [] P w := by
  obtain ⟨F, h1, h2, h3⟩ := h
  have := f.grow
  exact ⟨F, h1, fun b hb => .inr (by have := (h2 b hb).resolve_left (by simp); omega), f.trans' h3⟩
theorem At.tail (h : At w0 F0 (stars (P :: ps)) w) : At w0 F0 (stars ps) w := by
  obtain ⟨F, ⟨A, B, h1, h2, rfl, _⟩, h3, h4⟩ := h
  exact ⟨B, h2, fun b hb => h3 b (by simp [hb]), h4⟩
end
/-! ## Structs compared -/
theorem eqCells_int {o : Nat} {k : IntKind} {r : List (Nat × TypeDesc)} {xs ys : List Value} {a b : Int} (hx : xs[o]? = some (.int k a)) (hy : ys[o]? = some (.int k b)) : eqCells ((o, .int k) :: r) xs.toArray ys.toArray = if a = b then eqCells r xs.toArray ys.toArray else some false := by
  rw [eqCells]
  simp only [List.getElem?_toArray, hx, hy, eqCell, if_true, beq_dec]
  by_cases h : a = b <;> simp [h]
theorem eqCells_bool {o : Nat} {r : List (Nat × TypeDesc)} {xs ys : List Value} {a b : Bool} (hx : xs[o]? = some (.bool a)) (hy : ys[o]? = some (.bool b)) : eqCells ((o, .bool) :: r) xs.toArray ys.toArray = if a = b then eqCells r xs.toArray ys.toArray else some false := by
  rw [eqCells]
  simp only [List.getElem?_toArray, hx, hy, eqCell]
  cases a <;> cases b <;> rfl
theorem eqCells_str {o : Nat} {r : List (Nat × TypeDesc)} {xs ys : List Value} {a b : ByteArray} (hx : xs[o]? = some (.string a)) (hy : ys[o]? = some (.string b)) : eqCells ((o, .string) :: r) xs.toArray ys.toArray = if a = b then eqCells r xs.toArray ys.toArray else some false := by
  have hs : (a.toList == b.toList) = decide (a = b) := by
    have h := steq a b
    simpa [binv, bins] using h
  rw [eqCells]
  simp only [List.getElem?_toArray, hx, hy, eqCell, hs]
  by_cases h : a = b <;> simp [h]
theorem eqCells_nil {xs ys : List Value} : eqCells [] xs.toArray ys.toArray = some (decide True) := by simp [eqCells]
theorem ite_and_d {p q : Prop} [Decidable p] [Decidable q] : (if p then some (decide q) else some false) = some (decide (p ∧ q)) := by
  by_cases h : p <;> simp [h]
theorem eqagg_ne {ks : List (Nat × TypeDesc)} {xs ys : List Value} {b : Bool} (h : eqCells ks xs.toArray ys.toArray = some b) : eqaggv ks .neq (.agg xs.toArray) (.agg ys.toArray) = some (.bool !b) := by
  simp [eqaggv, h, binn]
theorem eqagg_eq {ks : List (Nat × TypeDesc)} {xs ys : List Value} {b : Bool} (h : eqCells ks xs.toArray ys.toArray = some b) : eqaggv ks .eql (.agg xs.toArray) (.agg ys.toArray) = some (.bool b) := by
  simp [eqaggv, h, binn]
end Go.Den
end

section
namespace Go.Den
section
variable {w0 w w' w1 w2 : World} {A B : List Nat} {P Q P' Q' : HP}
theorem At.two (h : At w0 [] (stars [P, Q]) w) (f : Fr [] w w') : ∃ A B, At w' A P w' ∧ At w' B Q w' ∧ (∀ b ∈ A, b < hsz w) ∧ (∀ b ∈ B, b < hsz w) ∧ (∀ b ∈ A, b ∉ B) ∧ Fr [] w0 w' ∧ (∀ b ∈ A, b ∈ ([] : List Nat) ∨ hsz w0 ≤ b) ∧ (∀ b ∈ B, b ∈ ([] : List Nat) ∨ hsz w0 ≤ b) := by
  obtain ⟨F, ⟨A, C, p1, ⟨B, D, p2, _, rfl, p3⟩, rfl, p4⟩, p5, p6⟩ := h
  refine ⟨A, B, At.start (P.fr p1 f (by simp)), At.start (Q.fr p2 f (by simp)), P.lt p1, Q.lt p2, fun b h1 h2 => p4 b h1 (by simp [h2]), p6.trans' f, fun b hb => p5 b (by simp [hb]), fun b hb => p5 b (by simp [hb])⟩
/-- the second one has changed: the first one stands. -/
theorem At.first (hA : At w A P w) (hB : At w B Q' w1) (hd : ∀ b ∈ A, b ∉ B) : At w1 A P w1 := by
  obtain ⟨F, h1, h2, _⟩ := hA
  have hF : ∀ b ∈ F, b ∈ A := fun b hb => by
    rcases h2 b hb with h | h
    · exact h
    · have := P.lt h1 b hb; omega
  exact ⟨F, P.fr h1 hB.frame fun b hb => hd b (hF b hb), fun b hb => .inl (hF b hb), Fr.refl _ _⟩
theorem At.join2 (hB : At w B Q' w1) (hA : At w1 A P' w2) (hd : ∀ b ∈ A, b ∉ B) (hA1 : ∀ b ∈ A, b < hsz w) (f : Fr [] w0 w) (hA2 : ∀ b ∈ A, b ∈ ([] : List Nat) ∨ hsz w0 ≤ b) (hB2 : ∀ b ∈ B, b ∈ ([] : List Nat) ∨ hsz w0 ≤ b) : At w0 [] (stars [P', Q']) w2 := by
  obtain ⟨F1, p1, p2, p3⟩ := hB
  obtain ⟨F2, q1, q2, q3⟩ := hA
  have g1 := f.grow
  have g2 := p3.grow
  have dis : ∀ b ∈ F1, b ∉ A := fun b hb hb' => by
    rcases p2 b hb with h | h
    · exact hd b hb' h
    · have := hA1 b hb'; omega
  refine ⟨F2 ++ F1, ⟨F2, F1 ++ [], q1, ⟨F1, [], Q'.fr p1 q3 dis, ⟨trivial, rfl⟩, rfl, by simp⟩, by simp, fun b hb hb' => ?_⟩, fun b hb => ?_, (f.trans p3 hB2).trans q3 hA2⟩
  · simp only [List.append_nil] at hb'
    rcases q2 b hb with h | h
    · exact dis b hb' h
    · have := Q'.lt p1 b hb'; omega
  · rcases List.mem_append.1 hb with hb | hb
    · rcases q2 b hb with h | h
      · exact hA2 b h
      · right; omega
    · rcases p2 b hb with h | h
      · exact hB2 b h
      · right; omega
end
/-- the beginning of a slice of one's own. -/
theorem Slc.pre {α : Type} {enc : α → List Value} {sz n : Nat} {w : World} {v : Value} {xs : List α} {F : List Nat} (s : Slc enc sz w v xs F) (hn : n ≤ xs.length) :
    ∃ v', slicev sz v none (some (.int .i64 (n : Int))) = some v' ∧ Arr enc sz w v' (xs.take n) := by
  have ha := s.arr
  obtain ⟨a, cap, hv, hc⟩ : ∃ a cap, v = .slice a xs.length cap ∧ xs.length ≤ cap := by
    rcases s with ⟨rfl, rfl, _⟩ | ⟨b, cap, c, T, rfl, _, hc, _⟩
    · exact ⟨_, _, rfl, Nat.le_refl _⟩
    · exact ⟨_, _, rfl, hc⟩
  obtain ⟨a', cap', hv', h⟩ := ha
  rw [hv] at hv'
  cases hv'
  subst hv
  have e : (if cap = 0 then a else a.map (·.add (0 * sz))) = a := by
    by_cases h0 : cap = 0
    · rw [if_pos h0]
    · rw [if_neg h0]
      cases a with
      | none => rfl
      | some a => obtain ⟨b, o, p⟩ := a; cases p <;> simp [Addr.add]
  refine ⟨.slice a n cap, ?_, a, cap, by rw [List.length_take]; congr 1; omega, ?_⟩
  · unfold slicev
    simp only [natOf]
    simp [show n ≤ cap by omega]
    simpa using e
  · rcases h with h | ⟨b, o, c, T, fz, h1, h2, h3⟩
    · left; rw [h]; simp
    · right
      refine ⟨b, o, c, T, fz, h1, h2, fun i x hx => ?_⟩
      have hi : i < n := by
        have := (List.getElem?_eq_some_iff.1 hx).1
        rw [List.length_take] at this; omega
      rw [List.getElem?_take_of_lt hi] at hx
      exact h3 i x hx
/-- a slice's header. -/
structure SV where
  a : Option Addr
  n : Nat
  c : Nat
def SV.v (x : SV) : Value := .slice x.a x.n x.c
def encV (x : SV) : List Value := [x.v]
theorem encV_len (x : SV) : (encV x).length = 1 := rfl
theorem encV_one (x : SV) : ∀ u ∈ encV x, u.oneCell' = true := by intro u hu; simp [encV] at hu; subst hu; rfl
theorem slc_sv {α : Type} {enc : α → List Value} {sz : Nat} {w : World} {v : Value} {xs : List α} {F : List Nat} (s : Slc enc sz w v xs F) : ∃ x : SV, v = x.v := by
  rcases s with ⟨rfl, _⟩ | ⟨b, cap, c, T, rfl, _⟩
  · exact ⟨⟨none, 0, 0⟩, rfl⟩
  · exact ⟨⟨_, _, _⟩, rfl⟩
section
variable {α : Type} {enc : α → List Value} {sz : Nat} {w w' : World} {v u : Value} {xs ys : List α} {F G : List Nat} {k : Value → World → Prop}
/-- a new slice of what another one has. -/
theorem copy_step {E E' bytes : Nat} {zero : Array Value} {zero' : Value} (hu : ∀ w1, Fr [] w w1 → cellsOfArg w1 sz u = some (flat enc ys, ys.length)) (hl : ∀ x, (enc x).length = sz) (hl1 : ∀ x, ∀ u ∈ enc x, u.oneCell' = true) (hz : zero'.cells.size = sz) (hb : bytes ≤ 1000)
    (hmax : ys.length < 100000000000) (K : ∀ v' w' G, Slc enc sz w' v' ys G → (∀ b ∈ G, hsz w ≤ b) → Fr [] w w' → k v' w') : BND (newslice E zero sz 0 [] w) fun p_ => NEW p_ fun t w1 => APPEND E' sz bytes zero' t u w1 k := by
  refine newnil_step enc fun t w1 s1 f1 z1 => ?_
  refine APPEND_slc s1 (hu w1 f1) hl hl1 hz (by simp only [List.length_nil, Nat.zero_add]; exact Nat.le_trans (Nat.mul_le_mul_left _ hb) (by omega)) (by simp; omega) fun v' w' F' s' f' sub => ?_
  refine K v' w' F' (by simpa using s') (fun b hb => ?_) (f1.trans f' fun b hb => .inr (by simp at hb; omega))
  rcases sub b hb with h | h
  · simp at h; omega
  · omega
/-- one more behind a slice. -/
theorem push_step {E E' bytes : Nat} {zero : Array Value} {zero' y : Value} {x : α} (s : Slc enc sz w v xs G) (hl : ∀ x, (enc x).length = sz) (hl1 : ∀ x, ∀ u ∈ enc x, u.oneCell' = true) (hy : y.cells = (enc x).toArray) (hz : zero'.cells.size = sz) (hb : bytes ≤ 1000)
    (hmax : xs.length < 10000000000) (K : ∀ v' w' G', Slc enc sz w' v' (xs ++ [x]) G' → (∀ b ∈ G', b ∈ G ∨ hsz w ≤ b) → Fr G w w' → k v' w') : BND (newslice E zero sz 1 [(0, sz, y)] w) fun p_ => NEW p_ fun t w1 => APPEND E' sz bytes zero' v t w1 k := by
  refine newone_step hl hy fun t w1 s1 f1 z1 => ?_
  refine APPEND_slc (s.fr f1 (by simp)) (s1.loads hl) hl hl1 hz (Nat.le_trans (Nat.mul_le_mul_left _ hb) (by simp; omega)) (by simp; omega) fun v' w' F' s' f' sub => ?_
  refine K v' w' F' s' (fun b hb => ?_) (f1.nil.trans' f')
  rcases sub b hb with h | h
  · exact .inl h
  · exact .inr (by omega)
end
end Go.Den
end

section
namespace Go.Crc
open Go.Den
def poly : BitVec 32 := 2197175160#32
def stepC (s : BitVec 32) : BitVec 32 := if (s &&& 1#32) = 1#32 then (s >>> 1) ^^^ poly else s >>> 1
def iterC : Nat → BitVec 32 → BitVec 32
  | 0, s => s
  | n + 1, s => stepC (iterC n s)
def ent (s : BitVec 32) : BitVec 32 := iterC 8 s
def idxC (s : BitVec 32) (c : UInt8) : BitVec 8 := s.setWidth 8 ^^^ c.toBitVec
def byteC (s : BitVec 32) (c : UInt8) : BitVec 32 := (s >>> 8) ^^^ ent ((idxC s c).setWidth 32)
def crcU (s : BitVec 32) (b : List UInt8) : BitVec 32 := b.foldl byteC s
def crcOf (b : List UInt8) : BitVec 32 := ~~~ crcU (~~~ 0#32) b
def low8 (n : BitVec 32) : UInt8 := UInt8.ofBitVec (n.setWidth 8)
def four (n : BitVec 32) : List UInt8 := [low8 n, low8 (n >>> 8), low8 (n >>> 16), low8 (n >>> 24)]
def putS (b : List UInt8) : List UInt8 := b ++ four (crcOf b)
def cutS (b : List UInt8) : Option (List UInt8) := if b.length < 4 then none else if b.drop (b.length - 4) = four (crcOf (b.take (b.length - 4))) then some (b.take (b.length - 4)) else none
theorem four_len (n : BitVec 32) : (four n).length = 4 := rfl
theorem putS_len (b : List UInt8) : (putS b).length = b.length + 4 := by unfold putS; rw [List.length_append, four_len]
theorem cut_put (b : List UInt8) : cutS (putS b) = some b := by
  unfold cutS
  rw [if_neg (by rw [putS_len]; omega), putS_len]
  have e1 : (putS b).take (b.length + 4 - 4) = b := by unfold putS; simp
  have e2 : (putS b).drop (b.length + 4 - 4) = four (crcOf b) := by unfold putS; simp
  rw [e1, e2, if_pos rfl]
/-! ## The words of numbers -/
theorem wrap_u32 {n : Nat} (h : n < 4294967296) : IntKind.u32.wrap (n : Int) = (n : Int) := by
  simp only [IntKind.wrap, IntKind.bits, IntKind.signed]
  simp
  omega
theorem wrap_u8 (n : Nat) : IntKind.u8.wrap (n : Int) = ((n % 256 : Nat) : Int) := by
  simp only [IntKind.wrap, IntKind.bits, IntKind.signed]
  simp
theorem ofInt_toNat (k : Nat) (x : BitVec k) : BitVec.ofInt k (x.toNat : Int) = x := by
  apply BitVec.eq_of_toNat_eq
  simp
theorem xor32 (a b : BitVec 32) : binv .int .xor (.int .u32 (a.toNat : Int)) (.int .u32 (b.toNat : Int)) = some (.int .u32 ((a ^^^ b).toNat : Int)) := by
  show some (Value.int .u32 (IntKind.u32.wrap ((BitVec.ofInt 32 (a.toNat : Int) ^^^ BitVec.ofInt 32 (b.toNat : Int)).toNat : Int))) = _
  rw [ofInt_toNat, ofInt_toNat, wrap_u32 (BitVec.isLt _)]
theorem and32 (a b : BitVec 32) : binv .int .and (.int .u32 (a.toNat : Int)) (.int .u32 (b.toNat : Int)) = some (.int .u32 ((a &&& b).toNat : Int)) := by
  show some (Value.int .u32 (IntKind.u32.wrap ((BitVec.ofInt 32 (a.toNat : Int) &&& BitVec.ofInt 32 (b.toNat : Int)).toNat : Int))) = _
  rw [ofInt_toNat, ofInt_toNat, wrap_u32 (BitVec.isLt _)]
theorem not32 (a : BitVec 32) : unv .xor (.int .u32 (a.toNat : Int)) = some (.int .u32 ((~~~ a).toNat : Int)) := by
  show some (Value.int .u32 (IntKind.u32.wrap ((BitVec.ofInt 32 4294967295 ^^^ BitVec.ofInt 32 (a.toNat : Int)).toNat : Int))) = _
  rw [ofInt_toNat, wrap_u32 (BitVec.isLt _)]
  congr 3
theorem shr32 (a : BitVec 32) (k : Nat) (h : k ≤ 32) : shiftv .shr (.int .u32 (a.toNat : Int)) (.int .u64 (k : Int)) = some (.int .u32 ((a >>> k).toNat : Int)) := by
  simp only [shiftv]
  rw [if_pos (by omega)]
  have : min (k : Int).toNat IntKind.u32.bits = k := by simp [IntKind.bits]; omega
  rw [this, BitVec.toNat_ushiftRight, Nat.shiftRight_eq_div_pow]
  congr 2
  rw [Int.fdiv_eq_ediv_of_nonneg _ (by exact_mod_cast Nat.zero_le _)]
  norm_cast
theorem conv8 (a : BitVec 32) : convi .u8 (.int .u32 (a.toNat : Int)) = some (.int .u8 ((low8 a).toNat : Int)) := by
  simp only [convi]
  rw [wrap_u8]
  congr 2
theorem xor8 (a b : UInt8) : binv .int .xor (.int .u8 (a.toNat : Int)) (.int .u8 (b.toNat : Int)) = some (.int .u8 ((a.toBitVec ^^^ b.toBitVec).toNat : Int)) := by
  show some (Value.int .u8 (IntKind.u8.wrap ((BitVec.ofInt 8 (a.toBitVec.toNat : Int) ^^^ BitVec.ofInt 8 (b.toBitVec.toNat : Int)).toNat : Int))) = _
  rw [ofInt_toNat, ofInt_toNat, wrap_u8, Nat.mod_eq_of_lt (BitVec.isLt _)]
end Go.Crc
end

section
namespace Go.Vint
open Go.Den
def layV (n : Nat) : List UInt8 := if h : n < 128 then [UInt8.ofNat n] else UInt8.ofNat (n % 128 + 128) :: layV (n / 128)
termination_by n
decreasing_by omega
theorem layV_lt {n : Nat} (h : n < 128) : layV n = [UInt8.ofNat n] := by rw [layV]; simp [h]
theorem layV_ge {n : Nat} (h : ¬ n < 128) : layV n = UInt8.ofNat (n % 128 + 128) :: layV (n / 128) := by rw [layV]; simp [h]
def getL : List UInt8 → Nat → Nat → Nat × Nat × Int
  | [], _, _ => (0, 0, 3)
  | c :: r, i, n => if i = 9 ∧ 1 < c.toNat then (0, 0, 2) else
    if 128 ≤ c.toNat then getL r (i + 1) (n + c.toNat % 128 * 2 ^ (7 * i)) else if c.toNat = 0 ∧ 0 < i then (0, 0, 2) else (n + c.toNat % 128 * 2 ^ (7 * i), i + 1, 0)
def getV (b : List UInt8) : Nat × Nat × Int := getL b 0 0
theorem ofNat_toNat {n : Nat} (h : n < 256) : (UInt8.ofNat n).toNat = n := by rw [UInt8.toNat_ofNat']; omega
theorem layV_len : ∀ (i n : Nat), n < 2 ^ (7 * i) → 0 < i → (layV n).length ≤ i
  | 0, _, _, h => by omega
  | i + 1, n, h, _ => by
    by_cases hn : n < 128
    · rw [layV_lt hn]; simp
    · rw [layV_ge hn]
      have h2 : n / 128 < 2 ^ (7 * i) := by
        rw [Nat.div_lt_iff_lt_mul (by omega)]
        have : 2 ^ (7 * (i + 1)) = 2 ^ (7 * i) * 128 := by rw [Nat.mul_add, Nat.pow_add]
        omega
      have hi : 0 < i := by
        rcases Nat.eq_zero_or_pos i with h0 | h0
        · subst h0; simp at h2; omega
        · exact h0
      have := layV_len i (n / 128) h2 hi
      simp; omega
theorem layV_le (n : Nat) (h : n < 18446744073709551616) : (layV n).length ≤ 10 := layV_len 10 n (by omega) (by omega)
theorem layV_pos (n : Nat) : 0 < (layV n).length := by
  by_cases hn : n < 128
  · rw [layV_lt hn]; simp
  · rw [layV_ge hn]; simp
theorem get_lay : ∀ (m i n : Nat) (r : List UInt8), n * 2 ^ (7 * i) < 18446744073709551616 → (0 < i → 0 < n) → getL (layV n ++ r) i m = (m + n * 2 ^ (7 * i), i + (layV n).length, 0) := by
  intro m i n
  induction n using Nat.strongRecOn generalizing m i with
  | _ n ih =>
    intro r hb hp
    have h9 : i = 9 → n < 2 := fun h => by subst h; omega
    by_cases hn : n < 128
    · rw [layV_lt hn]
      simp only [List.cons_append, List.nil_append, getL]
      rw [ofNat_toNat (by omega), if_neg (by omega), if_neg (by omega), if_neg (by omega), Nat.mod_eq_of_lt hn]
      simp
    · rw [layV_ge hn]
      simp only [List.cons_append, getL]
      rw [ofNat_toNat (by omega), if_neg (by omega), if_pos (by omega)]
      have e : (n % 128 + 128) % 128 = n % 128 := by omega
      have hp2 : 2 ^ (7 * (i + 1)) = 2 ^ (7 * i) * 128 := by rw [Nat.mul_add, Nat.pow_add]
      have hle : n / 128 * 2 ^ (7 * (i + 1)) ≤ n * 2 ^ (7 * i) := by
        rw [hp2, ← Nat.mul_assoc, Nat.mul_right_comm]
        exact Nat.mul_le_mul_right _ (by omega)
      rw [e, ih (n / 128) (by omega) (m + n % 128 * 2 ^ (7 * i)) (i + 1) r (by omega) (fun _ => by omega)]
      have hsum : n % 128 * 2 ^ (7 * i) + n / 128 * 2 ^ (7 * (i + 1)) = n * 2 ^ (7 * i) := by
        rw [hp2, ← Nat.mul_assoc, Nat.mul_right_comm, ← Nat.add_mul]
        congr 1; omega
      simp only [List.length_cons, Prod.mk.injEq, and_true]
      omega
theorem get_put (n : Nat) (h : n < 18446744073709551616) (r : List UInt8) : getV (layV n ++ r) = (n, (layV n).length, 0) := by
  unfold getV
  rw [get_lay 0 0 n r (by simpa using h) (by omega)]
  simp
theorem getL_used : ∀ (b : List UInt8) (i n : Nat), (getL b i n).2.2 = 0 → i < (getL b i n).2.1 ∧ (getL b i n).2.1 ≤ i + b.length
  | [], _, _, h => by simp [getL] at h
  | c :: r, i, n, h => by
    simp only [getL] at h ⊢
    split at h
    · simp at h
    · rename_i h1
      rw [if_neg h1]
      split at h
      · rename_i h2
        rw [if_pos h2]
        have := getL_used r (i + 1) _ h
        simp only [List.length_cons]; omega
      · rename_i h2
        rw [if_neg h2]
        split at h
        · simp at h
        · rename_i h3
          rw [if_neg h3]
          simp
theorem getL_small : ∀ (b : List UInt8) (i n : Nat), n < 2 ^ (7 * i) → i ≤ 9 → (getL b i n).1 < 18446744073709551616
  | [], _, _, _, _ => by simp [getL]
  | c :: r, i, n, h, hi => by
    have hc := c.toNat_lt
    have hp2 : 2 ^ (7 * (i + 1)) = 2 ^ (7 * i) * 128 := by rw [Nat.mul_add, Nat.pow_add]
    have hm : c.toNat % 128 * 2 ^ (7 * i) ≤ 127 * 2 ^ (7 * i) := Nat.mul_le_mul_right _ (by omega)
    simp only [getL]
    split
    · simp
    · split
      · exact getL_small r (i + 1) _ (by omega) (by omega)
      · split
        · simp
        · simp only
          by_cases h9 : i = 9
          · subst h9
            have : c.toNat % 128 ≤ 1 := by omega
            have := Nat.mul_le_mul_right (2 ^ (7 * 9)) this
            omega
          · have h8 : i ≤ 8 := by omega
            have : 2 ^ (7 * i) ≤ 2 ^ (7 * 8) := Nat.pow_le_pow_right (by omega) (by omega)
            omega
/-! ## The words of numbers -/
theorem conv8n (m : Nat) : convi .u8 (.int .u64 (m : Int)) = some (.int .u8 ((m % 256 : Nat) : Int)) := by
  simp only [convi]; rw [Go.Crc.wrap_u8]
theorem or8 {x : Nat} (h : x < 256) : binv .int .or (.int .u8 (x : Int)) (.int .u8 128) = some (.int .u8 ((x % 128 + 128 : Nat) : Int)) := by
  have key : ∀ x : Fin 256, (BitVec.ofNat 8 x.val ||| 128#8).toNat = x.val % 128 + 128 := by decide +kernel
  show some (Value.int .u8 (IntKind.u8.wrap ((BitVec.ofInt 8 (x : Int) ||| BitVec.ofInt 8 128).toNat : Int))) = _
  have e1 : BitVec.ofInt 8 (x : Int) = BitVec.ofNat 8 x := by apply BitVec.eq_of_toNat_eq; simp
  have e2 : BitVec.ofInt 8 128 = 128#8 := by rfl
  rw [e1, e2, key ⟨x, h⟩, Go.Crc.wrap_u8]
  congr 3
  show (x % 128 + 128) % 256 = x % 128 + 128
  omega
theorem shr7 (m : Nat) : shiftv .shr (.int .u64 (m : Int)) (.int .u64 7) = some (.int .u64 ((m / 128 : Nat) : Int)) := by
  simp only [shiftv]
  rw [if_pos (by omega)]
  congr 2
  have : min (Int.toNat 7) IntKind.u64.bits = 7 := by decide
  rw [this, Int.fdiv_eq_ediv_of_nonneg _ (by decide)]
  norm_cast
theorem rem128 (c : UInt8) : binv .int .rem (.int .u8 (c.toNat : Int)) (.int .u8 128) = some (.int .u8 ((c.toNat % 128 : Nat) : Int)) := by
  show (if (128 : Int) = 0 then none else some (Value.int .u8 ((c.toNat : Int).tmod 128))) = _
  rw [if_neg (by omega)]
  congr 2
theorem convu64 {k : IntKind} {x : Nat} (h : x < 18446744073709551616) : convi .u64 (.int k (x : Int)) = some (.int .u64 (x : Int)) := by
  simp only [convi]; rw [wrap_u64 (by omega) (by omega)]
theorem shl7 {x i : Nat} (h : x * 2 ^ (7 * i) < 18446744073709551616) (hi : i ≤ 9) : shiftv .shl (.int .u64 (x : Int)) (.int .i64 ((7 * i : Nat) : Int)) = some (.int .u64 ((x * 2 ^ (7 * i) : Nat) : Int)) := by
  simp only [shiftv]
  rw [if_pos (by omega)]
  have e : min ((7 * i : Nat) : Int).toNat IntKind.u64.bits = 7 * i := by simp [IntKind.bits]; omega
  rw [e, show (x : Int) * 2 ^ (7 * i) = ((x * 2 ^ (7 * i) : Nat) : Int) by push_cast; rfl, wrap_u64 (by omega) (by omega)]
theorem or64 {n x i : Nat} (hn : n < 2 ^ i) (h : n + x * 2 ^ i < 18446744073709551616) : binv .int .or (.int .u64 (n : Int)) (.int .u64 ((x * 2 ^ i : Nat) : Int)) = some (.int .u64 ((n + x * 2 ^ i : Nat) : Int)) := by
  show some (Value.int .u64 (IntKind.u64.wrap ((BitVec.ofInt 64 (n : Int) ||| BitVec.ofInt 64 ((x * 2 ^ i : Nat) : Int)).toNat : Int))) = _
  have e1 : ∀ y : Nat, y < 18446744073709551616 → (BitVec.ofInt 64 (y : Int)).toNat = y := fun y hy => by simp; omega
  rw [BitVec.toNat_or, e1 n (by omega), e1 _ (by omega)]
  have e2 : n ||| x * 2 ^ i = n + x * 2 ^ i := by
    rw [Nat.or_comm, Nat.mul_comm, ← Nat.two_pow_add_eq_or_of_lt hn]; omega
  rw [e2, wrap_u64 (by omega) (by omega)]
end Go.Vint
end

section
namespace Go.Disk
open Go.Den

/-! ## Names rise by their bytes -/
def bl (a b : ByteArray) : Bool := Op.bytesLess a.toList b.toList
theorem bytesLess_irr : ∀ x : List UInt8, Op.bytesLess x x = false
  | [] => rfl
  | a :: x => by simp [Op.bytesLess, bytesLess_irr x, UInt8.lt_irrefl]
theorem bytesLess_trans : ∀ {x y z : List UInt8}, Op.bytesLess x y = true → Op.bytesLess y z = true → Op.bytesLess x z = true
  | x, y, [], _, h => by cases y <;> simp [Op.bytesLess] at h
  | x, [], c :: z, h, _ => by cases x <;> simp [Op.bytesLess] at h
  | [], b :: y, c :: z, _, _ => rfl
  | a :: x, b :: y, c :: z, h1, h2 => by
    simp only [Op.bytesLess, Bool.or_eq_true, decide_eq_true_eq, Bool.and_eq_true, beq_iff_eq] at *
    rcases h1 with h1 | ⟨rfl, h1⟩
    · rcases h2 with h2 | ⟨rfl, h2⟩
      · exact .inl (UInt8.lt_trans h1 h2)
      · exact .inl h1
    · rcases h2 with h2 | ⟨rfl, h2⟩
      · exact .inl h2
      · exact .inr ⟨rfl, bytesLess_trans h1 h2⟩
theorem bytesLess_tri : ∀ x y : List UInt8, x ≠ y → Op.bytesLess x y = false → Op.bytesLess y x = true
  | [], [], h, _ => absurd rfl h
  | [], b :: y, _, h => by simp [Op.bytesLess] at h
  | a :: x, [], _, _ => rfl
  | a :: x, b :: y, hne, h => by
    simp only [Op.bytesLess, Bool.or_eq_false_iff, decide_eq_false_iff_not, Bool.and_eq_false_iff, beq_eq_false_iff_ne] at h
    simp only [Op.bytesLess, Bool.or_eq_true, decide_eq_true_eq, Bool.and_eq_true, beq_iff_eq]
    by_cases hab : a = b
    · subst hab
      have hxy : x ≠ y := fun e => hne (by rw [e])
      rcases h.2 with h2 | h2
      · exact absurd rfl h2
      · exact .inr ⟨rfl, bytesLess_tri x y hxy h2⟩
    · left
      have h1 : ¬ a.toNat < b.toNat := fun hh => h.1 (UInt8.lt_iff_toNat_lt.2 hh)
      have h2 : a.toNat ≠ b.toNat := fun hh => hab (UInt8.toNat_inj.1 hh)
      exact UInt8.lt_iff_toNat_lt.2 (by omega)
theorem toList_inj {a b : ByteArray} (h : a.toList = b.toList) : a = b := by
  rw [ByteArray.toList_eq, ByteArray.toList_eq] at h; exact ByteArray.ext (Array.ext' h)
theorem bl_irr (a : ByteArray) : bl a a = false := bytesLess_irr _
theorem bl_trans {a b c : ByteArray} (h1 : bl a b = true) (h2 : bl b c = true) : bl a c = true := bytesLess_trans h1 h2
theorem bl_tri {a b : ByteArray} (h : a ≠ b) (h1 : bl a b = false) : bl b a = true := bytesLess_tri _ _ (fun e => h (toList_inj e)) h1
theorem bl_asym {a b : ByteArray} (h : bl a b = true) : bl b a = false := by
  cases hb : bl b a with
  | false => rfl
  | true => have := bl_trans h hb; rw [bl_irr] at this; cases this

/-! ## The disk -/
structure Fl where
  b : List UInt8
  sure : Nat
  deriving DecidableEq
abbrev Dir := List (ByteArray × Nat)
structure Dk where
  room : Int
  files : List Fl
  dirs : List Dir
  burn : Int
  gone : Bool
def Dk.now (s : Dk) : Dir := s.dirs.getLastD []
def findD : Dir → ByteArray → Option Nat
  | [], _ => none
  | (k, f) :: r, n => if k = n then some f else findD r n
def Dk.find (s : Dk) (n : ByteArray) : Option Nat := findD s.now n
def okByte (c : UInt8) : Bool := decide (c = 46) || decide (48 ≤ c) && decide (c ≤ 57) || decide (97 ≤ c) && decide (c ≤ 122)
def named (n : ByteArray) : Bool := decide (1 ≤ n.size) && decide (n.size ≤ 12) && n.data.toList.all okByte
def can (s : Dk) (e : Int) : Dk × Int :=
  if s.gone = true then (s, 7) else if e ≠ 0 then (s, e) else if s.burn = 0 then ({ s with gone := true }, 7) else if 0 < s.burn then ({ s with burn := s.burn - 1 }, 0) else (s, 0)
def without (l : Dir) (n : ByteArray) : Dir := l.filter fun x => !decide (x.1 = n)
def withD : Dir → ByteArray × Nat → Dir
  | [], x => [x]
  | y :: r, x => if bl y.1 x.1 = true then y :: withD r x else x :: y :: r
def fileAt (s : Dk) (f : Nat) : Fl := s.files.getD f ⟨[], 0⟩
def isHeld (s : Dk) (f : Nat) : Bool := s.dirs.any fun l => l.any fun x => decide (x.2 = f)
def held (s : Dk) : Nat := ((List.range s.files.length).map fun f => if isHeld s f = true then (fileAt s f).b.length else 0).sum
def setF (s : Dk) (f : Nat) (x : Fl) : Dk := { s with files := s.files.set f x }
def there (s : Dk) (n : ByteArray) : Int := if (s.find n).isSome then 0 else 5
def createE (s : Dk) (n : ByteArray) : Int := if named n = false then 1 else if (s.find n).isSome then 6 else if 60 ≤ s.now.length then 4 else 0
def create (s : Dk) (n : ByteArray) : Dk × Int :=
  let r := can s (createE s n)
  if r.2 = 0 then ({ r.1 with files := s.files ++ [⟨[], 0⟩], dirs := s.dirs ++ [withD s.now (n, s.files.length)] }, 0) else r
def appendE (s : Dk) (n : ByteArray) (k : Nat) : Int := if (s.find n).isSome then (if s.room < ((held s + k : Nat) : Int) then 4 else 0) else 5
def append (s : Dk) (n : ByteArray) (bs : List UInt8) : Dk × Int :=
  let r := can s (appendE s n bs.length)
  let f := (s.find n).getD 0
  if r.2 = 0 then (setF r.1 f { fileAt s f with b := (fileAt s f).b ++ bs }, 0) else r
def read (s : Dk) (n : ByteArray) : List UInt8 × Int :=
  if s.gone = true then ([], 7) else match s.find n with
  | none => ([], 5)
  | some f => ((fileAt s f).b, 0)
def sync (s : Dk) (n : ByteArray) : Dk × Int :=
  let r := can s (there s n)
  let f := (s.find n).getD 0
  if r.2 = 0 then (setF r.1 f { fileAt s f with sure := (fileAt s f).b.length }, 0) else r
def cutE (s : Dk) (n : ByteArray) (k : Int) : Int := match s.find n with
  | none => 5
  | some f => if k < 0 ∨ ((fileAt s f).b.length : Int) < k then 1 else 0
def cut (s : Dk) (n : ByteArray) (k : Int) : Dk × Int :=
  let r := can s (cutE s n k)
  let f := (s.find n).getD 0
  if r.2 = 0 then (setF r.1 f ⟨(fileAt s f).b.take k.toNat, min (fileAt s f).sure k.toNat⟩, 0) else r
def renameE (s : Dk) (a b : ByteArray) : Int := if (s.find a).isSome then (if named b then 0 else 1) else 5
def rename (s : Dk) (a b : ByteArray) : Dk × Int :=
  let r := can s (renameE s a b)
  let f := (s.find a).getD 0
  if r.2 = 0 then ({ r.1 with dirs := s.dirs ++ [withD (without (without s.now a) b) (b, f)] }, 0) else r
def delete (s : Dk) (n : ByteArray) : Dk × Int :=
  let r := can s (there s n)
  if r.2 = 0 then ({ r.1 with dirs := s.dirs ++ [without s.now n] }, 0) else r
def dirsync (s : Dk) : Dk × Int :=
  let r := can s 0
  if r.2 = 0 then ({ r.1 with dirs := [s.now] }, 0) else r
def fuse (s : Dk) (n : Int) : Dk := { s with burn := if n < -1 then -1 else n }
def tailOf (fl : Fl) (tails : List Int) (i : Nat) : Nat :=
  match tails[i]? with
  | none => 0
  | some t => min t.toNat (fl.b.length - fl.sure)
def crashF (tails : List Int) : List (ByteArray × Nat) → Nat → List Fl → List Fl
  | [], _, fs => fs
  | (_, f) :: r, i, fs =>
    let x := fs.getD f ⟨[], 0⟩
    let n := x.sure + tailOf x tails i
    crashF tails r (i + 1) (fs.set f ⟨x.b.take n, n⟩)
def crash (s : Dk) (open_ : Int) (tails : List Int) : Dk :=
  let l := s.dirs.getD (min open_.toNat (s.dirs.length - 1)) []
  { s with files := crashF tails l 0 s.files, dirs := [l], burn := -1, gone := false }

/-! ## What always holds -/
def riseD (l : Dir) : Prop := l.Pairwise fun a b => bl a.1 b.1 = true
structure Dk.Wf (s : Dk) : Prop where
  ne : s.dirs ≠ []
  rise : ∀ l ∈ s.dirs, riseD l
  idx : ∀ l ∈ s.dirs, ∀ x ∈ l, x.2 < s.files.length
  many : ∀ l ∈ s.dirs, l.length ≤ 60
  nm : ∀ l ∈ s.dirs, ∀ x ∈ l, named x.1 = true
  sure : ∀ x ∈ s.files, x.sure ≤ x.b.length
  small : ∀ x ∈ s.files, (x.b.length : Int) ≤ s.room
  room : 16 ≤ s.room ∧ s.room ≤ 1048576
  burn : -1 ≤ s.burn ∧ s.burn ≤ 9223372036854775807
def empty (room : Int) : Dk := ⟨room, [], [[]], -1, false⟩

theorem findD_mem {l : Dir} {n : ByteArray} {f : Nat} (h : findD l n = some f) : (n, f) ∈ l := by
  induction l with
  | nil => simp [findD] at h
  | cons x l ih =>
    obtain ⟨k, g⟩ := x
    simp only [findD] at h
    by_cases hk : k = n
    · rw [if_pos hk] at h; cases h; subst hk; simp
    · rw [if_neg hk] at h; simp [ih h]
theorem findD_of_mem {l : Dir} (hr : riseD l) {n : ByteArray} {f : Nat} (h : (n, f) ∈ l) : findD l n = some f := by
  induction l with
  | nil => simp at h
  | cons x l ih =>
    obtain ⟨k, g⟩ := x
    obtain ⟨p, q⟩ := List.pairwise_cons.1 hr
    simp only [findD]
    rcases List.mem_cons.1 h with h | h
    · cases h; simp
    · have := p _ h
      have hne : k ≠ n := fun e => by subst e; rw [bl_irr] at this; cases this
      rw [if_neg hne]; exact ih q h
theorem findD_none {l : Dir} {n : ByteArray} : findD l n = none ↔ ∀ x ∈ l, x.1 ≠ n := by
  induction l with
  | nil => simp [findD]
  | cons x l ih =>
    obtain ⟨k, g⟩ := x
    simp only [findD]
    by_cases hk : k = n
    · simp [hk]
    · simp [hk, ih]
theorem mem_withD {l : Dir} {x y : ByteArray × Nat} : y ∈ withD l x ↔ y = x ∨ y ∈ l := by
  induction l with
  | nil => simp [withD]
  | cons z l ih =>
    simp only [withD]
    split
    · rw [List.mem_cons, ih, List.mem_cons]
      constructor
      · rintro (h | h | h)
        · exact .inr (.inl h)
        · exact .inl h
        · exact .inr (.inr h)
      · rintro (h | h | h)
        · exact .inr (.inl h)
        · exact .inl h
        · exact .inr (.inr h)
    · simp
theorem rise_withD {l : Dir} (hr : riseD l) {x : ByteArray × Nat} (hn : ∀ y ∈ l, y.1 ≠ x.1) : riseD (withD l x) := by
  induction l with
  | nil => simp [withD, riseD]
  | cons z l ih =>
    obtain ⟨p, q⟩ := List.pairwise_cons.1 hr
    simp only [withD]
    split
    · rename_i hz
      refine List.pairwise_cons.2 ⟨fun y hy => ?_, ih q fun y hy => hn y (by simp [hy])⟩
      rcases mem_withD.1 hy with rfl | hy
      · exact hz
      · exact p y hy
    · rename_i hz
      have h1 : bl x.1 z.1 = true := bl_tri (hn z (by simp)) (by simpa using hz)
      refine List.pairwise_cons.2 ⟨fun y hy => ?_, hr⟩
      rcases List.mem_cons.1 hy with rfl | hy
      · exact h1
      · exact bl_trans h1 (p y hy)
theorem mem_without {l : Dir} {n : ByteArray} {y : ByteArray × Nat} : y ∈ without l n ↔ y ∈ l ∧ y.1 ≠ n := by
  unfold without; rw [List.mem_filter]; simp
theorem rise_without {l : Dir} (hr : riseD l) (n : ByteArray) : riseD (without l n) := hr.sublist (List.filter_sublist)
theorem len_without (l : Dir) (n : ByteArray) : (without l n).length ≤ l.length := List.length_filter_le _ _
theorem len_without_lt {l : Dir} {n : ByteArray} {f : Nat} (h : findD l n = some f) : (without l n).length + 1 ≤ l.length := by
  induction l with
  | nil => simp [findD] at h
  | cons x l ih =>
    obtain ⟨k, g⟩ := x
    have hw := len_without l n
    unfold without at *
    by_cases hk : k = n
    · rw [List.filter_cons_of_neg (by simp [hk])]; simp; omega
    · simp only [findD, hk, if_false] at h
      have := ih h
      rw [List.filter_cons_of_pos (by simp [hk])]; simp; omega
theorem len_withD (l : Dir) (x : ByteArray × Nat) : (withD l x).length = l.length + 1 := by
  induction l with
  | nil => rfl
  | cons z l ih => simp only [withD]; split <;> simp [ih]
/-- directories that rise, of the same entries, are the same. -/
theorem rise_ext : ∀ {l m : Dir}, riseD l → riseD m → (∀ x, x ∈ l ↔ x ∈ m) → l = m
  | [], [], _, _, _ => rfl
  | [], y :: m, _, _, h => by have := (h y).2 (by simp); simp at this
  | x :: l, [], _, _, h => by have := (h x).1 (by simp); simp at this
  | x :: l, y :: m, hl, hm, h => by
    obtain ⟨p1, p2⟩ := List.pairwise_cons.1 hl
    obtain ⟨q1, q2⟩ := List.pairwise_cons.1 hm
    have hxy : x = y := by
      rcases List.mem_cons.1 ((h x).1 (by simp)) with h1 | h1
      · exact h1
      · rcases List.mem_cons.1 ((h y).2 (by simp)) with h2 | h2
        · exact h2.symm
        · have a1 := p1 y h2; have a2 := q1 x h1
          rw [bl_asym a1] at a2; cases a2
    subst hxy
    congr 1
    refine rise_ext p2 q2 fun z => ⟨fun hz => ?_, fun hz => ?_⟩
    · rcases List.mem_cons.1 ((h z).1 (by simp [hz])) with h1 | h1
      · subst h1; have := p1 z hz; rw [bl_irr] at this; cases this
      · exact h1
    · rcases List.mem_cons.1 ((h z).2 (by simp [hz])) with h1 | h1
      · subst h1; have := q1 z hz; rw [bl_irr] at this; cases this
      · exact h1
end Go.Disk
end

section
namespace Go.Proofs.YtofllgbdphakiaaGreat
open Go.Den Go.Disk

def encB (x : UInt8) : List Value := [.int .u8 (x.toNat : Int)]
theorem encB_len (x : UInt8) : (encB x).length = 1 := rfl
theorem encB_one (x : UInt8) : ∀ u ∈ encB x, u.oneCell' = true := by intro u hu; simp [encB] at hu; subst hu; rfl
def encM (m : Nat) : List Value := [.map (some m)]
theorem encM_len (x : Nat) : (encM x).length = 1 := rfl
theorem encM_one (x : Nat) : ∀ u ∈ encM x, u.oneCell' = true := by intro u hu; simp [encM] at hu; subst hu; rfl
def encN (s : ByteArray) : List Value := [.string s]
theorem encN_len (r : ByteArray) : (encN r).length = 1 := rfl
theorem encN_one (r : ByteArray) : ∀ u ∈ encN r, u.oneCell' = true := by intro u hu; simp [encN] at hu; subst hu; rfl
def ptrTo (b : Nat) : Value := .pointer (some ⟨b, 0, none⟩)
def dirL (fb : List Nat) (l : Dir) : List (ByteArray × Value) := l.map fun x => (x.1, ptrTo (fb.getD x.2 0))
def dirHP (fb : List Nat) (m : Nat) (l : Dir) : HP where
  p w F := (∃ es ck L, blk w m = some (.map es ck) ∧ MapB (fun s : ByteArray => Value.string s) es ck L ∧ L.Perm (dirL fb l)) ∧ F = [m]
  lt := by rintro w F ⟨⟨es, ck, L, h, _⟩, rfl⟩ c hc; simp at hc; subst hc; exact blk_lt h
  st := by rintro w w' F ⟨⟨es, ck, L, h, h2⟩, rfl⟩ hk; exact ⟨⟨es, ck, L, by rw [hk m (by simp), h], h2⟩, rfl⟩
def fileHP (b : Nat) (x : Fl) : HP := ex fun bv : Value => stars [pts b [bv, .int .i64 (x.sure : Int)], slc encB 1 bv x.b]
def dirHPs (fb ms : List Nat) (ds : List Dir) : List HP := List.zipWith (dirHP fb) ms ds
def fileHPs (fb : List Nat) (fs : List Fl) : List HP := List.zipWith fileHP fb fs
def dkC (s : Dk) (m0 : Nat) (sv : Value) : List Value := [.int .i64 s.room, .map (some m0), sv, .int .i64 s.burn, .bool s.gone]
def dkL (d : Nat) (s : Dk) (sv : Value) (ms fb : List Nat) : List HP :=
  [pure_ (ms.length = s.dirs.length ∧ fb.length = s.files.length), pts d (dkC s (ms.headD 0) sv), slc encM 1 sv ms.tail, stars (dirHPs fb ms s.dirs), stars (fileHPs fb s.files)]
def diskHP (d : Nat) (s : Dk) : HP := ex fun x : Value × List Nat × List Nat => stars (dkL d s x.1 x.2.1 x.2.2)

section
variable {w0 w w' : World} {F0 : List Nat} {d : Nat} {s : Dk}
theorem dk_open (h : At w0 F0 (diskHP d s) w) : ∃ sv ms fb, At w0 F0 (stars (dkL d s sv ms fb)) w ∧ ms.length = s.dirs.length ∧ fb.length = s.files.length := by
  obtain ⟨F, ⟨⟨sv, ms, fb⟩, h1⟩, h2, h3⟩ := h
  have ha : At w0 F0 (stars (dkL d s sv ms fb)) w := ⟨F, h1, h2, h3⟩
  obtain ⟨A, ⟨hp, _⟩, _⟩ := ha.get 0 rfl
  exact ⟨sv, ms, fb, ha, hp⟩
theorem dk_shut {sv : Value} {ms fb : List Nat} (h : At w0 F0 (stars (dkL d s sv ms fb)) w) : At w0 F0 (diskHP d s) w := by
  obtain ⟨F, h1, h2, h3⟩ := h
  exact ⟨F, ⟨(sv, ms, fb), h1⟩, h2, h3⟩
/-- the i-th directory. -/
theorem dk_dir {sv : Value} {ms fb : List Nat} (h : At w0 F0 (stars (dkL d s sv ms fb)) w) {i m : Nat} {l : Dir} (hm : ms[i]? = some m) (hl : s.dirs[i]? = some l) : ∃ es ck L, blk w m = some (.map es ck) ∧ MapB (fun s : ByteArray => Value.string s) es ck L ∧ L.Perm (dirL fb l) := by
  obtain ⟨A, h1, _⟩ := h.get 3 rfl
  obtain ⟨B, ⟨h2, _⟩, _⟩ := stars_get (dirHPs fb ms s.dirs) i (dirHP fb m l) (by unfold dirHPs; rw [List.getElem?_zipWith, hm, hl]) h1
  exact h2
/-- the f-th file. -/
theorem dk_file {sv : Value} {ms fb : List Nat} (h : At w0 F0 (stars (dkL d s sv ms fb)) w) {f b : Nat} {x : Fl} (hb : fb[f]? = some b) (hx : s.files[f]? = some x) : ∃ bv T G, blk w b = some (.cells [bv, .int .i64 (x.sure : Int)].toArray T (0, 0)) ∧ Slc encB 1 w bv x.b G := by
  obtain ⟨A, h1, _⟩ := h.get 4 rfl
  obtain ⟨B, ⟨bv, h2⟩, _⟩ := stars_get (fileHPs fb s.files) f (fileHP b x) (by unfold fileHPs; rw [List.getElem?_zipWith, hb, hx]) h1
  obtain ⟨C, ⟨⟨T, h3⟩, _⟩, _⟩ := stars_get _ 0 _ rfl h2
  obtain ⟨D, h4, _⟩ := stars_get _ 1 _ rfl h2
  exact ⟨bv, T, D, h3, h4⟩
theorem lastL_get {α : Type} {l : List α} {d : α} (h : l ≠ []) : l[l.length - 1]? = some (l.getLastD d) := by
  rw [List.getLastD_eq_getLast?, ← List.getLast?_eq_getElem?]
  cases hl : l.getLast? with
  | none => simp at hl; exact absurd hl h
  | some x => rfl
theorem dk_now_get (hw : s.dirs ≠ []) : s.dirs[s.dirs.length - 1]? = some s.now := lastL_get hw
end

/-! ## A map's entries by their names -/
theorem nodup_perm_map {κ : Type} [DecidableEq κ] {L M : List (κ × Value)} (h : L.Perm M) (hn : (L.map (·.1)).Nodup) : (M.map (·.1)).Nodup := (h.map _).nodup_iff.1 hn
theorem lk_mem {κ : Type} [DecidableEq κ] {L : List (κ × Value)} (hn : (L.map (·.1)).Nodup) {k : κ} {v : Value} : lk L k = some v ↔ (k, v) ∈ L := by
  induction L with
  | nil => simp [lk_nil]
  | cons p L ih =>
    obtain ⟨a, b⟩ := p
    simp only [List.map_cons, List.nodup_cons] at hn
    rw [lk_cons]
    by_cases h : k = a
    · subst h
      simp only [if_true, Option.some.injEq, List.mem_cons, Prod.mk.injEq, true_and]
      constructor
      · exact fun h => .inl h.symm
      · rintro (h | h)
        · exact h.symm
        · exact absurd (List.mem_map.2 ⟨_, h, rfl⟩) hn.1
    · simp only [h, if_false, List.mem_cons, Prod.mk.injEq, false_and, false_or]
      exact ih hn.2
theorem lk_none {κ : Type} [DecidableEq κ] {L : List (κ × Value)} {k : κ} : lk L k = none ↔ ∀ p ∈ L, p.1 ≠ k := by
  induction L with
  | nil => simp [lk_nil]
  | cons p L ih =>
    obtain ⟨a, b⟩ := p
    rw [lk_cons]
    by_cases h : k = a
    · subst h; simp
    · simp only [h, if_false, List.mem_cons, forall_eq_or_imp]
      rw [ih]
      exact ⟨fun hh => ⟨fun e => h e.symm, hh⟩, fun hh => hh.2⟩
theorem lk_dir {fb : List Nat} {l : Dir} {L : List (ByteArray × Value)} (hr : riseD l) (hp : L.Perm (dirL fb l)) (hn : (L.map (·.1)).Nodup) (n : ByteArray) : lk L n = (findD l n).map fun f => ptrTo (fb.getD f 0) := by
  cases hf : findD l n with
  | none =>
    rw [Option.map_none, lk_none]
    intro p hpm
    obtain ⟨x, hx, rfl⟩ := List.mem_map.1 (hp.mem_iff.1 hpm)
    exact findD_none.1 hf x hx
  | some f =>
    rw [Option.map_some, lk_mem hn, hp.mem_iff]
    exact List.mem_map.2 ⟨(n, f), findD_mem hf, rfl⟩
set_option linter.unusedSimpArgs false
set_option linter.unusedVariables false
set_option maxRecDepth 20000
set_option maxHeartbeats 4000000
attribute [local congr] BND_cg COND_cg GEF_cg
attribute [local irreducible] capl slicea load1 loadn iaddr iaddra faddr storev newslice binv lookv mupd mdel mlenv mentry mestore slicev slicev3 slices indexs indexav textv rangev nexts clearv shiftv eqaggv convi buildv pickv lens lenl unv nilchk extractv partn JOIN
section
variable {w0 w : World} {F0 : List Nat} {d : Nat} {s : Dk} {R : Value → World → Prop}
theorem dk_now (h : At w0 F0 (diskHP d s) w) (hw : s.dirs ≠ []) (hn : s.dirs.length < 1000000000) (hR : ∀ sv ms fb m es ck L, At w0 F0 (stars (dkL d s sv ms fb)) w → ms.length = s.dirs.length → fb.length = s.files.length → ms[s.dirs.length - 1]? = some m →
    blk w m = some (.map es ck) → MapB (fun s : ByteArray => Value.string s) es ck L → L.Perm (dirL fb s.now) → R (.map (some m)) w) : CALL PR F_disk_Disk_now [ptrTo d] w R := by
  obtain ⟨sv, ms, fb, hs, hm, hf⟩ := dk_open h
  have hpos : 0 < s.dirs.length := List.length_pos_iff.2 hw
  refine C_disk_Disk_now ?_
  unfold M_disk_Disk_now ptrTo
  obtain ⟨T, c⟩ := hs.cell (i := 1) rfl
  obtain ⟨Fs, ss, _⟩ := hs.slc1 (i := 2) rfl
  have hlt : ms.length - 1 < ms.length := by omega
  have hg := List.getElem?_eq_getElem hlt
  obtain ⟨es, ck, L, b1, b2, b3⟩ := dk_dir hs (i := ms.length - 1) (l := s.now) hg (by rw [hm]; exact dk_now_get hw)
  have tl : ms.tail.length = ms.length - 1 := by simp
  (repeat (first | refine BND_step ss.len ?_ | refine gg ?_))
  by_cases h1 : 0 < ms.tail.length
  · have hx : ms.tail[ms.tail.length - 1]? = some ms[ms.length - 1] := by
      rw [List.getElem?_tail, show ms.tail.length - 1 + 1 = ms.length - 1 by omega, hg]
    obtain ⟨bb, oo, ia, _, _, l1⟩ := ss.arr.spot hx rfl .i64
    (repeat (first | (apply BND_step; exact (l1 (w' := w) rfl (j := 0) rfl)) | refine gg ?_))
    exact hR sv ms fb _ es ck L hs hm hf (by rw [← hm]; exact hg) b1 b2 b3
  · (repeat refine gg ?_)
    have e : ms.headD 0 = ms[ms.length - 1] := by
      cases ms with
      | nil => simp at hlt
      | cons a r =>
        have : r = [] := List.eq_nil_of_length_eq_zero (by simpa using h1)
        subst this; rfl
    rw [e]
    exact hR sv ms fb _ es ck L hs hm hf (by rw [← hm]; exact hg) b1 b2 b3
theorem At.mono {P Q : HP} {w0 w : World} {F0 : List Nat} (h : At w0 F0 P w) (hpq : ∀ F, P.p w F → Q.p w F) : At w0 F0 Q w := by
  obtain ⟨F, h1, h2, h3⟩ := h
  exact ⟨F, hpq F h1, h2, h3⟩
theorem dk_can (h : At w0 F0 (diskHP d s) w) (e : Int) (hb : -1 ≤ s.burn ∧ s.burn ≤ 9223372036854775807) (hR : ∀ w', At w0 F0 (diskHP d (can s e).1) w' → R (.int .i64 (can s e).2) w') : CALL PR F_disk_Disk_can [ptrTo d, .int .i64 e] w R := by
  obtain ⟨sv, ms, fb, hs, hm, hf⟩ := dk_open h
  refine C_disk_Disk_can ?_
  unfold M_disk_Disk_can ptrTo
  unfold can at hR
  obtain ⟨T, c⟩ := hs.cell (i := 1) rfl
  (repeat refine gg ?_)
  cases hg : s.gone with
  | true =>
    rw [hg] at hR
    simp only [if_true] at hR
    (repeat refine gg ?_)
    exact hR w h
  | false =>
    rw [hg] at hR
    simp only [Bool.false_eq_true, if_false] at hR
    (repeat refine gg ?_)
    by_cases he : e = 0
    · subst he
      simp only [ne_eq, not_true_eq_false, if_false] at hR
      (repeat refine gg ?_)
      by_cases hb0 : s.burn = 0
      · simp only [hb0, if_true] at hR
        (repeat refine gg ?_)
        refine hs.store (i := 1) rfl ⟨rfl, rfl⟩ (by simp [dkC]) fun w1 h1 f1 => ?_
        exact hR w1 (dk_shut (s := { s with burn := 0, gone := true }) (sv := sv) (ms := ms) (fb := fb) (by rw [← hb0]; exact h1))
      · simp only [hb0, if_false] at hR
        (repeat refine gg ?_)
        by_cases hb1 : 0 < s.burn
        · simp only [hb1, if_true] at hR
          refine join_w (fun w' => At w0 F0 (diskHP d { s with burn := s.burn - 1 }) w') (fun K hK => ?_) (fun w' hw' => hR w' (by rw [hg] at hw'; exact hw'))
          have esub : binv .int .sub (.int .i64 s.burn) (.int .i64 1) = some (.int .i64 (s.burn - 1)) := by rw [binv_sub, wrap_i64 (by omega) (by omega)]
          (repeat refine gg ?_)
          refine hs.store (i := 1) rfl ⟨rfl, rfl⟩ (by simp [dkC]) fun w1 h1 f1 => hK w1 ?_
          exact dk_shut (s := { s with burn := s.burn - 1 }) (sv := sv) (ms := ms) (fb := fb) h1
        · simp only [hb1, if_false] at hR
          refine join_w (fun w' => At w0 F0 (diskHP d s) w') (fun K hK => ?_) (fun w' hw' => hR w' hw')
          (repeat refine gg ?_)
          exact hK w h
    · simp only [ne_eq, he, not_false_eq_true, if_true] at hR
      (repeat refine gg ?_)
      exact hR w h
theorem dk_lookup {fb : List Nat} {m : Nat} {es : Array MapEntry} {ck : Nat} {L : List (ByteArray × Value)} {l : Dir} (b1 : blk w m = some (.map es ck)) (b2 : MapB (fun s : ByteArray => Value.string s) es ck L) (b3 : L.Perm (dirL fb l)) (hr : riseD l) (n : ByteArray) :
    lookv .string (.pointer none) false w (.map (some m)) (.string n) = some (match findD l n with | some f => ptrTo (fb.getD f 0) | none => .pointer none) := by
  have := lookv_L1 keyStr b1 b2.l (.pointer none) n
  rw [lk_dir hr b3 b2.l.once] at this
  rw [this]
  cases findD l n <;> rfl
theorem dk_there (h : At w0 F0 (diskHP d s) w) (hw : s.Wf) (hn : s.dirs.length < 1000000000) (n : ByteArray) (hR : R (.int .i64 (there s n)) w) : CALL PR F_disk_Disk_there [ptrTo d, .string n] w R := by
  refine C_disk_Disk_there ?_
  unfold M_disk_Disk_there
  refine dk_now h hw.ne hn fun sv ms fb m es ck L hs hm hf hmm b1 b2 b3 => ?_
  have hr : riseD s.now := hw.rise _ (List.mem_of_getElem? (dk_now_get hw.ne))
  have lk1 := dk_lookup b1 b2 b3 hr n
  unfold there Dk.find at hR
  cases hfd : findD s.now n with
  | none =>
    rw [hfd] at lk1 hR
    (repeat refine gg ?_)
    exact hR
  | some f =>
    rw [hfd] at lk1 hR
    simp only [ptrTo] at lk1
    (repeat refine gg ?_)
    exact hR
end
end Go.Proofs.YtofllgbdphakiaaGreat
end

section
namespace Go.Proofs.YtofllgbdphakiaaGreat
open Go.Den Go.Disk Go.Crc
theorem iterC_succ (n : Nat) (s : BitVec 32) : iterC (n + 1) s = stepC (iterC n s) := rfl
theorem step_odd {s : BitVec 32} (h : ((s &&& 1#32).toNat : Int) = 1) : stepC s = (s >>> 1) ^^^ poly := by
  have h2 : s &&& 1#32 = 1#32 := by apply BitVec.eq_of_toNat_eq; simpa using (by exact_mod_cast h : (s &&& 1#32).toNat = 1)
  unfold stepC; rw [if_pos h2]
theorem step_even {s : BitVec 32} (h : ¬ ((s &&& 1#32).toNat : Int) = 1) : stepC s = s >>> 1 := by
  unfold stepC; rw [if_neg (fun e => h (by rw [e]; rfl))]
/-- the table, filled up to i. -/
def tabI (i : Nat) : List Value := (List.range 256).map fun j => .int .u32 (if j < i then ((ent (BitVec.ofNat 32 j)).toNat : Int) else 0)
theorem tabI_len (i : Nat) : (tabI i).length = 256 := by simp [tabI]
theorem tabI_zero : tabI 0 = List.replicate 256 (Value.int .u32 0) := by
  apply List.ext_getElem (by rw [tabI_len, List.length_replicate])
  intro n h1 h2
  simp only [tabI, List.getElem_map, List.getElem_range, List.getElem_replicate]
  rw [if_neg (by omega)]
theorem tabI_set {i : Nat} (_ : i < 256) : (tabI i).set i (.int .u32 ((ent (BitVec.ofNat 32 i)).toNat : Int)) = tabI (i + 1) := by
  apply List.ext_getElem (by rw [List.length_set, tabI_len, tabI_len])
  intro n h1 h2
  rw [List.getElem_set]
  by_cases e : i = n
  · subst e; simp [tabI]
  · simp only [e, if_false, tabI, List.getElem_map, List.getElem_range]
    congr 1
    by_cases hn : n < i
    · rw [if_pos hn, if_pos (by omega)]
    · rw [if_neg hn, if_neg (by omega)]
theorem tab_at {n : Nat} (h : n < 256) : (tabI 256)[n]? = some (.int .u32 ((ent (BitVec.ofNat 32 n)).toNat : Int)) := by
  simp [tabI, h]
theorem iaddra_at {len i b : Nat} {k : IntKind} (h : i < len) : iaddra len 1 (.pointer (some ⟨b, 0, none⟩)) (.int k (i : Int)) = some (.pointer (some ⟨b, i, none⟩)) := by
  simp only [iaddra]
  rw [if_pos ⟨by omega, by omega⟩]
  simp [add_none]
theorem conv_u32 {i : Nat} (h : i < 4294967296) : convi .u32 (.int .i64 (i : Int)) = some (.int .u32 ((BitVec.ofNat 32 i).toNat : Int)) := by
  simp only [convi]
  rw [wrap_u32 h]
  congr 2
  simp; omega
theorem loadn_all' {w : World} {b n : Nat} {c : List Value} {T : Nat} {f : Nat × Nat} (h : blk w b = some (.cells c.toArray T f)) (hn : c.length = n) : loadn n w (.pointer (some ⟨b, 0, none⟩)) = some (.agg c.toArray) := by
  subst hn
  rw [loadn_blk h (by simp)]
  simp
theorem tab_one : ∀ u ∈ tabI 256, u.oneCell' = true := by
  intro u hu
  obtain ⟨j, _, rfl⟩ := List.mem_map.1 hu
  rfl
set_option linter.unusedSimpArgs false
set_option linter.unusedVariables false
set_option maxRecDepth 20000
set_option maxHeartbeats 4000000
attribute [local congr] BND_cg COND_cg GEF_cg
attribute [local irreducible] capl slicea load1 loadn iaddr iaddra faddr storev newslice binv lookv mupd mdel mlenv mentry mestore slicev slicev3 slices indexs indexav textv rangev nexts clearv shiftv eqaggv convi buildv pickv lens lenl unv nilchk extractv partn JOIN
section
variable {w : World} {R : Value → World → Prop}
theorem sum_entry (n : BitVec 32) (hR : R (.int .u32 ((ent n).toNat : Int)) w) : CALL PR F_sum_entry [.int .u32 (n.toNat : Int)] w R := by
  refine C_sum_entry ?_
  unfold M_sum_entry
  refine loop_up2 (o := .int .u32 (n.toNat : Int)) 0 8 (fun o i w' => o = .int .u32 ((iterC i n).toNat : Int) ∧ w' = w) ⟨rfl, rfl⟩ (by omega) ?_
  rintro o i w1 - hi ⟨rfl, rfl⟩ J m hJ
  by_cases hlt : i < 8
  · have e1 := and32 (iterC i n) 1#32
    have e2 := shr32 (iterC i n) 1 (by omega)
    have e3 := xor32 (iterC i n >>> 1) poly
    (repeat refine gg ?_)
    by_cases hq : ((iterC i n &&& 1#32).toNat : Int) = 1
    · refine join_v (Q := fun v w' => v = .int .u32 ((iterC (i + 1) n).toNat : Int) ∧ w' = w1) (fun k hk => ?_) ?_
      · (repeat refine gg ?_)
        exact hk _ _ ⟨by rw [iterC_succ, step_odd hq], rfl⟩
      · rintro _ _ ⟨rfl, rfl⟩
        (repeat refine gg ?_)
        exact hJ _ _ hlt ⟨rfl, rfl⟩
    · refine join_v (Q := fun v w' => v = .int .u32 ((iterC (i + 1) n).toNat : Int) ∧ w' = w1) (fun k hk => ?_) ?_
      · (repeat refine gg ?_)
        exact hk _ _ ⟨by rw [iterC_succ, step_even hq], rfl⟩
      · rintro _ _ ⟨rfl, rfl⟩
        (repeat refine gg ?_)
        exact hJ _ _ hlt ⟨rfl, rfl⟩
  · obtain rfl : i = 8 := by omega
    (repeat refine gg ?_)
    exact hR
theorem sum_Table (hR : ∀ w', Fr [] w w' → R (.agg (tabI 256).toArray) w') : CALL PR F_sum_Table [] w R := by
  refine C_sum_Table ?_
  unfold M_sum_Table
  refine NEW_intro fun w1 b1 f1 z1 => ?_
  refine NEW_intro fun w2 b2 f2 z2 => ?_
  have b1' := f2.some (by simp) b1
  replace b2 : blk w2 (hsz w1) = some (.cells (tabI 0).toArray 188 (0, 0)) := by rw [tabI_zero]; exact b2
  refine loop_up 0 256 (fun i w' => blk w' (hsz w1) = some (.cells (tabI i).toArray 188 (0, 0)) ∧ Fr [hsz w1] w2 w') ⟨b2, Fr.refl _ _⟩ (by omega) ?_
  rintro i w3 - hi ⟨b3, f3⟩ J m hJ
  by_cases hlt : i < 256
  · have e1 := conv_u32 (i := i) (by omega)
    have e2 := iaddra_at (b := hsz w1) (k := .i64) hlt
    (repeat refine gg ?_)
    refine sum_entry _ ?_
    (repeat refine gg ?_)
    refine fstore_step b3 ⟨rfl, rfl⟩ (by rw [tabI_len]; exact hlt) fun w5 b5 f5 _ => ?_
    rw [tabI_set hlt] at b5
    (repeat refine gg ?_)
    exact hJ _ hlt ⟨b5, f3.trans' f5⟩
  · obtain rfl : i = 256 := by omega
    have b1'' := f3.some (by simp; omega) b1'
    (repeat (first | refine BND_step (loadn_all' b3 (tabI_len 256)) ?_ | refine gg ?_))
    refine put_step (n := 256) (vs := tabI 256) b1'' (by simp [Value.cells]) (tabI_len 256) tab_one (by intro e; have := tabI_len 256; rw [e] at this; simp at this) fun w6 b6 f6 _ => ?_
    (repeat (first | refine BND_step (loadn_all' b6 (tabI_len 256)) ?_ | refine gg ?_))
    exact hR _ ((f1.trans (f2.nil.trans' f3) (by simp; omega)).trans f6 (by simp))
theorem sum_More {bv : Value} {bs : List UInt8} (s : BitVec 32) (hb : Arr encB 1 w bv bs) (hn : bs.length < 1000000000) (hR : ∀ w', Fr [] w w' → R (.int .u32 ((~~~ crcU (~~~ s) bs).toNat : Int)) w') : CALL PR F_sum_More [.int .u32 (s.toNat : Int), bv] w R := by
  refine C_sum_More ?_
  unfold M_sum_More
  refine sum_Table fun w1 f1 => ?_
  refine box_step (n := 256) (vs := tabI 256) (by simp) (tabI_len 256) tab_one (by intro e; have := tabI_len 256; rw [e] at this; simp at this) fun w3 b3 f3 z3 => ?_
  have f13 := f1.trans' f3
  (repeat (first | refine BND_step (not32 s) ?_ | refine BND_step hb.len ?_ | refine gg ?_))
  refine loop_up2 (o := .int .u32 ((~~~ s).toNat : Int)) 0 bs.length (fun o i w' => o = .int .u32 ((crcU (~~~ s) (bs.take i)).toNat : Int) ∧ w' = w3) ⟨rfl, rfl⟩ (by omega) ?_
  rintro o i w4 - hi ⟨rfl, rfl⟩ J m hJ
  by_cases hlt : i < bs.length
  · have hx := List.getElem?_eq_getElem hlt
    generalize bs[i] = x at hx
    obtain ⟨b, o, ia, _, _, l1⟩ := (hb.fr f13 (by simp)).spot hx rfl .i64
    have hst : crcU (~~~ s) (bs.take (i + 1)) = byteC (crcU (~~~ s) (bs.take i)) x := by
      unfold crcU
      rw [List.take_add_one, hx, List.foldl_append]; rfl
    generalize crcU (~~~ s) (bs.take i) = q at hst hJ
    have e1 := shr32 q 8 (by omega)
    have e2 := conv8 q
    have e3 := xor8 (low8 q) x
    have hlt2 : ((low8 q).toBitVec ^^^ x.toBitVec).toNat < 256 := BitVec.isLt _
    have e4 := iaddra_at (b := hsz w1) (k := .u8) hlt2
    have e5 := load1_at b3 (tab_at hlt2)
    have e6 := xor32 (q >>> 8) (ent (BitVec.ofNat 32 ((low8 q).toBitVec ^^^ x.toBitVec).toNat))
    have hq : (q >>> 8) ^^^ ent (BitVec.ofNat 32 ((low8 q).toBitVec ^^^ x.toBitVec).toNat) = byteC q x := by
      unfold byteC
      congr 2
      apply BitVec.eq_of_toNat_eq
      simp [idxC, low8]
    rw [hq, ← hst] at e6
    (repeat (first | (apply BND_step; exact (l1 (w' := w4) rfl (j := 0) rfl)) | refine gg ?_))
    exact hJ _ _ hlt ⟨rfl, rfl⟩
  · rw [List.take_of_length_le (by omega)]
    (repeat (first | refine BND_step (not32 _) ?_ | refine gg ?_))
    exact hR _ f13
theorem sum_Of {bv : Value} {bs : List UInt8} (hb : Arr encB 1 w bv bs) (hn : bs.length < 1000000000) (hR : ∀ w', Fr [] w w' → R (.int .u32 ((crcOf bs).toNat : Int)) w') : CALL PR F_sum_Of [bv] w R := by
  refine C_sum_Of ?_
  unfold M_sum_Of
  exact sum_More 0#32 hb hn hR
theorem sum_four (n : BitVec 32) (hR : ∀ w' v G, Slc encB 1 w' v (four n) G → (∀ b ∈ G, hsz w ≤ b) → Fr [] w w' → R v w') : CALL PR F_sum_four [.int .u32 (n.toNat : Int)] w R := by
  refine C_sum_four ?_
  unfold M_sum_four
  (repeat (first | refine BND_step (conv8 n) ?_ | refine BND_step (shr32 n 8 (by omega)) ?_ | refine BND_step (conv8 _) ?_ | refine BND_step (shr32 n 16 (by omega)) ?_ | refine BND_step (shr32 n 24 (by omega)) ?_ | refine gg ?_))
  refine newparts_step encB_len (val := fun x : UInt8 => Value.int .u8 (x.toNat : Int)) (fun _ => rfl) (four n) rfl rfl fun t w1 s1 f1 z1 => ?_
  (repeat refine gg ?_)
  exact hR _ _ _ s1 (by simp) f1
end
end Go.Proofs.YtofllgbdphakiaaGreat
end

section
namespace Go.Den
section
variable {α : Type} {enc : α → List Value} {sz : Nat} {w w' : World} {v : Value} {xs : List α}
/-- a slice, read, of a capacity that is no less than its length. -/
structure ArrC (enc : α → List Value) (sz : Nat) (w : World) (v : Value) (xs : List α) : Prop where
  arr : Arr enc sz w v xs
  cap : Capd v
theorem ArrC.fr (h : ArrC enc sz w v xs) {F : List Nat} (f : Fr F w w') (hF : ∀ b ∈ F, hsz w ≤ b) : ArrC enc sz w' v xs := ⟨h.arr.fr f hF, h.cap⟩
theorem ArrC.len (h : ArrC enc sz w v xs) : lenl v = some (.int .i64 xs.length) := h.arr.len
theorem Slc.arrC {F : List Nat} (s : Slc enc sz w v xs F) : ArrC enc sz w v xs := ⟨s.arr, s.capd⟩
theorem arr_part (h : ArrC enc sz w v xs) {lo hi : Nat} (h1 : lo ≤ hi) (h2 : hi ≤ xs.length) :
    ∃ a n c c', v = .slice a n c ∧ hi ≤ c ∧ xs.length = n ∧ ArrC enc sz w (.slice (if c = lo then a else a.map (·.add (lo * sz))) (hi - lo) c') ((xs.take hi).drop lo) ∧ c' = c - lo := by
  obtain ⟨⟨a, c, rfl, h⟩, ⟨_, _, _, e, hc⟩⟩ := h
  cases e
  refine ⟨a, xs.length, c, c - lo, rfl, by omega, rfl, ⟨⟨(if c = lo then a else a.map (·.add (lo * sz))), c - lo, ?_, ?_⟩, ⟨_, _, _, rfl, by omega⟩⟩, rfl⟩
  · rw [List.length_drop, List.length_take]; congr 1; omega
  · by_cases h0 : hi = lo
    · left
      rw [List.drop_eq_nil_of_le (by rw [List.length_take]; omega)]
    · rcases h with rfl | ⟨b, o, cs, T, fz, rfl, q1, q2⟩
      · left; simp
      · right
        refine ⟨b, o + lo * sz, cs, T, fz, ?_, q1, fun i x hx => ?_⟩
        · rw [if_neg (by omega)]
          simp [add_none]
        · rw [List.getElem?_drop] at hx
          have hi' : lo + i < hi := by
            have := (List.getElem?_eq_some_iff.1 hx).1
            rw [List.length_take] at this; omega
          rw [List.getElem?_take_of_lt hi'] at hx
          obtain ⟨p1, p2⟩ := q2 _ _ hx
          have e : (lo + i) * sz = lo * sz + i * sz := Nat.add_mul _ _ _
          refine ⟨by omega, fun j hj => ?_⟩
          rw [show o + lo * sz + i * sz + j = o + (lo + i) * sz + j by omega]
          exact p2 j hj
/-- 'v[lo:hi]'. -/
theorem ArrC.mid (h : ArrC enc sz w v xs) {lo hi : Nat} (h1 : lo ≤ hi) (h2 : hi ≤ xs.length) : ∃ v', slicev sz v (some (.int .i64 (lo : Int))) (some (.int .i64 (hi : Int))) = some v' ∧ ArrC enc sz w v' ((xs.take hi).drop lo) := by
  obtain ⟨a, n, c, c', rfl, p1, p2, p3, rfl⟩ := arr_part h h1 h2
  refine ⟨_, ?_, p3⟩
  unfold slicev
  simp [natOf, p1, h1]
/-- 'v[:hi]'. -/
theorem ArrC.to (h : ArrC enc sz w v xs) {hi : Nat} (h2 : hi ≤ xs.length) : ∃ v', slicev sz v none (some (.int .i64 (hi : Int))) = some v' ∧ ArrC enc sz w v' (xs.take hi) := by
  obtain ⟨a, n, c, c', rfl, p1, p2, p3, rfl⟩ := arr_part h (Nat.zero_le hi) h2
  rw [List.drop_zero] at p3
  refine ⟨_, ?_, p3⟩
  unfold slicev
  simp [natOf, p1]
/-- 'v[lo:]'. -/
theorem ArrC.from (h : ArrC enc sz w v xs) {lo : Nat} (h1 : lo ≤ xs.length) : ∃ v', slicev sz v (some (.int .i64 (lo : Int))) none = some v' ∧ ArrC enc sz w v' (xs.drop lo) := by
  obtain ⟨a, n, c, c', rfl, p1, p2, p3, rfl⟩ := arr_part h h1 (Nat.le_refl _)
  rw [List.take_length] at p3
  refine ⟨_, ?_, p3⟩
  unfold slicev
  subst p2
  simp [natOf, p1, h1]
theorem Arr.sv (h : Arr enc sz w v xs) : ∃ x : SV, v = x.v := by
  obtain ⟨a, c, rfl, _⟩ := h
  exact ⟨⟨a, _, c⟩, rfl⟩
end
end Go.Den
end

section
namespace Go.Proofs
open Go.Shelf
def Tryz.keysA_ren : Go.Shelf.Ren := ⟨fun | 7 => 52 | 10 => 81 | n => n, fun | 23 => 68 | 26 => 9 | 3 => 96 | 28 => 94 | 0 => 0 | 27 => 93 | 33 => 105 | 4 => 4 | n => n, fun | n => n⟩
theorem Tryz.keysA : Go.Proofs.SlLaysZ.n7 Tryz.prog Tryz.keysA_ren := {
  mixed := by kernel_rfl
  f7 := ⟨Tryz.f52.name, by decide, Tryz.func52.trans (congrArg some (by kernel_rfl))⟩
  f10 := ⟨Tryz.f81.name, by decide, Tryz.func81.trans (congrArg some (by kernel_rfl))⟩
  t0 := Tryz.underlying0
  a0 := Tryz.isAgg0
  z0 := Tryz.sizeOf0
  v0 := Tryz.zeroValue0
  t4 := Tryz.underlying4
  a4 := Tryz.isAgg4
  z4 := Tryz.sizeOf4
  v4 := Tryz.zeroValue4
  t23 := Tryz.underlying68
  a23 := Tryz.isAgg68
  z23 := Tryz.sizeOf68
  v23 := Tryz.zeroValue68
  t26 := Tryz.underlying9
  a26 := Tryz.isAgg9
  z26 := Tryz.sizeOf9
  v26 := Tryz.zeroValue9
  t27 := Tryz.underlying93
  a27 := Tryz.isAgg93
  z27 := Tryz.sizeOf93
  v27 := Tryz.zeroValue93
  t28 := Tryz.underlying94
  a28 := Tryz.isAgg94
  z28 := Tryz.sizeOf94
  v28 := Tryz.zeroValue94
  t33 := Tryz.underlying105
  a33 := Tryz.isAgg105
  z33 := Tryz.sizeOf105
  v33 := Tryz.zeroValue105 }
def Tryz.sortedA_ren : Go.Shelf.Ren := ⟨fun | 6 => 51 | 8 => 79 | 9 => 80 | 11 => 98 | 13 => 100 | 12 => 99 | 23 => 120 | 24 => 121 | 14 => 111 | 15 => 112 | 16 => 113 | 17 => 114 | 18 => 115 | 19 => 116 | 20 => 117 | 21 => 118 | 22 => 119 | 25 => 127 | 26 => 128 | 27 => 129 | 28 => 130 | 29 => 131 | 30 => 132 | 31 => 135 | n => n, fun | 26 => 9 | 28 => 94 | 24 => 59 | 0 => 0 | 3 => 3 | 37 => 156 | 48 => 160 | 50 => 31 | 4 => 4 | 40 => 169 | 39 => 168 | 45 => 174 | 5 => 5 | 9 => 9 | 51 => 182 | 55 => 186 | 57 => 191 | 58 => 192 | 33 => 105 | n => n, fun | n => n⟩
theorem Tryz.sortedA : Go.Proofs.SlLaysZ.n6 Tryz.prog Tryz.sortedA_ren := {
  mixed := by kernel_rfl
  f6 := ⟨Tryz.f51.name, by decide, Tryz.func51.trans (congrArg some (by kernel_rfl))⟩
  f8 := ⟨Tryz.f79.name, by decide, Tryz.func79.trans (congrArg some (by kernel_rfl))⟩
  f11 := ⟨Tryz.f98.name, by decide, Tryz.func98.trans (congrArg some (by kernel_rfl))⟩
  t0 := Tryz.underlying0
  a0 := Tryz.isAgg0
  z0 := Tryz.sizeOf0
  v0 := Tryz.zeroValue0
  t24 := Tryz.underlying59
  a24 := Tryz.isAgg59
  z24 := Tryz.sizeOf59
  v24 := Tryz.zeroValue59
  t26 := Tryz.underlying9
  a26 := Tryz.isAgg9
  z26 := Tryz.sizeOf9
  v26 := Tryz.zeroValue9
  t28 := Tryz.underlying94
  a28 := Tryz.isAgg94
  z28 := Tryz.sizeOf94
  v28 := Tryz.zeroValue94
  i26 := by kernel_rfl }
def Tryz.sortA_ren : Go.Shelf.Ren := ⟨fun | 6 => 80 | 8 => 100 | 9 => 99 | 19 => 120 | 20 => 121 | 21 => 111 | 22 => 112 | 23 => 113 | 24 => 114 | 25 => 115 | 26 => 116 | 27 => 117 | 28 => 118 | 29 => 119 | 36 => 127 | 31 => 128 | 32 => 129 | 37 => 130 | 38 => 131 | 39 => 132 | 41 => 135 | n => n, fun | 27 => 59 | 29 => 9 | 3 => 3 | 32 => 156 | 26 => 59 | 0 => 0 | 44 => 160 | 46 => 31 | 4 => 4 | 36 => 169 | 35 => 168 | 41 => 174 | 5 => 5 | 9 => 9 | 53 => 182 | 57 => 186 | 63 => 191 | 64 => 192 | n => n, fun | n => n⟩
theorem Tryz.sortA : Go.Proofs.SlLaysM.n6 Tryz.prog Tryz.sortA_ren := {
  mixed := by kernel_rfl
  f6 := ⟨Tryz.f80.name, by decide, Tryz.func80.trans (congrArg some (by kernel_rfl))⟩
  f8 := Tryz.func100.trans (congrArg some (by kernel_rfl))
  f9 := ⟨Tryz.f99.name, by decide, Tryz.func99.trans (congrArg some (by kernel_rfl))⟩
  f19 := Tryz.func120.trans (congrArg some (by kernel_rfl))
  f20 := Tryz.func121.trans (congrArg some (by kernel_rfl))
  f21 := ⟨Tryz.f111.name, by decide, Tryz.func111.trans (congrArg some (by kernel_rfl))⟩
  f22 := ⟨Tryz.f112.name, by decide, Tryz.func112.trans (congrArg some (by kernel_rfl))⟩
  f23 := ⟨Tryz.f113.name, by decide, Tryz.func113.trans (congrArg some (by kernel_rfl))⟩
  f24 := ⟨Tryz.f114.name, by decide, Tryz.func114.trans (congrArg some (by kernel_rfl))⟩
  f25 := ⟨Tryz.f115.name, by decide, Tryz.func115.trans (congrArg some (by kernel_rfl))⟩
  f26 := ⟨Tryz.f116.name, by decide, Tryz.func116.trans (congrArg some (by kernel_rfl))⟩
  f27 := ⟨Tryz.f117.name, by decide, Tryz.func117.trans (congrArg some (by kernel_rfl))⟩
  f28 := ⟨Tryz.f118.name, by decide, Tryz.func118.trans (congrArg some (by kernel_rfl))⟩
  f29 := ⟨Tryz.f119.name, by decide, Tryz.func119.trans (congrArg some (by kernel_rfl))⟩
  f31 := Tryz.func128.trans (congrArg some (by kernel_rfl))
  f32 := Tryz.func129.trans (congrArg some (by kernel_rfl))
  f36 := ⟨Tryz.f127.name, by decide, Tryz.func127.trans (congrArg some (by kernel_rfl))⟩
  f37 := ⟨Tryz.f130.name, by decide, Tryz.func130.trans (congrArg some (by kernel_rfl))⟩
  f38 := ⟨Tryz.f131.name, by decide, Tryz.func131.trans (congrArg some (by kernel_rfl))⟩
  f39 := ⟨Tryz.f132.name, by decide, Tryz.func132.trans (congrArg some (by kernel_rfl))⟩
  f41 := ⟨Tryz.f135.name, by decide, Tryz.func135.trans (congrArg some (by kernel_rfl))⟩
  t0 := Tryz.underlying0
  a0 := Tryz.isAgg0
  z0 := Tryz.sizeOf0
  v0 := Tryz.zeroValue0
  t3 := Tryz.underlying3
  a3 := Tryz.isAgg3
  z3 := Tryz.sizeOf3
  v3 := Tryz.zeroValue3
  t4 := Tryz.underlying4
  a4 := Tryz.isAgg4
  z4 := Tryz.sizeOf4
  v4 := Tryz.zeroValue4
  t5 := Tryz.underlying5
  a5 := Tryz.isAgg5
  z5 := Tryz.sizeOf5
  v5 := Tryz.zeroValue5
  t9 := Tryz.underlying9
  a9 := Tryz.isAgg9
  z9 := Tryz.sizeOf9
  v9 := Tryz.zeroValue9
  t26 := Tryz.underlying59
  a26 := Tryz.isAgg59
  z26 := Tryz.sizeOf59
  v26 := Tryz.zeroValue59
  t27 := Tryz.underlying59
  a27 := Tryz.isAgg59
  z27 := Tryz.sizeOf59
  v27 := Tryz.zeroValue59
  t29 := Tryz.underlying9
  a29 := Tryz.isAgg9
  z29 := Tryz.sizeOf9
  v29 := Tryz.zeroValue9
  t32 := Tryz.underlying156
  a32 := Tryz.isAgg156
  z32 := Tryz.sizeOf156
  v32 := Tryz.zeroValue156
  t35 := Tryz.underlying168
  a35 := Tryz.isAgg168
  z35 := Tryz.sizeOf168
  v35 := Tryz.zeroValue168
  t36 := Tryz.underlying169
  a36 := Tryz.isAgg169
  z36 := Tryz.sizeOf169
  v36 := Tryz.zeroValue169
  t41 := Tryz.underlying174
  a41 := Tryz.isAgg174
  z41 := Tryz.sizeOf174
  v41 := Tryz.zeroValue174
  t44 := Tryz.underlying160
  a44 := Tryz.isAgg160
  z44 := Tryz.sizeOf160
  v44 := Tryz.zeroValue160
  t46 := Tryz.underlying31
  a46 := Tryz.isAgg31
  z46 := Tryz.sizeOf31
  v46 := Tryz.zeroValue31
  t53 := Tryz.underlying182
  a53 := Tryz.isAgg182
  z53 := Tryz.sizeOf182
  v53 := Tryz.zeroValue182
  t57 := Tryz.underlying186
  a57 := Tryz.isAgg186
  z57 := Tryz.sizeOf186
  v57 := Tryz.zeroValue186
  t63 := Tryz.underlying191
  a63 := Tryz.isAgg191
  z63 := Tryz.sizeOf191
  v63 := Tryz.zeroValue191
  t64 := Tryz.underlying192
  a64 := Tryz.isAgg192
  z64 := Tryz.sizeOf192
  v64 := Tryz.zeroValue192 }
def Tryz.cloneA_ren : Go.Shelf.Ren := ⟨fun | 5 => 82 | 7 => 101 | n => n, fun | 23 => 68 | 25 => 9 | 3 => 96 | 4 => 4 | 20 => 20 | n => n, fun | n => n⟩
theorem Tryz.cloneA : Go.Proofs.SlLaysW.n5 Tryz.prog Tryz.cloneA_ren := {
  mixed := by kernel_rfl
  f5 := ⟨Tryz.f82.name, by decide, Tryz.func82.trans (congrArg some (by kernel_rfl))⟩
  f7 := Tryz.func101.trans (congrArg some (by kernel_rfl))
  t4 := Tryz.underlying4
  a4 := Tryz.isAgg4
  z4 := Tryz.sizeOf4
  v4 := Tryz.zeroValue4
  t20 := Tryz.underlying20
  a20 := Tryz.isAgg20
  z20 := Tryz.sizeOf20
  v20 := Tryz.zeroValue20
  t23 := Tryz.underlying68
  a23 := Tryz.isAgg68
  z23 := Tryz.sizeOf68
  v23 := Tryz.zeroValue68 }
def Tryz.growB_ren : Go.Shelf.Ren := ⟨fun | 4 => 122 | n => n, fun | 22 => 37 | 25 => 5 | 3 => 3 | 4 => 4 | 9 => 9 | 20 => 20 | 0 => 0 | n => n, fun | n => n⟩
theorem Tryz.growB : Go.Proofs.Lays8.n4 Tryz.prog Tryz.growB_ren := {
  mixed := by kernel_rfl
  f4 := ⟨Tryz.f122.name, by decide, Tryz.func122.trans (congrArg some (by kernel_rfl))⟩
  t0 := Tryz.underlying0
  a0 := Tryz.isAgg0
  z0 := Tryz.sizeOf0
  v0 := Tryz.zeroValue0
  t3 := Tryz.underlying3
  a3 := Tryz.isAgg3
  z3 := Tryz.sizeOf3
  v3 := Tryz.zeroValue3
  t4 := Tryz.underlying4
  a4 := Tryz.isAgg4
  z4 := Tryz.sizeOf4
  v4 := Tryz.zeroValue4
  t9 := Tryz.underlying9
  a9 := Tryz.isAgg9
  z9 := Tryz.sizeOf9
  v9 := Tryz.zeroValue9
  t20 := Tryz.underlying20
  a20 := Tryz.isAgg20
  z20 := Tryz.sizeOf20
  v20 := Tryz.zeroValue20
  t22 := Tryz.underlying37
  a22 := Tryz.isAgg37
  z22 := Tryz.sizeOf37
  v22 := Tryz.zeroValue37 }
def Tryz.lays128_ren : Go.Shelf.Ren := ⟨fun | 128 => 120 | n => n, fun | 51 => 160 | 3 => 3 | 4 => 4 | 46 => 156 | 5 => 5 | 9 => 9 | n => n, fun | n => n⟩
theorem Tryz.lays128 : Go.Proofs.Lays.n128 Tryz.prog Tryz.lays128_ren := {
  mixed := by kernel_rfl
  f128 := Tryz.func120.trans (congrArg some (by kernel_rfl))
  t3 := Tryz.underlying3
  a3 := Tryz.isAgg3
  z3 := Tryz.sizeOf3
  v3 := Tryz.zeroValue3
  t4 := Tryz.underlying4
  a4 := Tryz.isAgg4
  z4 := Tryz.sizeOf4
  v4 := Tryz.zeroValue4
  t5 := Tryz.underlying5
  a5 := Tryz.isAgg5
  z5 := Tryz.sizeOf5
  v5 := Tryz.zeroValue5
  t9 := Tryz.underlying9
  a9 := Tryz.isAgg9
  z9 := Tryz.sizeOf9
  v9 := Tryz.zeroValue9
  t46 := Tryz.underlying156
  a46 := Tryz.isAgg156
  z46 := Tryz.sizeOf156
  v46 := Tryz.zeroValue156
  t51 := Tryz.underlying160
  a51 := Tryz.isAgg160
  z51 := Tryz.sizeOf160
  v51 := Tryz.zeroValue160 }
/-- bits.Len32: "Len32 returns the minimum number of bits required to represent x; the result is 0 for x == 0.": IT RETURNS 'Lib.bitLen x'; the world is as it was. ('h0', 'h1': x is a uint32.) (LAID: no walk: one application.) -/
theorem Tryz.bits_Len32 (x : Int) (w : World) (h0 : 0 ≤ x) (h1 : x ≤ 4294967295) :
    Calls Tryz.prog 120 #[.int .u32 x] w fun e w' => e = .returned (.int .i64 (Lib.bitLen x.toNat)) ∧ w' = w := Any.bits_Len32 Tryz.lays128 x w h0 h1
def Tryz.lays125_ren : Go.Shelf.Ren := ⟨fun | 125 => 100 | 128 => 120 | 129 => 121 | n => n, fun | 46 => 156 | 3 => 3 | 51 => 160 | 53 => 31 | 4 => 4 | 5 => 5 | 9 => 9 | n => n, fun | n => n⟩
theorem Tryz.lays125 : Go.Proofs.Lays.n125 Tryz.prog Tryz.lays125_ren := {
  mixed := by kernel_rfl
  f125 := Tryz.func100.trans (congrArg some (by kernel_rfl))
  f128 := Tryz.func120.trans (congrArg some (by kernel_rfl))
  f129 := Tryz.func121.trans (congrArg some (by kernel_rfl))
  t3 := Tryz.underlying3
  a3 := Tryz.isAgg3
  z3 := Tryz.sizeOf3
  v3 := Tryz.zeroValue3
  t4 := Tryz.underlying4
  a4 := Tryz.isAgg4
  z4 := Tryz.sizeOf4
  v4 := Tryz.zeroValue4
  t5 := Tryz.underlying5
  a5 := Tryz.isAgg5
  z5 := Tryz.sizeOf5
  v5 := Tryz.zeroValue5
  t9 := Tryz.underlying9
  a9 := Tryz.isAgg9
  z9 := Tryz.sizeOf9
  v9 := Tryz.zeroValue9
  t46 := Tryz.underlying156
  a46 := Tryz.isAgg156
  z46 := Tryz.sizeOf156
  v46 := Tryz.zeroValue156
  t51 := Tryz.underlying160
  a51 := Tryz.isAgg160
  z51 := Tryz.sizeOf160
  v51 := Tryz.zeroValue160
  t53 := Tryz.underlying31
  a53 := Tryz.isAgg31
  z53 := Tryz.sizeOf31
  v53 := Tryz.zeroValue31 }
/-- bits.Len: "Len returns the minimum number of bits required to represent x; the result is 0 for x == 0.": IT RETURNS 'Lib.bitLen x'; the world is as it was. (A uint has 64 bits in the model.) ITS CALLEE bits.Len64 IS MET BY ITS OWN CONTRACT OFF THE SHELF (lay that first). (LAID: no walk: one application.) -/
theorem Tryz.bits_Len (x : Int) (w : World) (h0 : 0 ≤ x) (h1 : x ≤ 18446744073709551615) :
    Calls Tryz.prog 100 #[.int .u64 x] w fun e w' => e = .returned (.int .i64 (Lib.bitLen x.toNat)) ∧ w' = w := Any.bits_Len Tryz.lays125 x w h0 h1
def Tryz.lays129_ren : Go.Shelf.Ren := ⟨fun | 129 => 121 | n => n, fun | 53 => 31 | 3 => 3 | 4 => 4 | 46 => 156 | 5 => 5 | 9 => 9 | n => n, fun | n => n⟩
theorem Tryz.lays129 : Go.Proofs.Lays.n129 Tryz.prog Tryz.lays129_ren := {
  mixed := by kernel_rfl
  f129 := Tryz.func121.trans (congrArg some (by kernel_rfl))
  t3 := Tryz.underlying3
  a3 := Tryz.isAgg3
  z3 := Tryz.sizeOf3
  v3 := Tryz.zeroValue3
  t4 := Tryz.underlying4
  a4 := Tryz.isAgg4
  z4 := Tryz.sizeOf4
  v4 := Tryz.zeroValue4
  t5 := Tryz.underlying5
  a5 := Tryz.isAgg5
  z5 := Tryz.sizeOf5
  v5 := Tryz.zeroValue5
  t9 := Tryz.underlying9
  a9 := Tryz.isAgg9
  z9 := Tryz.sizeOf9
  v9 := Tryz.zeroValue9
  t46 := Tryz.underlying156
  a46 := Tryz.isAgg156
  z46 := Tryz.sizeOf156
  v46 := Tryz.zeroValue156
  t53 := Tryz.underlying31
  a53 := Tryz.isAgg31
  z53 := Tryz.sizeOf31
  v53 := Tryz.zeroValue31 }
/-- bits.Len64: "Len64 returns the minimum number of bits required to represent x; the result is 0 for x == 0.": IT RETURNS 'Lib.bitLen x'; the world is as it was. ('h0', 'h1': x is a uint64.) (LAID: no walk: one application.) -/
theorem Tryz.bits_Len64 (x : Int) (w : World) (h0 : 0 ≤ x) (h1 : x ≤ 18446744073709551615) :
    Calls Tryz.prog 121 #[.int .u64 x] w fun e w' => e = .returned (.int .i64 (Lib.bitLen x.toNat)) ∧ w' = w := Any.bits_Len64 Tryz.lays129 x w h0 h1
def Tryz.lays190_ren : Go.Shelf.Ren := ⟨fun | 190 => 80 | 125 => 100 | 258 => 99 | 128 => 120 | 129 => 121 | 302 => 111 | 303 => 112 | 304 => 113 | 305 => 114 | 306 => 115 | 307 => 116 | 308 => 117 | 309 => 118 | 310 => 119 | 333 => 127 | 329 => 128 | 330 => 129 | 334 => 130 | 335 => 131 | 336 => 132 | 344 => 135 | n => n, fun | 31 => 59 | 9 => 9 | 3 => 3 | 46 => 156 | 0 => 0 | 51 => 160 | 53 => 31 | 4 => 4 | 183 => 169 | 182 => 168 | 131 => 174 | 5 => 5 | 218 => 182 | 222 => 186 | 228 => 191 | 229 => 192 | n => n, fun | n => n⟩
theorem Tryz.lays190 : Go.Proofs.Lays.n190 Tryz.prog Tryz.lays190_ren := {
  mixed := by kernel_rfl
  f125 := Tryz.func100.trans (congrArg some (by kernel_rfl))
  f128 := Tryz.func120.trans (congrArg some (by kernel_rfl))
  f129 := Tryz.func121.trans (congrArg some (by kernel_rfl))
  f190 := Tryz.func80.trans (congrArg some (by kernel_rfl))
  f258 := Tryz.func99.trans (congrArg some (by kernel_rfl))
  f302 := Tryz.func111.trans (congrArg some (by kernel_rfl))
  f303 := Tryz.func112.trans (congrArg some (by kernel_rfl))
  f304 := Tryz.func113.trans (congrArg some (by kernel_rfl))
  f305 := Tryz.func114.trans (congrArg some (by kernel_rfl))
  f306 := Tryz.func115.trans (congrArg some (by kernel_rfl))
  f307 := Tryz.func116.trans (congrArg some (by kernel_rfl))
  f308 := Tryz.func117.trans (congrArg some (by kernel_rfl))
  f309 := Tryz.func118.trans (congrArg some (by kernel_rfl))
  f310 := Tryz.func119.trans (congrArg some (by kernel_rfl))
  f329 := Tryz.func128.trans (congrArg some (by kernel_rfl))
  f330 := Tryz.func129.trans (congrArg some (by kernel_rfl))
  f333 := Tryz.func127.trans (congrArg some (by kernel_rfl))
  f334 := Tryz.func130.trans (congrArg some (by kernel_rfl))
  f335 := Tryz.func131.trans (congrArg some (by kernel_rfl))
  f336 := Tryz.func132.trans (congrArg some (by kernel_rfl))
  f344 := Tryz.func135.trans (congrArg some (by kernel_rfl))
  t0 := Tryz.underlying0
  a0 := Tryz.isAgg0
  z0 := Tryz.sizeOf0
  v0 := Tryz.zeroValue0
  t3 := Tryz.underlying3
  a3 := Tryz.isAgg3
  z3 := Tryz.sizeOf3
  v3 := Tryz.zeroValue3
  t4 := Tryz.underlying4
  a4 := Tryz.isAgg4
  z4 := Tryz.sizeOf4
  v4 := Tryz.zeroValue4
  t5 := Tryz.underlying5
  a5 := Tryz.isAgg5
  z5 := Tryz.sizeOf5
  v5 := Tryz.zeroValue5
  t9 := Tryz.underlying9
  a9 := Tryz.isAgg9
  z9 := Tryz.sizeOf9
  v9 := Tryz.zeroValue9
  t31 := Tryz.underlying59
  a31 := Tryz.isAgg59
  z31 := Tryz.sizeOf59
  v31 := Tryz.zeroValue59
  t46 := Tryz.underlying156
  a46 := Tryz.isAgg156
  z46 := Tryz.sizeOf156
  v46 := Tryz.zeroValue156
  t51 := Tryz.underlying160
  a51 := Tryz.isAgg160
  z51 := Tryz.sizeOf160
  v51 := Tryz.zeroValue160
  t53 := Tryz.underlying31
  a53 := Tryz.isAgg31
  z53 := Tryz.sizeOf31
  v53 := Tryz.zeroValue31
  t131 := Tryz.underlying174
  a131 := Tryz.isAgg174
  z131 := Tryz.sizeOf174
  v131 := Tryz.zeroValue174
  t182 := Tryz.underlying168
  a182 := Tryz.isAgg168
  z182 := Tryz.sizeOf168
  v182 := Tryz.zeroValue168
  t183 := Tryz.underlying169
  a183 := Tryz.isAgg169
  z183 := Tryz.sizeOf169
  v183 := Tryz.zeroValue169
  t218 := Tryz.underlying182
  a218 := Tryz.isAgg182
  z218 := Tryz.sizeOf182
  v218 := Tryz.zeroValue182
  t222 := Tryz.underlying186
  a222 := Tryz.isAgg186
  z222 := Tryz.sizeOf186
  v222 := Tryz.zeroValue186
  t228 := Tryz.underlying191
  a228 := Tryz.isAgg191
  z228 := Tryz.sizeOf191
  v228 := Tryz.zeroValue191
  t229 := Tryz.underlying192
  a229 := Tryz.isAgg192
  z229 := Tryz.sizeOf192
  v229 := Tryz.zeroValue192 }
open Go.Sort Go.RowKit in
theorem Tryz.slices_Sort_string (blk off cap : Nat) (ss : List (List UInt8)) (w : World) (hH : Holds encStr w blk off ss.toArray) (hblk : blk < w.heap.size) (hsz : ss.length < 4611686018427387904) :
    Calls Tryz.prog 80 #[.slice (some ⟨blk, off, none⟩) ss.length cap] w fun e w' =>
      e = .returned (.tuple #[]) ∧ ∃ n os, w' = grow (putRow encStr (Sort.ahead w n) blk off (ss.mergeSort fun x y => decide (x ≤ y)).toArray) os := Any.slices_Sort_string Tryz.lays190 blk off cap ss w hH hblk hsz
def Tryz.lays109_ren : Go.Shelf.Ren := ⟨fun | 109 => 69 | n => n, fun | 31 => 59 | 9 => 9 | 3 => 3 | 0 => 0 | 4 => 4 | n => n, fun | n => n⟩
theorem Tryz.lays109 : Go.Proofs.Lays.n109 Tryz.prog Tryz.lays109_ren := {
  mixed := by kernel_rfl
  f109 := Tryz.func69.trans (congrArg some (by kernel_rfl))
  t0 := Tryz.underlying0
  a0 := Tryz.isAgg0
  z0 := Tryz.sizeOf0
  v0 := Tryz.zeroValue0
  t3 := Tryz.underlying3
  a3 := Tryz.isAgg3
  z3 := Tryz.sizeOf3
  v3 := Tryz.zeroValue3
  t4 := Tryz.underlying4
  a4 := Tryz.isAgg4
  z4 := Tryz.sizeOf4
  v4 := Tryz.zeroValue4
  t9 := Tryz.underlying9
  a9 := Tryz.isAgg9
  z9 := Tryz.sizeOf9
  v9 := Tryz.zeroValue9
  t31 := Tryz.underlying59
  a31 := Tryz.isAgg59
  z31 := Tryz.sizeOf59
  v31 := Tryz.zeroValue59 }
open Go.Lib in
/-- slices.Index at []string: "Index returns the index of the first occurrence of v in s, or -1 if not present.": IT RETURNS 'Lib.idxOfS (the elements) v'; the world is as it was. 'zs': what the cells behind the slice's address hold (its spare capacity too, if you have it); 'zs.take n': its elements. (LAID: no walk: one application.) -/
theorem Tryz.slices_Index_string (b off n c : Nat) (zs : List ByteArray) (x : ByteArray) (w : World) (hz : n ≤ zs.length) (hbig : n ≤ 9223372036854775807) (hc : ∀ j, j < zs.length → w.cell? ⟨b, off + j, none⟩ = some (.string (zs.getD j ByteArray.empty))) :
    Calls Tryz.prog 69 #[.slice (some ⟨b, off, none⟩) n c, .string x] w fun e w' => e = .returned (.int .i64 (Lib.idxOfS (zs.take n) x)) ∧ w' = w := Any.slices_Index_string Tryz.lays109 b off n c zs x w hz hbig hc
open Go.Lib in
/-- The same at a slice of length 0, a nil one too: no cell is known, none is asked for. (LAID: no walk: one application.) -/
theorem Tryz.slices_Index_string_empty (a : Option Addr) (c : Nat) (x : ByteArray) (w : World) :
    Calls Tryz.prog 69 #[.slice a 0 c, .string x] w fun e w' => e = .returned (.int .i64 (Lib.idxOfS [] x)) ∧ w' = w := Any.slices_Index_string_empty Tryz.lays109 a c x w
def Tryz.lays110_ren : Go.Shelf.Ren := ⟨fun | 110 => 36 | 109 => 69 | n => n, fun | 31 => 59 | 9 => 9 | 4 => 4 | 3 => 3 | 0 => 0 | n => n, fun | n => n⟩
theorem Tryz.lays110 : Go.Proofs.Lays.n110 Tryz.prog Tryz.lays110_ren := {
  mixed := by kernel_rfl
  f109 := Tryz.func69.trans (congrArg some (by kernel_rfl))
  f110 := Tryz.func36.trans (congrArg some (by kernel_rfl))
  t0 := Tryz.underlying0
  a0 := Tryz.isAgg0
  z0 := Tryz.sizeOf0
  v0 := Tryz.zeroValue0
  t3 := Tryz.underlying3
  a3 := Tryz.isAgg3
  z3 := Tryz.sizeOf3
  v3 := Tryz.zeroValue3
  t4 := Tryz.underlying4
  a4 := Tryz.isAgg4
  z4 := Tryz.sizeOf4
  v4 := Tryz.zeroValue4
  t9 := Tryz.underlying9
  a9 := Tryz.isAgg9
  z9 := Tryz.sizeOf9
  v9 := Tryz.zeroValue9
  t31 := Tryz.underlying59
  a31 := Tryz.isAgg59
  z31 := Tryz.sizeOf59
  v31 := Tryz.zeroValue59 }
open Go.Lib in
/-- slices.Contains at []string: "Contains reports whether v is present in s.": IT RETURNS 'Lib.containsS (the elements) v', which is true just where v is among them ('Lib.containsS_iff'); the world is as it was. ITS CALLEE slices.Index IS MET BY ITS OWN CONTRACT OFF THE SHELF (lay that first): no loop is walked here. (LAID: no walk: one application.) -/
theorem Tryz.slices_Contains_string (b off n c : Nat) (zs : List ByteArray) (x : ByteArray) (w : World) (hz : n ≤ zs.length) (hbig : n ≤ 9223372036854775807) (hc : ∀ j, j < zs.length → w.cell? ⟨b, off + j, none⟩ = some (.string (zs.getD j ByteArray.empty))) :
    Calls Tryz.prog 36 #[.slice (some ⟨b, off, none⟩) n c, .string x] w fun e w' => e = .returned (.bool (Lib.containsS (zs.take n) x)) ∧ w' = w := Any.slices_Contains_string Tryz.lays110 b off n c zs x w hz hbig hc
open Go.Lib in
/-- The same at a slice of length 0, a nil one too. (LAID: no walk: one application.) -/
theorem Tryz.slices_Contains_string_empty (a : Option Addr) (c : Nat) (x : ByteArray) (w : World) :
    Calls Tryz.prog 36 #[.slice a 0 c, .string x] w fun e w' => e = .returned (.bool false) ∧ w' = w := Any.slices_Contains_string_empty Tryz.lays110 a c x w
open Go.RowKit Go.Sort in
/-- .. and plain. (LAID: no walk: one application.) -/
theorem Tryz.slices_Sort_string_none (p : Option Addr) (cap : Nat) (w : World) :
    Calls Tryz.prog 80 #[.slice p 0 cap] w fun e w' => e = .returned (.tuple #[]) ∧ w' = w := Any.slices_Sort_string_none Tryz.lays190 p cap w
end Go.Proofs
end

section
namespace Go.Proofs.YtofllgbdphakiaaGreat
open Go.Den Go.Disk Go.Crc
theorem slc_nil' : binv .slc .eql (.slice none 0 0) (.slice none 0 0) = some (.bool true) := rfl
theorem slc_is (a : Option Addr) (n c : Nat) : binv .slc .eql (.slice a n c) (.slice none 0 0) = some (.bool a.isNone) := by cases a <;> rfl
def lensOf (xs : List (SV × List UInt8)) : Nat := (xs.map (·.2.length)).sum
theorem lensOf_le (xs : List (SV × List UInt8)) (i : Nat) : lensOf (xs.take i) ≤ lensOf xs := by
  conv => rhs; rw [← List.take_append_drop i xs]
  unfold lensOf
  rw [List.map_append, List.sum_append]
  omega
theorem lensOf_flat (xs : List (SV × List UInt8)) : (xs.flatMap (·.2)).length = lensOf xs := by
  induction xs with
  | nil => rfl
  | cons a xs ih => unfold lensOf at *; simp [ih]
theorem grow_sl (n : Nat) (hn : n < 1000000000) {w : World} {R : Value → World → Prop} (hR : ∀ w' v G, Slc encB 1 w' v [] G → (∀ b ∈ G, hsz w ≤ b) → Fr [] w w' → R v w') : CALL PR F_slices_Grow_byte_byte [.slice none 0 0, .int .i64 (n : Int)] w R := by
  by_cases h0 : n = 0
  · subst h0
    refine ⟨(Any8.slices_Grow_room Tryz.growB none 0 0 0 w (by omega) (by omega) (by omega) (by omega)).mono ?_⟩
    rintro e w1 ⟨rfl, rfl⟩
    exact ⟨_, rfl, hR _ _ [] (Slc.nil _ _ _) (by simp) (Fr.refl _ _)⟩
  · have hq : (PR.info? 5).map (fun i => (i.size, i.bytes)) = some (1, 1) := by kernel_rfl
    have hq2 : (PR.info? 5).bind (·.zero) = some (Value.int .u8 0) := by kernel_rfl
    obtain ⟨i0, hi⟩ : ∃ i0, PR.info? 5 = some i0 := by
      cases hi : PR.info? 5 with
      | none => rw [hi] at hq; cases hq
      | some i0 => exact ⟨i0, rfl⟩
    rw [hi] at hq hq2
    simp only [Option.map_some, Option.some.injEq, Prod.mk.injEq, Option.bind_some] at hq hq2
    obtain ⟨hs, hb⟩ := hq
    obtain ⟨z, hz, hzc⟩ : ∃ z, i0.zero = some z ∧ z.cells.size = 1 := ⟨_, hq2, rfl⟩
    refine ⟨(Any8.slices_Grow_grow Tryz.growB i0 z hi hz (by omega) none 0 0 n [] w (by omega) (by omega) (by rw [hb]; omega) (by omega) (by simp) (by simp) (by simp)).mono ?_⟩
    rintro e w1 ⟨rfl, rfl⟩
    refine ⟨_, rfl, hR _ _ [hsz w] (.inr ⟨hsz w, _, _, _, rfl, blk_alloc_new _ _, by simp, ?_, rfl, by simp⟩) (by simp) ((Fr.drew [] w).trans' (Fr.alloc _ _ _))⟩
    have hg := grownCap_ge w (0 + n) 0 5
    simp only [Array.size_append, Builtin.zeroCells, Array.size_map, Array.size_range, hzc, List.size_toArray, List.length_nil]
    show 0 + (0 + n - 0) * 1 + (grownCap w (0 + n) 0 5 - (0 + n)) * 1 = grownCap w (0 + n) 0 5 * 1
    omega
set_option linter.unusedSimpArgs false
set_option linter.unusedVariables false
set_option maxRecDepth 20000
set_option maxHeartbeats 4000000
attribute [local congr] BND_cg COND_cg GEF_cg
attribute [local irreducible] capl slicea load1 loadn iaddr iaddra faddr storev newslice binv lookv mupd mdel mlenv mentry mestore slicev slicev3 slices indexs indexav textv rangev nexts clearv shiftv eqaggv convi buildv pickv lens lenl unv nilchk extractv partn JOIN
section
variable {w : World} {R : Value → World → Prop}
theorem sl_Equal {a b : Value} {xs ys : List UInt8} (ha : Arr encB 1 w a xs) (hb : Arr encB 1 w b ys) (hn : xs.length < 1000000000) (hR : ∀ w', Fr [] w w' → R (.bool (decide (xs = ys))) w') :
    CALL PR F_slices_Equal_byte_byte [a, b] w R := by
  refine C_slices_Equal_byte_byte ?_
  unfold M_slices_Equal_byte_byte
  by_cases hl : xs.length = ys.length
  · (repeat (first | refine BND_step ha.len ?_ | refine BND_step hb.len ?_ | refine gg ?_))
    refine loop_up 0 xs.length (fun i w' => Fr [] w w' ∧ xs.take i = ys.take i) ⟨Fr.refl _ _, rfl⟩ (by omega) ?_
    rintro i w1 - hi ⟨f1, e⟩ J m hJ
    by_cases hlt : i < xs.length
    · have hx := List.getElem?_eq_getElem hlt
      have hy := List.getElem?_eq_getElem (l := ys) (i := i) (by omega)
      obtain ⟨b1, o1, i1, _, _, l1⟩ := (ha.fr f1 (by simp)).spot hx rfl .i64
      obtain ⟨b2, o2, i2, _, _, l2⟩ := (hb.fr f1 (by simp)).spot hy rfl .i64
      have hu : ((xs[i].toNat : Nat) : Int) = ((ys[i].toNat : Nat) : Int) ↔ xs[i] = ys[i] := by rw [Int.ofNat_inj, UInt8.toNat_inj]
      by_cases he : ((xs[i].toNat : Nat) : Int) = ((ys[i].toNat : Nat) : Int)
      · (repeat (first | refine BND_step (l1 (w' := w1.drew) rfl (j := 0) rfl) ?_ | refine BND_step (l2 (w' := w1.drew) rfl (j := 0) rfl) ?_ | refine gg ?_))
        refine hJ _ hlt ⟨f1.trans' (Fr.drew _ _), ?_⟩
        rw [List.take_add_one, List.take_add_one, hx, hy, e, hu.1 he]
      · (repeat (first | refine BND_step (l1 (w' := w1.drew) rfl (j := 0) rfl) ?_ | refine BND_step (l2 (w' := w1.drew) rfl (j := 0) rfl) ?_ | refine gg ?_))
        have := hR _ (f1.trans' (Fr.drew _ _))
        rwa [decide_eq_false (fun h => he (by subst h; rfl))] at this
    · (repeat refine gg ?_)
      have := hR _ f1
      rw [List.take_of_length_le (by omega), List.take_of_length_le (by omega)] at e
      rwa [decide_eq_true e] at this
  · (repeat (first | refine BND_step ha.len ?_ | refine BND_step hb.len ?_ | refine gg ?_))
    have := hR _ (Fr.refl _ _)
    rwa [decide_eq_false (fun h => hl (by rw [h]))] at this
theorem sl_Clone {a : Value} {xs : List UInt8} (ha : Arr encB 1 w a xs) (hn : xs.length < 1000000000) (hR : ∀ w' v G, Slc encB 1 w' v xs G → (∀ b ∈ G, hsz w ≤ b) → Fr [] w w' → R v w') :
    CALL PR F_slices_Clone_byte_byte [a] w R := by
  refine C_slices_Clone_byte_byte ?_
  unfold M_slices_Clone_byte_byte
  have ha' := ha
  obtain ⟨ad, c, rfl, h⟩ := ha'
  cases ad with
  | none =>
    rcases h with rfl | ⟨b, o, cs, T, fz, e, _⟩
    · (repeat (first | refine BND_step (slc_is _ _ _) ?_ | refine gg ?_))
      exact hR _ _ [] (Slc.nil _ _ _) (by simp) (Fr.refl _ _)
    · cases e
  | some ad =>
    (repeat (first | refine BND_step (slc_is _ _ _) ?_ | refine gg ?_))
    refine copy_step (enc := encB) (ys := xs) (fun w1 f1 => (ha.fr f1 (by simp)).src encB_len (by omega)) encB_len encB_one rfl (by omega) (by omega) fun v' w' G s hG f => ?_
    (repeat refine gg ?_)
    exact hR _ _ _ s hG f
theorem sl_Concat {sv : Value} {xs : List (SV × List UInt8)} {G : List Nat} (hs : Slc encV 1 w sv (xs.map (·.1)) G) (hx : ∀ p ∈ xs, Arr encB 1 w p.1.v p.2) (hn : lensOf xs < 1000000000) (hn2 : xs.length < 1000)
    (hR : ∀ w' v G, Slc encB 1 w' v (xs.flatMap (·.2)) G → (∀ b ∈ G, hsz w ≤ b) → Fr [] w w' → R v w') : CALL PR F_slices_Concat_byte_byte [sv] w R := by
  refine C_slices_Concat_byte_byte ?_
  unfold M_slices_Concat_byte_byte
  have hl := hs.len
  rw [List.length_map] at hl
  (repeat refine gg ?_)
  refine loop_up2 (o := .int .i64 0) 0 xs.length (fun o i w' => o = .int .i64 ((lensOf (xs.take i) : Nat) : Int) ∧ w' = w) ⟨rfl, rfl⟩ (by omega) ?_
  rintro o i w1 - hi ⟨rfl, rfl⟩ J m hJ
  have hle := lensOf_le xs i
  by_cases hlt : i < xs.length
  · have hxi := List.getElem?_eq_getElem hlt
    have hm := List.getElem_mem hlt
    generalize xs[i] = p at hxi hm
    obtain ⟨b, o, ia, _, _, l1⟩ := hs.arr.spot (i := i) (x := p.1) (by rw [List.getElem?_map, hxi]; rfl) rfl .i64
    have hst : lensOf (xs.take (i + 1)) = lensOf (xs.take i) + p.2.length := by
      unfold lensOf; rw [List.take_add_one, hxi]; simp
    have hle2 := lensOf_le xs (i + 1)
    (repeat (first | (apply BND_step; exact (l1 (w' := w1) rfl (j := 0) rfl)) | refine BND_step (hx p hm).len ?_ | refine BND_step (addn_ (n := lensOf (xs.take i)) (m := p.2.length) (by omega)) ?_ | refine gg ?_))
    exact hJ _ _ hlt ⟨by rw [hst], rfl⟩
  · (repeat refine gg ?_)
    refine grow_sl _ (by omega) fun w2 v2 G2 s2 g2 f2 => ?_
    (repeat refine gg ?_)
    refine loop_up2 (o := v2) 0 xs.length (fun o i w' => ∃ H, Slc encB 1 w' o ((xs.take i).flatMap (·.2)) H ∧ (∀ b ∈ H, hsz w1 ≤ b) ∧ Fr [] w1 w') ⟨G2, by simpa using s2, g2, f2⟩ (by omega) ?_
    rintro o k w3 - hk ⟨H, s3, h3, f3⟩ J2 m2 hJ2
    by_cases hlt2 : k < xs.length
    · have hxi := List.getElem?_eq_getElem hlt2
      have hm := List.getElem_mem hlt2
      generalize xs[k] = p at hxi hm
      obtain ⟨b, o2, ia, _, _, l1⟩ := (hs.fr f3 (by simp)).arr.spot (i := k) (x := p.1) (by rw [List.getElem?_map, hxi]; rfl) rfl .i64
      have hst : (xs.take (k + 1)).flatMap (·.2) = (xs.take k).flatMap (·.2) ++ p.2 := by rw [List.take_add_one, hxi]; simp
      have hl1 := lensOf_flat (xs.take (k + 1))
      have hle2 := lensOf_le xs (k + 1)
      rw [hst, List.length_append] at hl1
      (repeat (first | (apply BND_step; exact (l1 (w' := w3) rfl (j := 0) rfl)) | refine gg ?_))
      refine APPEND_slc s3 (((hx p hm).fr f3 (by simp)).src encB_len (by omega)) encB_len encB_one rfl (by omega) (by omega) fun v4 w4 G4 s4 f4 sub4 => ?_
      (repeat refine gg ?_)
      refine hJ2 _ _ hlt2 ⟨G4, by rw [hst]; exact s4, fun b hb => ?_, f3.trans f4 fun b hb => .inr (h3 b hb)⟩
      rcases sub4 b hb with hq | hq
      · exact h3 b hq
      · have := f3.grow; omega
    · (repeat refine gg ?_)
      rw [List.take_of_length_le (by omega)] at s3
      exact hR _ _ _ s3 h3 f3
theorem sum_Put {bv : Value} {bs : List UInt8} (hb : Arr encB 1 w bv bs) (hn : bs.length < 100000000) (hR : ∀ w' v G, Slc encB 1 w' v (putS bs) G → (∀ b ∈ G, hsz w ≤ b) → Fr [] w w' → R v w') : CALL PR F_sum_Put [bv] w R := by
  refine C_sum_Put ?_
  unfold M_sum_Put
  refine sum_Of hb (by omega) fun w1 f1 => ?_
  refine sum_four _ fun w2 v2 G2 s2 g2 f2 => ?_
  obtain ⟨x, rfl⟩ := hb.sv
  obtain ⟨y, rfl⟩ := slc_sv s2
  have f02 := f1.trans' f2
  refine newparts_step encV_len (val := SV.v) (fun _ => rfl) [x, y] rfl rfl fun t w3 s3 f3 z3 => ?_
  have f03 := f02.trans' f3
  refine sl_Concat (xs := [(x, bs), (y, four (crcOf bs))]) s3 (fun p hp => ?_) (by simp [lensOf, four_len]; omega) (by simp) fun w4 v4 G4 s4 g4 f4 => ?_
  · simp only [List.mem_cons, List.not_mem_nil, or_false] at hp
    rcases hp with rfl | rfl
    · exact hb.fr f03 (by simp)
    · exact (s2.fr f3 (by simp)).arr
  · (repeat refine gg ?_)
    refine hR _ _ G4 (by simpa [putS] using s4) (fun b hb => ?_) (f03.trans' f4)
    have := g4 b hb; have := f03.grow; omega
theorem sum_Cut {bv : Value} {bs : List UInt8} (hb : ArrC encB 1 w bv bs) (hn : bs.length < 100000000) (hR0 : ∀ w', Fr [] w w' → cutS bs = none → R (.tuple #[.slice none 0 0, .bool false]) w')
    (hR : ∀ w' v G b, cutS bs = some b → Slc encB 1 w' v b G → (∀ b ∈ G, hsz w ≤ b) → Fr [] w w' → R (.tuple #[v, .bool true]) w') : CALL PR F_sum_Cut [bv] w R := by
  refine C_sum_Cut ?_
  unfold M_sum_Cut
  have esub : binv .int .sub (.int .i64 (bs.length : Int)) (.int .i64 4) = some (.int .i64 ((bs.length : Int) - 4)) := by rw [binv_sub, wrap_i64 (by omega) (by omega)]
  unfold cutS at hR hR0
  by_cases h4 : bs.length < 4
  · (repeat (first | refine BND_step hb.len ?_ | refine gg ?_))
    exact hR0 _ (Fr.drew _ _) (by rw [if_pos h4])
  rw [show (bs.length : Int) - 4 = ((bs.length - 4 : Nat) : Int) by omega] at esub
  rw [if_neg h4] at hR hR0
  obtain ⟨va, ea, aa⟩ := hb.from (lo := bs.length - 4) (by omega)
  obtain ⟨vb, eb, ab⟩ := hb.to (hi := bs.length - 4) (by omega)
  (repeat (first | refine BND_step hb.len ?_ | refine gg ?_))
  have ab' := ab.fr (Fr.drew [] w) (by simp)
  refine sum_Of ab'.arr (by rw [List.length_take]; omega) fun w1 f1 => ?_
  (repeat refine gg ?_)
  refine sum_four _ fun w2 v2 G2 s2 g2 f2 => ?_
  have f02 := ((Fr.drew [] w).trans' f1).trans' f2
  (repeat refine gg ?_)
  refine sl_Equal (aa.fr f02 (by simp)).arr s2.arr (by rw [List.length_drop]; omega) fun w3 f3 => ?_
  have f03 := f02.trans' f3
  by_cases he : bs.drop (bs.length - 4) = four (crcOf (bs.take (bs.length - 4)))
  · rw [decide_eq_true he]
    rw [if_pos he] at hR
    (repeat refine gg ?_)
    refine sl_Clone (ab.fr f03 (by simp)).arr (by rw [List.length_take]; omega) fun w4 v4 G4 s4 g4 f4 => ?_
    (repeat refine gg ?_)
    exact hR _ _ G4 _ rfl s4 (fun b hb => by have := g4 b hb; have := f03.grow; omega) (f03.trans' f4)
  · rw [decide_eq_false he]
    rw [if_neg he] at hR0
    (repeat refine gg ?_)
    exact hR0 _ f03 rfl
end
end Go.Proofs.YtofllgbdphakiaaGreat
end

section
namespace Go.Proofs.YtofllgbdphakiaaGreat
open Go.Den Go.Disk Go.Vint Go.Crc
def encU (x : Nat) : List Value := [.int .u64 (x : Int)]
theorem encU_len (x : Nat) : (encU x).length = 1 := rfl
theorem encU_one (x : Nat) : ∀ u ∈ encU x, u.oneCell' = true := by intro u hu; simp [encU] at hu; subst hu; rfl
theorem slicea_to {len b k : Nat} (h : k ≤ len) : slicea len 1 (.pointer (some ⟨b, 0, none⟩)) none (some (.int .i64 (k : Int))) (some (.int .i64 (k : Int))) = some (.slice (some ⟨b, 0, none⟩) k k) := by
  unfold slicea
  simp only [natOf]
  simp [h]
  intro _
  simp [Addr.add]
def valsB (l : List UInt8) : List Value := l.map fun x => .int .u8 (x.toNat : Int)
theorem set_snocB (pre : List UInt8) (k : Nat) (x : UInt8) : (valsB (pre ++ List.replicate (k + 1) 0)).set pre.length (.int .u8 (x.toNat : Int)) = valsB ((pre ++ [x]) ++ List.replicate k 0) := by
  unfold valsB
  rw [List.map_append, List.set_append_right _ _ (by simp)]
  simp [List.replicate_succ]
theorem shl_le {n i : Nat} (h : n * 2 ^ (7 * i) < 18446744073709551616) (h1 : 128 ≤ n) : i ≤ 8 := by
  refine Nat.le_of_not_lt fun hi => ?_
  have : 2 ^ (7 * 9) ≤ 2 ^ (7 * i) := Nat.pow_le_pow_right (by omega) (by omega)
  have := Nat.mul_le_mul h1 this
  omega
theorem shl_le9 {n i : Nat} (h : n * 2 ^ (7 * i) < 18446744073709551616) (h1 : 1 ≤ n) : i ≤ 9 := by
  refine Nat.le_of_not_lt fun hi => ?_
  have : 2 ^ (7 * 10) ≤ 2 ^ (7 * i) := Nat.pow_le_pow_right (by omega) (by omega)
  have := Nat.mul_le_mul h1 this
  omega
set_option linter.unusedSimpArgs false
set_option linter.unusedVariables false
set_option maxRecDepth 20000
set_option maxHeartbeats 4000000
attribute [local congr] BND_cg COND_cg GEF_cg
attribute [local irreducible] capl slicea load1 loadn iaddr iaddra faddr storev newslice binv lookv mupd mdel mlenv mentry mestore slicev slicev3 slices indexs indexav textv rangev nexts clearv shiftv eqaggv convi buildv pickv lens lenl unv nilchk extractv partn JOIN
section
variable {w : World} {R : Value → World → Prop}
theorem vint_lay (n b : Nat) (T : TypeId) (hn : n < 18446744073709551616) (hb : blk w b = some (.cells (valsB (List.replicate 10 0)).toArray T (0, 0)))
    (hR : ∀ w' k, blk w' b = some (.cells (valsB (layV n ++ List.replicate k 0)).toArray T (0, 0)) → Fr [b] w w' → (layV n).length + k = 10 → R (.int .i64 ((layV n).length : Int)) w') : CALL PR F_vint_lay [.pointer (some ⟨b, 0, none⟩), .int .u64 (n : Int)] w R := by
  refine C_vint_lay ?_
  unfold M_vint_lay
  refine ⟨fun t u w' => ∃ (i m : Nat) (pre : List UInt8), t = .int .u64 (m : Int) ∧ u = .int .i64 (i : Int) ∧ pre.length = i ∧ layV n = pre ++ layV m ∧ m * 2 ^ (7 * i) < 18446744073709551616 ∧ (0 < i → 1 ≤ m) ∧ blk w' b = some (.cells (valsB (pre ++ List.replicate (10 - i) 0)).toArray T (0, 0)) ∧ Fr [b] w w',
    fun t _ _ => match t with | .int _ k => k.toNat | _ => 0, ⟨0, n, [], rfl, rfl, rfl, rfl, by simpa using hn, by omega, by simpa using hb, Fr.refl _ _⟩, ?_⟩
  rintro _ _ _ w1 ⟨i, m, pre, rfl, rfl, hpl, hlay, hbd, hpos, hb1, f1⟩
  have h9 : i ≤ 9 := by
    rcases Nat.eq_zero_or_pos i with h0 | h0
    · omega
    · exact shl_le9 hbd (hpos h0)
  obtain ⟨k, hk⟩ : ∃ k, 10 - i = k + 1 := ⟨9 - i, by omega⟩
  rw [hk] at hb1
  have ia := iaddra_at (len := 10) (b := b) (k := .i64) (i := i) (by omega)
  by_cases hge : (128 : Int) ≤ (m : Int)
  · have h8 := shl_le hbd (by omega)
    have e1 := conv8n m
    have e2 := or8 (x := m % 256) (by omega)
    have e3 := shr7 m
    have e4 : m % 256 % 128 + 128 = (UInt8.ofNat (m % 128 + 128)).toNat := by rw [ofNat_toNat (by omega)]; omega
    rw [e4] at e2
    (repeat refine gg ?_)
    refine fstore_step hb1 ⟨rfl, rfl⟩ (by simp [valsB]; omega) fun w2 b2 f2 _ => ?_
    rw [← hpl, set_snocB] at b2
    (repeat refine gg ?_)
    have hp2 : 2 ^ (7 * (i + 1)) = 2 ^ (7 * i) * 128 := by rw [Nat.mul_add, Nat.pow_add]
    have hle : m / 128 * 2 ^ (7 * (i + 1)) ≤ m * 2 ^ (7 * i) := by
      rw [hp2, ← Nat.mul_assoc, Nat.mul_right_comm]
      exact Nat.mul_le_mul_right _ (by omega)
    refine ⟨⟨i + 1, m / 128, pre ++ [UInt8.ofNat (m % 128 + 128)], rfl, rfl, by simp [hpl], ?_, by omega, fun _ => by omega, ?_, f1.trans' f2⟩, ?_⟩
    · rw [hlay, layV_ge (by omega)]; simp
    · rw [show 10 - (i + 1) = k by omega]; exact b2
    · simp only [Int.toNat_natCast]; omega
  · have e1 := conv8n m
    have e4 : m % 256 = (UInt8.ofNat m).toNat := by rw [ofNat_toNat (by omega)]; omega
    rw [e4] at e1
    (repeat refine gg ?_)
    refine fstore_step hb1 ⟨rfl, rfl⟩ (by simp [valsB]; omega) fun w2 b2 f2 _ => ?_
    rw [← hpl, set_snocB] at b2
    have hl : layV n = pre ++ [UInt8.ofNat m] := by rw [hlay, layV_lt (by omega)]
    rw [← hl] at b2
    have hlen : (layV n).length = i + 1 := by rw [hl]; simp [hpl]
    (repeat refine gg ?_)
    have := hR w2 k b2 (f1.trans' f2) (by omega)
    rwa [hlen] at this
theorem vint_Put (n : Nat) (hn : n < 18446744073709551616) (hR : ∀ w' v, ArrC encB 1 w' v (layV n) → Fr [] w w' → R v w') : CALL PR F_vint_Put [.int .u64 (n : Int)] w R := by
  refine C_vint_Put ?_
  unfold M_vint_Put
  refine NEW_intro fun w1 b1 f1 z1 => ?_
  refine vint_lay n (hsz w) _ hn b1 fun w2 k b2 f2 hk => ?_
  have e := slicea_to (b := hsz w) (show (layV n).length ≤ 10 by omega)
  (repeat refine gg ?_)
  refine hR _ _ ⟨⟨_, _, rfl, .inr ⟨hsz w, 0, _, _, _, rfl, b2, fun i x hx => ?_⟩⟩, ⟨_, _, _, rfl, Nat.le_refl _⟩⟩ (f1.trans f2 (by simp))
  have hi := (List.getElem?_eq_some_iff.1 hx).1
  refine ⟨by simp [valsB]; omega, fun j hj => ?_⟩
  obtain rfl : j = 0 := by omega
  simp only [valsB, Nat.zero_add, Nat.mul_one, Nat.add_zero, List.getElem?_toArray, List.getElem?_map]
  rw [List.getElem?_append_left hi, hx]
  rfl
theorem vint_All {lv : Value} {ns : List Nat} (hl : Arr encU 1 w lv ns) (hs : ∀ n ∈ ns, n < 18446744073709551616) (hn : ns.length < 1000000) (hR : ∀ w' v G, Slc encB 1 w' v (ns.flatMap layV) G → (∀ b ∈ G, hsz w ≤ b) → Fr [] w w' → R v w') : CALL PR F_vint_All [lv] w R := by
  refine C_vint_All ?_
  unfold M_vint_All
  (repeat (first | refine BND_step hl.len ?_ | refine gg ?_))
  refine loop_up2 (o := .slice none 0 0) 0 ns.length (fun o i w' => ∃ H, Slc encB 1 w' o ((ns.take i).flatMap layV) H ∧ (∀ b ∈ H, hsz w ≤ b) ∧ Fr [] w w' ∧ ((ns.take i).flatMap layV).length ≤ i * 10) ⟨[], Slc.nil _ _ _, by simp, Fr.refl _ _, by simp⟩ (by omega) ?_
  rintro o i w1 - hi ⟨H, s1, h1, f1, hlen⟩ J m hJ
  by_cases hlt : i < ns.length
  · have hx := List.getElem?_eq_getElem hlt
    have hm := hs _ (List.getElem_mem hlt)
    generalize ns[i] = x at hx hm
    obtain ⟨b, o2, ia, _, _, l1⟩ := (hl.fr f1 (by simp)).spot hx rfl .i64
    have hle := layV_le x hm
    have hst : (ns.take (i + 1)).flatMap layV = (ns.take i).flatMap layV ++ layV x := by rw [List.take_add_one, hx]; simp
    (repeat (first | (apply BND_step; exact (l1 (w' := w1) rfl (j := 0) rfl)) | refine gg ?_))
    refine vint_Put x hm fun w2 v2 a2 f2 => ?_
    refine APPEND_slc (s1.fr f2 (by simp)) (a2.arr.src encB_len (by omega)) encB_len encB_one rfl (by omega) (by omega) fun v3 w3 G3 s3 f3 sub3 => ?_
    (repeat refine gg ?_)
    have f12 := f1.trans' f2
    refine hJ _ _ hlt ⟨G3, by rw [hst]; exact s3, fun b hb => ?_, f12.trans f3 fun b hb => .inr (h1 b hb), by rw [hst, List.length_append]; omega⟩
    rcases sub3 b hb with hq | hq
    · exact h1 b hq
    · have := f12.grow; omega
  · (repeat refine gg ?_)
    rw [List.take_of_length_le (by omega)] at s1
    exact hR _ _ H s1 h1 f1
theorem vint_Get {bv : Value} {bs : List UInt8} (hb : Arr encB 1 w bv bs) (hn : bs.length < 1000000000) (hR : R (.tuple #[.int .u64 ((getV bs).1 : Int), .int .i64 ((getV bs).2.1 : Int), .int .i64 (getV bs).2.2]) w) : CALL PR F_vint_Get [bv] w R := by
  refine C_vint_Get ?_
  unfold M_vint_Get
  unfold getV at hR
  (repeat (first | refine BND_step hb.len ?_ | refine gg ?_))
  refine loop_up2 (o := .int .u64 0) 0 bs.length (fun o i w' => ∃ n : Nat, o = .int .u64 (n : Int) ∧ w' = w ∧ getL bs 0 0 = getL (bs.drop i) i n ∧ n < 2 ^ (7 * i) ∧ i ≤ 9) ⟨0, rfl, rfl, rfl, by simp, by omega⟩ (by omega) ?_
  rintro o i w1 - hi ⟨n, rfl, rfl, hg, hnb, h9⟩ J m hJ
  by_cases hlt : i < bs.length
  · have hx := List.getElem?_eq_getElem hlt
    have hdr : bs.drop i = bs[i] :: bs.drop (i + 1) := List.drop_eq_getElem_cons hlt
    generalize bs[i] = c at hx hdr
    obtain ⟨b, o2, ia, _, _, l1⟩ := hb.spot hx rfl .i64
    rw [hg, hdr] at hR
    rw [hdr] at hg
    simp only [getL] at hR hg
    have hcl := c.toNat_lt
    have hp2 : 2 ^ (7 * (i + 1)) = 2 ^ (7 * i) * 128 := by rw [Nat.mul_add, Nat.pow_add]
    (repeat (first | (apply BND_step; exact (l1 (w' := w1) rfl (j := 0) rfl)) | refine gg ?_))
    have bad : i = 9 ∧ 1 < c.toNat → R (.tuple #[.int .u64 0, .int .i64 0, .int .i64 2]) w1 := fun h => by rw [if_pos h] at hR; exact hR
    have rest : ¬ (i = 9 ∧ 1 < c.toNat) → (BND (binv .int .rem (.int .u8 (c.toNat : Int)) (Value.int .u8 128)) fun t23_47 =>
        BND (convi .u64 t23_47) fun t24_48 =>
        BND (binv .int .mul (Value.int .i64 7) (.int .i64 (i : Int))) fun t26_49 =>
        BND (shiftv .shl t24_48 t26_49) fun t27_50 =>
        BND (binv .int .or (.int .u64 (n : Int)) t27_50) fun t28_51 =>
        BND (binv .int .geq (.int .u8 (c.toNat : Int)) (Value.int .u8 128)) fun t30_52 =>
        COND t30_52
        (BND (binv .int .add (.int .i64 (i : Int)) (Value.int .i64 1)) fun t40_53 =>
        (J t28_51 t40_53 w1 ∧ m t28_51 t40_53 w1 < m (.int .u64 (n : Int)) (.int .i64 (i : Int)) w1))
        (BND (binv .int .eql (.int .u8 (c.toNat : Int)) (Value.int .u8 0)) fun t32_54 =>
        BND (grd (isB t32_54 true) (some (.int .i64 (i : Int)))) fun t34_55 =>
        BND (grd (isB t32_54 true) (binv .int .gtr t34_55 (Value.int .i64 0))) fun t35_56 =>
        BND (pickv t32_54 t35_56 (Value.bool false)) fun t36_57 =>
        COND t36_57
        (R (.tuple #[(Value.int .u64 0), (Value.int .i64 0), (Value.int .i64 2)]) w1)
        (BND (binv .int .add (.int .i64 (i : Int)) (Value.int .i64 1)) fun t39_58 =>
        R (.tuple #[t28_51, t39_58, (Value.int .i64 0)]) w1))) := by
      intro hno
      rw [if_neg hno] at hR hg
      have hsmall : n + c.toNat % 128 * 2 ^ (7 * i) < 18446744073709551616 := by
        by_cases hi9 : i = 9
        · subst hi9
          have : c.toNat % 128 ≤ 1 := by omega
          have := Nat.mul_le_mul_right (2 ^ (7 * 9)) this
          omega
        · have : 2 ^ (7 * i) ≤ 2 ^ (7 * 8) := Nat.pow_le_pow_right (by omega) (by omega)
          have : c.toNat % 128 * 2 ^ (7 * i) ≤ 127 * 2 ^ (7 * 8) := Nat.mul_le_mul (by omega) this
          omega
      have e1 := rem128 c
      have e2 := convu64 (k := .u8) (x := c.toNat % 128) (by omega)
      have e3 : binv .int .mul (.int .i64 7) (.int .i64 (i : Int)) = some (.int .i64 ((7 * i : Nat) : Int)) := by rw [binv_mul, wrap_i64 (by omega) (by omega)]; congr 2
      have e4 := shl7 (x := c.toNat % 128) (i := i) (by omega) h9
      have e5 := or64 (x := c.toNat % 128) hnb hsmall
      (repeat refine gg ?_)
      by_cases hge : (128 : Int) ≤ (c.toNat : Int)
      · rw [if_pos (by omega)] at hg
        (repeat refine gg ?_)
        refine hJ _ _ hlt ⟨_, rfl, rfl, hg, ?_, ?_⟩
        · have : c.toNat % 128 * 2 ^ (7 * i) ≤ 127 * 2 ^ (7 * i) := Nat.mul_le_mul_right _ (by omega)
          omega
        · omega
      · rw [if_neg (by omega)] at hR
        by_cases hz : (c.toNat : Int) = 0
        · by_cases hi0 : (0 : Int) < (i : Int)
          · rw [if_pos ⟨by omega, by omega⟩] at hR
            (repeat refine gg ?_)
            exact hR
          · rw [if_neg (by omega)] at hR
            (repeat refine gg ?_)
            exact hR
        · rw [if_neg (by omega)] at hR
          (repeat refine gg ?_)
          exact hR
    by_cases hi9 : i = 9
    · by_cases hc1 : (1 : Int) < (c.toNat : Int)
      · (repeat refine gg ?_)
        exact bad ⟨hi9, by omega⟩
      · (repeat refine gg ?_)
        exact rest (by omega)
    · (repeat refine gg ?_)
      exact rest (by omega)
  · (repeat refine gg ?_)
    rw [hg, List.drop_eq_nil_of_le (by omega)] at hR
    simpa [getL] using hR
end
end Go.Proofs.YtofllgbdphakiaaGreat
end

section
namespace Go.Frame
open Go.Den Go.Crc
abbrev Fra := UInt8 × List UInt8
def frB (x : Fra) : List UInt8 := putS [x.1, UInt8.ofNat (x.2.length % 256), UInt8.ofNat (x.2.length / 256 % 256)] ++ putS x.2
def sizeOf_ (h : List UInt8) : Nat := (h.getD 1 0).toNat + (h.getD 2 0).toNat * 256
def frRead (b : List UInt8) : Fra × Nat × Int :=
  if b.length < 7 then ((0, []), 0, 3) else
  match cutS (b.take 7) with
  | none => ((0, []), 0, 8)
  | some h => if 400 < sizeOf_ h then ((0, []), 0, 2) else if b.length < 11 + sizeOf_ h then ((0, []), 0, 3) else
    match cutS ((b.take (11 + sizeOf_ h)).drop 7) with
    | none => ((0, []), 0, 8)
    | some body => ((h.getD 0 0, body), 11 + sizeOf_ h, 0)
theorem frB_len (x : Fra) : (frB x).length = 11 + x.2.length := by
  unfold frB; rw [List.length_append, putS_len, putS_len]; simp; omega
theorem read_frB (x : Fra) (h : x.2.length ≤ 400) (r : List UInt8) : frRead (frB x ++ r) = (x, 11 + x.2.length, 0) := by
  unfold frRead
  rw [List.length_append, frB_len, if_neg (by omega)]
  have hp : (putS [x.1, UInt8.ofNat (x.2.length % 256), UInt8.ofNat (x.2.length / 256 % 256)]).length = 7 := by rw [putS_len]; rfl
  have e1 : (frB x ++ r).take 7 = putS [x.1, UInt8.ofNat (x.2.length % 256), UInt8.ofNat (x.2.length / 256 % 256)] := by
    unfold frB
    rw [List.append_assoc, List.take_append_of_le_length (by omega), List.take_of_length_le (by omega)]
  have es : sizeOf_ [x.1, UInt8.ofNat (x.2.length % 256), UInt8.ofNat (x.2.length / 256 % 256)] = x.2.length := by
    unfold sizeOf_
    simp only [List.getD_cons_succ, List.getD_cons_zero]
    rw [UInt8.toNat_ofNat', UInt8.toNat_ofNat']
    omega
  have e2 : ((frB x ++ r).take (11 + x.2.length)).drop 7 = putS x.2 := by
    rw [List.take_append_of_le_length (by rw [frB_len]; omega), List.take_of_length_le (by rw [frB_len]; omega)]
    unfold frB
    rw [List.drop_append_of_le_length (by omega), List.drop_of_length_le (by omega), List.nil_append]
  rw [e1, cut_put]
  simp only
  rw [es, if_neg (by omega), if_neg (by omega), e2, cut_put]
  rfl
theorem cut_len {b c : List UInt8} (h : cutS b = some c) : b.length = c.length + 4 := by
  unfold cutS at h
  split at h
  · cases h
  · split at h
    · cases h; rw [List.length_take]; omega
    · cases h
theorem read_ok {b : List UInt8} (h : (frRead b).2.2 = 0) : 11 ≤ (frRead b).2.1 ∧ (frRead b).2.1 ≤ b.length ∧ (frRead b).1.2.length + 11 = (frRead b).2.1 ∧ (frRead b).1.2.length ≤ 400 := by
  unfold frRead at h ⊢
  split at h
  · simp at h
  · rename_i h7
    rw [if_neg h7]
    split at h
    · simp at h
    · rename_i hh hc
      split at h
      · simp at h
      · rename_i h4
        split at h
        · simp at h
        · rename_i h5
          split at h
          · simp at h
          · rename_i body hb
            have := cut_len hb
            rw [List.length_drop, List.length_take] at this
            simp only [hc, h4, h5, hb, if_false]
            omega
def frAll (b : List UInt8) (at_ : Nat) : List Fra × Nat × Int :=
  if _ : b = [] then ([], at_, 0) else if _ : (frRead b).2.2 = 0 then
    let q := frAll (b.drop (frRead b).2.1) (at_ + (frRead b).2.1)
    ((frRead b).1 :: q.1, q.2)
  else ([], at_, (frRead b).2.2)
termination_by b.length
decreasing_by
  rename_i h1 h2
  have := read_ok h2
  rw [List.length_drop]
  omega
theorem frAll_nil (k : Nat) : frAll [] k = ([], k, 0) := by rw [frAll]; simp
theorem frAll_ok {b : List UInt8} (k : Nat) (h1 : b ≠ []) (h2 : (frRead b).2.2 = 0) : frAll b k = ((frRead b).1 :: (frAll (b.drop (frRead b).2.1) (k + (frRead b).2.1)).1, (frAll (b.drop (frRead b).2.1) (k + (frRead b).2.1)).2) := by
  rw [frAll]; simp [h1, h2]
theorem frAll_bad {b : List UInt8} (k : Nat) (h1 : b ≠ []) (h2 : (frRead b).2.2 ≠ 0) : frAll b k = ([], k, (frRead b).2.2) := by
  rw [frAll]; simp [h1, h2]
theorem frAll_cons (x : Fra) (h : x.2.length ≤ 400) (r : List UInt8) (k : Nat) : frAll (frB x ++ r) k = (x :: (frAll r (k + (11 + x.2.length))).1, (frAll r (k + (11 + x.2.length))).2) := by
  have hr := read_frB x h r
  have hne : frB x ++ r ≠ [] := by
    intro e
    have := congrArg List.length e
    rw [List.length_append, frB_len] at this
    simp at this
  rw [frAll_ok k hne (by rw [hr]), hr]
  have : (frB x ++ r).drop (11 + x.2.length) = r := by rw [← frB_len x, List.drop_left]
  simp only [this]
theorem frAll_small : ∀ (n : Nat) (b : List UInt8) (k : Nat), b.length = n → ∀ x ∈ (frAll b k).1, x.2.length ≤ 400 := by
  intro n
  induction n using Nat.strongRecOn with
  | _ n ih =>
    intro b k hb x hx
    by_cases h1 : b = []
    · subst h1; rw [frAll_nil] at hx; simp at hx
    · by_cases h2 : (frRead b).2.2 = 0
      · rw [frAll_ok k h1 h2] at hx
        have hok := read_ok h2
        rcases List.mem_cons.1 hx with rfl | hx
        · omega
        · exact ih _ (by rw [List.length_drop]; omega) _ _ rfl x hx
      · rw [frAll_bad k h1 h2] at hx; simp at hx
/-! ## The words of numbers -/
theorem ofI64 {y : Nat} (h : y < 18446744073709551616) : (BitVec.ofInt 64 (y : Int)).toNat = y := by
  rw [BitVec.toNat_ofInt]
  omega
theorem and255 {n : Nat} (h : n < 9223372036854775808) : binv .int .and (.int .i64 (n : Int)) (.int .i64 255) = some (.int .i64 ((n % 256 : Nat) : Int)) := by
  show some (Value.int .i64 (IntKind.i64.wrap ((BitVec.ofInt 64 (n : Int) &&& BitVec.ofInt 64 255).toNat : Int))) = _
  have e1 : (BitVec.ofInt 64 (n : Int)).toNat = n := ofI64 (by omega)
  have e2 : (BitVec.ofInt 64 255).toNat = 2 ^ 8 - 1 := by decide
  rw [BitVec.toNat_and, e1, e2, Nat.and_two_pow_sub_one_eq_mod, wrap_i64 (by omega) (by omega)]
theorem shr8 (n : Nat) : shiftv .shr (.int .i64 (n : Int)) (.int .u64 8) = some (.int .i64 ((n / 256 : Nat) : Int)) := by
  simp only [shiftv]
  rw [if_pos (by omega)]
  congr 2
  have : min (Int.toNat 8) IntKind.i64.bits = 8 := by decide
  rw [this, Int.fdiv_eq_ediv_of_nonneg _ (by decide)]
  norm_cast
theorem conv8i (m : Nat) : convi .u8 (.int .i64 (m : Int)) = some (.int .u8 ((m % 256 : Nat) : Int)) := by
  simp only [convi]; rw [wrap_u8]
theorem convi64 {k : IntKind} {x : Nat} (h : x < 9223372036854775808) : convi .i64 (.int k (x : Int)) = some (.int .i64 (x : Int)) := by
  simp only [convi]; rw [wrap_i64 (by omega) (by omega)]
theorem shl8 {x : Nat} (h : x < 256) : shiftv .shl (.int .i64 (x : Int)) (.int .u64 8) = some (.int .i64 ((x * 256 : Nat) : Int)) := by
  simp only [shiftv]
  rw [if_pos (by omega)]
  have e : min (Int.toNat 8) IntKind.i64.bits = 8 := by decide
  rw [e, show (x : Int) * 2 ^ 8 = ((x * 256 : Nat) : Int) by rw [Int.natCast_mul]; rfl, wrap_i64 (by omega) (by omega)]
theorem or256 {n x : Nat} (hn : n < 256) (hx : x < 256) : binv .int .or (.int .i64 (n : Int)) (.int .i64 ((x * 256 : Nat) : Int)) = some (.int .i64 ((n + x * 256 : Nat) : Int)) := by
  show some (Value.int .i64 (IntKind.i64.wrap ((BitVec.ofInt 64 (n : Int) ||| BitVec.ofInt 64 ((x * 256 : Nat) : Int)).toNat : Int))) = _
  have e1 : ∀ y : Nat, y < 9223372036854775808 → (BitVec.ofInt 64 (y : Int)).toNat = y := fun y hy => ofI64 (by omega)
  rw [BitVec.toNat_or, e1 n (by omega), e1 _ (by omega)]
  have e2 : n ||| x * 256 = n + x * 256 := by
    rw [Nat.or_comm, Nat.mul_comm, show 256 = 2 ^ 8 from rfl, ← Nat.two_pow_add_eq_or_of_lt (i := 8) hn]; omega
  rw [e2, wrap_i64 (by omega) (by omega)]
end Go.Frame
end

section
namespace Go.Proofs.YtofllgbdphakiaaGreat
open Go.Den Go.Disk Go.Vint Go.Crc Go.Frame
def encFr (x : UInt8 × SV) : List Value := [.int .u8 (x.1.toNat : Int), x.2.v]
theorem encFr_len (x : UInt8 × SV) : (encFr x).length = 2 := rfl
theorem encFr_one (x : UInt8 × SV) : ∀ u ∈ encFr x, u.oneCell' = true := by intro u hu; simp [encFr] at hu; rcases hu with rfl | rfl <;> rfl
theorem sv_one (x : SV) : x.v.cells = #[x.v] ∧ x.v.oneCell' = true := ⟨rfl, rfl⟩
/-- frames in memory: the row, and each body. -/
def FrmL (w : World) (v : Value) (xs : List Fra) (G B : List Nat) : Prop :=
  (∃ cs : List (UInt8 × SV), Slc encFr 2 w v cs G ∧ cs.length = xs.length ∧ ∀ (i : Nat) (x : Fra), xs[i]? = some x → ∃ (s : SV) (H : List Nat), cs[i]? = some (x.1, s) ∧ Slc encB 1 w s.v x.2 H ∧ ∀ b ∈ H, b ∈ B) ∧ ∀ b ∈ B, b ∉ G ∧ b < hsz w
theorem FrmL.fr {w w' : World} {v : Value} {xs : List Fra} {G B : List Nat} (h : FrmL w v xs G B) (f : Fr [] w w') : FrmL w' v xs G B := by
  obtain ⟨⟨cs, h1, h2, h3⟩, h4⟩ := h
  exact ⟨⟨cs, h1.fr f (by simp), h2, fun i x hx => by obtain ⟨s, H, a, b, c⟩ := h3 i x hx; exact ⟨s, H, a, b.fr f (by simp), c⟩⟩, fun b hb => ⟨(h4 b hb).1, Nat.lt_of_lt_of_le (h4 b hb).2 f.grow⟩⟩
theorem FrmL.len {w : World} {v : Value} {xs : List Fra} {G B : List Nat} (h : FrmL w v xs G B) : lenl v = some (.int .i64 xs.length) := by
  obtain ⟨⟨cs, h1, h2, _⟩, _⟩ := h
  rw [h1.len, h2]
theorem FrmL.nil (w : World) : FrmL w (.slice none 0 0) [] [] [] := ⟨⟨[], Slc.nil _ _ _, rfl, by simp⟩, by simp⟩
set_option linter.unusedSimpArgs false
set_option linter.unusedVariables false
set_option maxRecDepth 20000
set_option maxHeartbeats 4000000
attribute [local congr] BND_cg COND_cg GEF_cg
attribute [local irreducible] capl slicea load1 loadn iaddr iaddra faddr storev newslice binv lookv mupd mdel mlenv mentry mestore slicev slicev3 slices indexs indexav textv rangev nexts clearv shiftv eqaggv convi buildv pickv lens lenl unv nilchk extractv partn JOIN
section
variable {w : World} {R : Value → World → Prop}
theorem frame_low (n : Nat) (h : n < 9223372036854775808) (hR : R (.tuple #[.int .u8 ((n % 256 : Nat) : Int), .int .i64 ((n / 256 : Nat) : Int)]) w) : CALL PR F_frame_low_int [.int .i64 (n : Int)] w R := by
  refine C_frame_low_int ?_
  unfold M_frame_low_int
  have e2 := conv8i (n % 256)
  rw [Nat.mod_mod] at e2
  (repeat (first | refine BND_step (and255 h) ?_ | refine BND_step (shr8 n) ?_ | refine gg ?_))
  exact hR
theorem frame_Bytes {bv : SV} {k : UInt8} {body : List UInt8} (hb : Arr encB 1 w bv.v body) (hn : body.length < 1000000) (hR0 : ∀ w', 400 < body.length → Fr [] w w' → R (.tuple #[.slice none 0 0, .int .i64 4]) w')
    (hR : ∀ w' v G, body.length ≤ 400 → Slc encB 1 w' v (frB (k, body)) G → (∀ b ∈ G, hsz w ≤ b) → Fr [] w w' → R (.tuple #[v, .int .i64 0]) w') : CALL PR F_frame_Bytes [.agg (encFr (k, bv)).toArray] w R := by
  refine C_frame_Bytes ?_
  unfold M_frame_Bytes
  refine NEW_intro fun w1 b1 f1 z1 => ?_
  replace b1 : blk w1 (hsz w) = some (.cells (encFr (k, bv)).toArray 117 (0, 0)) := b1
  have hb1 := hb.fr f1 (by simp)
  by_cases h4 : 400 < body.length
  · (repeat (first | refine BND_step hb1.len ?_ | refine gg ?_))
    exact hR0 _ h4 f1
  · (repeat (first | refine BND_step hb1.len ?_ | refine gg ?_))
    refine frame_low _ (by omega) ?_
    (repeat refine gg ?_)
    refine frame_low _ (by omega) ?_
    (repeat refine gg ?_)
    have b1' : blk w1.drew (hsz w) = some (.cells (encFr (k, bv)).toArray 117 (0, 0)) := b1
    refine ⟨fun _ w' => blk w' (hsz w) = some (.cells (encFr (k, bv)).toArray 117 (0, 0)), b1', ?_⟩
    (repeat refine gg ?_)
    have e1 : ((body.length % 256 : Nat) : Int) = ((UInt8.ofNat (body.length % 256)).toNat : Int) := by rw [ofNat_toNat (by omega)]
    have e2 : ((body.length / 256 % 256 : Nat) : Int) = ((UInt8.ofNat (body.length / 256 % 256)).toNat : Int) := by rw [ofNat_toNat (by omega)]
    rw [e1, e2]
    refine newparts_step encB_len (val := fun x : UInt8 => Value.int .u8 (x.toNat : Int)) (fun _ => rfl) [k, UInt8.ofNat (body.length % 256), UInt8.ofNat (body.length / 256 % 256)] rfl rfl fun t w4 s4 f4 z4 => ?_
    have b4 := f4.some (by simp) b1'
    refine ⟨b4, ?_⟩
    refine sum_Put s4.arr (by simp) fun w5 v5 G5 s5 g5 f5 => ?_
    refine ⟨f5.some (by simp) b4, ?_⟩
    have f15 := (((Fr.drew [] w1).trans' f4).trans' f5)
    refine sum_Put (hb1.fr f15 (by simp)) (by omega) fun w6 v6 G6 s6 g6 f6 => ?_
    have hp : (putS [k, UInt8.ofNat (body.length % 256), UInt8.ofNat (body.length / 256 % 256)]).length = 7 := by rw [putS_len]; rfl
    have hp2 := putS_len body
    refine APPEND_slc (s5.fr f6 (by simp)) (s6.loads encB_len) encB_len encB_one rfl (by omega) (by omega) fun v7 w7 G7 s7 f7 sub7 => ?_
    (repeat refine gg ?_)
    have f06 := (f1.trans' f15).trans' f6
    have gr4 := (f1.trans' ((Fr.drew [] w1).trans' f4)).grow
    refine hR _ _ G7 (by omega) s7 (fun b hb => ?_) (f06.trans f7 fun b hb => .inr (by have := g5 b hb; omega))
    rcases sub7 b hb with hq | hq
    · have := g5 b hq; omega
    · have := f06.grow; omega
theorem frame_Read {bv : Value} {bs : List UInt8} (hb : ArrC encB 1 w bv bs) (hn : bs.length < 100000000)
    (hR : ∀ w' v G, Slc encB 1 w' (SV.v v) (frRead bs).1.2 G → (∀ b ∈ G, hsz w ≤ b) → Fr [] w w' → R (.tuple #[.agg (encFr ((frRead bs).1.1, v)).toArray, .int .i64 ((frRead bs).2.1 : Int), .int .i64 (frRead bs).2.2]) w') : CALL PR F_frame_Read [bv] w R := by
  refine C_frame_Read ?_
  unfold M_frame_Read
  refine NEW_intro fun w1 b1 f1 z1 => ?_
  replace b1 : blk w1 (hsz w) = some (.cells [Value.int .u8 0, .slice none 0 0].toArray 117 (0, 0)) := b1
  -- what comes of an error
  have bad : ∀ (w3 : World) (e : Int), Fr [] w w3 → blk w3 (hsz w) = some (.cells [Value.int .u8 0, .slice none 0 0].toArray 117 (0, 0)) → frRead bs = ((0, []), 0, e) →
      (BND (buildv #[(Value.int .u8 0), (Value.slice none 0 0)] []) fun t => BND (storev 2 w3 (.pointer (some ⟨hsz w, 0, none⟩)) t) fun w4 => BND (loadn 2 w4 (.pointer (some ⟨hsz w, 0, none⟩))) fun r => R (.tuple #[r, (Value.int .i64 0), (Value.int .i64 e)]) w4) := by
    intro w3 e f3 b3 he
    rw [he] at hR
    (repeat (first | refine gg ?_ | (apply BND_build ([.int .u8 0, .slice none 0 0]); exact rfl)))
    refine put_step (n := 2) (vs := [.int .u8 0, .slice none 0 0]) b3 rfl rfl (by intro u hu; simp at hu; rcases hu with rfl | rfl <;> rfl) (by simp) fun w4 b4 f4 _ => ?_
    (repeat (first | refine BND_step (loadn_all' b4 rfl) ?_ | refine gg ?_))
    exact hR w4 ⟨none, 0, 0⟩ [] (Slc.nil _ _ _) (by simp) (f3.trans f4 fun b hb => .inr (by simp at hb; omega))
  have hb1 := hb.fr f1 (by simp)
  by_cases h7 : bs.length < 7
  · (repeat (first | refine BND_step hb1.len ?_ | refine gg ?_))
    exact bad w1 3 f1 b1 (by unfold frRead; rw [if_pos h7])
  obtain ⟨va, ea, aa⟩ := hb1.to (hi := 7) (by omega)
  (repeat (first | refine BND_step hb1.len ?_ | refine gg ?_))
  refine sum_Cut aa (by rw [List.length_take]; omega) (fun w3 f3 hc => ?_) fun w3 v3 G3 h hc s3 g3 f3 => ?_
  · (repeat refine gg ?_)
    refine bad w3 8 (f1.trans' f3) (f3.some (by simp) b1) ?_
    unfold frRead
    rw [if_neg h7, hc]
  have hh : h.length = 3 := by
    have := cut_len hc
    rw [List.length_take] at this; omega
  obtain ⟨h0, h1, h2, rfl⟩ : ∃ a b c, h = [a, b, c] := by
    match h, hh with
    | [a, b, c], _ => exact ⟨a, b, c, rfl⟩
  have hfr : frRead bs = (if 400 < sizeOf_ [h0, h1, h2] then ((0, []), 0, 2) else if bs.length < 11 + sizeOf_ [h0, h1, h2] then ((0, []), 0, 3) else
      match cutS ((bs.take (11 + sizeOf_ [h0, h1, h2])).drop 7) with
      | none => ((0, []), 0, 8)
      | some body => ((h0, body), 11 + sizeOf_ [h0, h1, h2], 0) : Fra × Nat × Int) := by
    unfold frRead
    rw [if_neg h7, hc]; rfl
  have hsz' : sizeOf_ [h0, h1, h2] = h1.toNat + h2.toNat * 256 := rfl
  generalize hN : sizeOf_ [h0, h1, h2] = N at hfr hsz'
  have s3' : Slc encB 1 w3.drew v3 [h0, h1, h2] G3 := s3.congr fun _ _ => rfl
  obtain ⟨p1, o1, i1, _, _, l1⟩ := s3'.arr.spot (i := 1) (x := h1) rfl rfl .i64
  obtain ⟨p2, o2, i2, _, _, l2⟩ := s3'.arr.spot (i := 2) (x := h2) rfl rfl .i64
  have c1 := h1.toNat_lt
  have c2 := h2.toNat_lt
  have f03 := f1.trans' f3
  have f03d := f03.trans' (Fr.drew [] w3)
  have b3 := f3.some (by simp) b1
  have b3d : blk w3.drew (hsz w) = some (.cells [Value.int .u8 0, .slice none 0 0].toArray 117 (0, 0)) := b3
  have e1 := convi64 (k := .u8) (x := h1.toNat) (by omega)
  have e2 := convi64 (k := .u8) (x := h2.toNat) (by omega)
  have e3 := shl8 (x := h2.toNat) (by omega)
  have e4 := or256 (n := h1.toNat) (x := h2.toNat) (by omega) (by omega)
  rw [← hsz'] at e4
  have e5 : binv .int .add (.int .i64 7) (.int .i64 (N : Int)) = some (.int .i64 ((7 + N : Nat) : Int)) := addn_ (n := 7) (m := N) (by omega)
  have e6 : binv .int .add (.int .i64 ((7 + N : Nat) : Int)) (.int .i64 4) = some (.int .i64 ((11 + N : Nat) : Int)) := (addn_ (n := 7 + N) (m := 4) (by omega)).trans (by congr 3; omega)
  (repeat (first | (apply BND_step; exact (l1 (w' := w3.drew) rfl (j := 0) rfl)) | (apply BND_step; exact (l2 (w' := w3.drew) rfl (j := 0) rfl)) | refine gg ?_))
  by_cases h4 : 400 < N
  · (repeat refine gg ?_)
    exact bad w3.drew 2 f03d b3d (by rw [hfr, if_pos h4])
  have hbd := hb.fr f03d (by simp)
  by_cases h5 : bs.length < 11 + N
  · (repeat (first | refine BND_step hbd.len ?_ | refine gg ?_))
    exact bad w3.drew 3 f03d b3d (by rw [hfr, if_neg h4, if_pos h5])
  obtain ⟨vb, eb, ab⟩ := hbd.mid (lo := 7) (hi := 11 + N) (by omega) (by omega)
  (repeat (first | refine BND_step hbd.len ?_ | refine gg ?_))
  rw [if_neg h4, if_neg h5] at hfr
  refine sum_Cut ab (by rw [List.length_drop, List.length_take]; omega) (fun w7 f7 hc2 => ?_) fun w7 v7 G7 body hc2 s7 g7 f7 => ?_
  · (repeat refine gg ?_)
    exact bad w7 8 (f03d.trans' f7) (f7.some (by simp) b3d) (by rw [hfr, hc2])
  · rw [hc2] at hfr
    simp only at hfr
    rw [hfr] at hR
    obtain ⟨p0, o0, i0, _, _, l0⟩ := (s3'.fr f7 (by simp)).arr.spot (i := 0) (x := h0) rfl rfl .i64
    obtain ⟨x7, rfl⟩ := slc_sv s7
    have b7 := f7.some (by simp) b3d
    (repeat (first | (apply BND_step; exact (l0 (w' := w7) rfl (j := 0) rfl)) | refine gg ?_ | (apply BND_build ([.int .u8 (h0.toNat : Int), x7.v]); exact rfl)))
    refine put_step (n := 2) (vs := [.int .u8 (h0.toNat : Int), x7.v]) b7 rfl rfl (by intro u hu; simp at hu; rcases hu with rfl | rfl <;> rfl) (by simp) fun w9 b9 f9 _ => ?_
    (repeat (first | refine BND_step (loadn_all' b9 rfl) ?_ | refine gg ?_))
    have gr := f03d.grow
    refine hR w9 x7 G7 (s7.fr f9 (fun b hb hb' => by have := g7 b hb; have := f1.grow; have := f3.grow; simp at hb'; have e : hsz w3.drew = hsz w3 := rfl; omega)) (fun b hb => by have := g7 b hb; omega) ((f03d.trans' f7).trans f9 fun b hb => .inr (by simp at hb; omega))
theorem frm_push {E E' bytes : Nat} {zero : Array Value} {zero' : Value} {k : Value → World → Prop} {o : Value} {xs : List Fra} {G B H : List Nat} {s : SV} {x : Fra} (h : FrmL w o xs G B) (hs : Slc encB 1 w s.v x.2 H) (hH : ∀ b ∈ H, b ∉ G) (hz : zero'.cells.size = 2) (hb : bytes ≤ 1000) (hn : xs.length < 1000000000)
    (K : ∀ v' w' G', FrmL w' v' (xs ++ [x]) G' (H ++ B) → (∀ b ∈ G', b ∈ G ∨ hsz w ≤ b) → Fr G w w' → k v' w') : BND (newslice E zero 2 1 [(0, 2, .agg (encFr (x.1, s)).toArray)] w) fun p_ => NEW p_ fun t w1 => APPEND E' 2 bytes zero' o t w1 k := by
  obtain ⟨⟨cs, h1, h2, h3⟩, h4⟩ := h
  refine push_step (enc := encFr) (x := (x.1, s)) h1 encFr_len encFr_one rfl hz hb (by omega) fun v' w' G' s' g' f' => ?_
  refine K v' w' G' ⟨⟨cs ++ [(x.1, s)], s', by simp [h2], fun i y hy => ?_⟩, fun b hb => ?_⟩ g' f'
  · by_cases hi : i < xs.length
    · rw [List.getElem?_append_left hi] at hy
      obtain ⟨s2, H2, a, b, c⟩ := h3 i y hy
      exact ⟨s2, H2, by rw [List.getElem?_append_left (by omega)]; exact a, b.fr f' (fun d hd => (h4 d (c d hd)).1), fun d hd => by simp [c d hd]⟩
    · have : i = xs.length := by have := (List.getElem?_eq_some_iff.1 hy).1; simp at this; omega
      subst this
      simp at hy; subst hy
      exact ⟨s, H, by rw [List.getElem?_append_right (by omega)]; simp [h2], hs.fr f' hH, fun d hd => by simp [hd]⟩
  · have hlt : b < hsz w := by
      rcases List.mem_append.1 hb with hb | hb
      · exact hs.lt b hb
      · exact (h4 b hb).2
    refine ⟨?_, Nat.lt_of_lt_of_le hlt f'.grow⟩
    intro hb'
    rcases g' b hb' with hq | hq
    · rcases List.mem_append.1 hb with hb | hb
      · exact hH b hb hq
      · exact (h4 b hb).1 hq
    · omega
theorem frame_All {bv : Value} {bs : List UInt8} (hb : ArrC encB 1 w bv bs) (hn : bs.length < 100000000)
    (hR : ∀ w' v G B, FrmL w' v (frAll bs 0).1 G B → (∀ b ∈ G, hsz w ≤ b) → (∀ b ∈ B, hsz w ≤ b) → Fr [] w w' → (frAll bs 0).1.length ≤ bs.length → R (.tuple #[v, .int .i64 ((frAll bs 0).2.1 : Int), .int .i64 (frAll bs 0).2.2]) w') : CALL PR F_frame_All [bv] w R := by
  refine C_frame_All ?_
  unfold M_frame_All
  refine ⟨fun o t w' => ∃ (k : Nat) (done : List Fra) (G B : List Nat), t = .int .i64 (k : Int) ∧ FrmL w' o done G B ∧ (∀ b ∈ G, hsz w ≤ b) ∧ (∀ b ∈ B, hsz w ≤ b) ∧ Fr [] w w' ∧ k ≤ bs.length ∧ done.length ≤ k ∧ frAll bs 0 = (done ++ (frAll (bs.drop k) k).1, (frAll (bs.drop k) k).2),
    fun _ t _ => match t with | .int _ n => bs.length - n.toNat | _ => 0, ⟨0, [], [], [], rfl, FrmL.nil _, by simp, by simp, Fr.refl _ _, by omega, by simp, by simp⟩, ?_⟩
  rintro _ o _ w1 ⟨k, done, G, B, rfl, h1, hG, hB, f1, hk, hdl, heq⟩
  by_cases hlt : k < bs.length
  · obtain ⟨va, ea, aa⟩ := (hb.fr f1 (by simp)).from (lo := k) (by omega)
    (repeat (first | refine BND_step hb.len ?_ | refine gg ?_))
    have hne : bs.drop k ≠ [] := by intro e; have := congrArg List.length e; simp at this; omega
    refine frame_Read aa (by rw [List.length_drop]; omega) fun w2 v2 G2 s2 g2 f2 => ?_
    (repeat refine gg ?_)
    refine box_step (n := 2) (zs := [_, _]) (vs := encFr ((frRead (bs.drop k)).1.1, v2)) rfl rfl (encFr_one _) (by simp [encFr]) fun w4 b4 f4 z4 => ?_
    have f24 := (f1.trans' f2).trans' f4
    have h4 := (h1.fr f2).fr f4
    by_cases he : (frRead (bs.drop k)).2.2 = 0
    · obtain ⟨u1, u2, u3, u4⟩ := read_ok he
      rw [List.length_drop] at u2
      (repeat (first | refine BND_step (loadn_all' b4 rfl) ?_ | refine gg ?_))
      have gr1 := f1.grow
      refine frm_push (x := (frRead (bs.drop k)).1) h4 (s2.fr f4 (by simp)) (fun b hb hb' => ?_) rfl (by omega) (by omega) fun v6 w6 G6 s6 g6 f6 => ?_
      · obtain ⟨⟨cs, q1, _⟩, _⟩ := h1
        have := q1.lt b hb'
        have := g2 b hb
        omega
      · (repeat (first | refine BND_step (addn_ (n := k) (by omega)) ?_ | refine gg ?_))
        rw [frAll_ok k hne he] at heq
        refine ⟨⟨k + (frRead (bs.drop k)).2.1, done ++ [(frRead (bs.drop k)).1], G6, G2 ++ B, rfl, s6, fun b hb => ?_, fun b hb => ?_, f24.trans f6 fun b hb => .inr (hG b hb), by omega, by simp; omega, ?_⟩, ?_⟩
        · rcases g6 b hb with hq | hq
          · exact hG b hq
          · have := f24.grow; omega
        · rcases List.mem_append.1 hb with hb | hb
          · have := g2 b hb; omega
          · exact hB b hb
        · rw [heq, List.drop_drop]; simp
        · simp only [Int.toNat_natCast]; omega
    · (repeat refine gg ?_)
      rw [frAll_bad k hne he] at heq
      have := hR w4 o G B (by rw [heq]; simpa using h4) hG hB f24 (by rw [heq]; simp; omega)
      rw [heq] at this
      exact this
  · (repeat (first | refine BND_step hb.len ?_ | refine gg ?_))
    rw [List.drop_eq_nil_of_le (by omega), frAll_nil] at heq
    have := hR w1 o G B (by rw [heq]; simpa using h1) hG hB f1 (by rw [heq]; simp; omega)
    rw [heq] at this
    exact this
end
end Go.Proofs.YtofllgbdphakiaaGreat
end
