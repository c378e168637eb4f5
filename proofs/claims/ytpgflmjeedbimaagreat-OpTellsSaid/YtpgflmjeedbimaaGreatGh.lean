/- Worlds as blocks; what the words of 'den' come to on them; slices, maps, frames. No condition. From a law's walk to its row: how arguments read, and that they read behind the call as before. No condition. What every row asks of the program itself. No condition. Parts of slices, as what an append takes. No condition. Things put behind others; maps whose entries bear stamps; what came in and what is one's own, read alike. No condition. Structs' blocks; slices of several things, made at once. No condition. Steps of a walk put shortly: what stands at a place, loops that count, ways that meet. No condition. How slices that stand in structs read. No condition. What a message is at, in plain words. No condition. The walk of due.Heap: what each of its functions makes of a heap in memory. No condition. Plain laws of a tree of entries in a list: to rise, to sink. No condition. The walk of due.Heap's rise and sink: behind 'settle' the entries are a heap again. No condition. due.Heap's methods, as operations on a sorted list of entries. No condition. UTF-8 on lists of bytes: a text's runes; there and back. Plain. No condition. Layer 3 (label) as plain functions on bytes and runes, and what holds of them. Plain. No condition. Strings ranged over, turned to runes and back. No condition. strings.Builder at this program: copyCheck, WriteRune, String, over 'Lib.IsBuilderF'. No condition. label's functions (Right, Fold, Less): what they answer. No condition but sizes. The document's answer for label (Right, Fold, Less): the same. No condition but sizes. -/
import Derived.Test.YtpgflmjeedbimaaGreatGa
import Derived.Laws.Append
import Derived.ProofKit
import Derived.OpenShut
import Derived.ShutString
import Derived.ChangeOld
import Derived.Below
import Derived.Deep.Slices
import Derived.Deep.Strs
import Derived.Test.YtpgflmjeedbimaaGreatRows
import Derived.MapKept
import Derived.Laws.Strings
import Derived.Lib.SmallJoins
import Derived.Test.YtpgflmjeedbimaaGreatMb
import Derived.Test.YtpgflmjeedbimaaGreatMa
import Derived.Lib.DecodeN
import Derived.Lib.RuneBytes
import Derived.Test.YtpgflmjeedbimaaGreatGd
set_option linter.unusedVariables false
set_option linter.unusedSimpArgs false
section
namespace Go.Den
def blk (w : World) (b : Nat) : Option Obj := w.heap[b]?
def hsz (w : World) : Nat := w.heap.size
def setB (w : World) (b : Nat) (o : Obj) : World := { w with heap := w.heap.setIfInBounds b o }
theorem blk_lt {w : World} {b : Nat} {o : Obj} (h : blk w b = some o) : b < hsz w := (Array.getElem?_eq_some_iff.1 h).1
@[simp] theorem blk_drew (w : World) (b : Nat) : blk w.drew b = blk w b := rfl
@[simp] theorem hsz_drew (w : World) : hsz w.drew = hsz w := rfl
@[simp] theorem hsz_alloc (w : World) (o : Obj) : hsz (w.alloc o) = hsz w + 1 := by simp [hsz]
@[simp] theorem hsz_setB (w : World) (b : Nat) (o : Obj) : hsz (setB w b o) = hsz w := by simp [hsz, setB]
@[simp] theorem heap_size (w : World) : w.heap.size = hsz w := rfl
theorem blk_alloc (w : World) (o : Obj) (b : Nat) : blk (w.alloc o) b = if b = hsz w then some o else blk w b := by
  simp only [blk, World.alloc, Array.getElem?_push]
  rfl
@[simp] theorem blk_alloc_new (w : World) (o : Obj) : blk (w.alloc o) (hsz w) = some o := by simp [blk_alloc]
theorem blk_alloc_old {w : World} {o : Obj} {b : Nat} (h : b ≠ hsz w) : blk (w.alloc o) b = blk w b := by simp [blk_alloc, h]
theorem blk_setB (w : World) (b b' : Nat) (o : Obj) : blk (setB w b o) b' = if b = b' then (blk w b).map fun _ => o else blk w b' := by
  simp only [blk, setB, Array.getElem?_setIfInBounds]
  split
  · rename_i h
    subst h
    cases hb : w.heap[b]? with
    | none => simp at hb; simp [Nat.not_lt.2 hb]
    | some x => have : b < hsz w := (Array.getElem?_eq_some_iff.1 hb).1; simp [this]
  · rfl
theorem blk_setB_same {w : World} {b : Nat} {o x : Obj} (h : blk w b = some x) : blk (setB w b o) b = some o := by simp [blk_setB, h]
theorem blk_setB_other {w : World} {b b' : Nat} {o : Obj} (h : b ≠ b') : blk (setB w b o) b' = blk w b' := by simp [blk_setB, h]
theorem heap_ext {w w' : World} (h : w'.heap = w.heap) (b : Nat) : blk w' b = blk w b := by simp [blk, h]
structure Fr (F : List Nat) (w w' : World) : Prop where
  grow : hsz w ≤ hsz w'
  keep : ∀ b, b < hsz w → b ∉ F → blk w' b = blk w b
  rest : w'.os = w.os ∧ w'.tape = w.tape ∧ w'.output = w.output
theorem Fr.refl (F : List Nat) (w : World) : Fr F w w := ⟨Nat.le_refl _, fun _ _ _ => rfl, rfl, rfl, rfl⟩
theorem Fr.drew (F : List Nat) (w : World) : Fr F w w.drew := ⟨Nat.le_refl _, fun _ _ _ => rfl, rfl, rfl, rfl⟩
theorem Fr.alloc (F : List Nat) (w : World) (o : Obj) : Fr F w (w.alloc o) := ⟨by simp, fun b hb _ => blk_alloc_old (Nat.ne_of_lt hb), rfl, rfl, rfl⟩
theorem Fr.setB {F : List Nat} {w : World} {b : Nat} (h : b ∈ F ∨ hsz w ≤ b) (o : Obj) : Fr F w (setB w b o) :=
  ⟨by simp, fun c hc hn => blk_setB_other fun e => by subst e; rcases h with h | h; exact hn h; omega, rfl, rfl, rfl⟩
theorem Fr.trans {F G : List Nat} {w w1 w2 : World} (h : Fr F w w1) (h' : Fr G w1 w2) (hs : ∀ b ∈ G, b ∈ F ∨ hsz w ≤ b) : Fr F w w2 :=
  ⟨Nat.le_trans h.grow h'.grow, fun b hb hn => by
    rw [h'.keep b (Nat.lt_of_lt_of_le hb h.grow) (fun hg => (hs b hg).elim hn (fun h => by omega)), h.keep b hb hn],
    h'.rest.1.trans h.rest.1, h'.rest.2.1.trans h.rest.2.1, h'.rest.2.2.trans h.rest.2.2⟩
theorem Fr.trans' {F : List Nat} {w w1 w2 : World} (h : Fr F w w1) (h' : Fr F w1 w2) : Fr F w w2 := h.trans h' fun _ hb => .inl hb
theorem Fr.wider {F G : List Nat} {w w' : World} (h : Fr F w w') (hs : ∀ b ∈ F, b ∈ G) : Fr G w w' :=
  ⟨h.grow, fun b hb hn => h.keep b hb fun hf => hn (hs b hf), h.rest⟩
theorem Fr.nil {F : List Nat} {w w' : World} (h : Fr [] w w') : Fr F w w' := h.wider (by simp)
theorem Fr.some {F : List Nat} {w w' : World} (h : Fr F w w') {b : Nat} (hn : b ∉ F) {o : Obj} (hb : blk w b = some o) : blk w' b = some o := by
  rw [h.keep b (blk_lt hb) hn, hb]
@[simp] theorem cells_agg (cs : Array Value) : (Value.agg cs).cells = cs := rfl
@[simp] theorem cells_int (k : IntKind) (n : Int) : (Value.int k n).cells = #[.int k n] := rfl
@[simp] theorem cells_bool (b : Bool) : (Value.bool b).cells = #[.bool b] := rfl
@[simp] theorem cells_string (s : ByteArray) : (Value.string s).cells = #[.string s] := rfl
@[simp] theorem cells_pointer (a : Option Addr) : (Value.pointer a).cells = #[.pointer a] := rfl
@[simp] theorem cells_slice (a : Option Addr) (n c : Nat) : (Value.slice a n c).cells = #[.slice a n c] := rfl
@[simp] theorem cells_map (r : Option Nat) : (Value.map r).cells = #[.map r] := rfl
@[simp] theorem cells_func (f : Fn) (a b : Array Value) : (Value.func f a b).cells = #[.func f a b] := rfl
@[simp] theorem cells_nilFunc : Value.nilFunc.cells = #[.nilFunc] := rfl
theorem BND_step {α : Type} {o : Option α} {v : α} {k : α → Prop} (h : o = some v) (hk : k v) : BND o k := ⟨v, h, hk⟩
theorem JOIN_elim {α : Type} {f : α → Prop} {k : α} (h : ∀ K, K = k → f K) : JOIN f k := h k rfl
@[simp] theorem COND_true (t e : Prop) : COND (.bool true) t e ↔ t := ⟨fun h => by cases h with | yes _ ht => exact ht | no h _ => simp at h, fun h => .yes rfl h⟩
@[simp] theorem COND_false (t e : Prop) : COND (.bool false) t e ↔ e := ⟨fun h => by cases h with | yes h _ => simp at h | no _ h => exact h, fun h => .no rfl h⟩
theorem COND_dec_true {p : Prop} [Decidable p] (h : p) {t e : Prop} (ht : t) : COND (.bool (decide p)) t e := .yes (by simp [h]) ht
theorem COND_dec_false {p : Prop} [Decidable p] (h : ¬ p) {t e : Prop} (he : e) : COND (.bool (decide p)) t e := .no (by simp [h]) he
@[simp] theorem NEW_newv (T : Nat) (w : World) (v : Value) (k : Value → World → Prop) : NEW (newv T w v) k ↔ k (.pointer (some ⟨hsz w, 0, none⟩)) (w.alloc (.cells v.cells T)) :=
  ⟨fun h => h.h, fun h => ⟨h⟩⟩
@[simp] theorem NEW_newmap (w : World) (k : Value → World → Prop) : NEW (newmap w) k ↔ k (.map (some (hsz w))) (w.alloc (.map #[] 0)) := ⟨fun h => h.h, fun h => ⟨h⟩⟩
@[simp] theorem NEW_pair (v : Value) (w : World) (k : Value → World → Prop) : NEW (v, w) k ↔ k v w := ⟨fun h => h.h, fun h => ⟨h⟩⟩
theorem NEW_intro {T : Nat} {w : World} {v : Value} {k : Value → World → Prop} (h : ∀ w', blk w' (hsz w) = some (.cells v.cells T (0, 0)) → Fr [] w w' → hsz w' = hsz w + 1 → k (.pointer (some ⟨hsz w, 0, none⟩)) w') :
    NEW (newv T w v) k := (NEW_newv T w v k).2 (h _ (by simp) (Fr.alloc _ _ _) (by simp))
theorem NEWMAP_intro {w : World} {k : Value → World → Prop} (h : ∀ w', blk w' (hsz w) = some (.map #[] 0) → Fr [] w w' → hsz w' = hsz w + 1 → k (.map (some (hsz w))) w') :
    NEW (newmap w) k := (NEW_newmap w k).2 (h _ (by simp) (Fr.alloc _ _ _) (by simp))
theorem CALLV_func {P : Program} {f : Nat} {a b : Array Value} {args : List Value} {w : World} {k : Value → World → Prop} (hok : okCallee P f = true) :
    CALLV P (.func (.func f) a b) args w k ↔ CALL P f (a.toList ++ args ++ b.toList) w k :=
  ⟨fun ⟨g, x, y, h, _, hc⟩ => by cases h; exact hc, fun h => ⟨f, a, b, rfl, hok, h⟩⟩
@[simp] theorem nilchk_ptr (a : Addr) : nilchk (.pointer (some a)) = some (.pointer (some a)) := rfl
@[simp] theorem nilchk_func (f : Nat) (a b : Array Value) : nilchk (.func (.func f) a b) = some (.func (.func f) a b) := rfl
@[simp] theorem faddr_ptr (off b o : Nat) : faddr off (.pointer (some ⟨b, o, none⟩)) = some (.pointer (some ⟨b, o + off, none⟩)) := by
  unfold faddr Addr.add
  by_cases h : off = 0 <;> simp [h]
@[simp] theorem extractv_tuple (vs : Array Value) (i : Nat) : extractv (.tuple vs) i = vs[i]? := rfl
@[simp] theorem lenl_slice (a : Option Addr) (n c : Nat) : lenl (.slice a n c) = some (.int .i64 n) := rfl
@[simp] theorem lens_string (s : ByteArray) : lens (.string s) = some (.int .i64 s.size) := rfl
@[simp] theorem pickv_true (a b : Value) : pickv (.bool true) a b = some a := rfl
@[simp] theorem pickv_false (a b : Value) : pickv (.bool false) a b = some b := rfl
@[simp] theorem unv_not (b : Bool) : unv .not (.bool b) = some (.bool !b) := rfl
@[simp] theorem isB_bool (b c : Bool) : isB (.bool b) c = (b == c) := rfl
@[simp] theorem isB_tt : isB (.bool true) true = true := rfl
@[simp] theorem isB_tf : isB (.bool true) false = false := rfl
@[simp] theorem isB_ft : isB (.bool false) true = false := rfl
@[simp] theorem isB_ff : isB (.bool false) false = true := rfl
@[simp] theorem GEF_true (f : (Value → World → Prop) → Prop) (w : World) (k : Value → World → Prop) : GEF true f w k ↔ f k := ⟨fun h => h.yes rfl, fun h => ⟨fun _ => h, (fun hc => by cases hc)⟩⟩
@[simp] theorem GEF_false (f : (Value → World → Prop) → Prop) (w : World) (k : Value → World → Prop) : GEF false f w k ↔ k undef w := ⟨fun h => h.no rfl, fun h => ⟨(fun hc => by cases hc), fun _ => h⟩⟩
@[simp] theorem isB_undef (c : Bool) : isB undef c = false := rfl
@[simp] theorem grd_true (o : Option Value) : grd true o = o := rfl
@[simp] theorem grd_false (o : Option Value) : grd false o = some undef := rfl
theorem beq_dec (a b : Int) : (a == b) = decide (a = b) := by
  by_cases h : a = b <;> simp [h]
@[simp] theorem binv_lss (t : TK) (k : IntKind) (a b : Int) : binv t .lss (.int k a) (.int k b) = some (.bool (decide (a < b))) := by simp [binv, bini]
@[simp] theorem binv_leq (t : TK) (k : IntKind) (a b : Int) : binv t .leq (.int k a) (.int k b) = some (.bool (decide (a ≤ b))) := by simp [binv, bini]
@[simp] theorem binv_gtr (t : TK) (k : IntKind) (a b : Int) : binv t .gtr (.int k a) (.int k b) = some (.bool (decide (b < a))) := by simp [binv, bini]
@[simp] theorem binv_geq (t : TK) (k : IntKind) (a b : Int) : binv t .geq (.int k a) (.int k b) = some (.bool (decide (b ≤ a))) := by simp [binv, bini]
@[simp] theorem binv_eql (t : TK) (k : IntKind) (a b : Int) : binv t .eql (.int k a) (.int k b) = some (.bool (decide (a = b))) := by
  simp [binv, bini, beq_dec]
@[simp] theorem binv_neq (t : TK) (k : IntKind) (a b : Int) : binv t .neq (.int k a) (.int k b) = some (.bool (!decide (a = b))) := by
  simp [binv, bini, bne, beq_dec]
@[simp] theorem binv_add (t : TK) (k : IntKind) (a b : Int) : binv t .add (.int k a) (.int k b) = some (.int k (k.wrap (a + b))) := by simp [binv, bini]
@[simp] theorem binv_sub (t : TK) (k : IntKind) (a b : Int) : binv t .sub (.int k a) (.int k b) = some (.int k (k.wrap (a - b))) := by simp [binv, bini]
@[simp] theorem binv_mul (t : TK) (k : IntKind) (a b : Int) : binv t .mul (.int k a) (.int k b) = some (.int k (k.wrap (a * b))) := by simp [binv, bini]
theorem binv_quo (t : TK) (k : IntKind) (a b : Int) (h : b ≠ 0) : binv t .quo (.int k a) (.int k b) = some (.int k (k.wrap (a.tdiv b))) := by simp [binv, bini, h]
@[simp] theorem binv_eqb (a b : Bool) : binv .bool .eql (.bool a) (.bool b) = some (.bool (a == b)) := rfl
@[simp] theorem binv_neb (a b : Bool) : binv .bool .neq (.bool a) (.bool b) = some (.bool (a != b)) := rfl
@[simp] theorem binv_ptr_nil (a : Addr) : binv .ptr .eql (.pointer (some a)) (.pointer none) = some (.bool false) := rfl
@[simp] theorem binv_ptr_nnil (a : Addr) : binv .ptr .neq (.pointer (some a)) (.pointer none) = some (.bool true) := rfl
@[simp] theorem binv_nil_nil : binv .ptr .eql (.pointer none) (.pointer none) = some (.bool true) := rfl
@[simp] theorem binv_nil_nnil : binv .ptr .neq (.pointer none) (.pointer none) = some (.bool false) := rfl
theorem wrap_i64 {n : Int} (h : -9223372036854775808 ≤ n) (h' : n ≤ 9223372036854775807) : IntKind.i64.wrap n = n := by
  simp only [IntKind.wrap, IntKind.bits, IntKind.signed]
  simp
  omega
theorem wrap_u64 {n : Int} (h : 0 ≤ n) (h' : n < 18446744073709551616) : IntKind.u64.wrap n = n := by
  simp only [IntKind.wrap, IntKind.bits, IntKind.signed]
  simp
  omega
theorem cell?_blk {w : World} {b : Nat} {c : Array Value} {T : Nat} {f : Nat × Nat} (h : blk w b = some (.cells c T f)) (o : Nat) : w.cell? ⟨b, o, none⟩ = c[o]? := by
  have h' : w.heap[b]? = some (.cells c T f) := h
  simp [World.cell?, h']
theorem add_none (b o i : Nat) : (⟨b, o, none⟩ : Addr).add i = ⟨b, o + i, none⟩ := by
  unfold Addr.add; by_cases h : i = 0 <;> simp [h]
theorem load1_blk {w : World} {b o : Nat} {c : Array Value} {T : Nat} {f : Nat × Nat} (h : blk w b = some (.cells c T f)) : load1 w (.pointer (some ⟨b, o, none⟩)) = c[o]? := cell?_blk h o
theorem loads_blk {w : World} {b o : Nat} {c : Array Value} {T : Nat} {f : Nat × Nat} (h : blk w b = some (.cells c T f)) : ∀ n i, o + i + n ≤ c.size →
    loads w ⟨b, o, none⟩ i n = some ((c.toList.drop (o + i)).take n)
  | 0, i, _ => by simp [loads]
  | n + 1, i, hs => by
    have hlt : o + i < c.size := by omega
    rw [loads, add_none, cell?_blk h, Array.getElem?_eq_getElem hlt, loads_blk h n (i + 1) (by omega)]
    simp only [Option.some.injEq]
    rw [List.drop_eq_getElem_cons (i := o + i) (by simpa using hlt), List.take_succ_cons]
    congr 1
theorem loadn_blk {w : World} {b o n : Nat} {c : Array Value} {T : Nat} {f : Nat × Nat} (h : blk w b = some (.cells c T f)) (hs : o + n ≤ c.size) :
    loadn n w (.pointer (some ⟨b, o, none⟩)) = some (.agg ((c.toList.drop o).take n).toArray) := by
  simp [loadn, loads_blk h n 0 (by simpa using hs)]
def splice (c : Array Value) (o : Nat) : List Value → Array Value
  | [] => c
  | v :: vs => splice (c.setIfInBounds o v) (o + 1) vs
@[simp] theorem size_splice : ∀ (vs : List Value) (c : Array Value) (o : Nat), (splice c o vs).size = c.size
  | [], c, o => rfl
  | v :: vs, c, o => by rw [splice, size_splice vs]; simp
theorem splice_get : ∀ (vs : List Value) (c : Array Value) (o i : Nat), o + vs.length ≤ c.size → (splice c o vs)[i]? = if o ≤ i ∧ i < o + vs.length then vs[i - o]? else c[i]?
  | [], c, o, i, _ => by
    have : ¬ (o ≤ i ∧ i < o + ([] : List Value).length) := by simp
    rw [if_neg this]; rfl
  | v :: vs, c, o, i, h => by
    simp only [List.length_cons] at h
    rw [splice, splice_get vs _ _ _ (by simp; omega)]
    by_cases h1 : o + 1 ≤ i ∧ i < o + 1 + vs.length
    · rw [if_pos h1, if_pos (by simp; omega)]
      obtain ⟨j, rfl⟩ : ∃ j, i = o + 1 + j := ⟨i - (o + 1), by omega⟩
      rw [show o + 1 + j - (o + 1) = j by omega, show o + 1 + j - o = j + 1 by omega]; rfl
    · rw [if_neg h1]
      by_cases h2 : i = o
      · subst h2
        rw [if_pos (by simp)]
        simp [show i < c.size by omega]
      · rw [if_neg (by simp; omega), Array.getElem?_setIfInBounds_ne (by omega)]
theorem setCell_setB {w : World} {b o : Nat} {c : Array Value} {T : Nat} {f : Nat × Nat} (h : blk w b = some (.cells c T f)) (v : Value) :
    w.setCell ⟨b, o, none⟩ v = setB w b (.cells (c.setIfInBounds o v) T f) := by
  unfold World.setCell setB
  congr 1
  apply Array.ext
  · simp
  · intro i h1 h2
    simp at h1
    have h' : w.heap[b]? = some (.cells c T f) := h
    by_cases hi : b = i
    · subst hi
      have := (Array.getElem?_eq_some_iff.1 h').2
      simp [Array.getElem_modify, this]
    · rw [Array.getElem_modify_of_ne hi, Array.getElem_setIfInBounds_ne _ hi]
theorem setB_setB (w : World) (b : Nat) (o o' : Obj) : setB (setB w b o) b o' = setB w b o' := by
  simp [setB]
theorem stores_blk {b o T : Nat} : ∀ (vs : List Value) (i : Nat) (w : World) (c : Array Value), blk w b = some (.cells c T (0, 0)) → (∀ v ∈ vs, v.oneCell' = true) → o + i + vs.length ≤ c.size → vs ≠ [] →
    stores w ⟨b, o, none⟩ i vs = some (setB w b (.cells (splice c (o + i) vs) T (0, 0)))
  | [], _, _, _, _, _, _, hn => absurd rfl hn
  | v :: vs, i, w, c, h, h1, hs, _ => by
    simp only [List.length_cons] at hs
    have hlt : o + i < c.size := by omega
    have hfr : w.frozen? ⟨b, o + i, none⟩ = false := by
      have h' : w.heap[b]? = some (.cells c T (0, 0)) := h
      simp [World.frozen?, h']
    rw [stores, if_pos (h1 v (by simp)), add_none, cell?_blk h, Array.getElem?_eq_getElem hlt]
    simp only [hfr, Bool.false_eq_true, if_false]
    rw [setCell_setB h]
    cases vs with
    | nil => simp [stores, splice]
    | cons u us =>
      rw [stores_blk (u :: us) (i + 1) _ (c.setIfInBounds (o + i) v) (blk_setB_same h) (fun x hx => h1 x (by simp [hx])) (by simp at *; omega) (by simp), setB_setB]
      rfl
theorem storev1_blk {w : World} {b o T : Nat} {c : Array Value} {v : Value} (h : blk w b = some (.cells c T (0, 0))) (ho : o < c.size) (hv : v.cells = #[v]) (h1 : v.oneCell' = true) :
    storev 1 w (.pointer (some ⟨b, o, none⟩)) v = some (setB w b (.cells (c.setIfInBounds o v) T (0, 0))) := by
  unfold storev
  rw [hv]
  simp only [List.size_toArray, List.length_cons, List.length_nil, if_true]
  rw [stores_blk [v] 0 w c h (by simpa using h1) (by simp; omega) (by simp)]
  rfl
theorem storevn_blk {w : World} {b o T n : Nat} {c : Array Value} {vs : List Value} (h : blk w b = some (.cells c T (0, 0))) (hn : vs.length = n) (hs : o + n ≤ c.size) (h1 : ∀ v ∈ vs, v.oneCell' = true) (hne : vs ≠ []) :
    storev n w (.pointer (some ⟨b, o, none⟩)) (.agg vs.toArray) = some (setB w b (.cells (splice c o vs) T (0, 0))) := by
  unfold storev
  simp only [Value.cells, List.size_toArray, hn, if_true]
  rw [stores_blk vs 0 w c h h1 (by omega) hne]
  rfl
theorem fold_splice (off : Nat) : ∀ (vs : List Value) (k : Nat) (cs : Array Value), (vs.zipIdx k).foldl (fun cs (x : Value × Nat) => cs.setIfInBounds (off + x.2) x.1) cs = splice cs (off + k) vs
  | [], k, cs => rfl
  | v :: vs, k, cs => by
    simp only [List.zipIdx_cons, List.foldl_cons, splice]
    exact fold_splice off vs (k + 1) _
theorem splice_all (cs : Array Value) (vs : List Value) (h : vs.length = cs.size) : splice cs 0 vs = vs.toArray := by
  apply Array.ext_getElem?
  intro i
  rw [splice_get _ _ _ _ (by omega)]
  by_cases hi : i < vs.length
  · rw [if_pos (by omega)]; simp
  · rw [if_neg (by omega), Array.getElem?_eq_none (by omega)]
    simp; omega
theorem newslice_one (E sz : Nat) (zero : Array Value) (vs : List Value) (hl : vs.length = sz) (w : World) :
    newslice E zero sz 1 [(0, sz, .agg vs.toArray)] w = some (.slice (some ⟨hsz w, 0, none⟩) 1 1, w.alloc (.cells vs.toArray E)) := by
  have h1 : (vs.toArray.zipIdx.foldl (fun cs (x : Value × Nat) => cs.setIfInBounds (0 + x.2) x.1) ((Array.range (1 * sz)).map (zero[· % zero.size]!))) = vs.toArray := by
    rw [← Array.foldl_toList, Array.toList_zipIdx, fold_splice 0 vs 0]
    exact splice_all _ _ (by simp [hl])
  have h3 : fillv ((Array.range (1 * sz)).map (zero[· % zero.size]!)) [(0, sz, .agg vs.toArray)] = some vs.toArray := by
    unfold fillv
    split
    · rename_i h; simp [hl] at h
    · exact congrArg some h1
  unfold newslice
  rw [h3]
  rfl
def Slc {α : Type} (enc : α → List Value) (sz : Nat) (w : World) (v : Value) (xs : List α) (F : List Nat) : Prop :=
  (v = .slice none 0 0 ∧ xs = [] ∧ F = []) ∨
  ∃ b cap c T, v = .slice (some ⟨b, 0, none⟩) xs.length cap ∧ blk w b = some (.cells c T (0, 0)) ∧ xs.length ≤ cap ∧ c.size = cap * sz ∧ F = [b] ∧
    ∀ i x, xs[i]? = some x → ∀ j, j < sz → c[i * sz + j]? = (enc x)[j]?
section
variable {α : Type} {enc : α → List Value} {sz : Nat} {w w' : World} {v : Value} {xs : List α} {F : List Nat} {b : Nat}
theorem Slc.lt (h : Slc enc sz w v xs F) : ∀ b ∈ F, b < hsz w := by
  rcases h with ⟨_, _, rfl⟩ | ⟨b, cap, c, T, _, hb, _, _, rfl, _⟩
  · simp
  · intro b' hb'; simp at hb'; subst hb'; exact blk_lt hb
theorem Slc.congr (h : Slc enc sz w v xs F) (hw : ∀ b ∈ F, blk w' b = blk w b) : Slc enc sz w' v xs F := by
  rcases h with h | ⟨b, cap, c, T, h1, hb, h2, h3, rfl, h4⟩
  · exact .inl h
  · exact .inr ⟨b, cap, c, T, h1, by rw [hw b (by simp), hb], h2, h3, rfl, h4⟩
theorem Slc.fr (h : Slc enc sz w v xs F) {G : List Nat} (hf : Fr G w w') (hd : ∀ b ∈ F, b ∉ G) : Slc enc sz w' v xs F :=
  h.congr fun b hb => hf.keep b (h.lt b hb) (hd b hb)
theorem Slc.one (h : Slc enc sz w v xs F) : v.cells = #[v] ∧ v.oneCell' = true := by
  rcases h with ⟨rfl, rfl, _⟩ | ⟨b, cap, c, T, rfl, _⟩ <;> exact ⟨rfl, rfl⟩
theorem Slc.len (h : Slc enc sz w v xs F) : lenl v = some (.int .i64 xs.length) := by
  rcases h with ⟨rfl, rfl, _⟩ | ⟨b, cap, c, T, rfl, _⟩ <;> rfl
theorem Slc.iaddr (h : Slc enc sz w v xs F) {i : Nat} (hi : i < xs.length) (k : IntKind) : ∃ b, F = [b] ∧ Den.iaddr sz v (.int k (i : Int)) = some (.pointer (some ⟨b, i * sz, none⟩)) := by
  rcases h with ⟨_, rfl, _⟩ | ⟨b, cap, c, T, rfl, _, _, _, rfl, _⟩
  · simp at hi
  · refine ⟨b, rfl, ?_⟩
    simp [Den.iaddr, hi, add_none]
theorem Slc.cells (h : Slc enc sz w v xs F) {b : Nat} (hF : F = [b]) : ∃ cap c T, v = .slice (some ⟨b, 0, none⟩) xs.length cap ∧ blk w b = some (.cells c T (0, 0)) ∧ xs.length ≤ cap ∧ c.size = cap * sz ∧
    ∀ i x, xs[i]? = some x → ∀ j, j < sz → c[i * sz + j]? = (enc x)[j]? := by
  rcases h with ⟨_, _, rfl⟩ | ⟨b', cap, c, T, h1, h2, h3, h4, rfl, h5⟩
  · simp at hF
  · simp at hF; subst hF; exact ⟨cap, c, T, h1, h2, h3, h4, h5⟩
theorem idx_lt {i n cap sz j : Nat} (hi : i < n) (hn : n ≤ cap) (hj : j < sz) : i * sz + j < cap * sz := by
  have : (i + 1) * sz ≤ cap * sz := Nat.mul_le_mul_right _ (by omega)
  rw [Nat.succ_mul] at this
  omega
theorem Slc.load1 (h : Slc enc sz w v xs [b]) {i j : Nat} {x : α} (hx : xs[i]? = some x) (hj : j < sz) : Den.load1 w (.pointer (some ⟨b, i * sz + j, none⟩)) = (enc x)[j]? := by
  obtain ⟨cap, c, T, _, hb, _, _, he⟩ := h.cells rfl
  rw [load1_blk hb, he i x hx j hj]
theorem Slc.loadn (h : Slc enc sz w v xs [b]) {i : Nat} {x : α} (hx : xs[i]? = some x) (he : (enc x).length = sz) : Den.loadn sz w (.pointer (some ⟨b, i * sz, none⟩)) = some (.agg (enc x).toArray) := by
  obtain ⟨cap, c, T, _, hb, hc, hs, hel⟩ := h.cells rfl
  have hi : i < xs.length := (List.getElem?_eq_some_iff.1 hx).1
  have hle : i * sz + sz ≤ c.size := by
    have : (i + 1) * sz ≤ cap * sz := Nat.mul_le_mul_right _ (by omega)
    rw [Nat.succ_mul] at this; omega
  rw [loadn_blk hb hle]
  have : (c.toList.drop (i * sz)).take sz = enc x := by
    apply List.ext_getElem?
    intro j
    rw [List.getElem?_take]
    split
    · rename_i hj
      rw [List.getElem?_drop]
      have := hel i x hx j hj
      simpa using this
    · rename_i hj
      exact (List.getElem?_eq_none (by omega)).symm
  rw [this]
theorem Fr.of_set {w w' : World} {b : Nat} (h : Fr [b] w w') (_ : ∀ b', b' ≠ b → blk w' b' = blk w b') : Fr [b] w w' := h
theorem Slc.set (h : Slc enc sz w v xs [b]) {i : Nat} {x : α} (hi : i < xs.length) (hl : (enc x).length = sz) (h1 : ∀ u ∈ enc x, u.oneCell' = true) (hz : 0 < sz) :
    ∃ w', storev sz w (.pointer (some ⟨b, i * sz, none⟩)) (.agg (enc x).toArray) = some w' ∧ Slc enc sz w' v (xs.set i x) [b] ∧ Fr [b] w w' ∧ ∀ b', b' ≠ b → blk w' b' = blk w b' := by
  obtain ⟨cap, c, T, hv, hb, hc, hs, hel⟩ := h.cells rfl
  have hle : i * sz + sz ≤ c.size := by
    have : (i + 1) * sz ≤ cap * sz := Nat.mul_le_mul_right _ (by omega)
    rw [Nat.succ_mul] at this; omega
  refine ⟨_, storevn_blk hb hl hle h1 (by intro e; rw [e] at hl; simp at hl; omega), ?_, Fr.setB (.inl (by simp)) _, fun b' hb' => blk_setB_other (Ne.symm hb')⟩
  refine .inr ⟨b, cap, _, T, by simpa using hv, blk_setB_same hb, by simpa using hc, by simpa using hs, rfl, fun k y hy j hj => ?_⟩
  rw [splice_get _ _ _ _ (by omega), hl]
  by_cases hki : k = i
  · subst hki
    rw [if_pos (by omega)]
    simp [hi] at hy; subst hy
    congr 1; omega
  · rw [List.getElem?_set_ne (Ne.symm hki)] at hy
    rw [if_neg, hel k y hy j hj]
    rintro ⟨h3, h4⟩
    rcases Nat.lt_or_ge k i with hk | hk
    · have : (k + 1) * sz ≤ i * sz := Nat.mul_le_mul_right _ (by omega)
      rw [Nat.succ_mul] at this; omega
    · have : (i + 1) * sz ≤ k * sz := Nat.mul_le_mul_right _ (by omega)
      rw [Nat.succ_mul] at this; omega
theorem Slc.set1 (h : Slc enc sz w v xs [b]) {i j : Nat} {x y : α} {u : Value} (hx : xs[i]? = some x) (hj : j < sz) (hy : ∀ m, m < sz → (enc y)[m]? = if m = j then some u else (enc x)[m]?)
    (hu : u.cells = #[u]) (h1 : u.oneCell' = true) :
    ∃ w', storev 1 w (.pointer (some ⟨b, i * sz + j, none⟩)) u = some w' ∧ Slc enc sz w' v (xs.set i y) [b] ∧ Fr [b] w w' ∧ ∀ b', b' ≠ b → blk w' b' = blk w b' := by
  obtain ⟨cap, c, T, hv, hb, hc, hs, hel⟩ := h.cells rfl
  have hi : i < xs.length := (List.getElem?_eq_some_iff.1 hx).1
  have hlt : i * sz + j < c.size := by rw [hs]; exact idx_lt hi hc hj
  refine ⟨_, storev1_blk hb hlt hu h1, ?_, Fr.setB (.inl (by simp)) _, fun b' hb' => blk_setB_other (Ne.symm hb')⟩
  refine .inr ⟨b, cap, _, T, by simpa using hv, blk_setB_same hb, by simpa using hc, by simpa using hs, rfl, fun k z hz m hm => ?_⟩
  rw [Array.getElem?_setIfInBounds]
  by_cases hki : k = i
  · subst hki
    simp [hi] at hz; subst hz
    rw [hy m hm]
    by_cases hmj : m = j
    · subst hmj; simp [hlt]
    · rw [if_neg (by omega), if_neg hmj]
      exact hel k x hx m hm
  · rw [List.getElem?_set_ne (Ne.symm hki)] at hz
    rw [if_neg, hel k z hz m hm]
    intro e
    rcases Nat.lt_or_ge k i with hk | hk
    · have : (k + 1) * sz ≤ i * sz := Nat.mul_le_mul_right _ (by omega)
      rw [Nat.succ_mul] at this; omega
    · have : (i + 1) * sz ≤ k * sz := Nat.mul_le_mul_right _ (by omega)
      rw [Nat.succ_mul] at this; omega
end
def Arr {α : Type} (enc : α → List Value) (sz : Nat) (w : World) (v : Value) (xs : List α) : Prop :=
  ∃ a cap, v = .slice a xs.length cap ∧ (xs = [] ∨ ∃ b o c T fz, a = some ⟨b, o, none⟩ ∧ blk w b = some (.cells c T fz) ∧
    ∀ i x, xs[i]? = some x → o + i * sz + sz ≤ c.size ∧ ∀ j, j < sz → c[o + i * sz + j]? = (enc x)[j]?)
section
variable {α : Type} {enc : α → List Value} {sz : Nat} {w w' : World} {v : Value} {xs : List α}
theorem Arr.fr (h : Arr enc sz w v xs) {F : List Nat} (hf : Fr F w w') (hF : ∀ b ∈ F, hsz w ≤ b) : Arr enc sz w' v xs := by
  obtain ⟨a, cap, rfl, h⟩ := h
  refine ⟨a, cap, rfl, ?_⟩
  rcases h with h | ⟨b, o, c, T, fz, h1, h2, h3⟩
  · exact .inl h
  · refine .inr ⟨b, o, c, T, fz, h1, hf.some (fun hb => ?_) h2, h3⟩
    have := blk_lt h2; have := hF b hb; omega
theorem Arr.len (h : Arr enc sz w v xs) : lenl v = some (.int .i64 xs.length) := by
  obtain ⟨a, cap, rfl, _⟩ := h; rfl
theorem Arr.at (h : Arr enc sz w v xs) {i : Nat} {x : α} (hx : xs[i]? = some x) (he : (enc x).length = sz) (k : IntKind) :
    ∃ p, Den.iaddr sz v (.int k (i : Int)) = some p ∧ Den.loadn sz w p = some (.agg (enc x).toArray) ∧ (∀ j, j < sz → ∃ q, faddr j p = some q ∧ Den.load1 w q = (enc x)[j]?) := by
  obtain ⟨a, cap, rfl, h⟩ := h
  have hi : i < xs.length := (List.getElem?_eq_some_iff.1 hx).1
  rcases h with rfl | ⟨b, o, c, T, fz, rfl, h2, h3⟩
  · simp at hi
  · obtain ⟨h4, h5⟩ := h3 i x hx
    refine ⟨.pointer (some ⟨b, o + i * sz, none⟩), by simp [Den.iaddr, hi, add_none], ?_, fun j hj => ⟨_, faddr_ptr _ _ _, ?_⟩⟩
    · rw [loadn_blk h2 h4]
      have : (c.toList.drop (o + i * sz)).take sz = enc x := by
        apply List.ext_getElem?
        intro j
        rw [List.getElem?_take]
        split
        · rename_i hj
          rw [List.getElem?_drop]
          simpa using h5 j hj
        · rename_i hj
          exact (List.getElem?_eq_none (by omega)).symm
      rw [this]
    · rw [load1_blk h2]; exact h5 j hj
end
theorem box_step {T n : Nat} {w : World} {zs vs : List Value} {k : Value → World → Prop} (hz : zs.length = n) (hv : vs.length = n) (h1 : ∀ u ∈ vs, u.oneCell' = true) (hn : vs ≠ [])
    (h : ∀ w', blk w' (hsz w) = some (.cells vs.toArray T (0, 0)) → Fr [] w w' → hsz w' = hsz w + 1 → k (.pointer (some ⟨hsz w, 0, none⟩)) w') :
    NEW (newv T w (.agg zs.toArray)) fun o w4 => BND (storev n w4 o (.agg vs.toArray)) fun w5 => k o w5 := by
  refine NEW_intro fun w4 b4 f4 z4 => ?_
  refine BND_step (storevn_blk (o := 0) b4 hv (by simp; omega) h1 hn) ?_
  have he : splice zs.toArray 0 vs = vs.toArray := splice_all _ _ (by simp; omega)
  simp only [cells_agg]
  rw [he]
  exact h _ (blk_setB_same b4) (f4.trans (Fr.setB (F := [hsz w]) (.inl (by simp)) _) (by simp)) (by simp [z4])
section
variable {α : Type} {enc : α → List Value} {sz : Nat} {w w' : World} {v : Value} {xs ys : List α} {F G : List Nat} {b : Nat}
def flat (enc : α → List Value) (xs : List α) : List Value := xs.flatMap enc
theorem flat_len (hl : ∀ x, (enc x).length = sz) : ∀ xs : List α, (flat enc xs).length = xs.length * sz
  | [] => by simp [flat]
  | x :: xs => by
    have := flat_len hl xs
    simp only [flat, List.flatMap_cons, List.length_append, hl, List.length_cons] at *
    rw [this, Nat.succ_mul]; omega
theorem flat_get (hl : ∀ x, (enc x).length = sz) : ∀ (xs : List α) (i : Nat) (x : α) (j : Nat), xs[i]? = some x → j < sz → (flat enc xs)[i * sz + j]? = (enc x)[j]?
  | [], i, x, j, h, _ => by simp at h
  | y :: ys, 0, x, j, h, hj => by
    simp at h; subst h
    simp only [flat, List.flatMap_cons, Nat.zero_mul, Nat.zero_add]
    rw [List.getElem?_append_left (by rw [hl]; exact hj)]
  | y :: ys, i + 1, x, j, h, hj => by
    have := flat_get hl ys i x j (by simpa using h) hj
    simp only [flat, List.flatMap_cons] at *
    rw [List.getElem?_append_right (by rw [hl, Nat.succ_mul]; omega), hl, ← this]
    congr 1
    rw [Nat.succ_mul]; omega
theorem flat_one (hl1 : ∀ x, ∀ u ∈ enc x, u.oneCell' = true) (xs : List α) : ∀ u ∈ flat enc xs, u.oneCell' = true := by
  intro u hu
  obtain ⟨x, _, hx⟩ := List.mem_flatMap.1 hu
  exact hl1 x u hx
theorem app_get (A B : List Value) (C : Array Value) {n : Nat} (h : n < (A ++ B).length) : (A.toArray ++ B.toArray ++ C)[n]? = (A ++ B)[n]? := by
  have e : A.toArray ++ B.toArray = (A ++ B).toArray := by simp
  rw [e, Array.getElem?_append_left (by simpa using h)]
  simp
theorem flat_append (xs ys : List α) : flat enc (xs ++ ys) = flat enc xs ++ flat enc ys := by simp [flat]
theorem Slc.loads (h : Slc enc sz w v xs F) (hl : ∀ x, (enc x).length = sz) : cellsOfArg w sz v = some (flat enc xs, xs.length) := by
  rcases h with ⟨rfl, rfl, _⟩ | ⟨b, cap, c, T, rfl, hb, hc, hs, rfl, hel⟩
  · rfl
  · have hle : 0 + 0 + xs.length * sz ≤ c.size := by rw [hs]; simpa using Nat.mul_le_mul_right sz hc
    simp only [cellsOfArg, loads_blk hb _ 0 hle, Option.map_some]
    congr 2
    apply List.ext_getElem?
    intro m
    rw [List.getElem?_take]
    split
    · rename_i hm
      have hz : 0 < sz := by rcases Nat.eq_zero_or_pos sz with h0 | h0; simp [h0] at hm; exact h0
      have hi : m / sz < xs.length := Nat.div_lt_of_lt_mul (by rwa [Nat.mul_comm] at hm)
      have h1 := hel (m / sz) xs[m / sz] (List.getElem?_eq_getElem hi) (m % sz) (Nat.mod_lt _ hz)
      have h2 := flat_get hl xs (m / sz) xs[m / sz] (m % sz) (List.getElem?_eq_getElem hi) (Nat.mod_lt _ hz)
      rw [Nat.mul_comm, Nat.div_add_mod] at h1 h2
      simp [h1, h2]
    · rename_i hm
      exact (List.getElem?_eq_none (by rw [flat_len hl]; omega)).symm
theorem APPEND_slc {E bytes : Nat} {zero u : Value} {k : Value → World → Prop} (hv : Slc enc sz w v xs F) (hu : cellsOfArg w sz u = some (flat enc ys, ys.length)) (hl : ∀ x, (enc x).length = sz)
    (hl1 : ∀ x, ∀ u ∈ enc x, u.oneCell' = true) (hz : zero.cells.size = sz) (hb : (xs.length + ys.length) * bytes ≤ 140737488355328) (hmax : xs.length + ys.length ≤ 9223372036854775807)
    (hk : ∀ v' w' F', Slc enc sz w' v' (xs ++ ys) F' → Fr F w w' → (∀ b ∈ F', b ∈ F ∨ hsz w ≤ b) → k v' w') : APPEND E sz bytes zero v u w k := by
  refine ⟨?_⟩
  have hlo := hv.loads hl
  unfold APPENDS
  rcases hv with ⟨rfl, rfl, rfl⟩ | ⟨b, cap, c, T, rfl, hb', hc, hs, rfl, hel⟩
  · simp only [hu]
    split
    · rename_i h0
      have hy : ys = [] := by cases ys with
        | nil => rfl
        | cons y ys => simp at h0
      subst hy
      exact hk _ _ [] (.inl ⟨rfl, rfl, rfl⟩) (Fr.refl _ _) (by simp)
    · rename_i h0
      refine ⟨?_, ?_, ?_⟩
      · simp at hmax ⊢
        have : (IntKind.i64.max : Int) = 9223372036854775807 := by decide
        omega
      · simp only [Nat.zero_add]
        exact growslice_fits (by omega) (by simpa using hb)
      · rw [hlo]
        simp only [BND_some]
        intro cp w' hcp hh hrest
        have hsz' : hsz w' = hsz w := by unfold hsz; rw [hh]
        have heq : w'.heap = w.heap := hh
        refine hk _ _ [hsz w] (.inr ⟨hsz w, cp, _, E, by simp, by rw [← hsz']; exact blk_alloc_new _ _, by simpa using hcp, ?_, rfl, ?_⟩) ⟨by simp [hsz'], fun b hb1 _ => ?_, hrest.1, hrest.2.1, hrest.2.2⟩ (by simp)
        · simp only [Array.size_append, List.size_toArray, flat_len hl, Builtin.zeroCells, Array.size_map, Array.size_range, hz, List.length_nil, Nat.zero_mul, Nat.zero_add]
          rw [← Nat.add_mul]
          congr 1; simp at hcp; omega
        · intro i x hx j hj
          have h3 := flat_get hl ([] ++ ys) i x j hx hj
          have h4 := flat_len (enc := enc) hl ([] ++ ys)
          have hi : i < ([] ++ ys).length := (List.getElem?_eq_some_iff.1 hx).1
          have h5 : i * sz + j < (flat enc ([] ++ ys)).length := by rw [h4]; exact idx_lt hi (Nat.le_refl _) hj
          rw [← h3]
          rw [flat_append] at h5 ⊢
          exact app_get _ _ _ h5
        · rw [blk_alloc_old (by omega), heap_ext heq]
  · simp only [hu]
    split
    · rename_i hle
      have hbnd : xs.length * sz + (ys.length * sz) ≤ c.size := by
        rw [hs, ← Nat.add_mul]; exact Nat.mul_le_mul_right _ hle
      have hadd : (⟨b, 0, none⟩ : Addr).add (xs.length * sz) = ⟨b, xs.length * sz, none⟩ := by rw [add_none, Nat.zero_add]
      rw [hadd]
      by_cases hy : flat enc ys = []
      · have hys : ys.length * sz = 0 := by rw [← flat_len hl, hy]; rfl
        rw [hy]
        simp only [stores, BND_some]
        refine hk _ _ [b] (.inr ⟨b, cap, c, T, by simp, hb', by simpa using hle, hs, rfl, fun i x hx j hj => ?_⟩) (Fr.refl _ _) (fun _ h => .inl h)
        have hj0 : 0 < sz := by omega
        have : ys = [] := by
          cases ys with
          | nil => rfl
          | cons y ys => simp [Nat.succ_mul] at hys; omega
        subst this
        exact hel i x (by simpa using hx) j hj
      · rw [stores_blk (flat enc ys) 0 w c hb' (flat_one hl1 ys) (by rw [flat_len hl]; omega) hy]
        simp only [BND_some]
        refine hk _ _ [b] (.inr ⟨b, cap, _, T, by simp, blk_setB_same hb', by simpa using hle, by simpa using hs, rfl, fun i x hx j hj => ?_⟩) (Fr.setB (.inl (by simp)) _) (fun _ h => .inl h)
        rw [Nat.add_zero, splice_get _ _ _ _ (by rw [flat_len hl]; omega), flat_len hl]
        by_cases hi : i < xs.length
        · rw [List.getElem?_append_left hi] at hx
          have := idx_lt hi (Nat.le_refl _) hj
          rw [if_neg (by omega)]
          exact hel i x hx j hj
        · rw [List.getElem?_append_right (by omega)] at hx
          have hi2 : i - xs.length < ys.length := (List.getElem?_eq_some_iff.1 hx).1
          have h5 := idx_lt hi2 (Nat.le_refl _) hj
          have h6 : i * sz + j = xs.length * sz + ((i - xs.length) * sz + j) := by
            have : i = xs.length + (i - xs.length) := by omega
            rw [← Nat.add_assoc, ← Nat.add_mul, ← this]
          rw [if_pos (by omega), h6, Nat.add_sub_cancel_left]
          exact flat_get hl ys _ x j hx hj
    · rename_i hle
      refine ⟨?_, ?_, ?_⟩
      · have : (IntKind.i64.max : Int) = 9223372036854775807 := by decide
        omega
      · exact growslice_fits (by omega) hb
      · rw [hlo]
        simp only [BND_some]
        intro cp w' hcp hh hrest
        have hsz' : hsz w' = hsz w := by unfold hsz; rw [hh]
        have heq : w'.heap = w.heap := hh
        refine hk _ _ [hsz w] (.inr ⟨hsz w, cp, _, E, by simp, by rw [← hsz']; exact blk_alloc_new _ _, by simpa using hcp, ?_, rfl, ?_⟩) ⟨by simp [hsz'], fun b hb1 _ => ?_, hrest.1, hrest.2.1, hrest.2.2⟩ (by simp)
        · simp only [Array.size_append, List.size_toArray, flat_len hl, Builtin.zeroCells, Array.size_map, Array.size_range, hz]
          rw [← Nat.add_mul, ← Nat.add_mul]
          congr 1; omega
        · intro i x hx j hj
          have h3 := flat_get hl (xs ++ ys) i x j hx hj
          have h4 := flat_len (enc := enc) hl (xs ++ ys)
          have hi : i < (xs ++ ys).length := (List.getElem?_eq_some_iff.1 hx).1
          have h5 : i * sz + j < (flat enc (xs ++ ys)).length := by rw [h4]; exact idx_lt hi (Nat.le_refl _) hj
          rw [← h3]
          rw [flat_append] at h5 ⊢
          exact app_get _ _ _ h5
        · rw [blk_alloc_old (by omega), heap_ext heq]
theorem Slc.take (h : Slc enc sz w v xs F) {n : Nat} (hn : n ≤ xs.length) (hpos : 0 < xs.length) (k : IntKind) : ∃ v', slicev sz v none (some (.int k (n : Int))) = some v' ∧ Slc enc sz w v' (xs.take n) F := by
  rcases h with ⟨_, rfl, _⟩ | ⟨b, cap, c, T, rfl, hb, hc, hs, rfl, hel⟩
  · simp at hpos
  · have h1 : n ≤ cap := by omega
    refine ⟨.slice (some ⟨b, 0, none⟩) n cap, ?_, .inr ⟨b, cap, c, T, by simp [Nat.min_eq_left hn], hb, by simp; omega, hs, rfl, fun i x hx j hj => ?_⟩⟩
    · simp [slicev, natOf, h1, Addr.add]
    · rw [List.getElem?_take] at hx
      split at hx
      · exact hel i x hx j hj
      · simp at hx
end
structure KeyOk {κ : Type} (kd : TypeDesc) (enc : κ → Value) [DecidableEq κ] : Prop where
  same : ∀ a b, Instr.sameNow kd (enc a) (enc b) = some (decide (a = b))
  bits : ∀ a, Instr.sameBits 10000 (enc a) (enc a) = true
theorem keyInt (k : IntKind) : KeyOk (.int k) (fun n : Int => Value.int k n) :=
  ⟨fun a b => by simp [Instr.sameNow, beq_dec], fun a => by simp [Instr.sameBits]⟩
theorem ba_beq (a b : ByteArray) : (a == b) = decide (a = b) := by
  have h : (a == b) = (a.data == b.data) := rfl
  rw [h]
  by_cases hab : a = b
  · subst hab; simp
  · have : a.data ≠ b.data := fun e => hab (ByteArray.ext e)
    simp [hab, this]
theorem keyStr : KeyOk .string (fun s : ByteArray => Value.string s) :=
  ⟨fun a b => by simp [Instr.sameNow, ba_beq], fun a => by simp [Instr.sameBits, ba_beq]⟩
structure MapL {κ : Type} (enc : κ → Value) (es : Array MapEntry) (L : List (κ × Value)) : Prop where
  ents : es.toList.map (fun e => (e.key, e.val)) = L.map fun p => (enc p.1, p.2)
  once : (L.map (·.1)).Nodup
section
variable {κ : Type} [DecidableEq κ] {enc : κ → Value} {kd : TypeDesc} {es : Array MapEntry} {L : List (κ × Value)}
def findL : List (κ × Value) → κ → Nat → Option (Nat × Value)
  | [], _, _ => none
  | (k', v) :: r, k, i => if k = k' then some (i, v) else findL r k (i + 1)
def lk (L : List (κ × Value)) (k : κ) : Option Value := (findL L k 0).map (·.2)
def insL : List (κ × Value) → κ → Value → List (κ × Value)
  | [], k, v => [(k, v)]
  | (k', v') :: r, k, v => if k = k' then (k, v) :: r else (k', v') :: insL r k v
def delL : List (κ × Value) → κ → List (κ × Value)
  | [], _ => []
  | (k', v') :: r, k => if k = k' then r else (k', v') :: delL r k
theorem findNow_L (hk : KeyOk kd enc) (k : κ) : ∀ (es : List MapEntry) (L : List (κ × Value)) (i : Nat), es.map (fun e => (e.key, e.val)) = L.map (fun p => (enc p.1, p.2)) →
    Instr.findNow kd (enc k) es i = some (findL L k i)
  | [], L, i, h => by
    have : L = [] := by simpa using h.symm
    subst this; rfl
  | e :: es, L, i, h => by
    cases L with
    | nil => simp at h
    | cons p L =>
      obtain ⟨k', v'⟩ := p
      simp only [List.map_cons, List.cons.injEq, Prod.mk.injEq] at h
      obtain ⟨⟨h1, h2⟩, h3⟩ := h
      simp only [Instr.findNow, h1, hk.same, findL]
      by_cases hkk : k = k'
      · simp [hkk, h2]
      · simp [hkk, findNow_L hk k es L (i + 1) h3]
theorem mfind_L (hk : KeyOk kd enc) (h : MapL enc es L) (k : κ) : mfind kd (enc k) es = some (findL L k 0) := findNow_L hk k _ _ _ h.ents
theorem findL_some {k : κ} {v : Value} {j : Nat} : ∀ {L : List (κ × Value)} {s : Nat}, findL L k s = some (j, v) → ∃ i, j = s + i ∧ L[i]? = some (k, v) ∧ (∀ u, insL L k u = L.set i (k, u)) ∧ delL L k = L.eraseIdx i
  | [], s, h => by simp [findL] at h
  | (k', v') :: L, s, h => by
    simp only [findL] at h
    by_cases hkk : k = k'
    · simp [hkk] at h
      obtain ⟨rfl, rfl⟩ := h
      exact ⟨0, by simp [hkk, insL, delL]⟩
    · rw [if_neg hkk] at h
      obtain ⟨i, h1, h2, h3, h4⟩ := findL_some h
      refine ⟨i + 1, by omega, by simpa using h2, fun u => by simp [insL, hkk, h3], by simp [delL, hkk, h4]⟩
theorem findL_none {k : κ} : ∀ {L : List (κ × Value)} {s : Nat}, findL L k s = none → k ∉ L.map (·.1) ∧ (∀ u, insL L k u = L ++ [(k, u)]) ∧ delL L k = L
  | [], s, _ => by simp [insL, delL]
  | (k', v') :: L, s, h => by
    simp only [findL] at h
    by_cases hkk : k = k'
    · simp [hkk] at h
    · rw [if_neg hkk] at h
      obtain ⟨h1, h2, h3⟩ := findL_none h
      refine ⟨?_, fun u => by simp [insL, hkk, h2], by simp [delL, hkk, h3]⟩
      simp only [List.map_cons, List.mem_cons, not_or]
      exact ⟨hkk, h1⟩
theorem lk_cons (k' : κ) (v' : Value) (L : List (κ × Value)) (k : κ) : lk ((k', v') :: L) k = if k = k' then some v' else lk L k := by
  have hsh : ∀ (L : List (κ × Value)) s t, (findL L k s).map (·.2) = (findL L k t).map (·.2) := by
    intro L
    induction L with
    | nil => intro s t; rfl
    | cons p L ih =>
      intro s t
      obtain ⟨a, b⟩ := p
      simp only [findL]
      split
      · rfl
      · exact ih _ _
  simp only [lk, findL]
  split
  · rfl
  · exact hsh L _ _
theorem lk_nil (k : κ) : lk ([] : List (κ × Value)) k = none := rfl
theorem lk_ins (L : List (κ × Value)) (k k2 : κ) (v : Value) : lk (insL L k v) k2 = if k2 = k then some v else lk L k2 := by
  induction L with
  | nil => simp only [insL, lk_cons, lk_nil]
  | cons p L ih =>
    obtain ⟨a, b⟩ := p
    simp only [insL]
    by_cases h : k = a
    · subst h
      simp only [if_true, lk_cons]
      split <;> rfl
    · rw [if_neg h, lk_cons, lk_cons, ih]
      by_cases h2 : k2 = a
      · subst h2
        rw [if_pos rfl, if_pos rfl, if_neg (fun e => h e.symm)]
      · rw [if_neg h2, if_neg h2]
theorem lk_mem {L : List (κ × Value)} {k : κ} : (lk L k).isSome ↔ k ∈ L.map (·.1) := by
  induction L with
  | nil => simp [lk_nil]
  | cons p L ih =>
    obtain ⟨a, b⟩ := p
    rw [lk_cons]
    by_cases h : k = a
    · simp [h]
    · rw [if_neg h, ih]; simp [h]
theorem lk_del {L : List (κ × Value)} (hn : (L.map (·.1)).Nodup) (k k2 : κ) : lk (delL L k) k2 = if k2 = k then none else lk L k2 := by
  induction L with
  | nil => simp [delL, lk_nil]
  | cons p L ih =>
    obtain ⟨a, b⟩ := p
    simp only [List.map_cons, List.nodup_cons] at hn
    simp only [delL]
    by_cases h : k = a
    · subst h
      rw [if_pos rfl, lk_cons]
      by_cases h2 : k2 = k
      · subst h2
        rw [if_pos rfl]
        have : ¬ (lk L k2).isSome := fun hh => hn.1 (lk_mem.1 hh)
        cases hl : lk L k2 with
        | none => rfl
        | some x => rw [hl] at this; simp at this
      · rw [if_neg h2, if_neg h2]
    · rw [if_neg h, lk_cons, lk_cons, ih hn.2]
      by_cases h2 : k2 = a
      · subst h2
        rw [if_pos rfl, if_pos rfl, if_neg (fun e => h e.symm)]
      · rw [if_neg h2, if_neg h2]
theorem keys_ins (L : List (κ × Value)) (k : κ) (v : Value) : (insL L k v).map (·.1) = if k ∈ L.map (·.1) then L.map (·.1) else L.map (·.1) ++ [k] := by
  induction L with
  | nil => simp [insL]
  | cons p L ih =>
    obtain ⟨a, b⟩ := p
    simp only [insL]
    by_cases h : k = a
    · simp [h]
    · rw [if_neg h]
      simp only [List.map_cons, List.mem_cons, h, false_or, ih]
      split <;> simp
theorem keys_del (L : List (κ × Value)) (k : κ) : (delL L k).map (·.1) = (L.map (·.1)).erase k := by
  induction L with
  | nil => simp [delL]
  | cons p L ih =>
    obtain ⟨a, b⟩ := p
    simp only [delL]
    by_cases h : k = a
    · subst h; simp
    · rw [if_neg h]
      simp only [List.map_cons, ih]
      rw [List.erase_cons_tail]
      simpa using fun e => h e.symm
theorem once_ins {L : List (κ × Value)} (h : (L.map (·.1)).Nodup) (k : κ) (v : Value) : ((insL L k v).map (·.1)).Nodup := by
  rw [keys_ins]
  split
  · exact h
  · rename_i hn
    rw [List.nodup_append]
    exact ⟨h, by simp, fun a ha b hb => by simp at hb; subst hb; exact fun e => hn (e ▸ ha)⟩
theorem once_del {L : List (κ × Value)} (h : (L.map (·.1)).Nodup) (k : κ) : ((delL L k).map (·.1)).Nodup := by
  rw [keys_del]; exact h.erase k
omit [DecidableEq κ] in
theorem MapL.size (h : MapL enc es L) : es.size = L.length := by
  have := congrArg List.length h.ents
  simpa using this
theorem mapOf_blk {w : World} {b : Nat} {ck : Nat} (h : blk w b = some (.map es ck)) : mapOf w (.map (some b)) = some es := by
  have h' : w.heap[b]? = some (.map es ck) := h
  simp [mapOf, h']
theorem lookv_L (hk : KeyOk kd enc) {w : World} {b ck : Nat} (hb : blk w b = some (.map es ck)) (h : MapL enc es L) (zero : Value) (k : κ) :
    lookv kd zero true w (.map (some b)) (enc k) = some (.tuple #[(lk L k).getD zero, .bool (lk L k).isSome]) := by
  unfold lookv
  rw [mapOf_blk hb]
  simp only [mfind_L hk h, lk]
  cases hf : findL L k 0 with
  | none => simp
  | some p => obtain ⟨i, v⟩ := p; simp
theorem lookv_L1 (hk : KeyOk kd enc) {w : World} {b ck : Nat} (hb : blk w b = some (.map es ck)) (h : MapL enc es L) (zero : Value) (k : κ) :
    lookv kd zero false w (.map (some b)) (enc k) = some ((lk L k).getD zero) := by
  unfold lookv
  rw [mapOf_blk hb]
  simp only [mfind_L hk h, lk]
  cases hf : findL L k 0 with
  | none => simp
  | some p => obtain ⟨i, v⟩ := p; simp
omit [DecidableEq κ] in
theorem mlenv_L {w : World} {b ck : Nat} (hb : blk w b = some (.map es ck)) (h : MapL enc es L) : mlenv w (.map (some b)) = some (.int .i64 L.length) := by
  simp [mlenv, mapOf_blk hb, h.size]
theorem mupd_L (hk : KeyOk kd enc) {w : World} {b ck : Nat} (hb : blk w b = some (.map es ck)) (h : MapL enc es L) (k : κ) (v : Value) :
    ∃ es' ck', mupd kd w (.map (some b)) (enc k) v = some (setB w b (.map es' ck')) ∧ MapL enc es' (insL L k v) := by
  have h' : w.heap[b]? = some (.map es ck) := hb
  unfold mupd
  simp only [h', mfind_L hk h]
  cases hf : findL L k 0 with
  | none =>
    obtain ⟨h1, h2, _⟩ := findL_none hf
    refine ⟨_, _, rfl, ?_, once_ins h.once k v⟩
    simp [h2, h.ents]
  | some p =>
    obtain ⟨i, u⟩ := p
    obtain ⟨j, hj, h2, h3, _⟩ := findL_some hf
    simp at hj; subst hj
    have hlen : es.size = L.length := h.size
    have hi : i < L.length := (List.getElem?_eq_some_iff.1 h2).1
    have hkey : (((es[i]?).map (·.key)).getD (enc k)) = enc k := by
      have := congrArg (fun l : List (Value × Value) => l[i]?) h.ents
      simp only [List.getElem?_map, h2, Option.map_some, Array.getElem?_toList] at this
      cases he : es[i]? with
      | none => rfl
      | some e => rw [he] at this; simp at this; simp [this.1]
    simp only [hkey, hk.bits, if_true]
    refine ⟨_, _, rfl, ?_, once_ins h.once k v⟩
    rw [h3]
    apply List.ext_getElem?
    intro n
    have := congrArg (fun l : List (Value × Value) => l[n]?) h.ents
    simp only [List.getElem?_map, Array.getElem?_toList] at this
    simp only [List.getElem?_map, Array.getElem?_toList, Array.getElem?_modify, List.getElem?_set]
    by_cases hn : i = n
    · subst hn
      have hes : i < es.size := by omega
      simp [hi, hes]
    · simp [hn, this]
theorem mdel_L (hk : KeyOk kd enc) {w : World} {b ck : Nat} (hb : blk w b = some (.map es ck)) (h : MapL enc es L) (k : κ) :
    ∃ es' ck', mdel kd w (.map (some b)) (enc k) = some (setB w b (.map es' ck')) ∧ MapL enc es' (delL L k) := by
  have h' : w.heap[b]? = some (.map es ck) := hb
  unfold mdel
  simp only [h', mfind_L hk h]
  cases hf : findL L k 0 with
  | none =>
    obtain ⟨h1, _, h2⟩ := findL_none hf
    exact ⟨_, _, rfl, by rw [h2]; exact h.ents, once_del h.once k⟩
  | some p =>
    obtain ⟨i, u⟩ := p
    obtain ⟨j, hj, h2, _, h3⟩ := findL_some hf
    simp at hj; subst hj
    have hi : i < L.length := (List.getElem?_eq_some_iff.1 h2).1
    refine ⟨_, _, rfl, ?_, once_del h.once k⟩
    have hes : i < es.size := by rw [h.size]; exact hi
    rw [h3]
    simp only [Array.eraseIdxIfInBounds, hes, dif_pos, Array.toList_eraseIdx]
    apply List.ext_getElem?
    intro n
    have hh := fun n : Nat => congrArg (fun l : List (Value × Value) => l[n]?) h.ents
    simp only [List.getElem?_map] at hh
    simp only [List.getElem?_map, List.getElem?_eraseIdx]
    split <;> exact hh _
end
end Go.Den
end
section
namespace Go.Den
open Go.ChangeShapes Go.WideShapes Go.ChangeAt Go.RowKit
theorem Fr.below {w w' : World} (h : Fr [] w w') : Below w.heap.size w w' :=
  ⟨h.rest.1, h.rest.2.1, h.rest.2.2, h.grow, fun k hk => h.keep k hk (by simp)⟩
theorem cells?_spec {w : World} {base : Nat} {a : Addr} {n : Nat} {cs : List Value} (h : w.cells? base a n = some cs) : cs.length = n ∧ ∀ j, j < n → w.cell? (a.add j) = cs[j]? := by
  unfold World.cells? at h
  split at h
  · have key : ∀ (n s : Nat) (cs : List Value), (List.range' s n).mapM (fun i => w.cell? (a.add i)) = some cs → cs.length = n ∧ ∀ j, j < n → w.cell? (a.add (s + j)) = cs[j]? := by
      intro n
      induction n with
      | zero => intro s cs h; simp at h; subst h; simp
      | succ n ih =>
        intro s cs h
        rw [List.range'_succ, List.mapM_cons] at h
        cases hc : w.cell? (a.add s) with
        | none => simp [hc] at h
        | some v =>
          cases hr : (List.range' (s + 1) n).mapM (fun i => w.cell? (a.add i)) with
          | none => simp [hc, hr] at h
          | some r =>
            simp [hc, hr] at h
            subst h
            obtain ⟨h1, h2⟩ := ih (s + 1) r hr
            refine ⟨by simp [h1], fun j hj => ?_⟩
            cases j with
            | zero => simpa using hc
            | succ j =>
              have := h2 j (by omega)
              rw [show s + 1 + j = s + (j + 1) by omega] at this
              simpa using this
    rw [List.range_eq_range'] at h
    simpa using key n 0 cs h
  · simp at h
section
variable {α H : Type} {enc : TypeId × Value → H} {P : Program} {w : World} {encS : α → List Value} {OK : α → Prop}
theorem arr_of_trod {t e sz : Nat} {v : Value} {d : DataW H} {ps : List MemPlace} (ht : P.underlying t = some (.slice e)) (hc : P.cellsOf e = sz) (hsz : 0 < sz) (hl : ∀ x, (encS x).length = sz)
    (hdec : ∀ fuel cs y, DataW.trod enc P w 0 (fun _ => true) true fuel e cs = some y → ∃ x, cs = encS x ∧ OK x)
    (h : DataW.Trod enc P w 0 (fun _ => true) true t v d ps) (hv : ∃ a n c, v = .slice a n c) : ∃ xs, Arr encS sz w v xs ∧ ∀ x ∈ xs, OK x := by
  obtain ⟨a, n, c, rfl⟩ := hv
  obtain ⟨fuel, hf⟩ := h
  rcases Deep.open_slice ht hf with ⟨hcs, _⟩ | ⟨x, len, cap, m, k, D, Pl, hcs, _, hle, _, hm, _, hel⟩
  · simp [Value.cells] at hcs
    obtain ⟨rfl, rfl, rfl⟩ := hcs
    exact ⟨[], ⟨none, 0, rfl, .inl rfl⟩, by simp⟩
  · simp [Value.cells] at hcs
    obtain ⟨rfl, rfl, rfl⟩ := hcs
    have hnm : n ≤ m := by rw [hm]; simp; omega
    have hex : ∀ i, i < n → ∃ y : α, OK y ∧ ∀ j, j < sz → w.cell? (x.add (i * sz + j)) = (encS y)[j]? := fun i hi => by
      obtain ⟨cs', h1, h2⟩ := hel i (by omega)
      obtain ⟨y, rfl, hy⟩ := hdec _ _ _ h2
      rw [hc] at h1
      obtain ⟨_, h4⟩ := cells?_spec h1
      refine ⟨y, hy, fun j hj => ?_⟩
      have := h4 j hj
      have hadd : (x.add (i * sz)).add j = x.add (i * sz + j) := by
        unfold Addr.add
        by_cases h0 : i * sz = 0
        · simp [h0]
        · by_cases h1 : j = 0
          · simp [h0, h1]
          · simp [h0, h1, Nat.add_assoc]
      rwa [hadd] at this
    have key : ∀ n', n' ≤ n → ∃ xs : List α, xs.length = n' ∧ (∀ y ∈ xs, OK y) ∧ ∀ i y, xs[i]? = some y → ∀ j, j < sz → w.cell? (x.add (i * sz + j)) = (encS y)[j]? := by
      intro n'
      induction n' with
      | zero => intro _; exact ⟨[], rfl, by simp, by simp⟩
      | succ n' ih =>
        intro hn'
        obtain ⟨xs, h1, h2, h3⟩ := ih (by omega)
        obtain ⟨y, hy, hcell⟩ := hex n' (by omega)
        refine ⟨xs ++ [y], by simp [h1], fun z hz => ?_, fun i z hz j hj => ?_⟩
        · rcases List.mem_append.1 hz with h | h
          · exact h2 z h
          · simp at h; subst h; exact hy
        · by_cases hi : i < xs.length
          · rw [List.getElem?_append_left hi] at hz; exact h3 i z hz j hj
          · rw [List.getElem?_append_right (by omega)] at hz
            have : i = n' := by
              by_cases e : i - xs.length = 0
              · omega
              · simp [e] at hz
            subst this
            simp [h1] at hz; subst hz
            exact hcell j hj
    obtain ⟨xs, h1, h2, h3⟩ := key n (Nat.le_refl _)
    subst h1
    refine ⟨xs, ⟨some x, c, rfl, ?_⟩, h2⟩
    cases xs with
    | nil => exact .inl rfl
    | cons y ys =>
      right
      obtain ⟨b, o, spot⟩ := x
      have h00 := h3 0 y rfl 0 hsz
      rw [Nat.zero_mul, Nat.zero_add] at h00
      have hlen := hl y
      have hsome : ∃ u, w.cell? ⟨b, o, spot⟩ = some u := by
        have : (⟨b, o, spot⟩ : Addr).add 0 = ⟨b, o, spot⟩ := rfl
        rw [this] at h00
        exact ⟨(encS y)[0], by rw [h00, List.getElem?_eq_getElem (by omega)]⟩
      obtain ⟨u, hu⟩ := hsome
      have hspot : spot = none := World.cell?_spot hu
      subst hspot
      have hblk : ∃ c T fz, blk w b = some (.cells c T fz) := by
        unfold World.cell? at hu
        unfold blk
        split at hu
        · exact ⟨_, _, _, by assumption⟩
        · cases hu
      obtain ⟨cc, T, fz, hb⟩ := hblk
      refine ⟨b, o, cc, T, fz, rfl, hb, fun i z hz => ?_⟩
      have hz3 := h3 i z hz
      have hget : ∀ j, j < sz → cc[o + i * sz + j]? = (encS z)[j]? := fun j hj => by
        have := hz3 j hj
        rw [add_none, cell?_blk hb] at this
        rw [Nat.add_assoc]; exact this
      refine ⟨?_, hget⟩
      have h4 := hget (sz - 1) (by omega)
      rw [List.getElem?_eq_getElem (by rw [hl]; omega)] at h4
      have := (Array.getElem?_eq_some_iff.1 h4).1
      omega
theorem trodAll_below {ts : List TypeId} {vs : List Value} {ds : List (DataW H)} {ps : List MemPlace} {w' : World} (hl : laidOutB P = true) (hts : ts.all (fun t => P.readableRec t && decide (t < P.types.size)) = true)
    (h : DataW.TrodAll enc P w 0 (fun _ => true) true ts vs ds ps) (hb : Below w.heap.size w w') : DataW.TrodAll enc P w' 0 (fun b => decide (b < w.heap.size)) true ts vs ds ps := by
  induction ts generalizing vs ds ps with
  | nil =>
    obtain ⟨rfl, rfl, rfl⟩ := trodAll_nil h
    exact trodAll_mk0
  | cons t ts ih =>
    simp only [List.all_cons, Bool.and_eq_true, decide_eq_true_eq] at hts
    obtain ⟨v, vs', d, ds', p, q, rfl, rfl, rfl, h1, h2⟩ := trodAll_cons h
    have lt : ∀ x ∈ p, x.block < w.heap.size := by obtain ⟨m, hm⟩ := h1; exact DataW.trod_lt m _ _ _ hm
    exact trodAll_cons_mk (Below.trod hl hts.1.1 hts.1.2 h1 hb lt) (ih hts.2 h2)
end
end Go.Den
end
section
namespace Go.Proofs.YtpgflmjeedbimaaGreat
theorem ownK : ownKnob Tryz.prog.godebug = none := by kernel_rfl
theorem laidOutK : laidOutB Tryz.prog = true := by kernel_rfl
end Go.Proofs.YtpgflmjeedbimaaGreat
end
section
namespace Go.Den
section
variable {α : Type} {enc : α → List Value} {sz : Nat} {w w' : World} {v : Value} {xs ys : List α} {F G : List Nat} {b : Nat}
theorem flat_drop (hl : ∀ x, (enc x).length = sz) : ∀ (xs : List α) (n : Nat), (flat enc xs).drop (n * sz) = flat enc (xs.drop n)
  | [], n => by simp [flat]
  | x :: xs, 0 => by simp [flat]
  | x :: xs, n + 1 => by
    have ih := flat_drop hl xs n
    simp only [flat, List.flatMap_cons, List.drop_succ_cons] at ih ⊢
    rw [List.drop_append, hl, List.drop_of_length_le (by rw [hl, Nat.succ_mul]; omega), Nat.succ_mul, Nat.add_sub_cancel, ih, List.nil_append]
theorem Slc.row (h : Slc enc sz w v xs F) (hl : ∀ x, (enc x).length = sz) : v = .slice none 0 0 ∧ xs = [] ∨ ∃ b cap c T fz, v = .slice (some ⟨b, 0, none⟩) xs.length cap ∧ blk w b = some (.cells c T fz) ∧ xs.length ≤ cap ∧ c.size = cap * sz ∧
    c.toList.take (xs.length * sz) = flat enc xs := by
  have hlo := h.loads hl
  rcases h with ⟨rfl, rfl, rfl⟩ | ⟨b, cap, c, T, rfl, hb, hc, hs, rfl, hel⟩
  · exact .inl ⟨rfl, rfl⟩
  · refine .inr ⟨b, cap, c, T, _, rfl, hb, hc, hs, ?_⟩
    have hle : 0 + 0 + xs.length * sz ≤ c.size := by rw [hs]; simpa using Nat.mul_le_mul_right sz hc
    simpa [cellsOfArg, loads_blk hb _ 0 hle] using hlo
theorem Slc.from (h : Slc enc sz w v xs F) (hl : ∀ x, (enc x).length = sz) {n : Nat} (hn : n ≤ xs.length) (k : IntKind) :
    ∃ v', slicev sz v (some (.int k (n : Int))) none = some v' ∧ ∀ w', (∀ b ∈ F, blk w' b = blk w b) → cellsOfArg w' sz v' = some (flat enc (xs.drop n), (xs.drop n).length) := by
  have hcg := fun (w' : World) (hw : ∀ b ∈ F, blk w' b = blk w b) => h.congr hw
  rcases h.row hl with ⟨rfl, rfl⟩ | ⟨b, cap, c, T, fz, rfl, hb, hc, hs, _⟩
  · have : n = 0 := by simpa using hn
    subst this
    exact ⟨.slice none 0 0, by simp [slicev, natOf], fun w' _ => by simp [cellsOfArg, flat]⟩
  · refine ⟨.slice (some (if cap = n then ⟨b, 0, none⟩ else ⟨b, n * sz, none⟩)) (xs.length - n) (cap - n), ?_, fun w' hw => ?_⟩
    · simp only [slicev, natOf, Int.toNat_natCast, Int.natCast_nonneg, if_true, hc, hn, and_self]
      by_cases hcn : cap = n
      · simp [hcn]
      · simp [hcn, add_none]
    rcases (hcg w' hw).row hl with ⟨h0, _⟩ | ⟨b', cap', c', T', fz', h0, hb', hc', hs', hr'⟩
    · cases h0
    · cases h0
      have hdr : flat enc (xs.drop n) = (c'.toList.drop (n * sz)).take ((xs.length - n) * sz) := by
        rw [← flat_drop hl, ← hr', List.drop_take, Nat.sub_mul]
      by_cases hcn : cap = n
      · have h0 : xs.length - n = 0 := by omega
        rw [h0] at hdr
        simp only [hcn, if_true, h0]
        rw [hdr]
        simp [cellsOfArg, Den.loads, h0]
      · simp only [hcn, if_false]
        have hle : n * sz + 0 + (xs.length - n) * sz ≤ c'.size := by
          rw [hs', Nat.add_zero, ← Nat.add_mul]; exact Nat.mul_le_mul_right sz (by omega)
        simp only [cellsOfArg, loads_blk hb' _ 0 hle, Option.map_some, Nat.add_zero]
        rw [hdr, List.length_drop]
end
end Go.Den
end
section
namespace Go.Den
section
variable {α : Type} {enc : α → List Value} {sz : Nat} {w w' : World} {v : Value} {xs ys : List α} {F G : List Nat} {b : Nat}
theorem newslice_val (E sz : Nat) (zero : Array Value) (vs : List Value) (y : Value) (hy : y.cells = vs.toArray) (hl : vs.length = sz) (w : World) :
    newslice E zero sz 1 [(0, sz, y)] w = some (.slice (some ⟨hsz w, 0, none⟩) 1 1, w.alloc (.cells vs.toArray E)) := by
  have h := newslice_one E sz zero vs hl w
  unfold newslice fillv at h ⊢
  simp only [hy, cells_agg] at h ⊢
  exact h
theorem newone_step {E : Nat} {zero : Array Value} {y : Value} {x : α} {k : Value → World → Prop} (hl : ∀ x, (enc x).length = sz) (hy : y.cells = (enc x).toArray)
    (h : ∀ t w1, Slc enc sz w1 t [x] [hsz w] → Fr [] w w1 → hsz w1 = hsz w + 1 → k t w1) : BND (newslice E zero sz 1 [(0, sz, y)] w) fun p => NEW p k := by
  refine BND_step (newslice_val E sz zero (enc x) y hy (hl x) w) <| (NEW_pair _ _ _).2 ?_
  refine h _ _ (.inr ⟨hsz w, 1, (enc x).toArray, E, rfl, blk_alloc_new _ _, by simp, by simp [hl], rfl, fun i u hu j hj => ?_⟩) (Fr.alloc _ _ _) (by simp)
  cases i with
  | zero => simp at hu; subst hu; simp
  | succ i => simp at hu
theorem Slc.nil (enc : α → List Value) (sz : Nat) (w : World) : Slc enc sz w (.slice none 0 0) [] [] := .inl ⟨rfl, rfl, rfl⟩
theorem Slc.arr (h : Slc enc sz w v xs F) : Arr enc sz w v xs := by
  rcases h with ⟨rfl, rfl, rfl⟩ | ⟨b, cap, c, T, rfl, hb, hc, hs, rfl, hel⟩
  · exact ⟨none, 0, rfl, .inl rfl⟩
  · refine ⟨some ⟨b, 0, none⟩, cap, rfl, .inr ⟨b, 0, c, T, (0, 0), rfl, hb, fun i x hx => ⟨?_, fun j hj => ?_⟩⟩⟩
    · have hi : i < xs.length := (List.getElem?_eq_some_iff.1 hx).1
      rw [hs, Nat.zero_add]
      have : (i + 1) * sz ≤ cap * sz := Nat.mul_le_mul_right _ (by omega)
      rw [Nat.succ_mul] at this
      exact this
    · rw [Nat.zero_add]; exact hel i x hx j hj
theorem Arr.src (h : Arr enc sz w v xs) (hl : ∀ x, (enc x).length = sz) (hsz : 0 < sz) : cellsOfArg w sz v = some (flat enc xs, xs.length) := by
  obtain ⟨a, cap, rfl, h⟩ := h
  rcases h with rfl | ⟨b, o, c, T, fz, rfl, h2, h3⟩
  · cases a <;> simp [cellsOfArg, flat, Den.loads]
  · by_cases h0 : xs = []
    · subst h0; simp [cellsOfArg, flat, Den.loads]
    have hpos : 0 < xs.length := List.length_pos_iff.2 h0
    have hbound : o + 0 + xs.length * sz ≤ c.size := by
      have hx := List.getElem?_eq_getElem (l := xs) (i := xs.length - 1) (by omega)
      have := (h3 _ _ hx).1
      have e : (xs.length - 1) * sz + sz = xs.length * sz := by
        rw [← Nat.succ_mul]; congr 1; omega
      omega
    simp only [cellsOfArg, loads_blk h2 _ 0 hbound, Option.map_some, Nat.add_zero]
    congr 2
    apply List.ext_getElem?
    intro n
    rw [List.getElem?_take, List.getElem?_drop]
    by_cases hn : n < xs.length * sz
    · rw [if_pos hn]
      have hd : n / sz < xs.length := Nat.div_lt_of_lt_mul (by rw [Nat.mul_comm]; exact hn)
      have hm : n % sz < sz := Nat.mod_lt _ hsz
      have hx := List.getElem?_eq_getElem hd
      have e1 := (h3 _ _ hx).2 _ hm
      have e2 := flat_get hl xs _ _ _ hx hm
      have e3 : n / sz * sz + n % sz = n := by rw [Nat.mul_comm]; exact Nat.div_add_mod n sz
      rw [Nat.add_assoc, e3] at e1
      rw [e3] at e2
      rw [e2, ← e1, Array.getElem?_toList]
    · rw [if_neg hn, List.getElem?_eq_none]
      rw [flat_len hl]; omega
end
structure MapB {κ : Type} (enc : κ → Value) (es : Array MapEntry) (ck : Nat) (L : List (κ × Value)) : Prop where
  l : MapL enc es L
  lt : ∀ x ∈ es.toList, x.born < ck
  nd : (es.toList.map (·.born)).Nodup
section
variable {κ : Type} [DecidableEq κ] {enc : κ → Value} {kd : TypeDesc} {es : Array MapEntry} {ck : Nat} {L : List (κ × Value)}
omit [DecidableEq κ] in
theorem MapB.nil (enc : κ → Value) : MapB enc #[] 0 [] := ⟨⟨rfl, by simp⟩, by simp, by simp⟩
theorem modify_toList {α : Type} (es : Array α) (i : Nat) (f : α → α) : (es.modify i f).toList = es.toList.modify i f := by
  apply List.ext_getElem?
  intro n
  rw [Array.getElem?_toList, Array.getElem?_modify, List.getElem?_modify, Array.getElem?_toList]
  by_cases h : i = n <;> simp [h]
theorem map_modify_same {α β : Type} (g : α → β) (f : α → α) (h : ∀ x, g (f x) = g x) (l : List α) (i : Nat) : (l.modify i f).map g = l.map g := by
  apply List.ext_getElem?
  intro n
  rw [List.getElem?_map, List.getElem?_modify, List.getElem?_map]
  by_cases hn : i = n
  · subst hn; cases l[i]? <;> simp [h]
  · simp [hn]
theorem mem_modify {α : Type} {l : List α} {i : Nat} {f : α → α} {x : α} (h : x ∈ l.modify i f) : x ∈ l ∨ ∃ y ∈ l, x = f y := by
  obtain ⟨n, hn⟩ := List.mem_iff_getElem?.1 h
  rw [List.getElem?_modify] at hn
  cases hl : l[n]? with
  | none => simp [hl] at hn
  | some y =>
    simp [hl] at hn
    have hy := List.mem_of_getElem? hl
    by_cases hi : i = n
    · simp [hi] at hn; exact .inr ⟨y, hy, hn.symm⟩
    · simp [hi] at hn; exact .inl (hn ▸ hy)
theorem mupd_B (hk : KeyOk kd enc) {w : World} {b : Nat} (hb : blk w b = some (.map es ck)) (h : MapB enc es ck L) (k : κ) (v : Value) :
    ∃ es' ck', mupd kd w (.map (some b)) (enc k) v = some (setB w b (.map es' ck')) ∧ MapB enc es' ck' (insL L k v) := by
  have h' : w.heap[b]? = some (.map es ck) := hb
  obtain ⟨es1, ck1, e1, l1⟩ := mupd_L hk hb h.l k v
  have e2 := e1
  unfold mupd at e2
  simp only [h', mfind_L hk h.l] at e2
  have key : ∀ es2 ck2, some ({ w with heap := w.heap.setIfInBounds b (.map es2 ck2) } : World) = some (setB w b (.map es1 ck1)) → es1 = es2 ∧ ck1 = ck2 := by
    intro es2 ck2 e
    have h1 : blk (setB w b (.map es2 ck2)) b = blk (setB w b (.map es1 ck1)) b := congrArg (fun x : World => blk x b) (Option.some.inj e)
    rw [blk_setB_same hb, blk_setB_same hb] at h1
    cases h1
    exact ⟨rfl, rfl⟩
  refine ⟨es1, ck1, e1, l1, ?_, ?_⟩
  all_goals
    cases hf : findL L k 0 with
    | none =>
      simp only [hf] at e2
      obtain ⟨rfl, rfl⟩ := key _ _ e2
      first
        | (intro x hx
           simp at hx
           rcases hx with hx | rfl
           · have := h.lt x (by simpa using hx); omega
           · simp)
        | (simp only [Array.toList_push, List.map_append, List.map_cons, List.map_nil]
           rw [List.nodup_append]
           refine ⟨h.nd, by simp, fun a ha c hc => ?_⟩
           simp at hc
           subst hc
           obtain ⟨x, hx, rfl⟩ := List.mem_map.1 ha
           have := h.lt x hx
           omega)
    | some p =>
      obtain ⟨i, u⟩ := p
      simp only [hf] at e2
      split at e2
      · obtain ⟨rfl, rfl⟩ := key _ _ e2
        rw [modify_toList]
        first
          | (intro x hx
             rcases mem_modify hx with hx | ⟨y, hy, rfl⟩
             · exact h.lt x hx
             · exact h.lt y hy)
          | (rw [map_modify_same (fun x : MapEntry => x.born) _ (by intro x; rfl)]; exact h.nd)
      · cases e2
end
end Go.Den
end
section
namespace Go.Den
theorem put_step {T n b : Nat} {w : World} {zs : Array Value} {vs : List Value} {K : World → Prop} (b1 : blk w b = some (.cells zs T (0, 0))) (hz : zs.size = n) (hv : vs.length = n) (h1 : ∀ u ∈ vs, u.oneCell' = true) (hn : vs ≠ [])
    (h : ∀ w', blk w' b = some (.cells vs.toArray T (0, 0)) → Fr [b] w w' → hsz w' = hsz w → K w') : BND (storev n w (.pointer (some ⟨b, 0, none⟩)) (.agg vs.toArray)) K := by
  refine BND_step (storevn_blk (o := 0) b1 hv (by omega) h1 hn) ?_
  have he : splice zs 0 vs = vs.toArray := splice_all _ _ (by omega)
  rw [he]
  exact h _ (blk_setB_same b1) (Fr.setB (.inl (by simp)) _) (by simp)
theorem loadn_all {T n b : Nat} {w : World} {vs : List Value} {f : Nat × Nat} (h : blk w b = some (.cells vs.toArray T f)) (hn : vs.length = n) : loadn n w (.pointer (some ⟨b, 0, none⟩)) = some (.agg vs.toArray) := by
  rw [loadn_blk h (by simp; omega)]
  subst hn
  simp
theorem splice_take {c : Array Value} {o : Nat} {vs : List Value} (h : o + vs.length ≤ c.size) : (splice c o vs).toList.take (o + vs.length) = c.toList.take o ++ vs := by
  apply List.ext_getElem?
  intro i
  rw [List.getElem?_take]
  have hs : (c.toList.take o).length = o := by simp; omega
  split
  · rename_i hi
    rw [Array.getElem?_toList, splice_get vs c o i h]
    by_cases ho : o ≤ i
    · rw [if_pos ⟨ho, hi⟩, List.getElem?_append_right (by omega), hs]
    · rw [if_neg (by omega), List.getElem?_append_left (by omega), List.getElem?_take, if_pos (by omega), Array.getElem?_toList]
  · rename_i hi
    exact (List.getElem?_eq_none (by simp; omega)).symm
section
variable {α : Type} {enc : α → List Value} {sz : Nat}
def partsAt (sz : Nat) (val : α → Value) : Nat → List α → List (Nat × Nat × Value)
  | _, [] => []
  | k, x :: xs => (k * sz, sz, val x) :: partsAt sz val (k + 1) xs
theorem fillv_parts (hl : ∀ x, (enc x).length = sz) {val : α → Value} (hv : ∀ x, (val x).cells = (enc x).toArray) : ∀ (xs : List α) (k : Nat) (c : Array Value), c.size = (k + xs.length) * sz →
    fillv c (partsAt sz val k xs) = some ((c.toList.take (k * sz) ++ flat enc xs).toArray)
  | [], k, c, h => by
    simp only [partsAt, fillv, flat, List.flatMap_nil, List.append_nil, List.length_nil, Nat.add_zero] at h ⊢
    rw [List.take_of_length_le (by simp; omega)]
  | x :: xs, k, c, h => by
    have hk : (k + (x :: xs).length) * sz = k * sz + sz + xs.length * sz := by
      simp only [List.length_cons]
      rw [show k + (xs.length + 1) = k + 1 + xs.length by omega, Nat.add_mul, Nat.succ_mul]
    rw [hk] at h
    have hs : (val x).cells.size = sz := by rw [hv]; simp [hl]
    have hc1 : ((val x).cells.zipIdx.foldl (fun cs (c, j) => cs.setIfInBounds (k * sz + j) c) c) = splice c (k * sz) (enc x) := by
      rw [hv]
      have := fold_splice (k * sz) (enc x) 0 c
      rw [Nat.add_zero] at this
      rw [← this, ← Array.foldl_toList, Array.toList_zipIdx]
    simp only [partsAt, fillv, hs]
    rw [if_neg (by simp; omega), hc1]
    have hss : (splice c (k * sz) (enc x)).size = c.size := by simp
    rw [fillv_parts hl hv xs (k + 1) _ (by rw [hss, h, Nat.add_mul, Nat.succ_mul])]
    congr 2
    have ht := splice_take (c := c) (o := k * sz) (vs := enc x) (by rw [hl]; omega)
    rw [hl] at ht
    rw [Nat.succ_mul, ht, flat, flat, List.flatMap_cons, List.append_assoc]
theorem newparts_step (hl : ∀ x, (enc x).length = sz) {val : α → Value} (hv : ∀ x, (val x).cells = (enc x).toArray) (xs : List α) {E n : Nat} {zero : Array Value} {ps : List (Nat × Nat × Value)} {w : World} {k : Value → World → Prop} (hn : n = xs.length) (hp : ps = partsAt sz val 0 xs)
    (h : ∀ t w1, Slc enc sz w1 t xs [hsz w] → Fr [] w w1 → hsz w1 = hsz w + 1 → k t w1) : BND (newslice E zero sz n ps w) fun p => NEW p k := by
  subst hn; subst hp
  have he : newslice E zero sz xs.length (partsAt sz val 0 xs) w = some (.slice (some ⟨hsz w, 0, none⟩) xs.length xs.length, w.alloc (.cells (flat enc xs).toArray E)) := by
    unfold newslice
    rw [fillv_parts hl hv xs 0 _ (by simp)]
    simp
  refine BND_step he <| (NEW_pair _ _ _).2 <| h _ _ (.inr ⟨hsz w, xs.length, _, E, rfl, blk_alloc_new _ _, Nat.le_refl _, by simp [flat_len hl], rfl, fun i x hx j hj => ?_⟩) (Fr.alloc _ _ _) (by simp)
  have := flat_get hl xs i x j hx hj
  simpa using this
end
end Go.Den
end
section
namespace Go.Den
theorem BND_cg {α : Type} {o o' : Option α} {k : α → Prop} (h : o = o') : BND o k = BND o' k := by rw [h]
theorem COND_cg {v v' : Value} {t e : Prop} (h : v = v') : COND v t e = COND v' t e := by rw [h]
theorem GEF_cg {c c' : Bool} {f : (Value → World → Prop) → Prop} {w : World} {k : Value → World → Prop} (h : c = c') : GEF c f w k = GEF c' f w k := by rw [h]
theorem load1_at {w : World} {b o : Nat} {c : List Value} {T : Nat} {f : Nat × Nat} {v : Value} (h : blk w b = some (.cells c.toArray T f)) (e : c[o]? = some v) : load1 w (.pointer (some ⟨b, o, none⟩)) = some v := by
  rw [load1_blk h, List.getElem?_toArray, e]
theorem BND_ld {w : World} {b o : Nat} {c : List Value} {T : Nat} {f : Nat × Nat} {v : Value} {k : Value → Prop} (h : blk w b = some (.cells c.toArray T f)) (e : c[o]? = some v) (hk : k v) : BND (load1 w (.pointer (some ⟨b, o, none⟩))) k := ⟨v, load1_at h e, hk⟩
theorem FLT_ld {S : World → Prop} {b o : Nat} {c : List Value} {T : Nat} {f : Nat × Nat} {v : Value} {k : Value → Prop} (h : ∀ w, S w → blk w b = some (.cells c.toArray T f)) (e : c[o]? = some v) (hk : k v) : FLT S (fun w_ => load1 w_ (.pointer (some ⟨b, o, none⟩))) k := ⟨v, fun w hw => load1_at (h w hw) e, hk⟩
theorem BND_part {vs : List Value} {o n : Nat} {k : Value → Prop} (us : List Value) (e : (vs.drop o).take n = us) (hk : k (.agg us.toArray)) : BND (partn (.agg vs.toArray) o n) k := ⟨_, by simp [partn, List.extract_eq_take_drop, e], hk⟩
theorem inc_ {n : Nat} (h : n < 4000000000000000000) : binv .int .add (.int .i64 (n : Int)) (.int .i64 1) = some (.int .i64 ((n + 1 : Nat) : Int)) := by
  rw [binv_add, wrap_i64 (by omega) (by omega)]; congr 2
theorem dec_ {n : Nat} (h0 : 0 < n) (h : n < 4000000000000000000) : binv .int .sub (.int .i64 (n : Int)) (.int .i64 1) = some (.int .i64 ((n - 1 : Nat) : Int)) := by
  rw [binv_sub, wrap_i64 (by omega) (by omega)]; congr 2; omega
theorem BND_inc {n : Nat} {k : Value → Prop} (h : n < 4000000000000000000) (hk : k (.int .i64 ((n + 1 : Nat) : Int))) : BND (binv .int .add (.int .i64 (n : Int)) (.int .i64 1)) k := ⟨_, inc_ h, hk⟩
theorem BND_dec {n : Nat} {k : Value → Prop} (h : 0 < n ∧ n < 4000000000000000000) (hk : k (.int .i64 ((n - 1 : Nat) : Int))) : BND (binv .int .sub (.int .i64 (n : Int)) (.int .i64 1)) k := ⟨_, dec_ h.1 h.2, hk⟩
theorem steq (a b : ByteArray) : binv .str .eql (.string a) (.string b) = some (.bool (decide (a = b))) := by
  show some (Value.bool (a.toList == b.toList)) = _
  by_cases h : a = b
  · subst h; simp
  · have : ¬ a.toList = b.toList := fun e => h (by rw [ByteArray.toList_eq, ByteArray.toList_eq] at e; exact ByteArray.ext (Array.ext' e))
    simp [h, this]
theorem stne (a b : ByteArray) : binv .str .neq (.string a) (.string b) = some (.bool (!decide (a = b))) := by
  have := steq a b
  have h2 : binv .str .neq (.string a) (.string b) = (binv .str .eql (.string a) (.string b)).bind fun v => unv .not v := rfl
  rw [h2, this]; rfl
def spliceL : List Value → Nat → List Value → List Value
  | c, _, [] => c
  | c, o, v :: vs => spliceL (c.set o v) (o + 1) vs
def buildL : List Value → List (Nat × Nat × Value) → Option (List Value)
  | c, [] => some c
  | c, (off, size, v) :: rest => bif Nat.beq v.cells.toList.length size && Nat.ble (off + size) c.length then buildL (spliceL c off v.cells.toList) rest else none
theorem splice_L : ∀ (vs c : List Value) (o : Nat), splice c.toArray o vs = (spliceL c o vs).toArray
  | [], _, _ => rfl
  | v :: vs, c, o => by rw [splice, spliceL, List.setIfInBounds_toArray]; exact splice_L vs _ _
theorem fillv_L : ∀ (ps : List (Nat × Nat × Value)) (c vs : List Value), buildL c ps = some vs → fillv c.toArray ps = some vs.toArray
  | [], c, vs, h => by simp [buildL] at h; subst h; rfl
  | (off, size, v) :: rest, c, vs, h => by
    rw [buildL] at h
    cases hb : (Nat.beq v.cells.toList.length size && Nat.ble (off + size) c.length) with
    | false => rw [hb] at h; cases h
    | true =>
      rw [hb] at h
      simp only [Bool.and_eq_true, Nat.beq_eq, Nat.ble_eq] at hb
      have hs : v.cells.size = size := by simpa using hb.1
      have hf := fold_splice off v.cells.toList 0 c.toArray
      rw [Nat.add_zero, splice_L] at hf
      have hf2 : (v.cells.zipIdx.foldl (fun cs (x : Value × Nat) => cs.setIfInBounds (off + x.2) x.1) c.toArray) = (spliceL c off v.cells.toList).toArray := by
        rw [← hf, ← Array.foldl_toList, Array.toList_zipIdx]
      rw [fillv, if_neg (by simp [hs]; omega)]
      exact (congrArg (fun x => fillv x rest) hf2).trans (fillv_L rest _ _ h)
theorem build_at {zs : List Value} {ps : List (Nat × Nat × Value)} {vs : List Value} (h : buildL zs ps = some vs) : buildv zs.toArray ps = some (.agg vs.toArray) := by
  unfold buildv
  rw [fillv_L ps zs vs h]; rfl
theorem BND_build {zs : List Value} {ps : List (Nat × Nat × Value)} {k : Value → Prop} (vs : List Value) (h : buildL zs ps = some vs) (hk : k (.agg vs.toArray)) : BND (buildv zs.toArray ps) k := ⟨_, build_at h, hk⟩
class Ev (o : Option Value) (v : outParam Value) : Prop where
  h : o = some v
theorem stp {o : Option Value} {v : Value} {k : Value → Prop} [h : Ev o v] (hk : k v) : BND o k := ⟨v, h.h, hk⟩
section
variable {t : TK} {k : IntKind} {a b : Int} {p q : Bool} {x y z : Value} {s u : ByteArray}
instance : Ev (some x) x := ⟨rfl⟩
instance {off b o : Nat} : Ev (faddr off (.pointer (some ⟨b, o, none⟩))) (.pointer (some ⟨b, o + off, none⟩)) := ⟨faddr_ptr _ _ _⟩
instance {c : Addr} : Ev (nilchk (.pointer (some c))) (.pointer (some c)) := ⟨rfl⟩
instance {f : Nat} {c d : Array Value} : Ev (nilchk (.func (.func f) c d)) (.func (.func f) c d) := ⟨rfl⟩
instance : Ev (binv t .lss (.int k a) (.int k b)) (.bool (decide (a < b))) := ⟨binv_lss _ _ _ _⟩
instance : Ev (binv t .leq (.int k a) (.int k b)) (.bool (decide (a ≤ b))) := ⟨binv_leq _ _ _ _⟩
instance : Ev (binv t .gtr (.int k a) (.int k b)) (.bool (decide (b < a))) := ⟨binv_gtr _ _ _ _⟩
instance : Ev (binv t .geq (.int k a) (.int k b)) (.bool (decide (b ≤ a))) := ⟨binv_geq _ _ _ _⟩
instance : Ev (binv t .eql (.int k a) (.int k b)) (.bool (decide (a = b))) := ⟨binv_eql _ _ _ _⟩
instance : Ev (binv t .neq (.int k a) (.int k b)) (.bool (!decide (a = b))) := ⟨binv_neq _ _ _ _⟩
instance : Ev (binv .str .eql (.string s) (.string u)) (.bool (decide (s = u))) := ⟨steq _ _⟩
instance : Ev (binv .str .neq (.string s) (.string u)) (.bool (!decide (s = u))) := ⟨stne _ _⟩
instance : Ev (binv .bool .eql (.bool p) (.bool q)) (.bool (p == q)) := ⟨rfl⟩
instance : Ev (binv .bool .neq (.bool p) (.bool q)) (.bool (p != q)) := ⟨rfl⟩
instance {c : Addr} : Ev (binv .ptr .eql (.pointer (some c)) (.pointer none)) (.bool false) := ⟨rfl⟩
instance {c : Addr} : Ev (binv .ptr .neq (.pointer (some c)) (.pointer none)) (.bool true) := ⟨rfl⟩
instance : Ev (binv .ptr .eql (.pointer none) (.pointer none)) (.bool true) := ⟨rfl⟩
instance : Ev (binv .ptr .neq (.pointer none) (.pointer none)) (.bool false) := ⟨rfl⟩
instance : Ev (lens (.string s)) (.int .i64 s.size) := ⟨rfl⟩
instance {c : Option Addr} {n m : Nat} : Ev (lenl (.slice c n m)) (.int .i64 n) := ⟨rfl⟩
instance : Ev (unv .not (.bool p)) (.bool (!p)) := ⟨rfl⟩
instance : Ev (pickv (.bool true) x y) x := ⟨rfl⟩
instance : Ev (pickv (.bool false) x y) y := ⟨rfl⟩
instance : Ev (extractv (.tuple #[x, y]) 0) x := ⟨rfl⟩
instance : Ev (extractv (.tuple #[x, y]) 1) y := ⟨rfl⟩
instance : Ev (extractv (.tuple #[x, y, z]) 0) x := ⟨rfl⟩
instance : Ev (extractv (.tuple #[x, y, z]) 1) y := ⟨rfl⟩
instance : Ev (extractv (.tuple #[x, y, z]) 2) z := ⟨rfl⟩
end
class Dc (b : Bool) (p : outParam Prop) : Prop where
  h : b = true ↔ p
instance {p : Prop} [Decidable p] : Dc (decide p) p := ⟨by simp⟩
instance {p : Prop} [Decidable p] : Dc (!decide p) (¬ p) := ⟨by simp⟩
theorem cyes {b : Bool} {p : Prop} [d : Dc b p] {t e : Prop} (h : p) (ht : t) : COND (.bool b) t e := .yes (by rw [d.h.2 h]) ht
theorem cno {b : Bool} {p : Prop} [d : Dc b p] {t e : Prop} (h : ¬ p) (he : e) : COND (.bool b) t e := .no (by
  cases hb : b with
  | true => exact absurd (d.h.1 hb) h
  | false => rfl) he
theorem gs1 : (∀ {p : Prop} [Decidable p], p → decide p = true) ∧ (∀ {p : Prop} [Decidable p], ¬ p → decide p = false) := ⟨fun h => decide_eq_true h, fun h => decide_eq_false h⟩
theorem gs2 : isB (.bool true) true = true ∧ isB (.bool true) false = false ∧ isB (.bool false) true = false ∧ isB (.bool false) false = true ∧ (∀ o, grd true o = o) ∧ (∀ o, grd false o = some undef) ∧
    (∀ f w k, GEF true f w k ↔ f k) ∧ (∀ f w k, GEF false f w k ↔ k undef w) ∧ (∀ a b : Value, pickv (.bool true) a b = some a) ∧ (∀ a b : Value, pickv (.bool false) a b = some b) ∧ (∀ t e, COND (.bool true) t e ↔ t) ∧ (∀ t e, COND (.bool false) t e ↔ e) ∧ (∀ c, isB undef c = false) :=
  ⟨rfl, rfl, rfl, rfl, fun _ => rfl, fun _ => rfl, GEF_true, GEF_false, fun _ _ => rfl, fun _ _ => rfl, COND_true, COND_false, fun _ => rfl⟩
theorem loop_up {B : (Value → World → Prop) → (Value → World → Nat) → Value → World → Prop} {w : World} (s n : Nat) (I : Nat → World → Prop) (h0 : I s w) (hs : s ≤ n)
    (h : ∀ i w1, s ≤ i → i ≤ n → I i w1 → ∀ J m, (∀ w', i < n → I (i + 1) w' → J (.int .i64 ((i + 1 : Nat) : Int)) w' ∧ m (.int .i64 ((i + 1 : Nat) : Int)) w' < m (.int .i64 (i : Int)) w1) → B J m (.int .i64 (i : Int)) w1) :
    ∃ (J : Value → World → Prop) (m : Value → World → Nat), J (.int .i64 (s : Int)) w ∧ ∀ (_d : Env) (t : Value) (w1 : World), J t w1 → B J m t w1 := by
  refine ⟨fun t w' => ∃ i : Nat, t = .int .i64 i ∧ s ≤ i ∧ i ≤ n ∧ I i w', fun t _ => match t with | .int _ k => n - k.toNat | _ => 0, ⟨s, rfl, Nat.le_refl _, hs, h0⟩, ?_⟩
  rintro _ _ w1 ⟨i, rfl, h1, h2, h3⟩
  exact h i w1 h1 h2 h3 _ _ fun w' h4 h5 => ⟨⟨i + 1, rfl, by omega, by omega, h5⟩, by simp; omega⟩
theorem join_w {f : (World → Prop) → Prop} {k : World → Prop} (Q : World → Prop) (h : ∀ K, (∀ w', Q w' → K w') → f K) (hk : ∀ w', Q w' → k w') : JOIN f k := h k hk
theorem join_v {f : (Value → World → Prop) → Prop} {k : Value → World → Prop} (Q : Value → World → Prop) (h : ∀ K, (∀ v w', Q v w' → K v w') → f K) (hk : ∀ v w', Q v w' → k v w') : JOIN f k := h k hk
section
variable {α : Type} {enc : α → List Value} {sz : Nat} {w w' : World} {v : Value} {xs : List α} {F : List Nat} {i : Nat} {x : α}
theorem Arr.spot (h : Arr enc sz w v xs) (hx : xs[i]? = some x) (hl : (enc x).length = sz) (k : IntKind) :
    ∃ b o, iaddr sz v (.int k (i : Int)) = some (.pointer (some ⟨b, o, none⟩)) ∧ loadn sz w (.pointer (some ⟨b, o, none⟩)) = some (.agg (enc x).toArray) ∧ b < hsz w ∧
      ∀ {w'}, blk w' b = blk w b → ∀ {j u}, (enc x)[j]? = some u → load1 w' (.pointer (some ⟨b, o + j, none⟩)) = some u := by
  obtain ⟨p, e1, e2, e3⟩ := h.at hx hl k
  obtain ⟨a, cap, rfl, h⟩ := h
  have hi : i < xs.length := (List.getElem?_eq_some_iff.1 hx).1
  rcases h with rfl | ⟨b, o, c, T, fz, rfl, h2, h3⟩
  · simp at hi
  · have ep : p = .pointer (some ⟨b, o + i * sz, none⟩) := by simp [Den.iaddr, hi, add_none] at e1; exact e1.symm
    subst ep
    refine ⟨b, o + i * sz, e1, e2, blk_lt h2, fun hb j u hj => ?_⟩
    rw [load1_blk (hb.trans h2)]
    have hjl : j < sz := by have := (List.getElem?_eq_some_iff.1 hj).1; omega
    rw [(h3 i x hx).2 j hjl, hj]
theorem fstore_step {T TT j : Nat} {fs : List Value} {u : Value} {K : World → Prop} (g : blk w T = some (.cells fs.toArray TT (0, 0))) (hu : u.cells = #[u] ∧ u.oneCell' = true) (hj : j < fs.length)
    (h : ∀ w', blk w' T = some (.cells (fs.set j u).toArray TT (0, 0)) → Fr [T] w w' → hsz w' = hsz w → K w') : BND (storev 1 w (.pointer (some ⟨T, j, none⟩)) u) K := by
  refine BND_step (storev1_blk g (by simpa using hj) hu.1 hu.2) ?_
  refine h _ ?_ (Fr.setB (.inl (by simp)) _) (by simp)
  rw [blk_setB_same g, List.setIfInBounds_toArray]
def Capd (v : Value) : Prop := ∃ a n c, v = .slice a n c ∧ n ≤ c
theorem Slc.capd (h : Slc enc sz w v xs F) : Capd v := by
  rcases h with ⟨rfl, _, _⟩ | ⟨b, cap, c, T, rfl, _, hc, _⟩
  · exact ⟨none, 0, 0, rfl, Nat.le_refl _⟩
  · exact ⟨_, _, _, rfl, hc⟩
end
theorem BND_rw {α : Type} {o o' : Option α} {k : α → Prop} (h : o = o') (hk : BND o' k) : BND o k := h ▸ hk
theorem COND_rw {v v' : Value} {t e : Prop} (h : v = v') (hk : COND v' t e) : COND v t e := h ▸ hk
theorem GEF_rw {c c' : Bool} {f : (Value → World → Prop) → Prop} {w : World} {k : Value → World → Prop} (h : c = c') (hk : GEF c' f w k) : GEF c f w k := h ▸ hk
theorem FLT_rw {S : World → Prop} {f f' : World → Option Value} {k : Value → Prop} (h : ∀ w, f w = f' w) (hk : FLT S f' k) : FLT S f k := by
  obtain rfl : f = f' := funext h
  exact hk
structure Hid (Q : Prop) : Prop where
  h : Q
theorem gg {P Q : Prop} (h : Q) (k : Hid Q → P := by
    intro h_
    first | refine BND_step (by assumption) ?_ | refine BND_ld (by assumption) (by exact rfl) ?_ | refine stp ?_ | (apply BND_inc; omega) | (apply BND_dec; omega) | refine BND_step (rfl : some _ = some _) ?_ | (apply cyes; first | assumption | omega) | (apply cno; first | assumption | omega) | refine (COND_true _ _).2 ?_ | refine (COND_false _ _).2 ?_ | refine FLT_ld (fun _ h_ => h_) (by exact rfl) ?_ | refine (GEF_true _ _ _).2 ?_ | refine (GEF_false _ _ _).2 ?_ | refine BND_rw (by (simp (disch := first | assumption | omega | rfl) only [gs1, gs2, decide_true, decide_false, beq_self_eq_true, Bool.not_true, Bool.not_false]); try rfl) ?_ | refine COND_rw (by (simp (disch := first | assumption | omega | rfl) only [gs1, gs2, decide_true, decide_false, beq_self_eq_true, Bool.not_true, Bool.not_false]); try rfl) ?_ | refine GEF_rw (by (simp (disch := first | assumption | omega | rfl) only [gs1, gs2, decide_true, decide_false, beq_self_eq_true, Bool.not_true, Bool.not_false]); try rfl) ?_ | refine FLT_rw (fun _ => (by (simp (disch := first | assumption | omega | rfl) only [gs1, gs2, decide_true, decide_false, beq_self_eq_true, Bool.not_true, Bool.not_false]); try rfl)) ?_
    repeat (first | refine BND_step (by assumption) ?_ | refine BND_ld (by assumption) (by exact rfl) ?_ | refine stp ?_ | (apply BND_inc; omega) | (apply BND_dec; omega) | refine BND_step (rfl : some _ = some _) ?_ | (apply cyes; first | assumption | omega) | (apply cno; first | assumption | omega) | refine (COND_true _ _).2 ?_ | refine (COND_false _ _).2 ?_ | refine FLT_ld (fun _ h_ => h_) (by exact rfl) ?_ | refine (GEF_true _ _ _).2 ?_ | refine (GEF_false _ _ _).2 ?_ | refine BND_rw (by (simp (disch := first | assumption | omega | rfl) only [gs1, gs2, decide_true, decide_false, beq_self_eq_true, Bool.not_true, Bool.not_false]); try rfl) ?_ | refine COND_rw (by (simp (disch := first | assumption | omega | rfl) only [gs1, gs2, decide_true, decide_false, beq_self_eq_true, Bool.not_true, Bool.not_false]); try rfl) ?_ | refine GEF_rw (by (simp (disch := first | assumption | omega | rfl) only [gs1, gs2, decide_true, decide_false, beq_self_eq_true, Bool.not_true, Bool.not_false]); try rfl) ?_ | refine FLT_rw (fun _ => (by (simp (disch := first | assumption | omega | rfl) only [gs1, gs2, decide_true, decide_false, beq_self_eq_true, Bool.not_true, Bool.not_false]); try rfl)) ?_)
    exact h_.h) : P := k ⟨h⟩
end Go.Den
end
section
namespace Go.Den
open Go.ChangeShapes Go.WideShapes Go.ChangeAt Go.RowKit
section
variable {α H : Type} {enc : TypeId × Value → H} {P : Program} {w : World} {encS : α → List Value} {OK : α → Prop}
theorem trodS3 {base : Nat} {spare : Nat → Bool} {held : Bool} {t : TypeId} {f0 f1 f2 : Field} {fuel : Nat} {cs : List Value} {x : DataW H × List MemPlace} (ht : P.underlying t = some (.struct #[f0, f1, f2])) (h : DataW.trod enc P w base spare held fuel t cs = some x) :
    ∃ y0 y1 y2 n, x.1 = .agg [y0.1, y1.1, y2.1] ∧ cs.length = P.cellsOf t ∧ DataW.trod enc P w base spare held n f0.type ((cs.drop f0.offset).take (P.cellsOf f0.type)) = some y0 ∧
      DataW.trod enc P w base spare held n f1.type ((cs.drop f1.offset).take (P.cellsOf f1.type)) = some y1 ∧
      DataW.trod enc P w base spare held n f2.type ((cs.drop f2.offset).take (P.cellsOf f2.type)) = some y2 := by
  obtain ⟨xs, n, _, rfl, hl, hlen, hf⟩ := DataW.trod_struct ht h
  match xs, hlen with
  | [y0, y1, y2], _ => exact ⟨y0, y1, y2, n, rfl, hl, by simpa using hf 0 f0 rfl, by simpa using hf 1 f1 rfl, by simpa using hf 2 f2 rfl⟩
theorem trodS6 {base : Nat} {spare : Nat → Bool} {held : Bool} {t : TypeId} {f0 f1 f2 f3 f4 f5 : Field} {fuel : Nat} {cs : List Value} {x : DataW H × List MemPlace} (ht : P.underlying t = some (.struct #[f0, f1, f2, f3, f4, f5])) (h : DataW.trod enc P w base spare held fuel t cs = some x) :
    ∃ y0 y1 y2 y3 y4 y5 n, x.1 = .agg [y0.1, y1.1, y2.1, y3.1, y4.1, y5.1] ∧ cs.length = P.cellsOf t ∧ DataW.trod enc P w base spare held n f0.type ((cs.drop f0.offset).take (P.cellsOf f0.type)) = some y0 ∧
      DataW.trod enc P w base spare held n f1.type ((cs.drop f1.offset).take (P.cellsOf f1.type)) = some y1 ∧
      DataW.trod enc P w base spare held n f2.type ((cs.drop f2.offset).take (P.cellsOf f2.type)) = some y2 ∧
      DataW.trod enc P w base spare held n f3.type ((cs.drop f3.offset).take (P.cellsOf f3.type)) = some y3 ∧
      DataW.trod enc P w base spare held n f4.type ((cs.drop f4.offset).take (P.cellsOf f4.type)) = some y4 ∧
      DataW.trod enc P w base spare held n f5.type ((cs.drop f5.offset).take (P.cellsOf f5.type)) = some y5 := by
  obtain ⟨xs, n, _, rfl, hl, hlen, hf⟩ := DataW.trod_struct ht h
  match xs, hlen with
  | [y0, y1, y2, y3, y4, y5], _ => exact ⟨y0, y1, y2, y3, y4, y5, n, rfl, hl, by simpa using hf 0 f0 rfl, by simpa using hf 1 f1 rfl, by simpa using hf 2 f2 rfl, by simpa using hf 3 f3 rfl, by simpa using hf 4 f4 rfl, by simpa using hf 5 f5 rfl⟩
theorem trodS8 {base : Nat} {spare : Nat → Bool} {held : Bool} {t : TypeId} {f0 f1 f2 f3 f4 f5 f6 f7 : Field} {fuel : Nat} {cs : List Value} {x : DataW H × List MemPlace} (ht : P.underlying t = some (.struct #[f0, f1, f2, f3, f4, f5, f6, f7])) (h : DataW.trod enc P w base spare held fuel t cs = some x) :
    ∃ y0 y1 y2 y3 y4 y5 y6 y7 n, x.1 = .agg [y0.1, y1.1, y2.1, y3.1, y4.1, y5.1, y6.1, y7.1] ∧ cs.length = P.cellsOf t ∧ DataW.trod enc P w base spare held n f0.type ((cs.drop f0.offset).take (P.cellsOf f0.type)) = some y0 ∧
      DataW.trod enc P w base spare held n f1.type ((cs.drop f1.offset).take (P.cellsOf f1.type)) = some y1 ∧
      DataW.trod enc P w base spare held n f2.type ((cs.drop f2.offset).take (P.cellsOf f2.type)) = some y2 ∧
      DataW.trod enc P w base spare held n f3.type ((cs.drop f3.offset).take (P.cellsOf f3.type)) = some y3 ∧
      DataW.trod enc P w base spare held n f4.type ((cs.drop f4.offset).take (P.cellsOf f4.type)) = some y4 ∧
      DataW.trod enc P w base spare held n f5.type ((cs.drop f5.offset).take (P.cellsOf f5.type)) = some y5 ∧
      DataW.trod enc P w base spare held n f6.type ((cs.drop f6.offset).take (P.cellsOf f6.type)) = some y6 ∧
      DataW.trod enc P w base spare held n f7.type ((cs.drop f7.offset).take (P.cellsOf f7.type)) = some y7 := by
  obtain ⟨xs, n, _, rfl, hl, hlen, hf⟩ := DataW.trod_struct ht h
  match xs, hlen with
  | [y0, y1, y2, y3, y4, y5, y6, y7], _ => exact ⟨y0, y1, y2, y3, y4, y5, y6, y7, n, rfl, hl, by simpa using hf 0 f0 rfl, by simpa using hf 1 f1 rfl, by simpa using hf 2 f2 rfl, by simpa using hf 3 f3 rfl, by simpa using hf 4 f4 rfl, by simpa using hf 5 f5 rfl, by simpa using hf 6 f6 rfl, by simpa using hf 7 f7 rfl⟩
theorem wts_slice {t e B fuel n c R : Nat} {a : Option Addr} {y : DataW H × List MemPlace} (ht : P.underlying t = some (.slice e)) (hB : P.bytesOf e = B) (h : DataW.trod enc P w 0 (fun _ => true) true fuel t [.slice a n c] = some y)
    (hw : (y.1.weights P t).all (· ≤ R) = true) : n * B ≤ R := by
  rcases Deep.open_slice ht h with ⟨hcs, _⟩ | ⟨x, len, cap, m, k, D, Pl, hcs, _, hle, _, hm, hx, _⟩
  · simp at hcs
    obtain ⟨_, rfl, _⟩ := hcs
    simp
  · simp at hcs
    obtain ⟨_, rfl, rfl⟩ := hcs
    rw [hx] at hw
    simp only [DataW.weights, ht, List.all_cons, Bool.and_eq_true, decide_eq_true_eq, List.length_map, List.length_range, hB] at hw
    exact Nat.le_trans (Nat.mul_le_mul_right _ (by omega)) hw.1
theorem arr_of_cells {t e sz fuel : Nat} {cs : List Value} {y : DataW H × List MemPlace} (ht : P.underlying t = some (.slice e)) (hc : P.cellsOf e = sz) (hsz : 0 < sz) (hl : ∀ x, (encS x).length = sz)
    (hdec : ∀ fuel cs y, DataW.trod enc P w 0 (fun _ => true) true fuel e cs = some y → ∃ x, cs = encS x ∧ OK x)
    (h : DataW.trod enc P w 0 (fun _ => true) true fuel t cs = some y) : ∃ v, cs = [v] ∧ Capd v ∧ ∃ xs, Arr encS sz w v xs ∧ (∀ x ∈ xs, OK x) ∧ ((y.1.weights P t).all (· ≤ reachBytes) = true → xs.length * P.bytesOf e ≤ reachBytes) := by
  have hv : ∃ a n c, cs = [.slice a n c] ∧ n ≤ c := by
    rcases Deep.open_slice ht h with ⟨rfl, _⟩ | ⟨x, len, cap, m, k, D, Pl, rfl, _, hle, _⟩
    · exact ⟨_, _, _, rfl, Nat.le_refl _⟩
    · exact ⟨_, _, _, rfl, hle⟩
  obtain ⟨a, n, c, rfl, hle⟩ := hv
  refine ⟨_, rfl, ⟨_, _, _, rfl, hle⟩, ?_⟩
  obtain ⟨xs, h1, h2⟩ := arr_of_trod (encS := encS) (OK := OK) (d := y.1) (ps := y.2) ht hc hsz hl hdec ⟨fuel, by simpa [Value.cells] using h⟩ ⟨_, _, _, rfl⟩
  refine ⟨xs, h1, h2, fun hw => ?_⟩
  obtain ⟨_, _, e, _⟩ := h1
  cases e
  exact wts_slice ht rfl h hw
end
end Go.Den
end
section
namespace Go.Ix
open Go.Den
structure Lf where
  st : Int
  cnt : Int
  due : Nat
  tok : Nat
  deriving DecidableEq
def lf0 : Lf := ⟨0, 0, 0, 0⟩
def encLf (l : Lf) : List Value := [.int .i64 l.st, .int .i64 l.cnt, .int .u64 (l.due : Int), .int .u64 (l.tok : Int)]
theorem encLf_len (l : Lf) : (encLf l).length = 4 := rfl
theorem encLf_one (l : Lf) : ∀ u ∈ encLf l, u.oneCell' = true := by
  intro u hu
  simp only [encLf, List.mem_cons, List.not_mem_nil, or_false] at hu
  rcases hu with rfl | rfl | rfl | rfl <;> rfl
def sumT (a b : Nat) : Nat × Int := if a + b < 18446744073709551616 then (a + b, 0) else (0, 10)
def laterL (c : Int) (now delay : Nat) : Lf × Int := if delay = 0 then (⟨1, c, 0, 0⟩, 0) else if now + delay < 18446744073709551616 then (⟨2, c, now + delay, 0⟩, 0) else (lf0, 10)
def bornL (now delay : Nat) : Lf × Int := laterL 0 now delay
def spanL (c : Int) (now span tok : Nat) : Lf × Int := if span = 0 then (lf0, 1) else if now + span < 18446744073709551616 then (⟨3, c, now + span, tok⟩, 0) else (lf0, 10)
def leaseL (l : Lf) (now span tok : Nat) : Lf × Int := if l.st ≠ 1 then (lf0, 11) else spanL (l.cnt + 1) now span tok
def endL (l : Lf) (most : Int) : Lf := if most ≤ l.cnt then ⟨4, l.cnt, 0, 0⟩ else ⟨1, l.cnt, 0, 0⟩
def holdsL (l : Lf) (tok : Nat) : Bool := decide (l.st = 3) && decide (l.tok = tok)
def ackL (l : Lf) (tok : Nat) : Lf × Int := if holdsL l tok = true then (⟨5, 0, 0, 0⟩, 0) else (lf0, 9)
def nackL (l : Lf) (tok now delay : Nat) (most : Int) : Lf × Int := if holdsL l tok = true then (if most ≤ l.cnt then (endL l most, 0) else laterL l.cnt now delay) else (lf0, 9)
def extendL (l : Lf) (tok now span : Nat) : Lf × Int := if holdsL l tok = true then spanL l.cnt now span tok else (lf0, 9)
def passL (l : Lf) (now : Nat) (most : Int) : Lf := if now < l.due then l else if l.st = 2 then ⟨1, l.cnt, 0, l.tok⟩ else if l.st = 3 then endL l most else l
def requeueL (l : Lf) : Lf × Int := if l.st = 4 then (⟨1, 0, 0, 0⟩, 0) else (lf0, 5)
def purgeL (l : Lf) : Lf × Int := if l.st = 4 then (⟨5, 0, 0, 0⟩, 0) else (lf0, 5)
def resetL (l : Lf) (most : Int) : Lf := if l.st = 3 then endL l most else l
end Go.Ix
end
section
namespace Go.Proofs.YtpgflmjeedbimaaGreat
open Go.Den
abbrev E := Int × Int
def encE (e : E) : List Value := [.int .u64 e.1, .int .u64 e.2]
theorem encE_len (e : E) : (encE e).length = 2 := rfl
theorem encE_one (e : E) : ∀ u ∈ encE e, u.oneCell' = true := by
  intro u hu; simp [encE] at hu; rcases hu with rfl | rfl <;> rfl
def ltE (e f : E) : Bool := decide (e.1 < f.1) || (decide (e.1 = f.1) && decide (e.2 < f.2))
theorem due_less {e f : E} {w : World} {R : Value → World → Prop} (h : ∀ w', Fr [] w w' → R (.bool (ltE e f)) w') :
    CALL PR F_due_entry_less [.agg (encE e).toArray, .agg (encE f).toArray] w R := by
  refine C_due_entry_less ?_
  unfold M_due_entry_less
  refine NEW_intro fun w1 b1 f1 z1 => NEW_intro fun w2 b2 f2 z2 => ?_
  have b1' := f2.some (by simp) b1
  have hR := h _ (f1.trans' f2)
  by_cases c1 : e.1 < f.1
  · simpa [load1_blk b1', load1_blk b2, encE, c1, ltE] using hR
  · by_cases c2 : e.1 = f.1
    · simpa [load1_blk b1', load1_blk b2, encE, c1, c2, ltE] using hR
    · simpa [load1_blk b1', load1_blk b2, encE, c1, c2, ltE] using hR
structure DueR (w : World) (hb : Nat) (l : List E) (L : List (Int × Value)) (F : List Nat) : Prop where
  ex : ∃ sv mb es ck T Fa, blk w hb = some (.cells #[sv, .func (.func F_due_Heap_stands) #[.pointer (some ⟨hb, 0, none⟩)] #[], .map (some mb)] T (0, 0)) ∧
    blk w mb = some (.map es ck) ∧ MapL (fun n : Int => Value.int .u64 n) es L ∧ Slc encE 2 w sv l Fa ∧ F = hb :: mb :: Fa ∧ F.Nodup
theorem DueR.lt {w : World} {hb : Nat} {l : List E} {L : List (Int × Value)} {F : List Nat} (h : DueR w hb l L F) : ∀ b ∈ F, b < hsz w := by
  obtain ⟨sv, mb, es, ck, T, Fa, h1, h2, h3, h4, rfl, h5⟩ := h
  intro b hb
  rcases List.mem_cons.1 hb with rfl | hb
  · exact blk_lt h1
  · rcases List.mem_cons.1 hb with rfl | hb
    · exact blk_lt h2
    · exact h4.lt b hb
theorem DueR.fr {w w' : World} {hb : Nat} {l : List E} {L : List (Int × Value)} {F G : List Nat} (h : DueR w hb l L F) (hf : Fr G w w') (hd : ∀ b ∈ F, b ∉ G) : DueR w' hb l L F := by
  obtain ⟨sv, mb, es, ck, T, Fa, h1, h2, h3, h4, rfl, h5⟩ := h
  exact ⟨sv, mb, es, ck, T, Fa, hf.some (hd _ (by simp)) h1, hf.some (hd _ (by simp)) h2, h3, h4.fr hf (fun b hb => hd b (by simp [hb])), rfl, h5⟩
theorem due_ahead {w : World} {hb : Nat} {l : List E} {L : List (Int × Value)} {F : List Nat} (h : DueR w hb l L F) {i k : Nat} (hi : i < l.length) (hk : k < l.length) {R : Value → World → Prop}
    (hR : ∀ w', Fr [] w w' → R (.bool (ltE l[i] l[k])) w') : CALL PR F_due_Heap_ahead [.pointer (some ⟨hb, 0, none⟩), .int .i64 i, .int .i64 k] w R := by
  obtain ⟨sv, mb, es, ck, T, Fa, h1, h2, h3, h4, rfl, h5⟩ := h
  refine C_due_Heap_ahead ?_
  unfold M_due_Heap_ahead
  have h1' : blk w.drew hb = _ := h1
  have h4' : Slc encE 2 w.drew sv l Fa := h4
  obtain ⟨ab, rfl, ei⟩ := h4.iaddr hi .i64
  obtain ⟨ab', e, ek⟩ := h4.iaddr hk .i64
  simp at e; subst e
  have li := h4'.loadn (List.getElem?_eq_getElem hi) rfl
  have lk := h4'.loadn (List.getElem?_eq_getElem hk) rfl
  simp [load1_blk h1', ei, ek, li, lk]
  exact due_less fun w' hf => hR w' ((Fr.drew [] w).trans' hf)
theorem due_stands {w : World} {hb : Nat} {l : List E} {L : List (Int × Value)} {F : List Nat} (h : DueR w hb l L F) (e : E) (v : Value) {R : Value → World → Prop}
    (hR : ∀ w', DueR w' hb l (insL L e.2 v) F → Fr F w w' → R (.tuple #[]) w') : CALL PR F_due_Heap_stands [.pointer (some ⟨hb, 0, none⟩), .agg (encE e).toArray, v] w R := by
  obtain ⟨sv, mb, es, ck, T, Fa, h1, h2, h3, h4, rfl, h5⟩ := h
  refine C_due_Heap_stands ?_
  unfold M_due_Heap_stands
  refine NEW_intro fun w1 b1 f1 z1 => ?_
  have b1' : blk w1.drew (hsz w) = _ := b1
  have h1' : blk w1.drew hb = _ := f1.some (by simp) h1
  have h2' : blk w1.drew mb = _ := f1.some (by simp) h2
  obtain ⟨es', ck', hm, h3'⟩ := mupd_L (keyInt .u64) h2' h3 e.2 v
  simp [load1_blk h1', load1_blk b1', encE, hm]
  have f2 : Fr (hb :: mb :: Fa) w1.drew (setB w1.drew mb (.map es' ck')) := Fr.setB (.inl (by simp)) _
  have hne : hb ≠ mb := fun e => by simp [e] at h5
  have hFa : ∀ b ∈ Fa, b ≠ mb := fun b hb' e => by subst e; simp [hb'] at h5
  refine hR _ ⟨sv, mb, es', ck', T, Fa, ?_, blk_setB_same h2', h3', ?_, rfl, h5⟩ ((f1.nil.trans' (Fr.drew _ _)).trans' f2)
  · rw [blk_setB_other hne.symm]; exact h1'
  · exact h4.congr fun b hb' => by rw [blk_setB_other (hFa b hb').symm]; exact f1.keep b (h4.lt b hb') (by simp)
def swapL (l : List E) (i k : Nat) : List E := (l.set i (l.getD k (0, 0))).set k (l.getD i (0, 0))
@[simp] theorem swapL_len (l : List E) (i k : Nat) : (swapL l i k).length = l.length := by simp [swapL]
theorem okStands : okCallee PR F_due_Heap_stands = true := by kernel_rfl
theorem okAhead : okCallee PR F_due_Heap_ahead = true := by kernel_rfl
theorem due_swap {w : World} {hb : Nat} {l : List E} {L : List (Int × Value)} {F : List Nat} (h : DueR w hb l L F) {i k : Nat} (hi : i < l.length) (hk : k < l.length) {R : Value → World → Prop}
    (hR : ∀ w', DueR w' hb (swapL l i k) (insL (insL L ((swapL l i k).getD i (0, 0)).2 (.int .i64 i)) ((swapL l i k).getD k (0, 0)).2 (.int .i64 k)) F → Fr F w w' → R (.tuple #[]) w') :
    CALL PR F_due_tree_entry_swap [.pointer (some ⟨hb, 0, none⟩), .int .i64 i, .int .i64 k] w R := by
  obtain ⟨sv, mb, es, ck, T, Fa, h1, h2, h3, h4, rfl, h5⟩ := h
  refine C_due_tree_entry_swap ?_
  unfold M_due_tree_entry_swap
  have h1' : blk w.drew hb = _ := h1
  have h4' : Slc encE 2 w.drew sv l Fa := h4
  obtain ⟨ab, rfl, ei⟩ := h4.iaddr hi .i64
  obtain ⟨ab', e, ek⟩ := h4.iaddr hk .i64
  simp at e; subst e
  have li := h4'.loadn (List.getElem?_eq_getElem hi) rfl
  have lk := h4'.loadn (List.getElem?_eq_getElem hk) rfl
  obtain ⟨w1, s1, q1, z1, o1⟩ := h4'.set hi (x := l[k]) rfl (encE_one _) (by omega)
  obtain ⟨w2, s2, q2, z2, o2⟩ := q1.set (i := k) (by simpa using hk) (x := l[i]) rfl (encE_one _) (by omega)
  have hsw : (l.set i l[k]).set k l[i] = swapL l i k := by simp [swapL, List.getD_eq_getElem?_getD, hi, hk]
  rw [hsw] at q2
  have n1 : hb ≠ ab := fun e => by simp [e] at h5
  have n2 : mb ≠ ab := fun e => by simp [e] at h5
  have g1 := ((o2 hb n1).trans (o1 hb n1)).trans h1'
  have g2 := ((o2 mb n2).trans (o1 mb n2)).trans h2
  have D2 : DueR w2.drew hb (swapL l i k) L [hb, mb, ab] := ⟨sv, mb, es, ck, T, [ab], g1, g2, h3, q2, rfl, h5⟩
  have fr2 : Fr [hb, mb, ab] w w2.drew := (((Fr.drew _ _).trans' ((Fr.of_set z1 o1).wider (by simp))).trans' ((Fr.of_set z2 o2).wider (by simp))).trans' (Fr.drew _ _)
  have g1' : blk w2.drew hb = _ := g1
  have q2' : Slc encE 2 w2.drew sv (swapL l i k) [ab] := q2
  have hi' : i < (swapL l i k).length := by simpa using hi
  have hk' : k < (swapL l i k).length := by simpa using hk
  have li2 := q2'.loadn (List.getElem?_eq_getElem hi') rfl
  simp [load1_blk h1', ei, ek, li, lk, s1, s2, load1_blk g1', li2, CALLV_func okStands]
  refine due_stands D2 _ _ fun w3 D3 f3 => ?_
  obtain ⟨sv', mb', es', ck', T', Fa', e1, e2, e3, e4, e5, e6⟩ := D3
  simp at e5; obtain ⟨rfl, rfl⟩ := e5
  have e1' : blk w3.drew hb = _ := e1
  have e4' : Slc encE 2 w3.drew sv' (swapL l i k) [ab] := e4
  obtain ⟨_, e, ek'⟩ := e4.iaddr hk' .i64
  simp at e; subst e
  have lk3 := e4'.loadn (List.getElem?_eq_getElem hk') rfl
  simp [load1_blk e1', ek', lk3, CALLV_func okStands]
  refine due_stands (w := w3.drew) (hb := hb) (l := swapL l i k) ⟨sv', _, es', ck', T', [_], e1, e2, e3, e4, rfl, e6⟩ _ _ fun w4 D4 f4 => ?_
  refine hR w4 ?_ ((fr2.trans' f3).trans' ((Fr.drew _ _).trans' f4))
  simpa [List.getD_eq_getElem?_getD, hi, hk] using D4
end Go.Proofs.YtpgflmjeedbimaaGreat
end
section
namespace Go.Proofs.YtpgflmjeedbimaaGreat
open Go.Den
abbrev get (l : List E) (i : Nat) : E := l.getD i (0, 0)
def leE (a b : E) : Prop := ltE b a = false
theorem ltE_iff (a b : E) : ltE a b = true ↔ a.1 < b.1 ∨ (a.1 = b.1 ∧ a.2 < b.2) := by simp [ltE]
theorem leE_iff (a b : E) : leE a b ↔ a.1 < b.1 ∨ (a.1 = b.1 ∧ a.2 ≤ b.2) := by
  unfold leE
  rw [← Bool.not_eq_true, ltE_iff]
  omega
theorem leE_refl (a : E) : leE a a := by rw [leE_iff]; omega
theorem leE_trans {a b c : E} (h : leE a b) (h' : leE b c) : leE a c := by rw [leE_iff] at *; omega
theorem leE_of_lt {a b : E} (h : ltE a b = true) : leE a b := by rw [ltE_iff] at h; rw [leE_iff]; omega
theorem leE_total (a b : E) : leE a b ∨ leE b a := by rw [leE_iff, leE_iff]; omega
theorem leE_antisymm {a b : E} (h : leE a b) (h' : leE b a) : a = b := by
  rw [leE_iff] at *
  exact Prod.ext (by omega) (by omega)
theorem ltE_le {a b : E} : ltE a b = true ↔ leE a b ∧ a ≠ b := by
  rw [ltE_iff, leE_iff]
  constructor
  · intro h; exact ⟨by omega, fun e => by subst e; omega⟩
  · rintro ⟨h, hne⟩
    rcases h with h | h
    · exact .inl h
    · refine .inr ⟨h.1, ?_⟩
      have : a.2 ≠ b.2 := fun e => hne (Prod.ext h.1 e)
      omega
theorem get_swap (l : List E) {i k : Nat} (hi : i < l.length) (hk : k < l.length) (j : Nat) : get (swapL l i k) j = if j = k then get l i else if j = i then get l k else get l j := by
  simp only [get, swapL, List.getD_eq_getElem?_getD, List.getElem?_set, List.length_set]
  by_cases h1 : j = k
  · subst h1; simp [hk]
  · by_cases h2 : j = i
    · subst h2; simp [hi, Ne.symm h1, h1]
    · simp [Ne.symm h1, h1, Ne.symm h2, h2]
def par (j : Nat) : Nat := (j - 1) / 2
def IsHeap (l : List E) : Prop := ∀ j, 0 < j → j < l.length → leE (get l (par j)) (get l j)
structure UpInv (l : List E) (i : Nat) : Prop where
  s : ∀ j, 0 < j → j < l.length → j ≠ i → par j ≠ i → leE (get l (par j)) (get l j)
  g : 0 < i → ∀ j, 0 < j → j < l.length → par j = i → leE (get l (par i)) (get l j)
structure DownInv (l : List E) (i : Nat) : Prop where
  s : ∀ j, 0 < j → j < l.length → par j ≠ i → leE (get l (par j)) (get l j)
  g : 0 < i → ∀ j, 0 < j → j < l.length → par j = i → leE (get l (par i)) (get l j)
theorem UpInv.stop {l : List E} {i : Nat} (h : UpInv l i) (hp : 0 < i → leE (get l (par i)) (get l i)) : DownInv l i :=
  ⟨fun j h0 h1 h2 => if e : j = i then by subst e; exact hp h0 else h.s j h0 h1 e h2, h.g⟩
theorem UpInv.step {l : List E} {i : Nat} (h : UpInv l i) (h0 : 0 < i) (hi : i < l.length) (hlt : ltE (get l i) (get l (par i)) = true) : UpInv (swapL l i (par i)) (par i) := by
  have hpi : par i < i := by unfold par; omega
  have hp : par i < l.length := by omega
  have hle := leE_of_lt hlt
  refine ⟨fun j j0 j1 j2 j3 => ?_, fun p0 j j0 j1 j2 => ?_⟩
  · rw [swapL_len] at j1
    rw [get_swap l hi hp, get_swap l hi hp, if_neg j3, if_neg j2]
    by_cases e : j = i
    · subst e; exact absurd rfl j3
    · rw [if_neg e]
      by_cases e2 : par j = i
      · rw [if_pos e2]; exact h.g h0 j j0 j1 e2
      · rw [if_neg e2]; exact h.s j j0 j1 e e2
  · rw [swapL_len] at j1
    have hpp : par (par i) ≠ par i := by unfold par at *; omega
    have hppi : par (par i) ≠ i := by unfold par at *; omega
    have hpj : j ≠ par i := by unfold par at *; omega
    rw [get_swap l hi hp, get_swap l hi hp, if_neg hpp, if_neg hppi, if_neg hpj]
    have hgp : leE (get l (par (par i))) (get l (par i)) := h.s (par i) p0 (by omega) (by omega) hppi
    by_cases e : j = i
    · rw [if_pos e]; exact hgp
    · rw [if_neg e]
      have := h.s j j0 j1 e (by omega)
      rw [j2] at this
      exact leE_trans hgp this
theorem DownInv.stop {l : List E} {i : Nat} (h : DownInv l i) (hc : ∀ j, 0 < j → j < l.length → par j = i → leE (get l i) (get l j)) : IsHeap l :=
  fun j h0 h1 => if e : par j = i then by rw [e]; exact hc j h0 h1 e else h.s j h0 h1 e
theorem DownInv.step {l : List E} {i k : Nat} (h : DownInv l i) (hi : i < l.length) (hk : k < l.length) (k0 : 0 < k) (hki : par k = i) (hmin : ∀ j, 0 < j → j < l.length → par j = i → leE (get l k) (get l j))
    (hlt : ltE (get l k) (get l i) = true) : DownInv (swapL l i k) k := by
  have hik : i < k := by unfold par at hki; omega
  have hle := leE_of_lt hlt
  refine ⟨fun j j0 j1 j2 => ?_, fun _ j j0 j1 j2 => ?_⟩
  · rw [swapL_len] at j1
    rw [get_swap l hi hk, get_swap l hi hk, if_neg j2]
    by_cases e : par j = i
    · rw [if_pos e]
      by_cases e2 : j = k
      · rw [if_pos e2]; exact hle
      · have e3 : j ≠ i := by unfold par at e; omega
        rw [if_neg e2, if_neg e3]; exact hmin j j0 j1 e
    · rw [if_neg e]
      by_cases e2 : j = k
      · subst e2; exact absurd hki e
      · rw [if_neg e2]
        by_cases e3 : j = i
        · rw [if_pos e3]
          subst e3
          exact h.g j0 k k0 hk hki
        · rw [if_neg e3]; exact h.s j j0 j1 e
  · rw [swapL_len] at j1
    have e1 : par k ≠ k := by omega
    have e2 : j ≠ k := by unfold par at j2; omega
    have e3 : j ≠ i := by unfold par at j2; omega
    rw [get_swap l hi hk, get_swap l hi hk, if_neg e1, if_pos hki, if_neg e2, if_neg e3]
    have := h.s j j0 j1 (by omega)
    rw [j2] at this
    exact this
theorem IsHeap.min {l : List E} (h : IsHeap l) : ∀ j, j < l.length → leE (get l 0) (get l j) := by
  intro j
  induction j using Nat.strongRecOn with
  | _ j ih =>
    intro hj
    by_cases h0 : j = 0
    · subst h0; exact leE_refl _
    · have : par j < j := by unfold par; omega
      exact leE_trans (ih (par j) this (by omega)) (h j (by omega) hj)
theorem swap_perm (l : List E) {i k : Nat} (hi : i < l.length) (hk : k < l.length) : (swapL l i k).Perm l := by
  have : swapL l i k = (l.set i l[k]).set k l[i] := by simp [swapL, List.getD_eq_getElem?_getD, hi, hk]
  rw [this]
  exact List.set_set_perm hi hk
structure Sync (l : List E) (L : List (Int × Value)) : Prop where
  ids : (l.map (·.2)).Nodup
  stand : ∀ i, i < l.length → lk L (get l i).2 = some (.int .i64 i)
  only : ∀ k v, lk L k = some v → ∃ i, i < l.length ∧ (get l i).2 = k
theorem ids_inj {l : List E} (h : (l.map (·.2)).Nodup) {i j : Nat} (hi : i < l.length) (hj : j < l.length) (e : (get l i).2 = (get l j).2) : i = j := by
  have h1 : (l.map (·.2))[i]'(by simpa using hi) = (l.map (·.2))[j]'(by simpa using hj) := by
    simpa [get, List.getD_eq_getElem?_getD, hi, hj] using e
  exact (List.getElem_inj h).1 h1
theorem Sync.swap {l : List E} {L : List (Int × Value)} (h : Sync l L) {i k : Nat} (hi : i < l.length) (hk : k < l.length) :
    Sync (swapL l i k) (insL (insL L (get (swapL l i k) i).2 (.int .i64 i)) (get (swapL l i k) k).2 (.int .i64 k)) := by
  have hids : ((swapL l i k).map (·.2)).Nodup := ((swap_perm l hi hk).map _).nodup_iff.2 h.ids
  refine ⟨hids, fun j hj => ?_, fun q v hq => ?_⟩
  · rw [lk_ins, lk_ins]
    by_cases e : j = k
    · subst e; simp
    · have n1 : (get (swapL l i k) j).2 ≠ (get (swapL l i k) k).2 := fun e' => e (ids_inj hids hj (by simpa using hk) e')
      rw [if_neg n1]
      by_cases e2 : j = i
      · subst e2; simp
      · have n2 : (get (swapL l i k) j).2 ≠ (get (swapL l i k) i).2 := fun e' => e2 (ids_inj hids hj (by simpa using hi) e')
        rw [if_neg n2, get_swap l hi hk, if_neg e, if_neg e2]
        exact h.stand j (by simpa using hj)
  · rw [lk_ins, lk_ins] at hq
    by_cases e : q = (get (swapL l i k) k).2
    · exact ⟨k, by simpa using hk, e.symm⟩
    · rw [if_neg e] at hq
      by_cases e2 : q = (get (swapL l i k) i).2
      · exact ⟨i, by simpa using hi, e2.symm⟩
      · rw [if_neg e2] at hq
        obtain ⟨j, hj, rfl⟩ := h.only q v hq
        have h1 := get_swap l hi hk
        by_cases e3 : j = k
        · subst e3
          refine absurd ?_ e2
          rw [h1]; by_cases e4 : i = j
          · subst e4; simp
          · simp [e4]
        · by_cases e4 : j = i
          · subst e4
            refine absurd ?_ e
            rw [h1]; simp
          · exact ⟨j, by simpa using hj, by rw [h1, if_neg e3, if_neg e4]⟩
def DueI (w : World) (hb : Nat) (l : List E) (F : List Nat) : Prop := ∃ L, DueR w hb l L F ∧ Sync l L
theorem DueI.fr {w w' : World} {hb : Nat} {l : List E} {F G : List Nat} (h : DueI w hb l F) (hf : Fr G w w') (hd : ∀ b ∈ F, b ∉ G) : DueI w' hb l F := by
  obtain ⟨L, h1, h2⟩ := h; exact ⟨L, h1.fr hf hd, h2⟩
theorem due_swapI {w : World} {hb : Nat} {l : List E} {F : List Nat} (h : DueI w hb l F) {i k : Nat} (hi : i < l.length) (hk : k < l.length) {R : Value → World → Prop}
    (hR : ∀ w', DueI w' hb (swapL l i k) F → Fr F w w' → R (.tuple #[]) w') : CALL PR F_due_tree_entry_swap [.pointer (some ⟨hb, 0, none⟩), .int .i64 i, .int .i64 k] w R := by
  obtain ⟨L, h1, h2⟩ := h
  exact due_swap h1 hi hk fun w' h3 h4 => hR w' ⟨_, h3, h2.swap hi hk⟩ h4
end Go.Proofs.YtpgflmjeedbimaaGreat
end
section
namespace Go.Proofs.YtpgflmjeedbimaaGreat
open Go.Den
theorem par_val {i : Nat} (h : 0 < i) (hi : i ≤ 1099511627776) : IntKind.i64.wrap ((IntKind.i64.wrap ((i : Int) - 1)).tdiv 2) = ((par i : Nat) : Int) := by
  rw [wrap_i64 (n := (i : Int) - 1) (by omega) (by omega)]
  have h1 : ((i : Int) - 1) = ((i - 1 : Nat) : Int) := by omega
  rw [h1]
  have h2 : ((i - 1 : Nat) : Int).tdiv 2 = ((par i : Nat) : Int) := by
    unfold par
    rw [show (2 : Int) = ((2 : Nat) : Int) from rfl, ← Int.ofNat_tdiv]
  rw [h2, wrap_i64 (by omega) (by unfold par; omega)]
theorem due_up {w : World} {hb : Nat} {l : List E} {F : List Nat} (h : DueI w hb l F) {i : Nat} (hi : i < l.length) (hn : l.length ≤ 1099511627776) (hu : UpInv l i) {R : Value → World → Prop}
    (hR : ∀ w' l' i', DueI w' hb l' F → Fr F w w' → l'.Perm l → i' < l'.length → DownInv l' i' → R (.int .i64 (i' : Nat)) w') :
    CALL PR F_due_tree_entry_up [.pointer (some ⟨hb, 0, none⟩), .int .i64 i, .func (.func F_due_Heap_ahead) #[.pointer (some ⟨hb, 0, none⟩)] #[]] w R := by
  refine C_due_tree_entry_up ?_
  unfold M_due_tree_entry_up
  refine ⟨fun v w1 => ∃ (i : Nat) (l' : List E), v = .int .i64 i ∧ i < l'.length ∧ DueI w1 hb l' F ∧ Fr F w w1 ∧ l'.Perm l ∧ UpInv l' i, fun v _ => match v with | .int _ n => n.toNat | _ => 0,
    ⟨i, l, rfl, hi, h, Fr.refl _ _, .refl _, hu⟩, ?_⟩
  rintro _ _ w1 ⟨i, l', rfl, hi, hI, hf, hp, hu⟩
  have hlen := hp.length_eq
  by_cases h0 : 0 < i
  · have hpv := par_val h0 (by omega)
    have hpi : par i < i := by unfold par; omega
    obtain ⟨L, hD, hS⟩ := hI
    have hq : binv .int .quo (.int .i64 (IntKind.i64.wrap ((i : Int) - 1))) (.int .i64 2) = some (.int .i64 (par i : Nat)) := by rw [binv_quo _ _ _ _ (by omega), hpv]
    have hgt : decide ((0 : Int) < (i : Int)) = true := by simp; omega
    simp only [binv_gtr, hgt, BND_some, isB_tt, grd_true, binv_sub, hq, GEF_true]
    rw [CALLV_func okAhead]
    refine due_ahead hD hi (by omega) fun w2 hf2 => ?_
    have hD2 := hD.fr hf2 (by simp)
    have e1 : l'[i] = get l' i := by simp [get, List.getD_eq_getElem?_getD, hi]
    have e2 : l'[par i]'(by omega) = get l' (par i) := by simp [get, List.getD_eq_getElem?_getD, show par i < l'.length by omega]
    rw [e1, e2]
    simp only [pickv_true, BND_some]
    cases hlt : ltE (get l' i) (get l' (par i)) with
    | true =>
      simp only [COND_true]
      refine due_swapI ⟨L, hD2, hS⟩ hi (by omega) fun w3 hI3 hf3 => ?_
      refine ⟨⟨par i, _, rfl, by simp; omega, hI3, (hf.trans' hf2.nil).trans' hf3, (swap_perm l' hi (by omega)).trans hp, hu.step h0 hi hlt⟩, by simpa using hpi⟩
    | false =>
      simp only [COND_false]
      exact hR w2 l' i ⟨L, hD2, hS⟩ (hf.trans' hf2.nil) hp hi (hu.stop fun _ => (leE_total _ _).elim id fun h => by
        by_cases e : get l' i = get l' (par i)
        · rw [e]; exact leE_refl _
        · exact absurd (ltE_le.2 ⟨h, e⟩) (by rw [hlt]; simp))
  · have hi0 : i = 0 := by omega
    subst hi0
    have hgt : decide ((0 : Int) < ((0 : Nat) : Int)) = false := by simp
    simp only [binv_gtr, hgt, BND_some, isB_ft, grd_false, GEF_false, pickv_false, COND_false]
    exact hR w1 l' 0 hI hf hp hi (hu.stop fun h => by omega)
theorem leE_of_not {a b : E} (h : ltE a b = false) : leE b a := by
  rcases leE_total b a with h' | h'
  · exact h'
  · by_cases e : a = b
    · subst e; exact leE_refl _
    · rw [ltE_le.2 ⟨h', e⟩] at h; cases h
theorem due_sink {w : World} {hb : Nat} {l : List E} {F : List Nat} (h : DueI w hb l F) {i : Nat} (hi : i < l.length) (hn : l.length ≤ 1099511627776) (hu : DownInv l i) {R : Value → World → Prop}
    (hR : ∀ w' l', DueI w' hb l' F → Fr F w w' → l'.Perm l → IsHeap l' → R (.tuple #[]) w') :
    CALL PR F_due_tree_entry_sink [.pointer (some ⟨hb, 0, none⟩), .int .i64 i, .func (.func F_due_Heap_ahead) #[.pointer (some ⟨hb, 0, none⟩)] #[]] w R := by
  refine C_due_tree_entry_sink ?_
  unfold M_due_tree_entry_sink
  refine ⟨fun v w1 => ∃ (i : Nat) (l' : List E), v = .int .i64 i ∧ i < l'.length ∧ DueI w1 hb l' F ∧ Fr F w w1 ∧ l'.Perm l ∧ DownInv l' i, fun v _ => match v with | .int _ n => l.length - n.toNat | _ => 0,
    ⟨i, l, rfl, hi, h, Fr.refl _ _, .refl _, hu⟩, ?_⟩
  rintro _ _ w1 ⟨i, l', rfl, hi, hI, hf, hp, hu⟩
  have hlen := hp.length_eq
  have e1 : IntKind.i64.wrap (2 * (i : Int)) = ((2 * i : Nat) : Int) := by rw [wrap_i64 (by omega) (by omega)]; omega
  have e2 : IntKind.i64.wrap (((2 * i : Nat) : Int) + 1) = ((2 * i + 1 : Nat) : Int) := by rw [wrap_i64 (by omega) (by omega)]; omega
  have e3 : IntKind.i64.wrap (((2 * i + 1 : Nat) : Int) + 1) = ((2 * i + 2 : Nat) : Int) := by rw [wrap_i64 (by omega) (by omega)]; omega
  -- what is read of the slice's length, in any world where the heap stands
  have hlenOf : ∀ w2 (L : List (Int × Value)), DueR w2 hb l' L F → ∃ sv, load1 w2 (.pointer (some ⟨hb, 0, none⟩)) = some sv ∧ lenl sv = some (.int .i64 l'.length) := by
    rintro w2 L ⟨sv, mb, es, ck, T, Fa, h1, h2, h3, h4, h5, h6⟩
    exact ⟨sv, by rw [load1_blk h1]; rfl, h4.len⟩
  have ge : ∀ (k : Nat) (hk : k < l'.length), l'[k] = get l' k := fun k hk => by simp [get, List.getD_eq_getElem?_getD, hk]
  obtain ⟨L, hD, hS⟩ := hI
  obtain ⟨sv, hsv, hln⟩ := hlenOf w1 L hD
  refine BND_step (by rw [binv_mul, e1]) <| BND_step (by rw [binv_add, e2]) <| BND_step (by rw [binv_add, e3]) <| BND_step (nilchk_ptr _) <| BND_step (faddr_ptr _ _ _) <|
    BND_step hsv <| BND_step hln <| BND_step (binv_lss _ _ _ _) ?_
  -- behind the choice of the child
  have rest : ∀ (k : Nat) (w3 : World), DueR w3 hb l' L F → Fr F w w3 → (2 * i + 1 ≤ k) → (k ≤ 2 * i + 2) → (k < l'.length ∨ l'.length ≤ 2 * i + 1) →
      (∀ j, 0 < j → j < l'.length → par j = i → k < l'.length → leE (get l' k) (get l' j)) →
      (BND (nilchk (Value.pointer (some ⟨hb, 0, none⟩))) fun t29_60 =>
        BND (faddr 0 t29_60) fun t30_61 =>
        BND (load1 w3 t30_61) fun t31_62 =>
        BND (lenl t31_62) fun t32_63 =>
        BND (binv .int .geq (Value.int .i64 (k : Nat)) t32_63) fun t33_64 =>
        BND (grd (isB t33_64 false) (some (Value.func (.func F_due_Heap_ahead) #[.pointer (some ⟨hb, 0, none⟩)] #[]))) fun t35_65 =>
        BND (grd (isB t33_64 false) (some (Value.int .i64 (k : Nat)))) fun t36_66 =>
        BND (grd (isB t33_64 false) (some (Value.int .i64 (i : Nat)))) fun t37_67 =>
        GEF (isB t33_64 false) (fun k_ => CALLV PR t35_65 [t36_66, t37_67] w3 k_) w3 fun t38_68 w4 =>
        BND (grd (isB t33_64 false) (unv .not t38_68)) fun t39_69 =>
        BND (pickv t33_64 (Value.bool true) t39_69) fun t40_70 =>
        COND t40_70
        (R (.tuple #[]) w4)
        (CALL PR F_due_tree_entry_swap [Value.pointer (some ⟨hb, 0, none⟩), Value.int .i64 (i : Nat), Value.int .i64 (k : Nat)] w4 fun _ w5 =>
        ((∃ (i : Nat) (l' : List E), Value.int .i64 (k : Nat) = .int .i64 i ∧ i < l'.length ∧ DueI w5 hb l' F ∧ Fr F w w5 ∧ l'.Perm l ∧ DownInv l' i) ∧
          (l.length - ((k : Nat) : Int).toNat) < (l.length - ((i : Nat) : Int).toNat)))) := by
    intro k w3 hD3 hf3 hk1 hk2 hk3 hmin
    obtain ⟨sv3, hsv3, hln3⟩ := hlenOf w3 L hD3
    simp only [nilchk_ptr, BND_some, faddr_ptr, Nat.zero_add, hsv3, hln3, binv_geq]
    by_cases hkn : k < l'.length
    · have hge : decide ((l'.length : Int) ≤ (k : Int)) = false := by simp; omega
      simp only [hge, isB_ff, grd_true, BND_some, GEF_true]
      rw [CALLV_func okAhead]
      refine due_ahead hD3 hkn hi fun w4 hf4 => ?_
      have hD4 := hD3.fr hf4 (by simp)
      rw [ge k hkn, ge i hi]
      have hpk : par k = i := by unfold par; omega
      cases hlt : ltE (get l' k) (get l' i) with
      | true =>
        simp only [unv_not, BND_some, Bool.not_true, pickv_false, COND_false]
        refine due_swapI ⟨L, hD4, hS⟩ hi hkn fun w5 hI5 hf5 => ?_
        refine ⟨⟨k, _, rfl, by simpa using hkn, hI5, (hf3.trans' hf4.nil).trans' hf5, (swap_perm l' hi hkn).trans hp, hu.step hi hkn (by omega) hpk (fun j j0 j1 j2 => hmin j j0 j1 j2 hkn) hlt⟩, by simp; omega⟩
      | false =>
        simp only [unv_not, BND_some, Bool.not_false, pickv_false, COND_true]
        exact hR w4 l' ⟨L, hD4, hS⟩ (hf3.trans' hf4.nil) hp (hu.stop fun j j0 j1 j2 => leE_trans (leE_of_not hlt) (hmin j j0 j1 j2 hkn))
    · have hge : decide ((l'.length : Int) ≤ (k : Int)) = true := by simp; omega
      simp only [hge, isB_tf, grd_false, BND_some, GEF_false, pickv_true, COND_true]
      exact hR w3 l' ⟨L, hD3, hS⟩ hf3 hp (hu.stop fun j j0 j1 j2 => by unfold par at j2; omega)
  by_cases h2 : 2 * i + 2 < l'.length
  · have hlt2 : decide (((2 * i + 2 : Nat) : Int) < (l'.length : Int)) = true := by simp; omega
    rw [hlt2]
    refine BND_step rfl <| BND_step rfl <| BND_step (v := .int .i64 (2 * i + 2 : Nat)) (by rw [isB_tt, grd_true, binv_add, e3]) <| BND_step rfl <| (GEF_true _ _ _).2 ?_
    rw [CALLV_func okAhead]
    refine due_ahead hD h2 (show 2 * i + 1 < l'.length by omega) fun w2 hf2 => ?_
    have hD2 := hD.fr hf2 (by simp)
    rw [ge _ h2, ge (2 * i + 1) (by omega)]
    refine BND_step rfl ?_
    unfold JOIN
    cases hlt : ltE (get l' (2 * i + 2)) (get l' (2 * i + 1)) with
    | true =>
      refine (COND_true _ _).2 (BND_step (by rw [binv_add, e3]) ?_)
      exact rest (2 * i + 2) w2 hD2 (hf.trans' hf2.nil) (by omega) (by omega) (.inl h2) fun j j0 j1 j2 _ => by
        have : j = 2 * i + 1 ∨ j = 2 * i + 2 := by unfold par at j2; omega
        rcases this with rfl | rfl
        · exact leE_of_lt hlt
        · exact leE_refl _
    | false =>
      refine (COND_false _ _).2 ?_
      exact rest (2 * i + 1) w2 hD2 (hf.trans' hf2.nil) (by omega) (by omega) (.inl (by omega)) fun j j0 j1 j2 _ => by
        have : j = 2 * i + 1 ∨ j = 2 * i + 2 := by unfold par at j2; omega
        rcases this with rfl | rfl
        · exact leE_refl _
        · exact leE_of_not hlt
  · have hlt2 : decide (((2 * i + 2 : Nat) : Int) < (l'.length : Int)) = false := by simp; omega
    rw [hlt2]
    refine BND_step rfl <| BND_step rfl <| BND_step rfl <| BND_step rfl <| (GEF_false _ _ _).2 <| BND_step rfl ?_
    unfold JOIN
    refine (COND_false _ _).2 ?_
    exact rest (2 * i + 1) w1 hD hf (by omega) (by omega) (by omega) fun j j0 j1 j2 _ => by
      have : j = 2 * i + 1 := by unfold par at j2; omega
      subst this; exact leE_refl _
theorem due_settle {w : World} {hb : Nat} {l : List E} {F : List Nat} (h : DueI w hb l F) {i : Nat} (hi : i < l.length) (hn : l.length ≤ 1099511627776) (hu : UpInv l i) {R : Value → World → Prop}
    (hR : ∀ w' l', DueI w' hb l' F → Fr F w w' → l'.Perm l → IsHeap l' → R (.tuple #[]) w') : CALL PR F_due_Heap_settle [.pointer (some ⟨hb, 0, none⟩), .int .i64 i] w R := by
  refine C_due_Heap_settle ?_
  unfold M_due_Heap_settle
  simp only [nilchk_ptr, BND_some, faddr_ptr, Nat.zero_add]
  refine due_up (h.fr (Fr.drew [] w) (by simp)) hi hn hu fun w1 l1 i1 hI1 hf1 hp1 hi1 hd1 => ?_
  refine due_sink hI1 hi1 (by rw [hp1.length_eq]; exact hn) hd1 fun w2 l2 hI2 hf2 hp2 hh => ?_
  exact hR w2 l2 hI2 (((Fr.drew F w).trans' hf1).trans' hf2) (hp2.trans hp1) hh
end Go.Proofs.YtpgflmjeedbimaaGreat
end
section
namespace Go.Proofs.YtpgflmjeedbimaaGreat
open Go.Den
theorem Sync.find {l : List E} {L : List (Int × Value)} (h : Sync l L) (id : Int) : (lk L id = none ∧ id ∉ l.map (·.2)) ∨ ∃ i, i < l.length ∧ (get l i).2 = id ∧ lk L id = some (.int .i64 i) := by
  cases hl : lk L id with
  | none =>
    refine .inl ⟨rfl, fun hm => ?_⟩
    obtain ⟨x, hx, rfl⟩ := List.mem_map.1 hm
    obtain ⟨i, hi, rfl⟩ := List.getElem_of_mem hx
    have := h.stand i hi
    simp only [get, List.getD_eq_getElem?_getD, List.getElem?_eq_getElem hi, Option.getD_some] at this
    rw [hl] at this; cases this
  | some v =>
    obtain ⟨i, hi, rfl⟩ := h.only id v hl
    exact .inr ⟨i, hi, rfl, by rw [← hl]; exact h.stand i hi⟩
theorem get_mem {l : List E} {i : Nat} (h : i < l.length) : get l i ∈ l := by
  simp [get, List.getD_eq_getElem?_getD, h]
def DueH (w : World) (hb : Nat) (l : List E) (F : List Nat) : Prop := DueI w hb l F ∧ IsHeap l
theorem DueH.fr {w w' : World} {hb : Nat} {l : List E} {F G : List Nat} (h : DueH w hb l F) (hf : Fr G w w') (hd : ∀ b ∈ F, b ∉ G) : DueH w' hb l F := ⟨h.1.fr hf hd, h.2⟩
theorem DueI.ltF {w : World} {hb : Nat} {l : List E} {F : List Nat} (h : DueI w hb l F) : ∀ b ∈ F, b < hsz w := by obtain ⟨L, h1, _⟩ := h; exact h1.lt
theorem due_NewH {w : World} {R : Value → World → Prop} (hR : ∀ w' hb F, DueH w' hb [] F → Fr [] w w' → (∀ b ∈ F, hsz w ≤ b) → R (.pointer (some ⟨hb, 0, none⟩)) w') : CALL PR F_due_New [] w R := by
  refine C_due_New ?_
  unfold M_due_New
  refine NEWMAP_intro fun w1 b1 f1 z1 => ?_
  refine BND_step (v := .agg #[.slice none 0 0, .nilFunc, .map (some (hsz w))]) rfl ?_
  refine NEW_intro fun w2 b2 f2 z2 => ?_
  have b1' := f2.some (by simp) b1
  refine BND_step (nilchk_ptr _) <| BND_step (faddr_ptr _ _ _) <| BND_step (faddr_ptr _ _ _) <| BND_step (storev1_blk b2 (by simp) rfl rfl) ?_
  refine hR _ (hsz w1) [hsz w1, hsz w] ⟨⟨[], ⟨.slice none 0 0, hsz w, #[], 0, _, [], blk_setB_same b2, ?_, ⟨rfl, by simp⟩, .inl ⟨rfl, rfl, rfl⟩, rfl, by simp; omega⟩, ⟨by simp, fun i hi => by simp at hi, fun k v h => by simp [lk_nil] at h⟩⟩, fun j _ hj => by simp at hj⟩
    ((f1.trans' f2).trans (Fr.setB (F := [hsz w1]) (.inl (by simp)) _) (by simp; omega)) (by simp; omega)
  rw [blk_setB_other (by omega)]; exact b1'
theorem UpInv.app {l : List E} (h : IsHeap l) (e : E) : UpInv (l ++ [e]) l.length := by
  have hg : ∀ j, j < l.length → get (l ++ [e]) j = get l j := fun j hj => by
    simp only [get, List.getD_eq_getElem?_getD, List.getElem?_append_left hj]
  refine ⟨fun j j0 j1 j2 _ => ?_, fun _ j j0 j1 j2 => ?_⟩
  · simp at j1
    have : par j < j := by unfold par; omega
    rw [hg _ (by omega), hg _ (by omega)]
    exact h j j0 (by omega)
  · simp at j1; unfold par at j2; omega
theorem Sync.app {l : List E} {L : List (Int × Value)} (h : Sync l L) {e : E} (hn : e.2 ∉ l.map (·.2)) : Sync (l ++ [e]) (insL L e.2 (.int .i64 l.length)) := by
  have hg : ∀ j, j < l.length → get (l ++ [e]) j = get l j := fun j hj => by
    simp only [get, List.getD_eq_getElem?_getD, List.getElem?_append_left hj]
  have hl : get (l ++ [e]) l.length = e := by simp [get, List.getD_eq_getElem?_getD]
  refine ⟨?_, fun i hi => ?_, fun k v hk => ?_⟩
  · rw [List.map_append, List.nodup_append]
    exact ⟨h.ids, by simp, fun a ha b hb => by simp at hb; subst hb; exact fun e' => hn (e' ▸ ha)⟩
  · simp at hi
    rw [lk_ins]
    by_cases e' : i = l.length
    · subst e'; rw [hl]; simp
    · have hi' : i < l.length := by omega
      rw [hg i hi', if_neg, h.stand i hi']
      intro e2
      exact hn (e2 ▸ List.mem_map.2 ⟨_, get_mem hi', rfl⟩)
  · rw [lk_ins] at hk
    by_cases e' : k = e.2
    · exact ⟨l.length, by simp, by rw [hl, e']⟩
    · rw [if_neg e'] at hk
      obtain ⟨i, hi, rfl⟩ := h.only k v hk
      exact ⟨i, by simp; omega, by rw [hg i hi]⟩
theorem due_PutH {w : World} {hb : Nat} {l : List E} {F : List Nat} (h : DueH w hb l F) (hn : l.length < 1000000000) (id t : Int) {R : Value → World → Prop}
    (hno : id ∈ l.map (·.2) → R (.bool false) w)
    (hyes : id ∉ l.map (·.2) → ∀ w' l' F', DueH w' hb l' F' → l'.Perm ((t, id) :: l) → Fr F w w' → (∀ b ∈ F', b ∈ F ∨ hsz w ≤ b) → R (.bool true) w') :
    CALL PR F_due_Heap_Put [.pointer (some ⟨hb, 0, none⟩), .int .u64 id, .int .u64 t] w R := by
  obtain ⟨⟨L, ⟨sv, mb, es, ck, T, Fa, h1, h2, h3, h4, rfl, h5⟩, hS⟩, hH⟩ := h
  have hlt : ∀ b ∈ hb :: mb :: Fa, b < hsz w := DueR.lt (L := L) ⟨sv, mb, es, ck, T, Fa, h1, h2, h3, h4, rfl, h5⟩
  refine C_due_Heap_Put ?_
  unfold M_due_Heap_Put
  refine BND_step (nilchk_ptr _) <| BND_step (faddr_ptr _ _ _) <| BND_step (load1_blk h1) <| BND_step (lookv_L (keyInt .u64) h2 h3 _ id) ?_
  rcases hS.find id with ⟨hl, hni⟩ | ⟨i, hi, hid, hl⟩
  · refine BND_step (by rw [hl]; rfl) <| BND_step (by rw [hl]; rfl) <| (COND_false _ _).2 ?_
    refine BND_step (nilchk_ptr _) <| BND_step (faddr_ptr _ _ _) <| BND_step (faddr_ptr _ _ _) <| BND_step (load1_blk h1) <| BND_step (v := .agg (encE (t, id)).toArray) rfl ?_
    refine BND_step (v := (.slice (some ⟨hsz w, 0, none⟩) 1 1, w.alloc (.cells (encE (t, id)).toArray 274))) (newslice_one _ _ _ _ rfl _) <| (NEW_pair _ _ _).2 ?_
    have fa : Fr [] w (w.alloc (.cells (encE (t, id)).toArray 274)) := Fr.alloc _ _ _
    have ba := blk_alloc_new w (.cells (encE (t, id)).toArray 274)
    generalize w.alloc (.cells (encE (t, id)).toArray 274) = w1 at fa ba
    have hu : cellsOfArg w1 2 (.slice (some ⟨hsz w, 0, none⟩) 1 1) = some (flat encE [(t, id)], [(t, id)].length) := by
      simp [cellsOfArg, loads_blk (o := 0) ba 2 0 (by simp [encE]), flat, encE]
    have h4' := h4.fr fa (by simp)
    refine APPEND_slc h4' hu encE_len encE_one rfl (by simp; omega) (by simp; omega) fun sv' w2 Fa' s2 f2 sub2 => ?_
    have hFa : ∀ b ∈ Fa, b ≠ hb ∧ b ≠ mb := fun b hb' => ⟨fun e => by subst e; simp [hb'] at h5, fun e => by subst e; simp [hb'] at h5⟩
    have hhb : hb ∉ Fa := fun hb' => (hFa _ hb').1 rfl
    have hmb : mb ∉ Fa := fun hb' => (hFa _ hb').2 rfl
    have hne : hb ≠ mb := fun e => by simp [e] at h5
    have g1 := f2.some hhb (fa.some (by simp) h1)
    have g2 := f2.some hmb (fa.some (by simp) h2)
    refine BND_step (nilchk_ptr _) <| BND_step (faddr_ptr _ _ _) <| BND_step (faddr_ptr _ _ _) <| BND_step (storev1_blk g1 (by simp) s2.one.1 s2.one.2) ?_
    have b3 := blk_setB_same (o := .cells (#[sv, .func (.func F_due_Heap_stands) #[.pointer (some ⟨hb, 0, none⟩)] #[], .map (some mb)].setIfInBounds (0 + 0 + 0) sv') T (0, 0)) g1
    have f3 : Fr [hb] w2 (setB w2 hb (.cells (#[sv, .func (.func F_due_Heap_stands) #[.pointer (some ⟨hb, 0, none⟩)] #[], .map (some mb)].setIfInBounds (0 + 0 + 0) sv') T (0, 0))) := Fr.setB (.inl (by simp)) _
    generalize setB w2 hb (.cells (#[sv, .func (.func F_due_Heap_stands) #[.pointer (some ⟨hb, 0, none⟩)] #[], .map (some mb)].setIfInBounds (0 + 0 + 0) sv') T (0, 0)) = w3 at b3 f3
    have b3' : blk w3.drew hb = some (.cells #[sv', .func (.func F_due_Heap_stands) #[.pointer (some ⟨hb, 0, none⟩)] #[], .map (some mb)] T (0, 0)) := b3
    have hlt2 : ∀ b ∈ Fa', b < hsz w2 := s2.lt
    have hF2 : ∀ b ∈ Fa', b ≠ hb ∧ b ≠ mb := fun b hb' => by
      rcases sub2 b hb' with h | h
      · exact hFa b h
      · have := hlt hb (by simp); have := hlt mb (by simp); have := fa.grow; omega
    have s3' : Slc encE 2 w3 sv' (l ++ [(t, id)]) Fa' := s2.fr f3 (fun b hb' => by simpa using (hF2 b hb').1)
    have s3 : Slc encE 2 w3.drew sv' (l ++ [(t, id)]) Fa' := s3'
    have g3' := f3.some (b := mb) (by simpa using hne.symm) g2
    have g3 : blk w3.drew mb = some (.map es ck) := g3'
    have hwr : IntKind.i64.wrap (((l ++ [(t, id)]).length : Int) - 1) = (l.length : Int) := by
      have hlen : (l ++ [(t, id)]).length = l.length + 1 := by simp
      rw [hlen, wrap_i64 (by omega) (by omega)]; omega
    obtain ⟨es', ck', hm, h3'⟩ := mupd_L (keyInt .u64) g3 h3 id (.int .i64 (l.length : Int))
    refine BND_step (nilchk_ptr _) <| BND_step (faddr_ptr _ _ _) <| BND_step (nilchk_ptr _) <| BND_step (faddr_ptr _ _ _) <| BND_step (faddr_ptr _ _ _) <| BND_step (load1_blk b3') <|
      BND_step (load1_blk b3') <| BND_step s3.len <| BND_step (by rw [binv_sub, hwr]) <| BND_step hm ?_
    have f4 : Fr [mb] w3.drew (setB w3.drew mb (.map es' ck')) := Fr.setB (.inl (by simp)) _
    have b4 := blk_setB_same (o := .map es' ck') g3
    generalize setB w3.drew mb (.map es' ck') = w4 at f4 b4
    have s4 : Slc encE 2 w4 sv' (l ++ [(t, id)]) Fa' := s3.fr f4 (fun b hb' => by simpa using (hF2 b hb').2)
    have g4 := f4.some (by simpa using hne) b3'
    have hnd : (hb :: mb :: Fa').Nodup := by
      have : Fa'.Nodup := by
        rcases s2 with ⟨_, _, rfl⟩ | ⟨b, _, _, _, _, _, _, _, rfl, _⟩ <;> simp
      simp only [List.nodup_cons, List.mem_cons, not_or]
      exact ⟨⟨hne, fun h => (hF2 _ h).1 rfl⟩, fun h => (hF2 _ h).2 rfl, this⟩
    have D4 : DueI w4 hb (l ++ [(t, id)]) (hb :: mb :: Fa') := ⟨_, ⟨sv', mb, es', ck', T, Fa', g4, b4, h3', s4, rfl, hnd⟩, hS.app hni⟩
    refine BND_step (nilchk_ptr _) <| BND_step (faddr_ptr _ _ _) <| BND_step (faddr_ptr _ _ _) <| BND_step (load1_blk g4) <| BND_step s4.len <| BND_step (by rw [binv_sub, hwr]) ?_
    refine due_settle D4 (by simp) (by simp; omega) (UpInv.app hH _) fun w5 l5 D5 f5 p5 hh5 => ?_
    have sub : ∀ b ∈ hb :: mb :: Fa', b ∈ hb :: mb :: Fa ∨ hsz w ≤ b := fun b hb' => by
      simp only [List.mem_cons] at hb' ⊢
      rcases hb' with rfl | rfl | hb'
      · exact .inl (.inl rfl)
      · exact .inl (.inr (.inl rfl))
      · rcases sub2 b hb' with h | h
        · exact .inl (.inr (.inr h))
        · exact .inr (by have := fa.grow; omega)
    refine hyes hni w5 l5 _ ⟨D5, hh5⟩ (p5.trans (List.perm_append_comm (l₂ := [(t, id)]))) ?_ sub
    have e1 : Fr (hb :: mb :: Fa) w w2 := (Fr.nil fa).trans' (f2.wider (by intro b hb'; simp [hb']))
    have e2 := (e1.trans' (f3.wider (by simp))).trans' ((Fr.drew _ _).trans' (f4.wider (by simp)))
    exact e2.trans f5 sub
  · refine BND_step (by rw [hl]; rfl) <| BND_step (by rw [hl]; rfl) <| (COND_true _ _).2 ?_
    exact hno (hid ▸ List.mem_map.2 ⟨_, get_mem hi, rfl⟩)
theorem UpInv.at {l l2 : List E} {i : Nat} (h : IsHeap l) (hl : l2.length ≤ l.length) (hi : i < l.length) (hg : ∀ j, j < l2.length → j ≠ i → get l2 j = get l j) : UpInv l2 i := by
  refine ⟨fun j j0 j1 j2 j3 => ?_, fun i0 j j0 j1 j2 => ?_⟩
  · have : par j < j := by unfold par; omega
    rw [hg _ (by omega) j3, hg _ j1 j2]
    exact h j j0 (by omega)
  · have h1 : par i < i := by unfold par; omega
    have h2 : i < j := by unfold par at j2; omega
    rw [hg _ (by omega) (by omega), hg _ j1 (by omega)]
    have := h j j0 (by omega)
    rw [j2] at this
    exact leE_trans (h i i0 hi) this
theorem erase_perm {α : Type} {l : List α} {i : Nat} (hi : i < l.length) : (l[i] :: l.eraseIdx i).Perm l := by
  rw [List.eraseIdx_eq_take_drop_succ]
  refine List.perm_middle.symm.trans ?_
  rw [← List.drop_eq_getElem_cons hi, List.take_append_drop]
theorem take_swap {l : List E} {i : Nat} (hi : i < l.length) : ((swapL l i (l.length - 1)).take (l.length - 1)).Perm (l.eraseIdx i) ∧ ((swapL l i (l.length - 1)).take (l.length - 1)).length = l.length - 1 ∧
    (∀ j, j < l.length - 1 → j ≠ i → get ((swapL l i (l.length - 1)).take (l.length - 1)) j = get l j) := by
  have hlast : l.length - 1 < l.length := by omega
  have hlen : ((swapL l i (l.length - 1)).take (l.length - 1)).length = l.length - 1 := by simp
  refine ⟨?_, hlen, fun j hj hji => ?_⟩
  · have hp := swap_perm l hi hlast
    have hsplit : swapL l i (l.length - 1) = (swapL l i (l.length - 1)).take (l.length - 1) ++ [get l i] := by
      apply List.ext_getElem?
      intro n
      by_cases hn : n < l.length - 1
      · rw [List.getElem?_append_left (by omega), List.getElem?_take, if_pos hn]
      · rw [List.getElem?_append_right (by omega), hlen]
        by_cases he : n = l.length - 1
        · subst he
          have h1 := get_swap l hi hlast (l.length - 1)
          rw [if_pos rfl] at h1
          have h2 : l.length - 1 < (swapL l i (l.length - 1)).length := by simp; omega
          simp only [get, List.getD_eq_getElem?_getD, List.getElem?_eq_getElem h2, Option.getD_some] at h1
          rw [List.getElem?_eq_getElem h2, h1]
          simp
        · rw [List.getElem?_eq_none (by simp; omega), List.getElem?_eq_none (by simp; omega)]
    have hp2 : ((swapL l i (l.length - 1)).take (l.length - 1) ++ [get l i]).Perm (get l i :: l.eraseIdx i) := by
      rw [← hsplit]
      refine hp.trans ?_
      have : get l i = l[i] := by simp [get, List.getD_eq_getElem?_getD, hi]
      rw [this]
      exact (erase_perm hi).symm
    have hp3 : (get l i :: (swapL l i (l.length - 1)).take (l.length - 1)).Perm (get l i :: l.eraseIdx i) := (List.perm_append_comm (l₁ := [get l i])).trans hp2
    exact (List.perm_cons _).1 hp3
  · have h1 := get_swap l hi hlast j
    rw [if_neg (by omega), if_neg hji] at h1
    rw [← h1]
    simp only [get, List.getD_eq_getElem?_getD, List.getElem?_take, if_pos hj]
theorem due_DropH {w : World} {hb : Nat} {l : List E} {F : List Nat} (h : DueH w hb l F) (hn : l.length < 1000000000) (id : Int) {R : Value → World → Prop}
    (hno : id ∉ l.map (·.2) → R (.bool false) w)
    (hyes : ∀ i, i < l.length → (get l i).2 = id → ∀ w' l', DueH w' hb l' F → l'.Perm (l.eraseIdx i) → Fr F w w' → R (.bool true) w') :
    CALL PR F_due_Heap_Drop [.pointer (some ⟨hb, 0, none⟩), .int .u64 id] w R := by
  obtain ⟨⟨L, hD, hS⟩, hH⟩ := h
  obtain ⟨sv, mb, es, ck, T, Fa, h1, h2, h3, h4, rfl, h5⟩ := hD
  have hD : DueR w hb l L (hb :: mb :: Fa) := ⟨sv, mb, es, ck, T, Fa, h1, h2, h3, h4, rfl, h5⟩
  refine C_due_Heap_Drop ?_
  unfold M_due_Heap_Drop
  refine BND_step (nilchk_ptr _) <| BND_step (faddr_ptr _ _ _) <| BND_step (load1_blk h1) <| BND_step (lookv_L (keyInt .u64) h2 h3 _ id) ?_
  rcases hS.find id with ⟨hl, hni⟩ | ⟨i, hi, hid, hl⟩
  · refine BND_step (v := .int .i64 0) (by rw [hl]; rfl) <| BND_step (v := .bool false) (by rw [hl]; rfl) <| BND_step (unv_not _) <| (COND_true _ _).2 ?_
    exact hno hni
  · have hlast : l.length - 1 < l.length := by omega
    have hwr : IntKind.i64.wrap ((l.length : Int) - 1) = ((l.length - 1 : Nat) : Int) := by rw [wrap_i64 (by omega) (by omega)]; omega
    refine BND_step (v := .int .i64 i) (by rw [hl]; rfl) <| BND_step (v := .bool true) (by rw [hl]; rfl) <| BND_step (unv_not _) <| (COND_false _ _).2 ?_
    refine BND_step (nilchk_ptr _) <| BND_step (faddr_ptr _ _ _) <| BND_step (faddr_ptr _ _ _) <| BND_step (load1_blk h1) <| BND_step h4.len <| BND_step (by rw [binv_sub, hwr]) <|
      BND_step (nilchk_ptr _) <| BND_step (faddr_ptr _ _ _) ?_
    refine due_swap hD hi hlast fun w1 D1 f1 => ?_
    have hS1 := hS.swap hi hlast
    generalize hL1 : insL (insL L ((swapL l i (l.length - 1)).getD i (0, 0)).2 (.int .i64 i)) ((swapL l i (l.length - 1)).getD (l.length - 1) (0, 0)).2 (.int .i64 (l.length - 1 : Nat)) = L1 at D1 hS1
    obtain ⟨sv1, mb1, es1, ck1, T1, Fa1, g1, g2, g3, g4, g5, g6⟩ := D1
    have g5' : mb = mb1 ∧ Fa = Fa1 := by simpa using g5
    obtain ⟨rfl, rfl⟩ := g5'
    obtain ⟨hperm, hlen2, hget⟩ := take_swap hi
    obtain ⟨sv2, hs2, s2⟩ := g4.take (n := l.length - 1) (by simp) (by simp; omega) .i64
    refine BND_step (nilchk_ptr _) <| BND_step (faddr_ptr _ _ _) <| BND_step (faddr_ptr _ _ _) <| BND_step (load1_blk g1) <| BND_step hs2 <| BND_step (nilchk_ptr _) <| BND_step (faddr_ptr _ _ _) <|
      BND_step (faddr_ptr _ _ _) <| BND_step (storev1_blk g1 (by simp) s2.one.1 s2.one.2) ?_
    have b2 := blk_setB_same (o := .cells (#[sv1, .func (.func F_due_Heap_stands) #[.pointer (some ⟨hb, 0, none⟩)] #[], .map (some mb)].setIfInBounds (0 + 0 + 0) sv2) T1 (0, 0)) g1
    have f2 : Fr [hb] w1 (setB w1 hb (.cells (#[sv1, .func (.func F_due_Heap_stands) #[.pointer (some ⟨hb, 0, none⟩)] #[], .map (some mb)].setIfInBounds (0 + 0 + 0) sv2) T1 (0, 0))) := Fr.setB (.inl (by simp)) _
    generalize setB w1 hb (.cells (#[sv1, .func (.func F_due_Heap_stands) #[.pointer (some ⟨hb, 0, none⟩)] #[], .map (some mb)].setIfInBounds (0 + 0 + 0) sv2) T1 (0, 0)) = w2 at b2 f2
    have b2' : blk w2 hb = some (.cells #[sv2, .func (.func F_due_Heap_stands) #[.pointer (some ⟨hb, 0, none⟩)] #[], .map (some mb)] T1 (0, 0)) := b2
    have hne : hb ≠ mb := fun e => by simp [e] at h5
    have hFa : ∀ b ∈ Fa, b ≠ hb ∧ b ≠ mb := fun b hb' => ⟨fun e => by subst e; simp [hb'] at h5, fun e => by subst e; simp [hb'] at h5⟩
    have m2 := f2.some (b := mb) (by simpa using hne.symm) g2
    have s2' := s2.fr f2 (fun b hb' => by simpa using (hFa b hb').1)
    obtain ⟨es3, ck3, hm, g3'⟩ := mdel_L (keyInt .u64) m2 g3 id
    refine BND_step (nilchk_ptr _) <| BND_step (faddr_ptr _ _ _) <| BND_step (load1_blk b2') <| BND_step hm ?_
    have f3 : Fr [mb] w2 (setB w2 mb (.map es3 ck3)) := Fr.setB (.inl (by simp)) _
    have b3 := blk_setB_same (o := .map es3 ck3) m2
    generalize setB w2 mb (.map es3 ck3) = w3 at f3 b3
    have b3' := f3.some (by simpa using hne) b2'
    have s3 := s2'.fr f3 (fun b hb' => by simpa using (hFa b hb').2)
    -- the map, behind the delete
    have hgi : get (swapL l i (l.length - 1)) (l.length - 1) = get l i := by rw [get_swap l hi hlast, if_pos rfl]
    have hS3 : Sync ((swapL l i (l.length - 1)).take (l.length - 1)) (delL L1 id) := by
      have hget2 : ∀ j, j < l.length - 1 → get ((swapL l i (l.length - 1)).take (l.length - 1)) j = get (swapL l i (l.length - 1)) j := fun j hj => by
        simp only [get, List.getD_eq_getElem?_getD, List.getElem?_take, if_pos hj]
      refine ⟨?_, fun j hj => ?_, fun k v hk => ?_⟩
      · exact hS1.ids.sublist ((List.take_sublist _ _).map _)
      · rw [hlen2] at hj
        have hne2 : (get (swapL l i (l.length - 1)) j).2 ≠ id := fun e => by
          rw [← hid, ← hgi] at e
          have := ids_inj hS1.ids (by simp; omega) (by simp; omega) e
          omega
        rw [hget2 j hj, lk_del g3.once, if_neg hne2]
        exact hS1.stand j (by simp; omega)
      · rw [lk_del g3.once] at hk
        by_cases e : k = id
        · rw [if_pos e] at hk; cases hk
        · rw [if_neg e] at hk
          obtain ⟨j, hj, rfl⟩ := hS1.only k v hk
          have hj' : j ≠ l.length - 1 := fun e' => by subst e'; rw [hgi, hid] at e; exact e rfl
          have hj2 : j < l.length - 1 := by simp at hj; omega
          exact ⟨j, by rw [hlen2]; exact hj2, by rw [hget2 j hj2]⟩
    have D3 : DueI w3 hb ((swapL l i (l.length - 1)).take (l.length - 1)) (hb :: mb :: Fa) := ⟨_, ⟨sv2, mb, es3, ck3, T1, Fa, b3', b3, g3', s3, rfl, h5⟩, hS3⟩
    have fr : Fr (hb :: mb :: Fa) w w3 := (f1.trans' (f2.wider (by simp))).trans' (f3.wider (by simp))
    refine BND_step (binv_lss _ _ _ _) ?_
    unfold JOIN
    by_cases hil : i < l.length - 1
    · have hd : decide ((i : Int) < ((l.length - 1 : Nat) : Int)) = true := by simp only [decide_eq_true_eq]; omega
      refine (show COND (.bool (decide ((i : Int) < ((l.length - 1 : Nat) : Int)))) _ _ from ?_)
      rw [hd]
      refine (COND_true _ _).2 ?_
      refine due_settle D3 (by rw [hlen2]; exact hil) (by rw [hlen2]; omega) (UpInv.at hH (by rw [hlen2]; omega) hi fun j hj hji => hget j (by rwa [hlen2] at hj) hji) fun w4 l4 D4 f4 p4 hh4 => ?_
      exact hyes i hi hid w4 l4 ⟨D4, hh4⟩ (p4.trans hperm) (fr.trans' f4)
    · have hd : decide ((i : Int) < ((l.length - 1 : Nat) : Int)) = false := by simp only [decide_eq_false_iff_not]; omega
      refine (show COND (.bool (decide ((i : Int) < ((l.length - 1 : Nat) : Int)))) _ _ from ?_)
      rw [hd]
      refine (COND_false _ _).2 ?_
      refine hyes i hi hid w3 _ ⟨D3, fun j j0 j1 => ?_⟩ hperm fr
      rw [hlen2] at j1
      have : par j < j := by unfold par; omega
      rw [hget j j1 (by omega), hget (par j) (by omega) (by omega)]
      exact hH j j0 (by omega)
theorem due_FirstH {w : World} {hb : Nat} {l : List E} {F : List Nat} (h : DueH w hb l F) {R : Value → World → Prop}
    (hno : l = [] → R (.tuple #[.int .u64 0, .int .u64 0, .bool false]) w)
    (hyes : 0 < l.length → R (.tuple #[.int .u64 (get l 0).2, .int .u64 (get l 0).1, .bool true]) w.drew) :
    CALL PR F_due_Heap_First [.pointer (some ⟨hb, 0, none⟩)] w R := by
  obtain ⟨⟨L, hD, hS⟩, hH⟩ := h
  obtain ⟨sv, mb, es, ck, T, Fa, h1, h2, h3, h4, rfl, h5⟩ := hD
  refine C_due_Heap_First ?_
  unfold M_due_Heap_First
  refine BND_step (nilchk_ptr _) <| BND_step (faddr_ptr _ _ _) <| BND_step (faddr_ptr _ _ _) <| BND_step (load1_blk h1) <| BND_step h4.len <| BND_step (binv_eql _ _ _ _) ?_
  by_cases h0 : l = []
  · subst h0
    exact (COND_true _ _).2 (hno rfl)
  · have hp : 0 < l.length := by cases l with
      | nil => exact absurd rfl h0
      | cons _ _ => simp
    have hd : decide ((l.length : Int) = 0) = false := by simp only [decide_eq_false_iff_not]; omega
    rw [hd]
    refine (COND_false _ _).2 ?_
    obtain ⟨ab, rfl, ei⟩ := h4.iaddr hp .i64
    have hgi : get l 0 = l[0] := by simp [get, List.getD_eq_getElem?_getD, hp]
    have h1' : blk w.drew hb = _ := h1
    have h4' : Slc encE 2 w.drew sv l [ab] := h4
    refine BND_step (nilchk_ptr _) <| BND_step (faddr_ptr _ _ _) <| BND_step (faddr_ptr _ _ _) <| BND_step (nilchk_ptr _) <| BND_step (faddr_ptr _ _ _) <| BND_step (faddr_ptr _ _ _) <|
      BND_step (load1_blk h1') <| BND_step ei <| BND_step (faddr_ptr _ _ _) <| BND_step (h4'.load1 (j := 1) (List.getElem?_eq_getElem hp) (by omega)) <| BND_step (load1_blk h1') <|
      BND_step ei <| BND_step (faddr_ptr _ _ _) <| BND_step (h4'.load1 (j := 0) (List.getElem?_eq_getElem hp) (by omega)) ?_
    have := hyes hp
    rw [hgi] at this
    exact this
def ltEP (a b : E) : Prop := ltE a b = true
def insS : List E → E → List E
  | [], e => [e]
  | x :: r, e => if ltE x e = true then x :: insS r e else e :: x :: r
def remS (S : List E) (id : Int) : List E := S.filter fun e => !decide (e.2 = id)
structure DueOwn (w : World) (hb : Nat) (S : List E) (F : List Nat) : Prop where
  ex : ∃ l, DueH w hb l F ∧ l.Perm S
  sorted : S.Pairwise ltEP
  ids : (S.map (·.2)).Nodup
theorem DueOwn.fr {w w' : World} {hb : Nat} {S : List E} {F G : List Nat} (h : DueOwn w hb S F) (hf : Fr G w w') (hd : ∀ b ∈ F, b ∉ G) : DueOwn w' hb S F := by
  obtain ⟨⟨l, h1, h2⟩, h3, h4⟩ := h; exact ⟨⟨l, h1.fr hf hd, h2⟩, h3, h4⟩
theorem DueOwn.lt {w : World} {hb : Nat} {S : List E} {F : List Nat} (h : DueOwn w hb S F) : ∀ b ∈ F, b < hsz w := by
  obtain ⟨⟨l, h1, h2⟩, h3, h4⟩ := h; exact h1.1.ltF
theorem ltEP_trans {a b c : E} (h : ltEP a b) (h' : ltEP b c) : ltEP a c := by unfold ltEP at *; rw [ltE_iff] at *; omega
theorem insS_perm (S : List E) (e : E) : (insS S e).Perm (e :: S) := by
  induction S with
  | nil => exact .refl _
  | cons x r ih =>
    simp only [insS]
    split
    · exact (ih.cons x).trans (.swap e x r)
    · exact .refl _
theorem insS_sorted {S : List E} (h : S.Pairwise ltEP) {e : E} (hn : ∀ x ∈ S, x ≠ e) : (insS S e).Pairwise ltEP := by
  induction S with
  | nil => simp [insS]
  | cons x r ih =>
    rw [List.pairwise_cons] at h
    simp only [insS]
    split
    · rename_i hlt
      rw [List.pairwise_cons]
      refine ⟨fun y hy => ?_, ih h.2 fun y hy => hn y (by simp [hy])⟩
      rcases List.mem_cons.1 ((insS_perm r e).mem_iff.1 hy) with rfl | hy
      · exact hlt
      · exact h.1 y hy
    · rename_i hlt
      have hxe : ltEP e x := ltE_le.2 ⟨leE_of_not (by simpa using hlt), fun e' => hn x (by simp) e'.symm⟩
      rw [List.pairwise_cons]
      refine ⟨fun y hy => ?_, List.pairwise_cons.2 h⟩
      rcases List.mem_cons.1 hy with rfl | hy
      · exact hxe
      · exact ltEP_trans hxe (h.1 y hy)
theorem remS_sorted {S : List E} (h : S.Pairwise ltEP) (id : Int) : (remS S id).Pairwise ltEP := h.sublist List.filter_sublist
theorem remS_ids {S : List E} (h : (S.map (·.2)).Nodup) (id : Int) : ((remS S id).map (·.2)).Nodup := h.sublist (List.filter_sublist.map _)
theorem erase_remS {l S : List E} (hp : l.Perm S) (hids : (S.map (·.2)).Nodup) {i : Nat} (hi : i < l.length) : (l.eraseIdx i).Perm (remS S (get l i).2) := by
  have hl : (l.map (·.2)).Nodup := ((hp.map _).nodup_iff).2 hids
  have hgi : get l i = l[i] := by simp [get, List.getD_eq_getElem?_getD, hi]
  have h1 : (l.eraseIdx i) = l.filter fun e => !decide (e.2 = (get l i).2) := by
    have key : ∀ (l : List E) (i : Nat) (hi : i < l.length), (l.map (·.2)).Nodup → l.eraseIdx i = l.filter fun e => !decide (e.2 = l[i].2) := by
      intro l
      induction l with
      | nil => intro i hi; simp at hi
      | cons x r ih =>
        intro i hi hn
        simp only [List.map_cons, List.nodup_cons] at hn
        cases i with
        | zero =>
          simp only [List.eraseIdx_cons_zero, List.getElem_cons_zero, List.filter_cons, decide_true, Bool.not_true, Bool.false_eq_true, if_false]
          refine (List.filter_eq_self.2 fun y hy => ?_).symm
          simp only [Bool.not_eq_true', decide_eq_false_iff_not]
          exact fun e => hn.1 (e ▸ List.mem_map.2 ⟨y, hy, rfl⟩)
        | succ i =>
          have hi' : i < r.length := by simpa using hi
          have hx : x.2 ≠ r[i].2 := fun e => hn.1 (e ▸ List.mem_map.2 ⟨_, List.getElem_mem hi', rfl⟩)
          simp only [List.eraseIdx_cons_succ, List.getElem_cons_succ, List.filter_cons]
          rw [if_pos (by simpa using hx), ih i hi' hn.2]
    rw [hgi]; exact key l i hi hl
  rw [h1]
  exact hp.filter _
theorem due_New {w : World} {R : Value → World → Prop} (hR : ∀ w' hb F, DueOwn w' hb [] F → Fr [] w w' → (∀ b ∈ F, hsz w ≤ b) → R (.pointer (some ⟨hb, 0, none⟩)) w') : CALL PR F_due_New [] w R :=
  due_NewH fun w' hb F h1 h2 h3 => hR w' hb F ⟨⟨[], h1, .refl _⟩, .nil, by simp⟩ h2 h3
theorem due_Put {w : World} {hb : Nat} {S : List E} {F : List Nat} (h : DueOwn w hb S F) (hn : S.length < 1000000000) (id t : Int) {R : Value → World → Prop}
    (hno : id ∈ S.map (·.2) → R (.bool false) w)
    (hyes : id ∉ S.map (·.2) → ∀ w' F', DueOwn w' hb (insS S (t, id)) F' → Fr F w w' → (∀ b ∈ F', b ∈ F ∨ hsz w ≤ b) → R (.bool true) w') :
    CALL PR F_due_Heap_Put [.pointer (some ⟨hb, 0, none⟩), .int .u64 id, .int .u64 t] w R := by
  obtain ⟨⟨l, h1, h2⟩, h3, h4⟩ := h
  refine due_PutH h1 (by rw [h2.length_eq]; exact hn) id t (fun h => hno ((h2.map _).mem_iff.1 h)) fun hni w' l' F' h5 h6 h7 h8 => ?_
  have hni' : id ∉ S.map (·.2) := fun h => hni ((h2.map _).mem_iff.2 h)
  refine hyes hni' w' F' ⟨⟨l', h5, h6.trans ((h2.cons _).trans (insS_perm S _).symm)⟩, insS_sorted h3 fun x hx e => hni' (List.mem_map.2 ⟨x, hx, by rw [e]⟩), ?_⟩ h7 h8
  refine (((insS_perm S (t, id)).map (·.2)).nodup_iff).2 ?_
  rw [List.map_cons, List.nodup_cons]
  exact ⟨hni', h4⟩
theorem due_Drop {w : World} {hb : Nat} {S : List E} {F : List Nat} (h : DueOwn w hb S F) (hn : S.length < 1000000000) (id : Int) {R : Value → World → Prop}
    (hno : id ∉ S.map (·.2) → R (.bool false) w)
    (hyes : id ∈ S.map (·.2) → ∀ w', DueOwn w' hb (remS S id) F → Fr F w w' → R (.bool true) w') :
    CALL PR F_due_Heap_Drop [.pointer (some ⟨hb, 0, none⟩), .int .u64 id] w R := by
  obtain ⟨⟨l, h1, h2⟩, h3, h4⟩ := h
  refine due_DropH h1 (by rw [h2.length_eq]; exact hn) id (fun h => hno fun h' => h ((h2.map _).mem_iff.2 h')) fun i hi hid w' l' h5 h6 h7 => ?_
  refine hyes ((h2.map _).mem_iff.1 (hid ▸ List.mem_map.2 ⟨_, get_mem hi, rfl⟩)) w' ⟨⟨l', h5, h6.trans (hid ▸ erase_remS h2 h4 hi)⟩, remS_sorted h3 id, remS_ids h4 id⟩ h7
theorem head_get {l S : List E} (hp : l.Perm S) (hs : S.Pairwise ltEP) (hh : IsHeap l) (h0 : 0 < l.length) : ∃ r, S = get l 0 :: r := by
  cases S with
  | nil => rw [hp.length_eq] at h0; simp at h0
  | cons x r =>
    refine ⟨r, ?_⟩
    rw [List.pairwise_cons] at hs
    obtain ⟨i, hi, hx⟩ := List.getElem_of_mem (hp.mem_iff.2 (by simp : x ∈ x :: r))
    have h1 : leE (get l 0) x := by
      have := hh.min i hi
      rwa [show get l i = x by simp [get, List.getD_eq_getElem?_getD, hi, hx]] at this
    have h2 : leE x (get l 0) := by
      rcases List.mem_cons.1 (hp.mem_iff.1 (get_mem h0)) with h | h
      · rw [h]; exact leE_refl _
      · exact leE_of_lt (hs.1 _ h)
    rw [leE_antisymm h1 h2]
theorem due_First {w : World} {hb : Nat} {S : List E} {F : List Nat} (h : DueOwn w hb S F) {R : Value → World → Prop}
    (hno : S = [] → R (.tuple #[.int .u64 0, .int .u64 0, .bool false]) w)
    (hyes : ∀ e r, S = e :: r → R (.tuple #[.int .u64 e.2, .int .u64 e.1, .bool true]) w.drew) : CALL PR F_due_Heap_First [.pointer (some ⟨hb, 0, none⟩)] w R := by
  obtain ⟨⟨l, h1, h2⟩, h3, h4⟩ := h
  refine due_FirstH h1 (fun h => hno (by subst h; exact h2.nil_eq.symm)) fun h0 => ?_
  obtain ⟨r, hr⟩ := head_get h2 h3 h1.2 h0
  exact hyes _ r hr
theorem remS_head {e : E} {r : List E} (h : ((e :: r).map (·.2)).Nodup) : remS (e :: r) e.2 = r := by
  simp only [List.map_cons, List.nodup_cons] at h
  simp only [remS, List.filter_cons, decide_true, Bool.not_true, Bool.false_eq_true, if_false]
  refine List.filter_eq_self.2 fun y hy => ?_
  simp only [Bool.not_eq_true', decide_eq_false_iff_not]
  exact fun e' => h.1 (e' ▸ List.mem_map.2 ⟨y, hy, rfl⟩)
theorem due_Take {w : World} {hb : Nat} {S : List E} {F : List Nat} (h : DueOwn w hb S F) (hn : S.length < 1000000000) (now : Int) {R : Value → World → Prop}
    (hno : ∀ w', (S = [] ∨ ∃ e r, S = e :: r ∧ now < e.1) → DueOwn w' hb S F → Fr F w w' → R (.tuple #[.int .u64 0, .int .u64 0, .bool false]) w')
    (hyes : ∀ e r, S = e :: r → e.1 ≤ now → ∀ w', DueOwn w' hb r F → Fr F w w' → R (.tuple #[.int .u64 e.2, .int .u64 e.1, .bool true]) w') :
    CALL PR F_due_Heap_Take [.pointer (some ⟨hb, 0, none⟩), .int .u64 now] w R := by
  refine C_due_Heap_Take ?_
  unfold M_due_Heap_Take
  refine due_First h (fun h0 => ?_) fun e r hS => ?_
  · refine BND_step rfl <| BND_step rfl <| BND_step rfl <| BND_step (unv_not _) <| BND_step rfl <| BND_step rfl <| BND_step rfl <| BND_step rfl <| (COND_true _ _).2 ?_
    exact hno w (.inl h0) h (Fr.refl _ _)
  · have hO : DueOwn w.drew hb S F := h.fr (Fr.drew [] w) (by simp)
    by_cases hlt : now < e.1
    · have hd : decide (now < e.1) = true := by simpa using hlt
      refine BND_step (v := .int .u64 e.2) rfl <| BND_step (v := .int .u64 e.1) rfl <| BND_step (v := .bool true) rfl <| BND_step (unv_not _) <| BND_step (v := .int .u64 e.1) rfl <| BND_step (v := .int .u64 now) rfl <| BND_step (v := .bool true) (by rw [show isB (.bool !true) false = true from rfl, grd_true, binv_gtr, hd]) <| BND_step rfl <| (COND_true _ _).2 ?_
      exact hno _ (.inr ⟨e, r, hS, hlt⟩) hO (Fr.drew _ _)
    · have hd : decide (now < e.1) = false := by simpa using hlt
      refine BND_step (v := .int .u64 e.2) rfl <| BND_step (v := .int .u64 e.1) rfl <| BND_step (v := .bool true) rfl <| BND_step (unv_not _) <| BND_step (v := .int .u64 e.1) rfl <| BND_step (v := .int .u64 now) rfl <| BND_step (v := .bool false) (by rw [show isB (.bool !true) false = true from rfl, grd_true, binv_gtr, hd]) <| BND_step rfl <| (COND_false _ _).2 ?_
      refine due_Drop hO hn e.2 (fun hni => absurd (by rw [hS]; simp) hni) fun _ w' h1 h2 => ?_
      have hr : remS S e.2 = r := by rw [hS]; exact remS_head (hS ▸ h.ids)
      rw [hr] at h1
      exact hyes e r hS (by omega) w' h1 ((Fr.drew _ _).trans' h2)
end Go.Proofs.YtpgflmjeedbimaaGreat
end
section
namespace Go.Den
def bAt (l : List UInt8) (k : Nat) : Nat := (l.getD k 0).toNat
def dec1 (l : List UInt8) : Nat × Nat := Lib.decodeN l.length (bAt l 0) (bAt l 1) (bAt l 2) (bAt l 3)
theorem get!_drop (s : ByteArray) (i k : Nat) : (s.get! (i + k)).toNat = bAt (s.data.toList.drop i) k := by
  unfold bAt
  congr 1
  rw [List.getD_eq_getElem?_getD, List.getElem?_drop]
  show s.data[i + k]! = _
  rw [getElem!_def, Array.getElem?_toList]
  cases s.data[i + k]? <;> rfl
theorem decode_dec1 (s : ByteArray) (i : Nat) : Utf8.decode s i = dec1 (s.data.toList.drop i) := by
  rw [Lib.decode_at, dec1]
  have h0 := get!_drop s i 0
  rw [Nat.add_zero] at h0
  rw [h0, get!_drop, get!_drop, get!_drop, List.length_drop]
  rfl
theorem decN_width {n b0 b1 b2 b3 : Nat} (hn : 1 ≤ n) : 1 ≤ (Lib.decodeN n b0 b1 b2 b3).2 ∧ (Lib.decodeN n b0 b1 b2 b3).2 ≤ n ∧ (Lib.decodeN n b0 b1 b2 b3).2 ≤ 4 := by
  unfold Lib.decodeN
  repeat' split
  all_goals (simp only []; omega)
theorem decN_valid {n b0 b1 b2 b3 : Nat} : (Lib.decodeN n b0 b1 b2 b3).1 < 55296 ∨ 57344 ≤ (Lib.decodeN n b0 b1 b2 b3).1 ∧ (Lib.decodeN n b0 b1 b2 b3).1 ≤ 1114111 := by
  unfold Lib.decodeN
  repeat' split
  all_goals (simp only []; omega)
theorem dec1_width {l : List UInt8} (h : l ≠ []) : 1 ≤ (dec1 l).2 ∧ (dec1 l).2 ≤ l.length ∧ (dec1 l).2 ≤ 4 := by
  have : 1 ≤ l.length := by cases l with | nil => exact absurd rfl h | cons => simp
  exact decN_width this
theorem dec1_valid (l : List UInt8) : (dec1 l).1 < 55296 ∨ 57344 ≤ (dec1 l).1 ∧ (dec1 l).1 ≤ 1114111 := decN_valid
def rn : Nat → List UInt8 → List Int
  | 0, _ => []
  | _ + 1, [] => []
  | n + 1, b :: l => (dec1 (b :: l)).1 :: rn n ((b :: l).drop (dec1 (b :: l)).2)
def runesB (l : List UInt8) : List Int := rn l.length l
theorem rn_nil (n : Nat) : rn n [] = [] := by cases n <;> rfl
theorem rn_enough : ∀ (n m : Nat) (l : List UInt8), l.length ≤ n → l.length ≤ m → rn n l = rn m l
  | 0, m, l, h, _ => by
    have : l = [] := List.length_eq_zero_iff.1 (by omega)
    subst this; rw [rn_nil, rn_nil]
  | n + 1, m, [], _, _ => by rw [rn_nil, rn_nil]
  | n + 1, 0, b :: l, _, h => by simp at h
  | n + 1, m + 1, b :: l, h, h' => by
    have hw := dec1_width (l := b :: l) (by simp)
    simp only [rn]
    congr 1
    simp only [List.length_cons] at h h' hw
    exact rn_enough n m _ (by simp only [List.length_drop, List.length_cons]; omega) (by simp only [List.length_drop, List.length_cons]; omega)
@[simp] theorem runesB_nil : runesB [] = [] := rfl
theorem runesB_cons {l : List UInt8} (h : l ≠ []) : runesB l = ((dec1 l).1 : Int) :: runesB (l.drop (dec1 l).2) := by
  cases l with
  | nil => exact absurd rfl h
  | cons b l =>
    have hw := dec1_width (l := b :: l) (by simp)
    simp only [runesB, List.length_cons, rn] at *
    congr 1
    exact rn_enough _ _ _ (by simp only [List.length_drop, List.length_cons]; omega) (Nat.le_refl _)
theorem drop_ind {P : List UInt8 → Prop} (h0 : P []) (h1 : ∀ l, l ≠ [] → P (l.drop (dec1 l).2) → P l) (l : List UInt8) : P l := by
  have key : ∀ n (l : List UInt8), l.length ≤ n → P l := by
    intro n
    induction n with
    | zero => intro l h; rw [List.length_eq_zero_iff.1 (by omega : l.length = 0)]; exact h0
    | succ n ih =>
      intro l h
      by_cases hl : l = []
      · subst hl; exact h0
      · have hw := dec1_width hl
        exact h1 l hl (ih _ (by rw [List.length_drop]; omega))
  exact key _ l (Nat.le_refl _)
theorem runesB_len (l : List UInt8) : (runesB l).length ≤ l.length := by
  induction l using drop_ind with
  | h0 => simp
  | h1 l hl ih =>
    have hw := dec1_width hl
    rw [runesB_cons hl, List.length_cons]
    rw [List.length_drop] at ih
    omega
theorem runesB_valid (l : List UInt8) : ∀ r ∈ runesB l, 0 ≤ r ∧ (r < 55296 ∨ 57344 ≤ r ∧ r ≤ 1114111) := by
  induction l using drop_ind with
  | h0 => simp
  | h1 l hl ih =>
    intro r hr
    rw [runesB_cons hl] at hr
    rcases List.mem_cons.1 hr with rfl | hr
    · have := dec1_valid l; omega
    · exact ih r hr
def encB (r : Int) : List UInt8 := Lib.encodeRune r
theorem enc_cases {r : Int} (h0 : 0 ≤ r) (h1 : r < 55296 ∨ 57344 ≤ r ∧ r ≤ 1114111) :
    0 ≤ r ∧ r ≤ 127 ∧ Lib.encodeRuneZ r = [r] ∨ 128 ≤ r ∧ r ≤ 2047 ∧ Lib.encodeRuneZ r = [192 + r / 64, 128 + r % 64] ∨
    2048 ≤ r ∧ r ≤ 65535 ∧ (r < 55296 ∨ 57344 ≤ r) ∧ Lib.encodeRuneZ r = [224 + r / 4096, 128 + r / 64 % 64, 128 + r % 64] ∨
    65536 ≤ r ∧ r ≤ 1114111 ∧ Lib.encodeRuneZ r = [240 + r / 262144, 128 + r / 4096 % 64, 128 + r / 64 % 64, 128 + r % 64] := by
  by_cases c1 : r ≤ 127
  · exact .inl ⟨h0, c1, Lib.encodeRuneZ_one h0 c1⟩
  by_cases c2 : r ≤ 2047
  · exact .inr (.inl ⟨by omega, c2, Lib.encodeRuneZ_two (by omega) c2⟩)
  by_cases c3 : r ≤ 65535
  · exact .inr (.inr (.inl ⟨by omega, c3, by omega, Lib.encodeRuneZ_three (by omega)⟩))
  · exact .inr (.inr (.inr ⟨by omega, by omega, Lib.encodeRuneZ_four (by omega) (by omega)⟩))
theorem toNat_u8 {x : Int} (_ : 0 ≤ x) (_ : x < 256) : x.toNat.toUInt8.toNat = x.toNat := by
  simp; omega
set_option maxRecDepth 10000 in
theorem enc_dec {r : Int} (h0 : 0 ≤ r) (h1 : r < 55296 ∨ 57344 ≤ r ∧ r ≤ 1114111) (rest : List UInt8) : dec1 (encB r ++ rest) = (r.toNat, (encB r).length) := by
  unfold encB Lib.encodeRune
  rcases enc_cases h0 h1 with ⟨a, b, e⟩ | ⟨a, b, e⟩ | ⟨a, b, c, e⟩ | ⟨a, b, e⟩
  · rw [e]
    simp only [List.map_cons, List.map_nil, List.cons_append, List.nil_append, dec1, bAt, List.getD_cons_zero, List.length_cons, List.length_nil]
    rw [toNat_u8 (by omega) (by omega)]
    unfold Lib.decodeN
    rw [if_pos (by omega)]
  · rw [e]
    simp only [List.map_cons, List.map_nil, List.cons_append, List.nil_append, dec1, bAt, List.getD_cons_zero, List.getD_cons_succ, List.length_cons, List.length_nil]
    rw [toNat_u8 (by omega) (by omega), toNat_u8 (by omega) (by omega)]
    unfold Lib.decodeN
    rw [if_neg (by omega), if_pos (by omega), if_pos (by omega)]
    congr 1
    omega
  · rw [e]
    simp only [List.map_cons, List.map_nil, List.cons_append, List.nil_append, dec1, bAt, List.getD_cons_zero, List.getD_cons_succ, List.length_cons, List.length_nil]
    rw [toNat_u8 (by omega) (by omega), toNat_u8 (by omega) (by omega), toNat_u8 (by omega) (by omega)]
    unfold Lib.decodeN
    rw [if_neg (by omega), if_neg (by omega), if_pos (by omega), if_pos (by omega)]
    congr 1
    omega
  · rw [e]
    simp only [List.map_cons, List.map_nil, List.cons_append, List.nil_append, dec1, bAt, List.getD_cons_zero, List.getD_cons_succ, List.length_cons, List.length_nil]
    rw [toNat_u8 (by omega) (by omega), toNat_u8 (by omega) (by omega), toNat_u8 (by omega) (by omega), toNat_u8 (by omega) (by omega)]
    unfold Lib.decodeN
    rw [if_neg (by omega), if_neg (by omega), if_neg (by omega), if_pos (by omega), if_pos (by omega)]
    congr 1
    omega
theorem encB_pos (r : Int) : 1 ≤ (encB r).length ∧ (encB r).length ≤ 4 := by
  have := Lib.encodeRuneZ_length r
  simpa [encB, Lib.encodeRune] using this
def encAll (rs : List Int) : List UInt8 := rs.flatMap encB
def Rune (r : Int) : Prop := 0 ≤ r ∧ (r < 55296 ∨ 57344 ≤ r ∧ r ≤ 1114111)
theorem runes_enc : ∀ (rs : List Int), (∀ r ∈ rs, Rune r) → runesB (encAll rs) = rs
  | [], _ => rfl
  | r :: rs, h => by
    have hr := h r (by simp)
    have hp := encB_pos r
    have hne : encAll (r :: rs) ≠ [] := by
      intro e
      have := congrArg List.length e
      simp only [encAll, List.flatMap_cons, List.length_append, List.length_nil] at this
      omega
    have he : encAll (r :: rs) = encB r ++ encAll rs := by simp [encAll]
    rw [runesB_cons hne, he, enc_dec hr.1 hr.2]
    simp only [List.drop_left]
    rw [runes_enc rs fun x hx => h x (by simp [hx])]
    congr 1
    have := hr.1
    omega
theorem encAll_len : ∀ (rs : List Int), (encAll rs).length ≤ 4 * rs.length
  | [] => by simp [encAll]
  | r :: rs => by
    have := encB_pos r
    have ih := encAll_len rs
    simp only [encAll, List.flatMap_cons, List.length_append, List.length_cons] at *
    omega
theorem encAll_append (xs ys : List Int) : encAll (xs ++ ys) = encAll xs ++ encAll ys := by simp [encAll]
def cutAt : Nat → List UInt8 → Nat
  | 0, _ => 0
  | _ + 1, [] => 0
  | n + 1, b :: l => (dec1 (b :: l)).2 + cutAt n ((b :: l).drop (dec1 (b :: l)).2)
theorem cutAt_cons (n : Nat) {l : List UInt8} (h : l ≠ []) : cutAt (n + 1) l = (dec1 l).2 + cutAt n (l.drop (dec1 l).2) := by
  cases l with | nil => exact absurd rfl h | cons => rfl
@[simp] theorem cutAt_nil (n : Nat) : cutAt n [] = 0 := by cases n <;> rfl
theorem cutAt_le : ∀ (n : Nat) (l : List UInt8), cutAt n l ≤ l.length
  | 0, l => by simp [cutAt]
  | n + 1, l => by
    by_cases h : l = []
    · subst h; simp
    · have hw := dec1_width h
      have := cutAt_le n (l.drop (dec1 l).2)
      rw [cutAt_cons n h]
      rw [List.length_drop] at this
      omega
theorem runes_rest : ∀ (n : Nat) (l : List UInt8), runesB (l.drop (cutAt n l)) = (runesB l).drop n
  | 0, l => by simp [cutAt]
  | n + 1, l => by
    by_cases h : l = []
    · subst h; simp
    · rw [cutAt_cons n h, runesB_cons h, List.drop_succ_cons, ← List.drop_drop]
      exact runes_rest n _
end Go.Den
end
section
namespace Go.Den
def letterZ (c : Int) : Bool := decide (97 ≤ c) && decide (c ≤ 122) || decide (48 ≤ c) && decide (c ≤ 57) || decide (945 ≤ c) && decide (c ≤ 969)
def foldZ (c : Int) : Int := if c = 962 then 963 else if c = 930 then c else if 65 ≤ c ∧ c ≤ 90 ∨ 913 ≤ c ∧ c ≤ 937 then c + 32 else c
def rightB (l : List UInt8) : Bool := (runesB l).all letterZ && (decide (1 ≤ ((runesB l).length : Int)) && decide (((runesB l).length : Int) ≤ 8))
def foldB (l : List UInt8) : List UInt8 := encAll ((runesB l).map foldZ)
def lessZ : List Int → List Int → Bool
  | [], [] => false
  | [], _ :: _ => true
  | _ :: _, [] => false
  | a :: x, b :: y => if a = b then lessZ x y else decide (a < b)
theorem foldZ_rune {c : Int} (h : Rune c) : Rune (foldZ c) := by
  unfold Rune at *
  unfold foldZ
  repeat' split
  all_goals omega
theorem foldZ_fold (c : Int) : foldZ (foldZ c) = foldZ c := by
  unfold foldZ
  repeat' split
  all_goals omega
theorem fold_runes (l : List UInt8) : runesB (foldB l) = (runesB l).map foldZ := by
  refine runes_enc _ fun r hr => ?_
  obtain ⟨c, hc, rfl⟩ := List.mem_map.1 hr
  exact foldZ_rune (runesB_valid l c hc)
theorem fold_fold (l : List UInt8) : foldB (foldB l) = foldB l := by
  have h : foldB (foldB l) = encAll ((runesB (foldB l)).map foldZ) := rfl
  rw [h, fold_runes, List.map_map]
  unfold foldB
  congr 1
  apply List.map_congr_left
  intro c _
  exact foldZ_fold c
theorem foldB_len (l : List UInt8) : (foldB l).length ≤ 4 * l.length := by
  have := encAll_len ((runesB l).map foldZ)
  have h2 := runesB_len l
  rw [List.length_map] at this
  unfold foldB
  omega
theorem less_irr : ∀ x, lessZ x x = false
  | [] => rfl
  | a :: x => by simp [lessZ, less_irr x]
theorem less_asym : ∀ x y, lessZ x y = true → lessZ y x = false
  | [], [], h => by simp [lessZ] at h
  | [], _ :: _, _ => rfl
  | _ :: _, [], h => by simp [lessZ] at h
  | a :: x, b :: y, h => by
    simp only [lessZ] at *
    by_cases hab : a = b
    · subst hab; simp at *; exact less_asym x y h
    · rw [if_neg hab] at h
      rw [if_neg (fun e => hab e.symm)]
      simp at *; omega
theorem less_trans : ∀ x y z, lessZ x y = true → lessZ y z = true → lessZ x z = true
  | [], [], _, h, _ => by simp [lessZ] at h
  | [], _ :: _, [], _, h => by simp [lessZ] at h
  | [], _ :: _, _ :: _, _, _ => rfl
  | _ :: _, [], _, h, _ => by simp [lessZ] at h
  | _ :: _, _ :: _, [], _, h => by simp [lessZ] at h
  | a :: x, b :: y, c :: z, h, h' => by
    simp only [lessZ] at *
    by_cases hab : a = b
    · subst hab
      rw [if_pos rfl] at h
      by_cases hac : a = c
      · subst hac
        rw [if_pos rfl] at *
        exact less_trans x y z h h'
      · rw [if_neg hac] at *; exact h'
    · rw [if_neg hab] at h
      by_cases hbc : b = c
      · subst hbc
        rw [if_neg hab]; exact h
      · rw [if_neg hbc] at h'
        simp at h h'
        rw [if_neg (by omega)]
        simp; omega
theorem less_total : ∀ x y, x ≠ y → lessZ x y = true ∨ lessZ y x = true
  | [], [], h => absurd rfl h
  | [], _ :: _, _ => .inl rfl
  | _ :: _, [], _ => .inr rfl
  | a :: x, b :: y, h => by
    simp only [lessZ]
    by_cases hab : a = b
    · subst hab
      simp
      exact less_total x y fun e => h (by rw [e])
    · rw [if_neg hab, if_neg (fun e => hab e.symm)]
      simp; omega
theorem it_more : ∀ (j : Nat) (l : List UInt8), cutAt j l < l.length → (runesB l)[j]? = some ((dec1 (l.drop (cutAt j l))).1 : Int) ∧ cutAt (j + 1) l = cutAt j l + (dec1 (l.drop (cutAt j l))).2
  | 0, l, h => by
    have hl : l ≠ [] := by intro e; subst e; simp at h
    rw [cutAt_cons 0 hl, runesB_cons hl]
    simp [cutAt]
  | j + 1, l, h => by
    have hl : l ≠ [] := by intro e; subst e; simp at h
    have hw := dec1_width hl
    rw [cutAt_cons j hl] at h ⊢
    rw [cutAt_cons (j + 1) hl, runesB_cons hl]
    obtain ⟨h1, h2⟩ := it_more j (l.drop (dec1 l).2) (by rw [List.length_drop]; omega)
    rw [List.getElem?_cons_succ, h1, h2, List.drop_drop]
    exact ⟨rfl, by omega⟩
theorem it_end {j : Nat} {l : List UInt8} (h : ¬ cutAt j l < l.length) : (runesB l).length ≤ j ∧ cutAt j l = l.length := by
  have h1 := cutAt_le j l
  have h2 := runes_rest j l
  have h3 : cutAt j l = l.length := by omega
  rw [h3, List.drop_length, runesB_nil] at h2
  have := congrArg List.length h2
  rw [List.length_drop, List.length_nil] at this
  exact ⟨by omega, h3⟩
def txt (l : List UInt8) : ByteArray := ⟨l.toArray⟩
@[simp] theorem txt_list (l : List UInt8) : (txt l).data.toList = l := by simp [txt]
@[simp] theorem txt_size (l : List UInt8) : (txt l).size = l.length := by simp [txt, ByteArray.size]
theorem list_len (s : ByteArray) : s.data.toList.length = s.size := Array.length_toList
end Go.Den
end
section
namespace Go.Den
def It (w : World) (b : Nat) (s : ByteArray) (j : Nat) : Prop := blk w b = some (.stringIter s (cutAt j s.data.toList))
theorem range_step {w : World} {s : ByteArray} {K : Value × World → Prop} (h : ∀ w', It w' (hsz w) s 0 → Fr [] w w' → hsz w' = hsz w + 1 → K (.pointer (some ⟨hsz w, 0, none⟩), w')) : BND (rangev w (.string s)) K :=
  BND_step rfl (h _ (blk_alloc_new _ _) (Fr.alloc _ _ _) (by simp))
theorem It.fr {w w' : World} {b j : Nat} {s : ByteArray} {F : List Nat} (h : It w b s j) (hf : Fr F w w') (hn : b ∉ F) : It w' b s j := hf.some hn h
theorem It.lt {w : World} {b j : Nat} {s : ByteArray} (h : It w b s j) : b < hsz w := blk_lt h
theorem next_step {w : World} {b j : Nat} {s : ByteArray} {K : Value × World → Prop} (h : It w b s j)
    (hmore : ∀ r, (runesB s.data.toList)[j]? = some r → cutAt j s.data.toList < s.size → It (setB w b (.stringIter s (cutAt (j + 1) s.data.toList))) b s (j + 1) →
      K (.tuple #[.bool true, .int .i64 (cutAt j s.data.toList), .int .i32 r], setB w b (.stringIter s (cutAt (j + 1) s.data.toList))))
    (hend : (runesB s.data.toList).length ≤ j → cutAt j s.data.toList = s.size → K (.tuple #[.bool false], w)) : BND (nexts w (.pointer (some ⟨b, 0, none⟩))) K := by
  have h' : w.heap[b]? = some (.stringIter s (cutAt j s.data.toList)) := h
  by_cases hp : cutAt j s.data.toList < s.size
  · obtain ⟨h1, h2⟩ := it_more j s.data.toList (by rw [list_len]; exact hp)
    refine BND_step (v := (.tuple #[.bool true, .int .i64 (cutAt j s.data.toList), .int .i32 (dec1 (s.data.toList.drop (cutAt j s.data.toList))).1], setB w b (.stringIter s (cutAt (j + 1) s.data.toList)))) ?_ (hmore _ h1 hp (blk_setB_same h))
    simp only [nexts, h', hp, if_true, decode_dec1, h2]
    rfl
  · obtain ⟨h1, h2⟩ := it_end (j := j) (l := s.data.toList) (by rw [list_len]; exact hp)
    refine BND_step (v := (.tuple #[.bool false], w)) ?_ (hend h1 (by rw [h2, list_len]))
    simp only [nexts, h', hp, if_false]
def toGo (n b : Nat) (w : World) : Nat :=
  match blk w b with
  | some (.stringIter s pos) => s.size - pos
  | _ => n
theorem It.toGo {w : World} {b j n : Nat} {s : ByteArray} (h : It w b s j) : Den.toGo n b w = s.size - cutAt j s.data.toList := by
  have h' : blk w b = some (.stringIter s (cutAt j s.data.toList)) := h
  simp [Den.toGo, h']
theorem cutAt_lt {j : Nat} {s : ByteArray} (h : cutAt j s.data.toList < s.size) : cutAt j s.data.toList < cutAt (j + 1) s.data.toList := by
  obtain ⟨_, h2⟩ := it_more j s.data.toList (by rw [list_len]; exact h)
  have hne : s.data.toList.drop (cutAt j s.data.toList) ≠ [] := by
    intro e
    have := congrArg List.length e
    rw [List.length_drop, list_len, List.length_nil] at this
    omega
  have := dec1_width hne
  omega
theorem It.less {w w' : World} {b j n : Nat} {s : ByteArray} (h : It w b s j) (h' : It w' b s (j + 1)) (hp : cutAt j s.data.toList < s.size) : Den.toGo n b w' < Den.toGo n b w := by
  rw [h.toGo, h'.toGo]
  have := cutAt_lt hp
  omega
end Go.Den
end
section
namespace Go.Proofs.YtpgflmjeedbimaaGreat
open Go.Den Go.RowKit
set_option maxHeartbeats 1000000 in
set_option maxRecDepth 100000 in
theorem bld_check_used (b : Nat) (w : World) (h0 : w.cell? ⟨b, 0, none⟩ = some (.pointer (some ⟨b, 0, none⟩))) :
    Calls Tryz.prog 229 #[.pointer (some ⟨b, 0, none⟩)] w fun e w' => e = .returned (.tuple #[]) ∧ w' = w := by
  have hn : (binOp .neq 288 (.pointer (some ⟨b, 0, none⟩)) (.pointer (some ⟨b, 0, none⟩))).run Tryz.prog w = .ok (.bool false) w := by
    cases hi : Tryz.prog.info? 291 with
    | none => have : (Tryz.prog.info? 291).isSome = true := by kernel_rfl
              rw [hi] at this; cases this
    | some j => exact Lib.run_neq_ptr_same w _ Tryz.underlying288 hi
  go_enter Tryz.func229, Tryz.ntmps229
  go_wp2
  go_end0
  exact ⟨rfl, rfl⟩
set_option maxHeartbeats 1000000 in
set_option maxRecDepth 100000 in
theorem bld_check_fresh (b : Nat) (w : World) (h0 : w.cell? ⟨b, 0, none⟩ = some (.pointer none)) (hsh : w.shape? b = some (291, 2)) (hfz : w.frozen? ⟨b, 0, none⟩ = false) :
    Calls Tryz.prog 229 #[.pointer (some ⟨b, 0, none⟩)] w fun e w' => e = .returned (.tuple #[]) ∧ w' = w.setCell ⟨b, 0, none⟩ (.pointer (some ⟨b, 0, none⟩)) := by
  obtain ⟨j, hj, hjs⟩ := Option.map_eq_some_iff.1 (show (Tryz.prog.info? 291).map (·.size) = some 2 by kernel_rfl)
  go_enter Tryz.func229, Tryz.ntmps229
  go_wp2
  rw [Lib.run_to_unsafe w ⟨b, 0, none⟩ Tryz.underlying288 Tryz.underlying331 hj (by rw [hjs]; decide) hsh (Nat.zero_lt_succ 1)]
  simp only [Result.andThen]
  rw [Oper.upon_value]
  go_wp2
  rw [run_callFunc_extern Tryz.func246 (by kernel_rfl) (by kernel_rfl) (by kernel_rfl) (e := Extern.AbiNoEscape.same) (by kernel_rfl)]
  rw [Lib.run_noEscape]
  simp only [Result.andThen]
  rw [Oper.upon_value]
  go_wp2
  rw [Lib.run_from_unsafe w ⟨b, 0, none⟩ Tryz.underlying331 Tryz.underlying288 hj hsh (by kernel_rfl)]
  simp only [Result.andThen]
  rw [Oper.upon_value]
  go_wp2
  go_end0
  exact ⟨rfl, rfl⟩
def Bld (B b : Nat) (bs : List Value) (w : World) : Prop := Lib.IsBuilderF 291 5 B b bs w
structure Keeps (B b : Nat) (w w' : World) : Prop where
  below : Below B w w'
  kept : Lib.OthersKept 5 (some b) w w'
theorem bld_check {B b : Nat} {bs : List Value} {w : World} (h : Bld B b bs w) {R : Value → World → Prop}
    (hR : ∀ v w', Lib.BuilderAtF 291 5 B b (.pointer (some ⟨b, 0, none⟩)) bs w' → Keeps B b w w' → R v w') : CALL PR F_strings_Builder_copyCheck [.pointer (some ⟨b, 0, none⟩)] w R := by
  constructor
  rcases h with h | h
  · refine (bld_check_fresh b w h.cell0 h.shape h.frozen0).mono ?_
    rintro e w' ⟨rfl, rfl⟩
    exact ⟨_, rfl, hR _ _ (h.used _) ⟨(Below.refl B w).setCell (p := ⟨b, 0, none⟩) h.1 _, (Lib.OthersKept.refl _ _ w).setCell ⟨b, 0, none⟩ rfl _⟩⟩
  · refine (bld_check_used b w h.cell0).mono ?_
    rintro e w' ⟨rfl, rfl⟩
    exact ⟨_, rfl, hR _ _ h ⟨Below.refl B _, Lib.OthersKept.refl _ _ _⟩⟩
theorem bld_write {B b : Nat} {bs : List Value} {w : World} (h : Bld B b bs w) (r : Int) (hr0 : -2147483648 ≤ r) (hr1 : r ≤ 2147483647) (hlen : bs.length + 4 ≤ 140737488355328) (hBw : B ≤ w.heap.size) {R : Value → World → Prop}
    (hR : ∀ v w', Bld B b (bs ++ Lib.runeCells r) w' → Keeps B b w w' → R v w') : CALL PR F_strings_Builder_WriteRune [.pointer (some ⟨b, 0, none⟩), .int .i32 r] w R := by
  refine C_strings_Builder_WriteRune ?_
  unfold M_strings_Builder_WriteRune
  refine bld_check h fun _ w1 h1 k1 => ?_
  have hsz1 : B ≤ w1.heap.size := by have := k1.below.size; omega
  obtain ⟨hB, v, hbk, hown, hne⟩ := h1
  obtain ⟨ao, cap, rfl⟩ : ∃ ao cap, v = .slice ao bs.length cap := by
    rcases hown.2 with ⟨hv, h0⟩ | ⟨g, cap, cur, fz, hv, _⟩
    · exact ⟨none, 0, by rw [hv, h0]⟩
    · exact ⟨_, _, hv⟩
  refine BND_step (nilchk_ptr _) <| BND_step (faddr_ptr _ _ _) <| BND_step (v := .slice ao bs.length cap) (load1_blk hbk) <| BND_step (lenl_slice _ _ _) <| BND_step (nilchk_ptr _) <| BND_step (faddr_ptr _ _ _) <| BND_step (v := .slice ao bs.length cap) (load1_blk hbk) ?_
  constructor
  refine (Any.utf8_AppendRune_own Tryz.lays242 Tryz.Builder_Extra_242 B _ bs.length bs r hr0 hr1 w1 hown hlen hsz1).mono ?_
  rintro e w2 ⟨v', rfl, hown', o, hgrow⟩
  refine ⟨v', rfl, ?_⟩
  have hlt : b < w1.heap.size := blk_lt hbk
  have hb2 : blk w2 b = some (.cells #[.pointer (some ⟨b, 0, none⟩), .slice ao bs.length cap] 291 (0, 0)) := by
    show w2.heap[b]? = _
    rw [hgrow.block b (by simp; have : hsz w1 = w1.heap.size := rfl; omega) (fun e => hne e.symm), Lib.alloc_old w1 _ b hlt]
    exact hbk
  have hv' : (∃ ao' cap', v' = .slice ao' (bs.length + (Lib.runeCells r).length) cap') := by
    rcases hown'.2 with ⟨hv, h0⟩ | ⟨g, cap', cur, fz, hv, _⟩
    · exact ⟨none, 0, by rw [hv, h0]⟩
    · exact ⟨_, _, hv⟩
  obtain ⟨ao', cap', rfl⟩ := hv'
  have st := storev1_blk (o := 1) (v := .slice ao' (bs.length + (Lib.runeCells r).length) cap') hb2 (by simp) rfl rfl
  refine BND_step (nilchk_ptr _) <| BND_step (faddr_ptr _ _ _) <| BND_step st <| BND_step (nilchk_ptr _) <| BND_step (faddr_ptr _ _ _) <| BND_step (v := .slice ao' (bs.length + (Lib.runeCells r).length) cap') (load1_blk (blk_setB_same hb2)) <|
    BND_step (lenl_slice _ _ _) <| BND_step (binv_sub _ _ _ _) ?_
  have hset : setB w2 b (.cells (#[.pointer (some ⟨b, 0, none⟩), .slice ao bs.length cap].setIfInBounds (0 + 1) (.slice ao' (bs.length + (Lib.runeCells r).length) cap')) 291 (0, 0)) = w2.setCell ⟨b, 1, none⟩ (.slice ao' (bs.length + (Lib.runeCells r).length) cap') := (setCell_setB hb2 _).symm
  refine hR _ _ ?_ ⟨?_, ?_⟩
  · exact .inr (by rw [hset]; exact Lib.BuilderAtF.put hB hb2 (bs' := bs ++ Lib.runeCells r) (by rw [List.length_append]; exact hown') (by decide))
  · rw [hset]
    exact k1.below.trans ((((Below.refl B w1).alloc hsz1 _).grown hgrow (by simp; have : hsz w1 = w1.heap.size := rfl; omega) (fun k hk => (hown.lt k hk).1)).setCell (p := ⟨b, 1, none⟩) hB _)
  · rw [hset]
    exact k1.kept.trans ((((Lib.OthersKept.refl _ _ w1).alloc _).grown hgrow (Lib.ownsRowF_kind (hown.alloc _))).setCell ⟨b, 1, none⟩ rfl _)
theorem bld_string {B b : Nat} {l : List UInt8} {w : World} (h : Bld B b (Lib.byteCells l) w) (hBw : B ≤ w.heap.size) {R : Value → World → Prop}
    (hR : ∀ w', Keeps B b w w' → R (.string ⟨l.toArray⟩) w') : CALL PR F_strings_Builder_String [.pointer (some ⟨b, 0, none⟩)] w R := by
  constructor
  refine (Tryz.Builder_String_any_k B b l w h hBw).mono ?_
  rintro e w' ⟨rfl, _, b1, k1⟩
  exact ⟨_, rfl, hR w' ⟨b1, k1⟩⟩
end Go.Proofs.YtpgflmjeedbimaaGreat
end
section
namespace Go.Proofs.YtpgflmjeedbimaaGreat
open Go.Den Go.RowKit
theorem lb_letter (c : Int) {w : World} {R : Value → World → Prop} (hR : R (.bool (letterZ c)) w) : CALL PR F_label_letter [.int .i32 c] w R := by
  refine C_label_letter ?_
  unfold M_label_letter
  unfold letterZ at hR
  simp only [binv_geq, BND_some]
  have fin : ∀ b : Bool, b = (decide (945 ≤ c) && decide (c ≤ 969)) → (∀ x : Bool, x = b → R (.bool x) w) →
      BND (binv .int .geq (.int .i32 c) (.int .i32 945)) fun t20 => BND (grd (isB t20 true) (some (.int .i32 c))) fun t21 => BND (grd (isB t20 true) (binv .int .leq t21 (.int .i32 969))) fun t22 => BND (pickv t20 t22 (.bool false)) fun t => R t w := by
    intro b hb hk
    simp only [binv_geq, BND_some]
    by_cases h : 945 ≤ c
    · simp only [h, decide_true, isB_tt, grd_true, BND_some, binv_leq, pickv_true]
      exact hk _ (by rw [hb]; simp [h])
    · simp only [h, decide_false, isB_ft, grd_false, BND_some, pickv_false]
      exact hk _ (by rw [hb]; simp [h])
  by_cases h1 : 97 ≤ c
  · by_cases h2 : c ≤ 122
    · simp only [h1, h2, decide_true, isB_tt, isB_tf, grd_true, grd_false, BND_some, binv_leq, pickv_true] at hR ⊢
      simpa using hR
    · have h3 : ¬ c ≤ 57 := by omega
      have h4 : 48 ≤ c := by omega
      by_cases h5 : 945 ≤ c <;> by_cases h6 : c ≤ 969 <;>
        simp only [h1, h2, h3, h4, h5, h6, decide_true, decide_false, isB_tt, isB_ft, isB_ff, grd_true, grd_false, BND_some, binv_leq, binv_geq, pickv_true, pickv_false] at hR ⊢ <;> simpa using hR
  · by_cases h4 : 48 ≤ c <;> by_cases h3 : c ≤ 57 <;> by_cases h5 : 945 ≤ c <;> by_cases h6 : c ≤ 969 <;>
        simp only [h1, h3, h4, h5, h6, decide_true, decide_false, isB_tt, isB_tf, isB_ft, isB_ff, grd_true, grd_false, BND_some, binv_leq, binv_geq, pickv_true, pickv_false] at hR ⊢ <;> simpa using hR
theorem add1 {n : Nat} (h : n < 1000000000000) : binv .int .add (.int .i64 (n : Int)) (.int .i64 1) = some (.int .i64 ((n + 1 : Nat) : Int)) := by
  rw [binv_add, wrap_i64 (by omega) (by omega)]; rfl
theorem lb_right {s : ByteArray} (hs : s.size < 1000000) {w : World} {R : Value → World → Prop} (hR : ∀ w', Fr [] w w' → R (.bool (rightB s.data.toList)) w') : CALL PR F_label_Right [.string s] w R := by
  have hl := runesB_len s.data.toList
  rw [list_len] at hl
  refine C_label_Right ?_
  unfold M_label_Right
  refine range_step fun w1 h1 f1 hz1 => (NEW_pair _ _ _).2 ?_
  refine ⟨fun u w' => ∃ j : Nat, u = .int .i64 j ∧ It w' (hsz w) s j ∧ Fr [] w w' ∧ j ≤ (runesB s.data.toList).length ∧ ∀ i r, i < j → (runesB s.data.toList)[i]? = some r → letterZ r = true, fun _ w' => toGo 0 (hsz w) w',
    ⟨0, rfl, h1, f1, by omega, fun i r hi => by omega⟩, ?_⟩
  rintro _ _ w2 ⟨j, rfl, h2, f2, hj, hb⟩
  refine next_step h2 (fun r hr hp h3 => (NEW_pair _ _ _).2 ?_) (fun he _ => (NEW_pair _ _ _).2 ?_)
  · have f3 : Fr [] w (setB w2 (hsz w) (.stringIter s (cutAt (j + 1) s.data.toList))) := f2.trans (Fr.setB (F := [hsz w]) (.inl (by simp)) _) (by simp)
    refine BND_step (extractv_tuple _ _) <| (COND_true _ _).2 <| BND_step (extractv_tuple _ _) <| lb_letter r ?_
    refine BND_step (unv_not _) ?_
    have hjl := (List.getElem?_eq_some_iff.1 hr).1
    cases hc : letterZ r with
    | false =>
      refine (COND_true _ _).2 ?_
      have : rightB s.data.toList = false := by
        unfold rightB
        have : (runesB s.data.toList).all letterZ = false := by
          rw [List.all_eq_false]
          exact ⟨r, List.mem_of_getElem? hr, by simp [hc]⟩
        simp [this]
      rw [← this]
      exact hR _ f3
    | true =>
      refine (COND_false _ _).2 <| BND_step (add1 (by omega)) ⟨⟨j + 1, rfl, h3, f3, by omega, fun i r' hi hr' => ?_⟩, h2.less h3 hp⟩
      by_cases hij : i = j
      · subst hij; rw [hr] at hr'; cases hr'; exact hc
      · exact hb i r' (by omega) hr'
  · have hall : (runesB s.data.toList).all letterZ = true := by
      rw [List.all_eq_true]
      intro r hr
      obtain ⟨i, hi, rfl⟩ := List.getElem_of_mem hr
      exact hb i _ (by omega) (List.getElem?_eq_getElem hi)
    have hjj : j = (runesB s.data.toList).length := by omega
    have hres : rightB s.data.toList = (decide (1 ≤ (j : Int)) && decide ((j : Int) ≤ 8)) := by
      unfold rightB; rw [hall, hjj]; rfl
    refine BND_step (extractv_tuple _ _) <| (COND_false _ _).2 <| BND_step (binv_geq _ _ _ _) ?_
    have hR2 := hR w2 f2
    rw [hres] at hR2
    by_cases h1 : (1 : Int) ≤ j
    · simp only [h1, decide_true, isB_tt, grd_true, BND_some, binv_leq, pickv_true]
      simpa [h1] using hR2
    · simp only [h1, decide_false, isB_ft, grd_false, BND_some, pickv_false]
      simpa [h1] using hR2
theorem lb_fold (c : Int) (hc : Rune c) {w : World} {R : Value → World → Prop} (hR : R (.int .i32 (foldZ c)) w) : CALL PR F_label_fold [.int .i32 c] w R := by
  refine C_label_fold ?_
  unfold M_label_fold
  unfold foldZ at hR
  have hadd : binv .int .add (.int .i32 c) (.int .i32 32) = some (.int .i32 (c + 32)) := by
    rw [binv_add]
    have : IntKind.i32.wrap (c + 32) = c + 32 := by
      unfold Rune at hc
      simp only [IntKind.wrap, IntKind.bits, IntKind.signed]
      simp
      omega
    rw [this]
  refine BND_step (binv_eql _ _ _ _) ?_
  by_cases h1 : c = 962
  · refine COND_dec_true h1 ?_
    rw [if_pos h1] at hR; exact hR
  refine COND_dec_false h1 <| BND_step (binv_eql _ _ _ _) ?_
  rw [if_neg h1] at hR
  by_cases h2 : c = 930
  · refine COND_dec_true h2 ?_
    rw [if_pos h2] at hR; exact hR
  refine COND_dec_false h2 <| BND_step (binv_geq _ _ _ _) ?_
  rw [if_neg h2] at hR
  by_cases h3 : 65 ≤ c <;> by_cases h4 : c ≤ 90 <;> by_cases h5 : 913 ≤ c <;> by_cases h6 : c ≤ 937 <;>
    simp only [h3, h4, h5, h6, decide_true, decide_false, isB_tt, isB_ft, grd_true, grd_false, BND_some, binv_leq, binv_geq, pickv_true, pickv_false, JOIN, COND_true, COND_false, hadd, and_self, and_true, and_false, or_true, or_false, if_true, if_false] at hR ⊢ <;> first | exact hR | (exfalso; omega)
theorem fr_of_belowD {w w' : World} (h : Below w.heap.size w w') : Fr [] w w' := ⟨h.size, fun b hb _ => h.block b hb, h.os, h.tape, h.output⟩
theorem lb_Fold {s : ByteArray} (hs : s.size < 1000000) {w : World} {R : Value → World → Prop} (hR : ∀ w', Fr [] w w' → R (.string (txt (foldB s.data.toList))) w') : CALL PR F_label_Fold [.string s] w R := by
  have hl := runesB_len s.data.toList
  rw [list_len] at hl
  refine C_label_Fold ?_
  unfold M_label_Fold
  refine (NEW_newv _ _ _ _).2 ?_
  have hb0 : Bld w.heap.size w.heap.size [] (w.alloc (.cells (Value.agg #[.pointer none, .slice none 0 0]).cells 291)) := Lib.IsBuilderF.of (Lib.fresh_isBuilder 291 5 w)
  have bl0 : Below w.heap.size w (w.alloc (.cells (Value.agg #[.pointer none, .slice none 0 0]).cells 291)) := (Below.refl _ w).alloc (Nat.le_refl _) _
  generalize hw1 : w.alloc (.cells (Value.agg #[.pointer none, .slice none 0 0]).cells 291) = w1 at hb0 bl0 ⊢
  have hz1 : hsz w1 = hsz w + 1 := by rw [← hw1]; simp
  have hnb : hsz w1 ≠ w.heap.size := by rw [hz1]; simp
  refine BND_step rfl <| (NEW_pair _ _ _).2 ?_
  refine ⟨fun w' => ∃ j : Nat, It w' (hsz w1) s j ∧ Below w.heap.size w w' ∧ Bld w.heap.size w.heap.size (Lib.byteCells (encAll (((runesB s.data.toList).take j).map foldZ))) w', fun w' => toGo 0 (hsz w1) w',
    ⟨0, blk_alloc_new _ _, bl0.alloc bl0.size _, ?_⟩, ?_⟩
  · rw [List.take_zero]
    exact hb0.alloc _
  rintro _ w2 ⟨j, h2, bl, hb⟩
  have hsz2 : w.heap.size ≤ w2.heap.size := bl.size
  refine next_step h2 (fun r hr hp h3 => (NEW_pair _ _ _).2 ?_) (fun he _ => (NEW_pair _ _ _).2 ?_)
  · have hru : Rune r := runesB_valid _ r (List.mem_of_getElem? hr)
    have hjl := (List.getElem?_eq_some_iff.1 hr).1
    refine BND_step (extractv_tuple _ _) <| (COND_true _ _).2 <| BND_step (extractv_tuple _ _) <| lb_fold r hru ?_
    have hfr := foldZ_rune hru
    have hb3 : Bld w.heap.size w.heap.size _ (setB w2 (hsz w1) (.stringIter s (cutAt (j + 1) s.data.toList))) := Lib.IsBuilderF.iterAt hb h2 (cutAt (j + 1) s.data.toList)
    have bl3 : Below w.heap.size w (setB w2 (hsz w1) (.stringIter s (cutAt (j + 1) s.data.toList))) := Lib.below_iterAt bl (by rw [hz1]; show hsz w ≤ _; omega) s (cutAt (j + 1) s.data.toList)
    have hlen := encAll_len (((runesB s.data.toList).take j).map foldZ)
    rw [List.length_map, List.length_take] at hlen
    refine bld_write hb3 (foldZ r) (by unfold Rune at hfr; omega) (by unfold Rune at hfr; omega) (by rw [Lib.byteCells_length]; omega) bl3.size fun _ w4 h4 k4 => ?_
    have h5 : It w4 (hsz w1) s (j + 1) := k4.kept.iter h3 hnb
    refine ⟨⟨j + 1, h5, bl3.trans k4.below, ?_⟩, h2.less h5 hp⟩
    have : (runesB s.data.toList).take (j + 1) = (runesB s.data.toList).take j ++ [r] := by
      rw [List.take_add_one, hr]; rfl
    rw [this, List.map_append, encAll_append, Lib.byteCells_append]
    have h6 : Lib.byteCells (encAll ([r].map foldZ)) = Lib.runeCells (foldZ r) := by
      simp only [encAll, List.map_cons, List.map_nil, List.flatMap_cons, List.flatMap_nil, List.append_nil, encB]
      exact Lib.byteCells_encodeRune _
    rw [h6]
    exact h4
  · refine BND_step (extractv_tuple _ _) <| (COND_false _ _).2 ?_
    rw [List.take_of_length_le he] at hb
    refine bld_string hb hsz2 fun w3 k3 => hR w3 (fr_of_belowD (bl.trans k3.below))
end Go.Proofs.YtpgflmjeedbimaaGreat
end
section
namespace Go.Proofs.YtpgflmjeedbimaaGreat
open Go.Den Go.RowKit
end Go.Proofs.YtpgflmjeedbimaaGreat
end
