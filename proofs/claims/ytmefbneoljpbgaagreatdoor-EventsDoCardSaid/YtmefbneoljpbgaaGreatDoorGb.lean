/- Worlds as blocks; what the words of 'den' come to on them; slices, maps, frames. No condition. Parts of slices, as what an append takes. No condition. Things put behind others; maps whose entries bear stamps; what came in and what is one's own, read alike. No condition. Structs' blocks; slices of several things, made at once. No condition. Steps of a walk put shortly: what stands at a place, loops that count, ways that meet. No condition. Things that lie apart in memory: which blocks each has; one is changed, the others stay. No condition. A map ranged over: its iterator in memory, what a step does. No condition but sizes. Two things that lie apart: one is changed, then the other one. No condition. -/
import Derived.Test.YtmefbneoljpbgaaGreatDoorGa
import Derived.Laws.Append
import Derived.MapKept
import Derived.Laws.Strings
section
namespace Go.Den

theorem snoc_ind {α : Type} {P : List α → Prop} (h0 : P []) (h1 : ∀ xs a, P xs → P (xs ++ [a])) (xs : List α) : P xs := by
  have key : ∀ n (xs : List α), xs.length = n → P xs := by
    intro n
    induction n with
    | zero => intro xs h; rw [List.length_eq_zero_iff.1 h]; exact h0
    | succ n ih =>
      intro xs h
      have hne : xs ≠ [] := by intro e; subst e; simp at h
      rw [← List.dropLast_concat_getLast hne]
      exact h1 _ _ (ih _ (by simp [h]))
  exact key _ xs rfl

/-! ## Blocks -/
def blk (w : World) (b : Nat) : Option Obj := w.heap[b]?
def hsz (w : World) : Nat := w.heap.size
def setB (w : World) (b : Nat) (o : Obj) : World := { w with heap := w.heap.setIfInBounds b o }

theorem blk_lt {w : World} {b : Nat} {o : Obj} (h : blk w b = some o) : b < hsz w := (Array.getElem?_eq_some_iff.1 h).1
theorem blk_none {w : World} {b : Nat} (h : hsz w ≤ b) : blk w b = none := Array.getElem?_eq_none h
@[simp] theorem blk_drew (w : World) (b : Nat) : blk w.drew b = blk w b := rfl
@[simp] theorem hsz_drew (w : World) : hsz w.drew = hsz w := rfl
@[simp] theorem hsz_alloc (w : World) (o : Obj) : hsz (w.alloc o) = hsz w + 1 := by simp [hsz]
@[simp] theorem hsz_setB (w : World) (b : Nat) (o : Obj) : hsz (setB w b o) = hsz w := by simp [hsz, setB]
@[simp] theorem heap_size (w : World) : w.heap.size = hsz w := rfl
theorem blk_alloc (w : World) (o : Obj) (b : Nat) : blk (w.alloc o) b = if b = hsz w then some o else blk w b := by
  simp only [blk, World.alloc, Array.getElem?_push]
  rfl
@[simp] theorem blk_alloc_new (w : World) (o : Obj) : blk (w.alloc o) (hsz w) = some o := by simp [blk_alloc]
theorem blk_alloc_old {w : World} {o : Obj} {b : Nat} (h : b ≠ hsz w) : blk (w.alloc o) b = blk w b := by simp [blk_alloc, h]
theorem blk_alloc_some {w : World} {o x : Obj} {b : Nat} (h : blk w b = some x) : blk (w.alloc o) b = some x := by
  rw [blk_alloc_old (Nat.ne_of_lt (blk_lt h)), h]
theorem blk_setB (w : World) (b b' : Nat) (o : Obj) : blk (setB w b o) b' = if b = b' then (blk w b).map fun _ => o else blk w b' := by
  simp only [blk, setB, Array.getElem?_setIfInBounds]
  split
  · rename_i h
    subst h
    cases hb : w.heap[b]? with
    | none => simp at hb; simp [Nat.not_lt.2 hb]
    | some x => have : b < hsz w := (Array.getElem?_eq_some_iff.1 hb).1; simp [this]
  · rfl
theorem blk_setB_same {w : World} {b : Nat} {o x : Obj} (h : blk w b = some x) : blk (setB w b o) b = some o := by simp [blk_setB, h]
theorem blk_setB_other {w : World} {b b' : Nat} {o : Obj} (h : b ≠ b') : blk (setB w b o) b' = blk w b' := by simp [blk_setB, h]

theorem heap_ext {w w' : World} (h : w'.heap = w.heap) (b : Nat) : blk w' b = blk w b := by simp [blk, h]

/-- what a walk may change of the memory that was there: the blocks F. -/
structure Fr (F : List Nat) (w w' : World) : Prop where
  grow : hsz w ≤ hsz w'
  keep : ∀ b, b < hsz w → b ∉ F → blk w' b = blk w b
  rest : w'.os = w.os ∧ w'.tape = w.tape ∧ w'.output = w.output
theorem Fr.refl (F : List Nat) (w : World) : Fr F w w := ⟨Nat.le_refl _, fun _ _ _ => rfl, rfl, rfl, rfl⟩
theorem Fr.drew (F : List Nat) (w : World) : Fr F w w.drew := ⟨Nat.le_refl _, fun _ _ _ => rfl, rfl, rfl, rfl⟩
theorem Fr.alloc (F : List Nat) (w : World) (o : Obj) : Fr F w (w.alloc o) := ⟨by simp, fun b hb _ => blk_alloc_old (Nat.ne_of_lt hb), rfl, rfl, rfl⟩
theorem Fr.setB {F : List Nat} {w : World} {b : Nat} (h : b ∈ F ∨ hsz w ≤ b) (o : Obj) : Fr F w (setB w b o) :=
  ⟨by simp, fun c hc hn => blk_setB_other fun e => by subst e; rcases h with h | h; exact hn h; omega, rfl, rfl, rfl⟩
theorem Fr.trans {F G : List Nat} {w w1 w2 : World} (h : Fr F w w1) (h' : Fr G w1 w2) (hs : ∀ b ∈ G, b ∈ F ∨ hsz w ≤ b) : Fr F w w2 :=
  ⟨Nat.le_trans h.grow h'.grow, fun b hb hn => by
    rw [h'.keep b (Nat.lt_of_lt_of_le hb h.grow) (fun hg => (hs b hg).elim hn (fun h => by omega)), h.keep b hb hn],
    h'.rest.1.trans h.rest.1, h'.rest.2.1.trans h.rest.2.1, h'.rest.2.2.trans h.rest.2.2⟩
theorem Fr.trans' {F : List Nat} {w w1 w2 : World} (h : Fr F w w1) (h' : Fr F w1 w2) : Fr F w w2 := h.trans h' fun _ hb => .inl hb
theorem Fr.wider {F G : List Nat} {w w' : World} (h : Fr F w w') (hs : ∀ b ∈ F, b ∈ G) : Fr G w w' :=
  ⟨h.grow, fun b hb hn => h.keep b hb fun hf => hn (hs b hf), h.rest⟩
theorem Fr.nil {F : List Nat} {w w' : World} (h : Fr [] w w') : Fr F w w' := h.wider (by simp)
theorem Fr.some {F : List Nat} {w w' : World} (h : Fr F w w') {b : Nat} (hn : b ∉ F) {o : Obj} (hb : blk w b = some o) : blk w' b = some o := by
  rw [h.keep b (blk_lt hb) hn, hb]

@[simp] theorem cells_agg (cs : Array Value) : (Value.agg cs).cells = cs := rfl
@[simp] theorem cells_int (k : IntKind) (n : Int) : (Value.int k n).cells = #[.int k n] := rfl
@[simp] theorem cells_bool (b : Bool) : (Value.bool b).cells = #[.bool b] := rfl
@[simp] theorem cells_string (s : ByteArray) : (Value.string s).cells = #[.string s] := rfl
@[simp] theorem cells_pointer (a : Option Addr) : (Value.pointer a).cells = #[.pointer a] := rfl
@[simp] theorem cells_slice (a : Option Addr) (n c : Nat) : (Value.slice a n c).cells = #[.slice a n c] := rfl
@[simp] theorem cells_map (r : Option Nat) : (Value.map r).cells = #[.map r] := rfl
@[simp] theorem cells_func (f : Fn) (a b : Array Value) : (Value.func f a b).cells = #[.func f a b] := rfl
@[simp] theorem cells_nilFunc : Value.nilFunc.cells = #[.nilFunc] := rfl

/-! ## The words -/
theorem BND_step {α : Type} {o : Option α} {v : α} {k : α → Prop} (h : o = some v) (hk : k v) : BND o k := ⟨v, h, hk⟩
theorem JOIN_elim {α : Type} {f : α → Prop} {k : α} (h : ∀ K, K = k → f K) : JOIN f k := h k rfl
theorem GEF_elim {c : Bool} {f : (Value → World → Prop) → Prop} {w : World} {k : Value → World → Prop} (h : ∀ K, K = k → GEF c f w K) : GEF c f w k := h k rfl
@[simp] theorem COND_true (t e : Prop) : COND (.bool true) t e ↔ t := ⟨fun h => by cases h with | yes _ ht => exact ht | no h _ => simp at h, fun h => .yes rfl h⟩
@[simp] theorem COND_false (t e : Prop) : COND (.bool false) t e ↔ e := ⟨fun h => by cases h with | yes h _ => simp at h | no _ h => exact h, fun h => .no rfl h⟩
theorem COND_dec_true {p : Prop} [Decidable p] (h : p) {t e : Prop} (ht : t) : COND (.bool (decide p)) t e := .yes (by simp [h]) ht
theorem COND_dec_false {p : Prop} [Decidable p] (h : ¬ p) {t e : Prop} (he : e) : COND (.bool (decide p)) t e := .no (by simp [h]) he
theorem COND_bool (b : Bool) (t e : Prop) : COND (.bool b) t e ↔ if b = true then t else e := by cases b <;> simp
@[simp] theorem NEW_newv (T : Nat) (w : World) (v : Value) (k : Value → World → Prop) : NEW (newv T w v) k ↔ k (.pointer (some ⟨hsz w, 0, none⟩)) (w.alloc (.cells v.cells T)) :=
  ⟨fun h => h.h, fun h => ⟨h⟩⟩
@[simp] theorem NEW_newmap (w : World) (k : Value → World → Prop) : NEW (newmap w) k ↔ k (.map (some (hsz w))) (w.alloc (.map #[] 0)) := ⟨fun h => h.h, fun h => ⟨h⟩⟩
@[simp] theorem NEW_pair (v : Value) (w : World) (k : Value → World → Prop) : NEW (v, w) k ↔ k v w := ⟨fun h => h.h, fun h => ⟨h⟩⟩
theorem NEW_intro {T : Nat} {w : World} {v : Value} {k : Value → World → Prop} (h : ∀ w', blk w' (hsz w) = some (.cells v.cells T (0, 0)) → Fr [] w w' → hsz w' = hsz w + 1 → k (.pointer (some ⟨hsz w, 0, none⟩)) w') :
    NEW (newv T w v) k := (NEW_newv T w v k).2 (h _ (by simp) (Fr.alloc _ _ _) (by simp))
theorem NEWMAP_intro {w : World} {k : Value → World → Prop} (h : ∀ w', blk w' (hsz w) = some (.map #[] 0) → Fr [] w w' → hsz w' = hsz w + 1 → k (.map (some (hsz w))) w') :
    NEW (newmap w) k := (NEW_newmap w k).2 (h _ (by simp) (Fr.alloc _ _ _) (by simp))
theorem CALLV_func {P : Program} {f : Nat} {a b : Array Value} {args : List Value} {w : World} {k : Value → World → Prop} (hok : okCallee P f = true) :
    CALLV P (.func (.func f) a b) args w k ↔ CALL P f (a.toList ++ args ++ b.toList) w k :=
  ⟨fun ⟨g, x, y, h, _, hc⟩ => by cases h; exact hc, fun h => ⟨f, a, b, rfl, hok, h⟩⟩
theorem CALL_mono' {P : Program} {f : Nat} {args : List Value} {w : World} {k k' : Value → World → Prop} (h : CALL P f args w k) (hk : ∀ v w, k v w → k' v w) : CALL P f args w k' := CALL_mono hk h

@[simp] theorem nilchk_ptr (a : Addr) : nilchk (.pointer (some a)) = some (.pointer (some a)) := rfl
@[simp] theorem nilchk_func (f : Nat) (a b : Array Value) : nilchk (.func (.func f) a b) = some (.func (.func f) a b) := rfl
@[simp] theorem faddr_ptr (off b o : Nat) : faddr off (.pointer (some ⟨b, o, none⟩)) = some (.pointer (some ⟨b, o + off, none⟩)) := by
  unfold faddr Addr.add
  by_cases h : off = 0 <;> simp [h]
@[simp] theorem extractv_tuple (vs : Array Value) (i : Nat) : extractv (.tuple vs) i = vs[i]? := rfl
@[simp] theorem lenl_slice (a : Option Addr) (n c : Nat) : lenl (.slice a n c) = some (.int .i64 n) := rfl
@[simp] theorem lens_string (s : ByteArray) : lens (.string s) = some (.int .i64 s.size) := rfl
@[simp] theorem pickv_true (a b : Value) : pickv (.bool true) a b = some a := rfl
@[simp] theorem pickv_false (a b : Value) : pickv (.bool false) a b = some b := rfl
@[simp] theorem unv_not (b : Bool) : unv .not (.bool b) = some (.bool !b) := rfl
@[simp] theorem isB_bool (b c : Bool) : isB (.bool b) c = (b == c) := rfl
@[simp] theorem isB_tt : isB (.bool true) true = true := rfl
@[simp] theorem isB_tf : isB (.bool true) false = false := rfl
@[simp] theorem isB_ft : isB (.bool false) true = false := rfl
@[simp] theorem isB_ff : isB (.bool false) false = true := rfl
@[simp] theorem GEF_true (f : (Value → World → Prop) → Prop) (w : World) (k : Value → World → Prop) : GEF true f w k ↔ f k := ⟨fun h => h.yes rfl, fun h => ⟨fun _ => h, (fun hc => by cases hc)⟩⟩
@[simp] theorem GEF_false (f : (Value → World → Prop) → Prop) (w : World) (k : Value → World → Prop) : GEF false f w k ↔ k undef w := ⟨fun h => h.no rfl, fun h => ⟨(fun hc => by cases hc), fun _ => h⟩⟩
@[simp] theorem isB_undef (c : Bool) : isB undef c = false := rfl
@[simp] theorem grd_true (o : Option Value) : grd true o = o := rfl
@[simp] theorem grd_false (o : Option Value) : grd false o = some undef := rfl
theorem beq_dec (a b : Int) : (a == b) = decide (a = b) := by
  by_cases h : a = b <;> simp [h]
theorem binv_int (t : TK) (op : BinOp) (k : IntKind) (a b : Int) (h1 : op ≠ .shl) (h2 : op ≠ .shr) : binv t op (.int k a) (.int k b) = bini op k a b := by
  cases op <;> simp [binv] at * 
@[simp] theorem binv_lss (t : TK) (k : IntKind) (a b : Int) : binv t .lss (.int k a) (.int k b) = some (.bool (decide (a < b))) := by simp [binv, bini]
@[simp] theorem binv_leq (t : TK) (k : IntKind) (a b : Int) : binv t .leq (.int k a) (.int k b) = some (.bool (decide (a ≤ b))) := by simp [binv, bini]
@[simp] theorem binv_gtr (t : TK) (k : IntKind) (a b : Int) : binv t .gtr (.int k a) (.int k b) = some (.bool (decide (b < a))) := by simp [binv, bini]
@[simp] theorem binv_geq (t : TK) (k : IntKind) (a b : Int) : binv t .geq (.int k a) (.int k b) = some (.bool (decide (b ≤ a))) := by simp [binv, bini]
@[simp] theorem binv_eql (t : TK) (k : IntKind) (a b : Int) : binv t .eql (.int k a) (.int k b) = some (.bool (decide (a = b))) := by
  simp [binv, bini, beq_dec]
@[simp] theorem binv_neq (t : TK) (k : IntKind) (a b : Int) : binv t .neq (.int k a) (.int k b) = some (.bool (!decide (a = b))) := by
  simp [binv, bini, bne, beq_dec]
@[simp] theorem binv_add (t : TK) (k : IntKind) (a b : Int) : binv t .add (.int k a) (.int k b) = some (.int k (k.wrap (a + b))) := by simp [binv, bini]
@[simp] theorem binv_sub (t : TK) (k : IntKind) (a b : Int) : binv t .sub (.int k a) (.int k b) = some (.int k (k.wrap (a - b))) := by simp [binv, bini]
@[simp] theorem binv_mul (t : TK) (k : IntKind) (a b : Int) : binv t .mul (.int k a) (.int k b) = some (.int k (k.wrap (a * b))) := by simp [binv, bini]
theorem binv_quo (t : TK) (k : IntKind) (a b : Int) (h : b ≠ 0) : binv t .quo (.int k a) (.int k b) = some (.int k (k.wrap (a.tdiv b))) := by simp [binv, bini, h]
theorem binv_rem (t : TK) (k : IntKind) (a b : Int) (h : b ≠ 0) : binv t .rem (.int k a) (.int k b) = some (.int k (a.tmod b)) := by simp [binv, bini, h]
@[simp] theorem binv_eqb (a b : Bool) : binv .bool .eql (.bool a) (.bool b) = some (.bool (a == b)) := rfl
@[simp] theorem binv_neb (a b : Bool) : binv .bool .neq (.bool a) (.bool b) = some (.bool (a != b)) := rfl
@[simp] theorem binv_ptr_nil (a : Addr) : binv .ptr .eql (.pointer (some a)) (.pointer none) = some (.bool false) := rfl
@[simp] theorem binv_ptr_nnil (a : Addr) : binv .ptr .neq (.pointer (some a)) (.pointer none) = some (.bool true) := rfl
@[simp] theorem binv_nil_nil : binv .ptr .eql (.pointer none) (.pointer none) = some (.bool true) := rfl
@[simp] theorem binv_nil_nnil : binv .ptr .neq (.pointer none) (.pointer none) = some (.bool false) := rfl

theorem wrap_i64 {n : Int} (h : -9223372036854775808 ≤ n) (h' : n ≤ 9223372036854775807) : IntKind.i64.wrap n = n := by
  simp only [IntKind.wrap, IntKind.bits, IntKind.signed]
  simp
  omega
theorem wrap_u64 {n : Int} (h : 0 ≤ n) (h' : n < 18446744073709551616) : IntKind.u64.wrap n = n := by
  simp only [IntKind.wrap, IntKind.bits, IntKind.signed]
  simp
  omega

/-! ## Cells -/
theorem cell?_blk {w : World} {b : Nat} {c : Array Value} {T : Nat} {f : Nat × Nat} (h : blk w b = some (.cells c T f)) (o : Nat) : w.cell? ⟨b, o, none⟩ = c[o]? := by
  have h' : w.heap[b]? = some (.cells c T f) := h
  simp [World.cell?, h']
theorem add_none (b o i : Nat) : (⟨b, o, none⟩ : Addr).add i = ⟨b, o + i, none⟩ := by
  unfold Addr.add; by_cases h : i = 0 <;> simp [h]
theorem load1_blk {w : World} {b o : Nat} {c : Array Value} {T : Nat} {f : Nat × Nat} (h : blk w b = some (.cells c T f)) : load1 w (.pointer (some ⟨b, o, none⟩)) = c[o]? := cell?_blk h o
theorem loads_blk {w : World} {b o : Nat} {c : Array Value} {T : Nat} {f : Nat × Nat} (h : blk w b = some (.cells c T f)) : ∀ n i, o + i + n ≤ c.size →
    loads w ⟨b, o, none⟩ i n = some ((c.toList.drop (o + i)).take n)
  | 0, i, _ => by simp [loads]
  | n + 1, i, hs => by
    have hlt : o + i < c.size := by omega
    rw [loads, add_none, cell?_blk h, Array.getElem?_eq_getElem hlt, loads_blk h n (i + 1) (by omega)]
    simp only [Option.some.injEq]
    rw [List.drop_eq_getElem_cons (i := o + i) (by simpa using hlt), List.take_succ_cons]
    congr 1
theorem loadn_blk {w : World} {b o n : Nat} {c : Array Value} {T : Nat} {f : Nat × Nat} (h : blk w b = some (.cells c T f)) (hs : o + n ≤ c.size) :
    loadn n w (.pointer (some ⟨b, o, none⟩)) = some (.agg ((c.toList.drop o).take n).toArray) := by
  simp [loadn, loads_blk h n 0 (by simpa using hs)]

/-- cells laid over others, from a place on. -/
def splice (c : Array Value) (o : Nat) : List Value → Array Value
  | [] => c
  | v :: vs => splice (c.setIfInBounds o v) (o + 1) vs
@[simp] theorem size_splice : ∀ (vs : List Value) (c : Array Value) (o : Nat), (splice c o vs).size = c.size
  | [], c, o => rfl
  | v :: vs, c, o => by rw [splice, size_splice vs]; simp
theorem splice_get : ∀ (vs : List Value) (c : Array Value) (o i : Nat), o + vs.length ≤ c.size → (splice c o vs)[i]? = if o ≤ i ∧ i < o + vs.length then vs[i - o]? else c[i]?
  | [], c, o, i, _ => by
    have : ¬ (o ≤ i ∧ i < o + ([] : List Value).length) := by simp
    rw [if_neg this]; rfl
  | v :: vs, c, o, i, h => by
    simp only [List.length_cons] at h
    rw [splice, splice_get vs _ _ _ (by simp; omega)]
    by_cases h1 : o + 1 ≤ i ∧ i < o + 1 + vs.length
    · rw [if_pos h1, if_pos (by simp; omega)]
      obtain ⟨j, rfl⟩ : ∃ j, i = o + 1 + j := ⟨i - (o + 1), by omega⟩
      rw [show o + 1 + j - (o + 1) = j by omega, show o + 1 + j - o = j + 1 by omega]; rfl
    · rw [if_neg h1]
      by_cases h2 : i = o
      · subst h2
        rw [if_pos (by simp)]
        simp [show i < c.size by omega]
      · rw [if_neg (by simp; omega), Array.getElem?_setIfInBounds_ne (by omega)]

theorem setCell_setB {w : World} {b o : Nat} {c : Array Value} {T : Nat} {f : Nat × Nat} (h : blk w b = some (.cells c T f)) (v : Value) :
    w.setCell ⟨b, o, none⟩ v = setB w b (.cells (c.setIfInBounds o v) T f) := by
  unfold World.setCell setB
  congr 1
  apply Array.ext
  · simp
  · intro i h1 h2
    simp at h1
    have h' : w.heap[b]? = some (.cells c T f) := h
    by_cases hi : b = i
    · subst hi
      have := (Array.getElem?_eq_some_iff.1 h').2
      simp [Array.getElem_modify, this]
    · rw [Array.getElem_modify_of_ne hi, Array.getElem_setIfInBounds_ne _ hi]
theorem setB_setB (w : World) (b : Nat) (o o' : Obj) : setB (setB w b o) b o' = setB w b o' := by
  simp [setB]
theorem stores_blk {b o T : Nat} : ∀ (vs : List Value) (i : Nat) (w : World) (c : Array Value), blk w b = some (.cells c T (0, 0)) → (∀ v ∈ vs, v.oneCell' = true) → o + i + vs.length ≤ c.size → vs ≠ [] →
    stores w ⟨b, o, none⟩ i vs = some (setB w b (.cells (splice c (o + i) vs) T (0, 0)))
  | [], _, _, _, _, _, _, hn => absurd rfl hn
  | v :: vs, i, w, c, h, h1, hs, _ => by
    simp only [List.length_cons] at hs
    have hlt : o + i < c.size := by omega
    have hfr : w.frozen? ⟨b, o + i, none⟩ = false := by
      have h' : w.heap[b]? = some (.cells c T (0, 0)) := h
      simp [World.frozen?, h']
    rw [stores, if_pos (h1 v (by simp)), add_none, cell?_blk h, Array.getElem?_eq_getElem hlt]
    simp only [hfr, Bool.false_eq_true, if_false]
    rw [setCell_setB h]
    cases vs with
    | nil => simp [stores, splice]
    | cons u us =>
      rw [stores_blk (u :: us) (i + 1) _ (c.setIfInBounds (o + i) v) (blk_setB_same h) (fun x hx => h1 x (by simp [hx])) (by simp at *; omega) (by simp), setB_setB]
      rfl
theorem storev1_blk {w : World} {b o T : Nat} {c : Array Value} {v : Value} (h : blk w b = some (.cells c T (0, 0))) (ho : o < c.size) (hv : v.cells = #[v]) (h1 : v.oneCell' = true) :
    storev 1 w (.pointer (some ⟨b, o, none⟩)) v = some (setB w b (.cells (c.setIfInBounds o v) T (0, 0))) := by
  unfold storev
  rw [hv]
  simp only [List.size_toArray, List.length_cons, List.length_nil, if_true]
  rw [stores_blk [v] 0 w c h (by simpa using h1) (by simp; omega) (by simp)]
  rfl
theorem storevn_blk {w : World} {b o T n : Nat} {c : Array Value} {vs : List Value} (h : blk w b = some (.cells c T (0, 0))) (hn : vs.length = n) (hs : o + n ≤ c.size) (h1 : ∀ v ∈ vs, v.oneCell' = true) (hne : vs ≠ []) :
    storev n w (.pointer (some ⟨b, o, none⟩)) (.agg vs.toArray) = some (setB w b (.cells (splice c o vs) T (0, 0))) := by
  unfold storev
  simp only [Value.cells, List.size_toArray, hn, if_true]
  rw [stores_blk vs 0 w c h h1 (by omega) hne]
  rfl

theorem fold_splice (off : Nat) : ∀ (vs : List Value) (k : Nat) (cs : Array Value), (vs.zipIdx k).foldl (fun cs (x : Value × Nat) => cs.setIfInBounds (off + x.2) x.1) cs = splice cs (off + k) vs
  | [], k, cs => rfl
  | v :: vs, k, cs => by
    simp only [List.zipIdx_cons, List.foldl_cons, splice]
    exact fold_splice off vs (k + 1) _
theorem splice_all (cs : Array Value) (vs : List Value) (h : vs.length = cs.size) : splice cs 0 vs = vs.toArray := by
  apply Array.ext_getElem?
  intro i
  rw [splice_get _ _ _ _ (by omega)]
  by_cases hi : i < vs.length
  · rw [if_pos (by omega)]; simp
  · rw [if_neg (by omega), Array.getElem?_eq_none (by omega)]
    simp; omega
theorem newslice_one (E sz : Nat) (zero : Array Value) (vs : List Value) (hl : vs.length = sz) (w : World) :
    newslice E zero sz 1 [(0, sz, .agg vs.toArray)] w = some (.slice (some ⟨hsz w, 0, none⟩) 1 1, w.alloc (.cells vs.toArray E)) := by
  have h1 : (vs.toArray.zipIdx.foldl (fun cs (x : Value × Nat) => cs.setIfInBounds (0 + x.2) x.1) ((Array.range (1 * sz)).map (zero[· % zero.size]!))) = vs.toArray := by
    rw [← Array.foldl_toList, Array.toList_zipIdx, fold_splice 0 vs 0]
    exact splice_all _ _ (by simp [hl])
  have h3 : fillv ((Array.range (1 * sz)).map (zero[· % zero.size]!)) [(0, sz, .agg vs.toArray)] = some vs.toArray := by
    unfold fillv
    split
    · rename_i h; simp [hl] at h
    · exact congrArg some h1
  unfold newslice
  rw [h3]
  rfl

/-! ## Slices that are a row of their own -/
/-- the slice v has the things xs, each laid into sz cells, at the head of the block of F (none, of nil). -/
def Slc {α : Type} (enc : α → List Value) (sz : Nat) (w : World) (v : Value) (xs : List α) (F : List Nat) : Prop :=
  (v = .slice none 0 0 ∧ xs = [] ∧ F = []) ∨
  ∃ b cap c T, v = .slice (some ⟨b, 0, none⟩) xs.length cap ∧ blk w b = some (.cells c T (0, 0)) ∧ xs.length ≤ cap ∧ c.size = cap * sz ∧ F = [b] ∧
    ∀ i x, xs[i]? = some x → ∀ j, j < sz → c[i * sz + j]? = (enc x)[j]?
section
variable {α : Type} {enc : α → List Value} {sz : Nat} {w w' : World} {v : Value} {xs : List α} {F : List Nat} {b : Nat}
theorem Slc.lt (h : Slc enc sz w v xs F) : ∀ b ∈ F, b < hsz w := by
  rcases h with ⟨_, _, rfl⟩ | ⟨b, cap, c, T, _, hb, _, _, rfl, _⟩
  · simp
  · intro b' hb'; simp at hb'; subst hb'; exact blk_lt hb
theorem Slc.congr (h : Slc enc sz w v xs F) (hw : ∀ b ∈ F, blk w' b = blk w b) : Slc enc sz w' v xs F := by
  rcases h with h | ⟨b, cap, c, T, h1, hb, h2, h3, rfl, h4⟩
  · exact .inl h
  · exact .inr ⟨b, cap, c, T, h1, by rw [hw b (by simp), hb], h2, h3, rfl, h4⟩
theorem Slc.fr (h : Slc enc sz w v xs F) {G : List Nat} (hf : Fr G w w') (hd : ∀ b ∈ F, b ∉ G) : Slc enc sz w' v xs F :=
  h.congr fun b hb => hf.keep b (h.lt b hb) (hd b hb)
theorem Slc.one (h : Slc enc sz w v xs F) : v.cells = #[v] ∧ v.oneCell' = true := by
  rcases h with ⟨rfl, rfl, _⟩ | ⟨b, cap, c, T, rfl, _⟩ <;> exact ⟨rfl, rfl⟩
theorem Slc.len (h : Slc enc sz w v xs F) : lenl v = some (.int .i64 xs.length) := by
  rcases h with ⟨rfl, rfl, _⟩ | ⟨b, cap, c, T, rfl, _⟩ <;> rfl
theorem Slc.iaddr (h : Slc enc sz w v xs F) {i : Nat} (hi : i < xs.length) (k : IntKind) : ∃ b, F = [b] ∧ Den.iaddr sz v (.int k (i : Int)) = some (.pointer (some ⟨b, i * sz, none⟩)) := by
  rcases h with ⟨_, rfl, _⟩ | ⟨b, cap, c, T, rfl, _, _, _, rfl, _⟩
  · simp at hi
  · refine ⟨b, rfl, ?_⟩
    simp [Den.iaddr, hi, add_none]
theorem Slc.cells (h : Slc enc sz w v xs F) {b : Nat} (hF : F = [b]) : ∃ cap c T, v = .slice (some ⟨b, 0, none⟩) xs.length cap ∧ blk w b = some (.cells c T (0, 0)) ∧ xs.length ≤ cap ∧ c.size = cap * sz ∧
    ∀ i x, xs[i]? = some x → ∀ j, j < sz → c[i * sz + j]? = (enc x)[j]? := by
  rcases h with ⟨_, _, rfl⟩ | ⟨b', cap, c, T, h1, h2, h3, h4, rfl, h5⟩
  · simp at hF
  · simp at hF; subst hF; exact ⟨cap, c, T, h1, h2, h3, h4, h5⟩
theorem idx_lt {i n cap sz j : Nat} (hi : i < n) (hn : n ≤ cap) (hj : j < sz) : i * sz + j < cap * sz := by
  have : (i + 1) * sz ≤ cap * sz := Nat.mul_le_mul_right _ (by omega)
  rw [Nat.succ_mul] at this
  omega
theorem Slc.load1 (h : Slc enc sz w v xs [b]) {i j : Nat} {x : α} (hx : xs[i]? = some x) (hj : j < sz) : Den.load1 w (.pointer (some ⟨b, i * sz + j, none⟩)) = (enc x)[j]? := by
  obtain ⟨cap, c, T, _, hb, _, _, he⟩ := h.cells rfl
  rw [load1_blk hb, he i x hx j hj]
theorem Slc.loadn (h : Slc enc sz w v xs [b]) {i : Nat} {x : α} (hx : xs[i]? = some x) (he : (enc x).length = sz) : Den.loadn sz w (.pointer (some ⟨b, i * sz, none⟩)) = some (.agg (enc x).toArray) := by
  obtain ⟨cap, c, T, _, hb, hc, hs, hel⟩ := h.cells rfl
  have hi : i < xs.length := (List.getElem?_eq_some_iff.1 hx).1
  have hle : i * sz + sz ≤ c.size := by
    have : (i + 1) * sz ≤ cap * sz := Nat.mul_le_mul_right _ (by omega)
    rw [Nat.succ_mul] at this; omega
  rw [loadn_blk hb hle]
  have : (c.toList.drop (i * sz)).take sz = enc x := by
    apply List.ext_getElem?
    intro j
    rw [List.getElem?_take]
    split
    · rename_i hj
      rw [List.getElem?_drop]
      have := hel i x hx j hj
      simpa using this
    · rename_i hj
      exact (List.getElem?_eq_none (by omega)).symm
  rw [this]
theorem Fr.of_set {w w' : World} {b : Nat} (h : Fr [b] w w') (_ : ∀ b', b' ≠ b → blk w' b' = blk w b') : Fr [b] w w' := h
theorem Slc.set (h : Slc enc sz w v xs [b]) {i : Nat} {x : α} (hi : i < xs.length) (hl : (enc x).length = sz) (h1 : ∀ u ∈ enc x, u.oneCell' = true) (hz : 0 < sz) :
    ∃ w', storev sz w (.pointer (some ⟨b, i * sz, none⟩)) (.agg (enc x).toArray) = some w' ∧ Slc enc sz w' v (xs.set i x) [b] ∧ Fr [b] w w' ∧ ∀ b', b' ≠ b → blk w' b' = blk w b' := by
  obtain ⟨cap, c, T, hv, hb, hc, hs, hel⟩ := h.cells rfl
  have hle : i * sz + sz ≤ c.size := by
    have : (i + 1) * sz ≤ cap * sz := Nat.mul_le_mul_right _ (by omega)
    rw [Nat.succ_mul] at this; omega
  refine ⟨_, storevn_blk hb hl hle h1 (by intro e; rw [e] at hl; simp at hl; omega), ?_, Fr.setB (.inl (by simp)) _, fun b' hb' => blk_setB_other (Ne.symm hb')⟩
  refine .inr ⟨b, cap, _, T, by simpa using hv, blk_setB_same hb, by simpa using hc, by simpa using hs, rfl, fun k y hy j hj => ?_⟩
  rw [splice_get _ _ _ _ (by omega), hl]
  by_cases hki : k = i
  · subst hki
    rw [if_pos (by omega)]
    simp [hi] at hy; subst hy
    congr 1; omega
  · rw [List.getElem?_set_ne (Ne.symm hki)] at hy
    rw [if_neg, hel k y hy j hj]
    rintro ⟨h3, h4⟩
    rcases Nat.lt_or_ge k i with hk | hk
    · have : (k + 1) * sz ≤ i * sz := Nat.mul_le_mul_right _ (by omega)
      rw [Nat.succ_mul] at this; omega
    · have : (i + 1) * sz ≤ k * sz := Nat.mul_le_mul_right _ (by omega)
      rw [Nat.succ_mul] at this; omega
theorem Slc.set1 (h : Slc enc sz w v xs [b]) {i j : Nat} {x y : α} {u : Value} (hx : xs[i]? = some x) (hj : j < sz) (hy : ∀ m, m < sz → (enc y)[m]? = if m = j then some u else (enc x)[m]?)
    (hu : u.cells = #[u]) (h1 : u.oneCell' = true) :
    ∃ w', storev 1 w (.pointer (some ⟨b, i * sz + j, none⟩)) u = some w' ∧ Slc enc sz w' v (xs.set i y) [b] ∧ Fr [b] w w' ∧ ∀ b', b' ≠ b → blk w' b' = blk w b' := by
  obtain ⟨cap, c, T, hv, hb, hc, hs, hel⟩ := h.cells rfl
  have hi : i < xs.length := (List.getElem?_eq_some_iff.1 hx).1
  have hlt : i * sz + j < c.size := by rw [hs]; exact idx_lt hi hc hj
  refine ⟨_, storev1_blk hb hlt hu h1, ?_, Fr.setB (.inl (by simp)) _, fun b' hb' => blk_setB_other (Ne.symm hb')⟩
  refine .inr ⟨b, cap, _, T, by simpa using hv, blk_setB_same hb, by simpa using hc, by simpa using hs, rfl, fun k z hz m hm => ?_⟩
  rw [Array.getElem?_setIfInBounds]
  by_cases hki : k = i
  · subst hki
    simp [hi] at hz; subst hz
    rw [hy m hm]
    by_cases hmj : m = j
    · subst hmj; simp [hlt]
    · rw [if_neg (by omega), if_neg hmj]
      exact hel k x hx m hm
  · rw [List.getElem?_set_ne (Ne.symm hki)] at hz
    rw [if_neg, hel k z hz m hm]
    intro e
    rcases Nat.lt_or_ge k i with hk | hk
    · have : (k + 1) * sz ≤ i * sz := Nat.mul_le_mul_right _ (by omega)
      rw [Nat.succ_mul] at this; omega
    · have : (i + 1) * sz ≤ k * sz := Nat.mul_le_mul_right _ (by omega)
      rw [Nat.succ_mul] at this; omega
end

/-! ## Slices that came in: read alone -/
/-- the slice v reads as xs, each of sz cells. -/
def Arr {α : Type} (enc : α → List Value) (sz : Nat) (w : World) (v : Value) (xs : List α) : Prop :=
  ∃ a cap, v = .slice a xs.length cap ∧ (xs = [] ∨ ∃ b o c T fz, a = some ⟨b, o, none⟩ ∧ blk w b = some (.cells c T fz) ∧
    ∀ i x, xs[i]? = some x → o + i * sz + sz ≤ c.size ∧ ∀ j, j < sz → c[o + i * sz + j]? = (enc x)[j]?)
section
variable {α : Type} {enc : α → List Value} {sz : Nat} {w w' : World} {v : Value} {xs : List α}
theorem Arr.fr (h : Arr enc sz w v xs) {F : List Nat} (hf : Fr F w w') (hF : ∀ b ∈ F, hsz w ≤ b) : Arr enc sz w' v xs := by
  obtain ⟨a, cap, rfl, h⟩ := h
  refine ⟨a, cap, rfl, ?_⟩
  rcases h with h | ⟨b, o, c, T, fz, h1, h2, h3⟩
  · exact .inl h
  · refine .inr ⟨b, o, c, T, fz, h1, hf.some (fun hb => ?_) h2, h3⟩
    have := blk_lt h2; have := hF b hb; omega
theorem Arr.len (h : Arr enc sz w v xs) : lenl v = some (.int .i64 xs.length) := by
  obtain ⟨a, cap, rfl, _⟩ := h; rfl
/-- 'x := v[i]': where it stands, and what is read there. -/
theorem Arr.at (h : Arr enc sz w v xs) {i : Nat} {x : α} (hx : xs[i]? = some x) (he : (enc x).length = sz) (k : IntKind) :
    ∃ p, Den.iaddr sz v (.int k (i : Int)) = some p ∧ Den.loadn sz w p = some (.agg (enc x).toArray) ∧ (∀ j, j < sz → ∃ q, faddr j p = some q ∧ Den.load1 w q = (enc x)[j]?) := by
  obtain ⟨a, cap, rfl, h⟩ := h
  have hi : i < xs.length := (List.getElem?_eq_some_iff.1 hx).1
  rcases h with rfl | ⟨b, o, c, T, fz, rfl, h2, h3⟩
  · simp at hi
  · obtain ⟨h4, h5⟩ := h3 i x hx
    refine ⟨.pointer (some ⟨b, o + i * sz, none⟩), by simp [Den.iaddr, hi, add_none], ?_, fun j hj => ⟨_, faddr_ptr _ _ _, ?_⟩⟩
    · rw [loadn_blk h2 h4]
      have : (c.toList.drop (o + i * sz)).take sz = enc x := by
        apply List.ext_getElem?
        intro j
        rw [List.getElem?_take]
        split
        · rename_i hj
          rw [List.getElem?_drop]
          simpa using h5 j hj
        · rename_i hj
          exact (List.getElem?_eq_none (by omega)).symm
      rw [this]
    · rw [load1_blk h2]; exact h5 j hj
end
/-- a variable that is made and at once given a struct. -/
theorem box_step {T n : Nat} {w : World} {zs vs : List Value} {k : Value → World → Prop} (hz : zs.length = n) (hv : vs.length = n) (h1 : ∀ u ∈ vs, u.oneCell' = true) (hn : vs ≠ [])
    (h : ∀ w', blk w' (hsz w) = some (.cells vs.toArray T (0, 0)) → Fr [] w w' → hsz w' = hsz w + 1 → k (.pointer (some ⟨hsz w, 0, none⟩)) w') :
    NEW (newv T w (.agg zs.toArray)) fun o w4 => BND (storev n w4 o (.agg vs.toArray)) fun w5 => k o w5 := by
  refine NEW_intro fun w4 b4 f4 z4 => ?_
  refine BND_step (storevn_blk (o := 0) b4 hv (by simp; omega) h1 hn) ?_
  have he : splice zs.toArray 0 vs = vs.toArray := splice_all _ _ (by simp; omega)
  simp only [cells_agg]
  rw [he]
  exact h _ (blk_setB_same b4) (f4.trans (Fr.setB (F := [hsz w]) (.inl (by simp)) _) (by simp)) (by simp [z4])

/-! ## append, x[:n], on such slices -/
section
variable {α : Type} {enc : α → List Value} {sz : Nat} {w w' : World} {v : Value} {xs ys : List α} {F G : List Nat} {b : Nat}
/-- the cells of the things, one behind the other. -/
def flat (enc : α → List Value) (xs : List α) : List Value := xs.flatMap enc
theorem flat_len (hl : ∀ x, (enc x).length = sz) : ∀ xs : List α, (flat enc xs).length = xs.length * sz
  | [] => by simp [flat]
  | x :: xs => by
    have := flat_len hl xs
    simp only [flat, List.flatMap_cons, List.length_append, hl, List.length_cons] at *
    rw [this, Nat.succ_mul]; omega
theorem flat_get (hl : ∀ x, (enc x).length = sz) : ∀ (xs : List α) (i : Nat) (x : α) (j : Nat), xs[i]? = some x → j < sz → (flat enc xs)[i * sz + j]? = (enc x)[j]?
  | [], i, x, j, h, _ => by simp at h
  | y :: ys, 0, x, j, h, hj => by
    simp at h; subst h
    simp only [flat, List.flatMap_cons, Nat.zero_mul, Nat.zero_add]
    rw [List.getElem?_append_left (by rw [hl]; exact hj)]
  | y :: ys, i + 1, x, j, h, hj => by
    have := flat_get hl ys i x j (by simpa using h) hj
    simp only [flat, List.flatMap_cons] at *
    rw [List.getElem?_append_right (by rw [hl, Nat.succ_mul]; omega), hl, ← this]
    congr 1
    rw [Nat.succ_mul]; omega
theorem flat_one (hl1 : ∀ x, ∀ u ∈ enc x, u.oneCell' = true) (xs : List α) : ∀ u ∈ flat enc xs, u.oneCell' = true := by
  intro u hu
  obtain ⟨x, _, hx⟩ := List.mem_flatMap.1 hu
  exact hl1 x u hx
theorem app_get (A B : List Value) (C : Array Value) {n : Nat} (h : n < (A ++ B).length) : (A.toArray ++ B.toArray ++ C)[n]? = (A ++ B)[n]? := by
  have e : A.toArray ++ B.toArray = (A ++ B).toArray := by simp
  rw [e, Array.getElem?_append_left (by simpa using h)]
  simp
theorem flat_append (xs ys : List α) : flat enc (xs ++ ys) = flat enc xs ++ flat enc ys := by simp [flat]
theorem Slc.loads (h : Slc enc sz w v xs F) (hl : ∀ x, (enc x).length = sz) : cellsOfArg w sz v = some (flat enc xs, xs.length) := by
  rcases h with ⟨rfl, rfl, _⟩ | ⟨b, cap, c, T, rfl, hb, hc, hs, rfl, hel⟩
  · rfl
  · have hle : 0 + 0 + xs.length * sz ≤ c.size := by rw [hs]; simpa using Nat.mul_le_mul_right sz hc
    simp only [cellsOfArg, loads_blk hb _ 0 hle, Option.map_some]
    congr 2
    apply List.ext_getElem?
    intro m
    rw [List.getElem?_take]
    split
    · rename_i hm
      have hz : 0 < sz := by rcases Nat.eq_zero_or_pos sz with h0 | h0; simp [h0] at hm; exact h0
      have hi : m / sz < xs.length := Nat.div_lt_of_lt_mul (by rwa [Nat.mul_comm] at hm)
      have h1 := hel (m / sz) xs[m / sz] (List.getElem?_eq_getElem hi) (m % sz) (Nat.mod_lt _ hz)
      have h2 := flat_get hl xs (m / sz) xs[m / sz] (m % sz) (List.getElem?_eq_getElem hi) (Nat.mod_lt _ hz)
      rw [Nat.mul_comm, Nat.div_add_mod] at h1 h2
      simp [h1, h2]
    · rename_i hm
      exact (List.getElem?_eq_none (by rw [flat_len hl]; omega)).symm
/-- 'append(v, u...)': the things of both; in the block that v had, or in a new one. -/
theorem APPEND_slc {E bytes : Nat} {zero u : Value} {k : Value → World → Prop} (hv : Slc enc sz w v xs F) (hu : cellsOfArg w sz u = some (flat enc ys, ys.length)) (hl : ∀ x, (enc x).length = sz)
    (hl1 : ∀ x, ∀ u ∈ enc x, u.oneCell' = true) (hz : zero.cells.size = sz) (hb : (xs.length + ys.length) * bytes ≤ 140737488355328) (hmax : xs.length + ys.length ≤ 9223372036854775807)
    (hk : ∀ v' w' F', Slc enc sz w' v' (xs ++ ys) F' → Fr F w w' → (∀ b ∈ F', b ∈ F ∨ hsz w ≤ b) → k v' w') : APPEND E sz bytes zero v u w k := by
  refine ⟨?_⟩
  have hlo := hv.loads hl
  unfold APPENDS
  rcases hv with ⟨rfl, rfl, rfl⟩ | ⟨b, cap, c, T, rfl, hb', hc, hs, rfl, hel⟩
  · simp only [hu]
    split
    · rename_i h0
      have hy : ys = [] := by cases ys with
        | nil => rfl
        | cons y ys => simp at h0
      subst hy
      exact hk _ _ [] (.inl ⟨rfl, rfl, rfl⟩) (Fr.refl _ _) (by simp)
    · rename_i h0
      refine ⟨?_, ?_, ?_⟩
      · simp at hmax ⊢
        have : (IntKind.i64.max : Int) = 9223372036854775807 := by decide
        omega
      · simp only [Nat.zero_add]
        exact growslice_fits (by omega) (by simpa using hb)
      · rw [hlo]
        simp only [BND_some]
        intro cp w' hcp hh hrest
        have hsz' : hsz w' = hsz w := by unfold hsz; rw [hh]
        have heq : w'.heap = w.heap := hh
        refine hk _ _ [hsz w] (.inr ⟨hsz w, cp, _, E, by simp, by rw [← hsz']; exact blk_alloc_new _ _, by simpa using hcp, ?_, rfl, ?_⟩) ⟨by simp [hsz'], fun b hb1 _ => ?_, hrest.1, hrest.2.1, hrest.2.2⟩ (by simp)
        · simp only [Array.size_append, List.size_toArray, flat_len hl, Builtin.zeroCells, Array.size_map, Array.size_range, hz, List.length_nil, Nat.zero_mul, Nat.zero_add]
          rw [← Nat.add_mul]
          congr 1; simp at hcp; omega
        · intro i x hx j hj
          have h3 := flat_get hl ([] ++ ys) i x j hx hj
          have h4 := flat_len (enc := enc) hl ([] ++ ys)
          have hi : i < ([] ++ ys).length := (List.getElem?_eq_some_iff.1 hx).1
          have h5 : i * sz + j < (flat enc ([] ++ ys)).length := by rw [h4]; exact idx_lt hi (Nat.le_refl _) hj
          rw [← h3]
          rw [flat_append] at h5 ⊢
          exact app_get _ _ _ h5
        · rw [blk_alloc_old (by omega), heap_ext heq]
  · simp only [hu]
    split
    · rename_i hle
      have hbnd : xs.length * sz + (ys.length * sz) ≤ c.size := by
        rw [hs, ← Nat.add_mul]; exact Nat.mul_le_mul_right _ hle
      have hadd : (⟨b, 0, none⟩ : Addr).add (xs.length * sz) = ⟨b, xs.length * sz, none⟩ := by rw [add_none, Nat.zero_add]
      rw [hadd]
      by_cases hy : flat enc ys = []
      · have hys : ys.length * sz = 0 := by rw [← flat_len hl, hy]; rfl
        rw [hy]
        simp only [stores, BND_some]
        refine hk _ _ [b] (.inr ⟨b, cap, c, T, by simp, hb', by simpa using hle, hs, rfl, fun i x hx j hj => ?_⟩) (Fr.refl _ _) (fun _ h => .inl h)
        have hj0 : 0 < sz := by omega
        have : ys = [] := by
          cases ys with
          | nil => rfl
          | cons y ys => simp [Nat.succ_mul] at hys; omega
        subst this
        exact hel i x (by simpa using hx) j hj
      · rw [stores_blk (flat enc ys) 0 w c hb' (flat_one hl1 ys) (by rw [flat_len hl]; omega) hy]
        simp only [BND_some]
        refine hk _ _ [b] (.inr ⟨b, cap, _, T, by simp, blk_setB_same hb', by simpa using hle, by simpa using hs, rfl, fun i x hx j hj => ?_⟩) (Fr.setB (.inl (by simp)) _) (fun _ h => .inl h)
        rw [Nat.add_zero, splice_get _ _ _ _ (by rw [flat_len hl]; omega), flat_len hl]
        by_cases hi : i < xs.length
        · rw [List.getElem?_append_left hi] at hx
          have := idx_lt hi (Nat.le_refl _) hj
          rw [if_neg (by omega)]
          exact hel i x hx j hj
        · rw [List.getElem?_append_right (by omega)] at hx
          have hi2 : i - xs.length < ys.length := (List.getElem?_eq_some_iff.1 hx).1
          have h5 := idx_lt hi2 (Nat.le_refl _) hj
          have h6 : i * sz + j = xs.length * sz + ((i - xs.length) * sz + j) := by
            have : i = xs.length + (i - xs.length) := by omega
            rw [← Nat.add_assoc, ← Nat.add_mul, ← this]
          rw [if_pos (by omega), h6, Nat.add_sub_cancel_left]
          exact flat_get hl ys _ x j hx hj
    · rename_i hle
      refine ⟨?_, ?_, ?_⟩
      · have : (IntKind.i64.max : Int) = 9223372036854775807 := by decide
        omega
      · exact growslice_fits (by omega) hb
      · rw [hlo]
        simp only [BND_some]
        intro cp w' hcp hh hrest
        have hsz' : hsz w' = hsz w := by unfold hsz; rw [hh]
        have heq : w'.heap = w.heap := hh
        refine hk _ _ [hsz w] (.inr ⟨hsz w, cp, _, E, by simp, by rw [← hsz']; exact blk_alloc_new _ _, by simpa using hcp, ?_, rfl, ?_⟩) ⟨by simp [hsz'], fun b hb1 _ => ?_, hrest.1, hrest.2.1, hrest.2.2⟩ (by simp)
        · simp only [Array.size_append, List.size_toArray, flat_len hl, Builtin.zeroCells, Array.size_map, Array.size_range, hz]
          rw [← Nat.add_mul, ← Nat.add_mul]
          congr 1; omega
        · intro i x hx j hj
          have h3 := flat_get hl (xs ++ ys) i x j hx hj
          have h4 := flat_len (enc := enc) hl (xs ++ ys)
          have hi : i < (xs ++ ys).length := (List.getElem?_eq_some_iff.1 hx).1
          have h5 : i * sz + j < (flat enc (xs ++ ys)).length := by rw [h4]; exact idx_lt hi (Nat.le_refl _) hj
          rw [← h3]
          rw [flat_append] at h5 ⊢
          exact app_get _ _ _ h5
        · rw [blk_alloc_old (by omega), heap_ext heq]
/-- 'v[:n]'. -/
theorem Slc.take (h : Slc enc sz w v xs F) {n : Nat} (hn : n ≤ xs.length) (hpos : 0 < xs.length) (k : IntKind) : ∃ v', slicev sz v none (some (.int k (n : Int))) = some v' ∧ Slc enc sz w v' (xs.take n) F := by
  rcases h with ⟨_, rfl, _⟩ | ⟨b, cap, c, T, rfl, hb, hc, hs, rfl, hel⟩
  · simp at hpos
  · have h1 : n ≤ cap := by omega
    refine ⟨.slice (some ⟨b, 0, none⟩) n cap, ?_, .inr ⟨b, cap, c, T, by simp [Nat.min_eq_left hn], hb, by simp; omega, hs, rfl, fun i x hx j hj => ?_⟩⟩
    · simp [slicev, natOf, h1, Addr.add]
    · rw [List.getElem?_take] at hx
      split at hx
      · exact hel i x hx j hj
      · simp at hx
end

/-! ## Maps -/
structure KeyOk {κ : Type} (kd : TypeDesc) (enc : κ → Value) [DecidableEq κ] : Prop where
  same : ∀ a b, Instr.sameNow kd (enc a) (enc b) = some (decide (a = b))
  bits : ∀ a, Instr.sameBits 10000 (enc a) (enc a) = true
theorem keyInt (k : IntKind) : KeyOk (.int k) (fun n : Int => Value.int k n) :=
  ⟨fun a b => by simp [Instr.sameNow, beq_dec], fun a => by simp [Instr.sameBits]⟩
theorem ba_beq (a b : ByteArray) : (a == b) = decide (a = b) := by
  have h : (a == b) = (a.data == b.data) := rfl
  rw [h]
  by_cases hab : a = b
  · subst hab; simp
  · have : a.data ≠ b.data := fun e => hab (ByteArray.ext e)
    simp [hab, this]
theorem keyStr : KeyOk .string (fun s : ByteArray => Value.string s) :=
  ⟨fun a b => by simp [Instr.sameNow, ba_beq], fun a => by simp [Instr.sameBits, ba_beq]⟩

/-- the entries read as the pairs L: each key once. -/
structure MapL {κ : Type} (enc : κ → Value) (es : Array MapEntry) (L : List (κ × Value)) : Prop where
  ents : es.toList.map (fun e => (e.key, e.val)) = L.map fun p => (enc p.1, p.2)
  once : (L.map (·.1)).Nodup
section
variable {κ : Type} [DecidableEq κ] {enc : κ → Value} {kd : TypeDesc} {es : Array MapEntry} {L : List (κ × Value)}
def findL : List (κ × Value) → κ → Nat → Option (Nat × Value)
  | [], _, _ => none
  | (k', v) :: r, k, i => if k = k' then some (i, v) else findL r k (i + 1)
def lk (L : List (κ × Value)) (k : κ) : Option Value := (findL L k 0).map (·.2)
def insL : List (κ × Value) → κ → Value → List (κ × Value)
  | [], k, v => [(k, v)]
  | (k', v') :: r, k, v => if k = k' then (k, v) :: r else (k', v') :: insL r k v
def delL : List (κ × Value) → κ → List (κ × Value)
  | [], _ => []
  | (k', v') :: r, k => if k = k' then r else (k', v') :: delL r k
theorem findNow_L (hk : KeyOk kd enc) (k : κ) : ∀ (es : List MapEntry) (L : List (κ × Value)) (i : Nat), es.map (fun e => (e.key, e.val)) = L.map (fun p => (enc p.1, p.2)) →
    Instr.findNow kd (enc k) es i = some (findL L k i)
  | [], L, i, h => by
    have : L = [] := by simpa using h.symm
    subst this; rfl
  | e :: es, L, i, h => by
    cases L with
    | nil => simp at h
    | cons p L =>
      obtain ⟨k', v'⟩ := p
      simp only [List.map_cons, List.cons.injEq, Prod.mk.injEq] at h
      obtain ⟨⟨h1, h2⟩, h3⟩ := h
      simp only [Instr.findNow, h1, hk.same, findL]
      by_cases hkk : k = k'
      · simp [hkk, h2]
      · simp [hkk, findNow_L hk k es L (i + 1) h3]
theorem mfind_L (hk : KeyOk kd enc) (h : MapL enc es L) (k : κ) : mfind kd (enc k) es = some (findL L k 0) := findNow_L hk k _ _ _ h.ents
theorem findL_some {k : κ} {v : Value} {j : Nat} : ∀ {L : List (κ × Value)} {s : Nat}, findL L k s = some (j, v) → ∃ i, j = s + i ∧ L[i]? = some (k, v) ∧ (∀ u, insL L k u = L.set i (k, u)) ∧ delL L k = L.eraseIdx i
  | [], s, h => by simp [findL] at h
  | (k', v') :: L, s, h => by
    simp only [findL] at h
    by_cases hkk : k = k'
    · simp [hkk] at h
      obtain ⟨rfl, rfl⟩ := h
      exact ⟨0, by simp [hkk, insL, delL]⟩
    · rw [if_neg hkk] at h
      obtain ⟨i, h1, h2, h3, h4⟩ := findL_some h
      refine ⟨i + 1, by omega, by simpa using h2, fun u => by simp [insL, hkk, h3], by simp [delL, hkk, h4]⟩
theorem findL_none {k : κ} : ∀ {L : List (κ × Value)} {s : Nat}, findL L k s = none → k ∉ L.map (·.1) ∧ (∀ u, insL L k u = L ++ [(k, u)]) ∧ delL L k = L
  | [], s, _ => by simp [insL, delL]
  | (k', v') :: L, s, h => by
    simp only [findL] at h
    by_cases hkk : k = k'
    · simp [hkk] at h
    · rw [if_neg hkk] at h
      obtain ⟨h1, h2, h3⟩ := findL_none h
      refine ⟨?_, fun u => by simp [insL, hkk, h2], by simp [delL, hkk, h3]⟩
      simp only [List.map_cons, List.mem_cons, not_or]
      exact ⟨hkk, h1⟩
theorem lk_cons (k' : κ) (v' : Value) (L : List (κ × Value)) (k : κ) : lk ((k', v') :: L) k = if k = k' then some v' else lk L k := by
  have hsh : ∀ (L : List (κ × Value)) s t, (findL L k s).map (·.2) = (findL L k t).map (·.2) := by
    intro L
    induction L with
    | nil => intro s t; rfl
    | cons p L ih =>
      intro s t
      obtain ⟨a, b⟩ := p
      simp only [findL]
      split
      · rfl
      · exact ih _ _
  simp only [lk, findL]
  split
  · rfl
  · exact hsh L _ _
theorem lk_nil (k : κ) : lk ([] : List (κ × Value)) k = none := rfl
theorem lk_ins (L : List (κ × Value)) (k k2 : κ) (v : Value) : lk (insL L k v) k2 = if k2 = k then some v else lk L k2 := by
  induction L with
  | nil => simp only [insL, lk_cons, lk_nil]
  | cons p L ih =>
    obtain ⟨a, b⟩ := p
    simp only [insL]
    by_cases h : k = a
    · subst h
      simp only [if_true, lk_cons]
      split <;> rfl
    · rw [if_neg h, lk_cons, lk_cons, ih]
      by_cases h2 : k2 = a
      · subst h2
        rw [if_pos rfl, if_pos rfl, if_neg (fun e => h e.symm)]
      · rw [if_neg h2, if_neg h2]
theorem lk_mem {L : List (κ × Value)} {k : κ} : (lk L k).isSome ↔ k ∈ L.map (·.1) := by
  induction L with
  | nil => simp [lk_nil]
  | cons p L ih =>
    obtain ⟨a, b⟩ := p
    rw [lk_cons]
    by_cases h : k = a
    · simp [h]
    · rw [if_neg h, ih]; simp [h]
theorem lk_del {L : List (κ × Value)} (hn : (L.map (·.1)).Nodup) (k k2 : κ) : lk (delL L k) k2 = if k2 = k then none else lk L k2 := by
  induction L with
  | nil => simp [delL, lk_nil]
  | cons p L ih =>
    obtain ⟨a, b⟩ := p
    simp only [List.map_cons, List.nodup_cons] at hn
    simp only [delL]
    by_cases h : k = a
    · subst h
      rw [if_pos rfl, lk_cons]
      by_cases h2 : k2 = k
      · subst h2
        rw [if_pos rfl]
        have : ¬ (lk L k2).isSome := fun hh => hn.1 (lk_mem.1 hh)
        cases hl : lk L k2 with
        | none => rfl
        | some x => rw [hl] at this; simp at this
      · rw [if_neg h2, if_neg h2]
    · rw [if_neg h, lk_cons, lk_cons, ih hn.2]
      by_cases h2 : k2 = a
      · subst h2
        rw [if_pos rfl, if_pos rfl, if_neg (fun e => h e.symm)]
      · rw [if_neg h2, if_neg h2]
theorem keys_ins (L : List (κ × Value)) (k : κ) (v : Value) : (insL L k v).map (·.1) = if k ∈ L.map (·.1) then L.map (·.1) else L.map (·.1) ++ [k] := by
  induction L with
  | nil => simp [insL]
  | cons p L ih =>
    obtain ⟨a, b⟩ := p
    simp only [insL]
    by_cases h : k = a
    · simp [h]
    · rw [if_neg h]
      simp only [List.map_cons, List.mem_cons, h, false_or, ih]
      split <;> simp
theorem keys_del (L : List (κ × Value)) (k : κ) : (delL L k).map (·.1) = (L.map (·.1)).erase k := by
  induction L with
  | nil => simp [delL]
  | cons p L ih =>
    obtain ⟨a, b⟩ := p
    simp only [delL]
    by_cases h : k = a
    · subst h; simp
    · rw [if_neg h]
      simp only [List.map_cons, ih]
      rw [List.erase_cons_tail]
      simpa using fun e => h e.symm
theorem once_ins {L : List (κ × Value)} (h : (L.map (·.1)).Nodup) (k : κ) (v : Value) : ((insL L k v).map (·.1)).Nodup := by
  rw [keys_ins]
  split
  · exact h
  · rename_i hn
    rw [List.nodup_append]
    exact ⟨h, by simp, fun a ha b hb => by simp at hb; subst hb; exact fun e => hn (e ▸ ha)⟩
theorem once_del {L : List (κ × Value)} (h : (L.map (·.1)).Nodup) (k : κ) : ((delL L k).map (·.1)).Nodup := by
  rw [keys_del]; exact h.erase k

omit [DecidableEq κ] in
theorem MapL.size (h : MapL enc es L) : es.size = L.length := by
  have := congrArg List.length h.ents
  simpa using this
theorem mapOf_blk {w : World} {b : Nat} {ck : Nat} (h : blk w b = some (.map es ck)) : mapOf w (.map (some b)) = some es := by
  have h' : w.heap[b]? = some (.map es ck) := h
  simp [mapOf, h']
theorem lookv_L (hk : KeyOk kd enc) {w : World} {b ck : Nat} (hb : blk w b = some (.map es ck)) (h : MapL enc es L) (zero : Value) (k : κ) :
    lookv kd zero true w (.map (some b)) (enc k) = some (.tuple #[(lk L k).getD zero, .bool (lk L k).isSome]) := by
  unfold lookv
  rw [mapOf_blk hb]
  simp only [mfind_L hk h, lk]
  cases hf : findL L k 0 with
  | none => simp
  | some p => obtain ⟨i, v⟩ := p; simp
theorem lookv_L1 (hk : KeyOk kd enc) {w : World} {b ck : Nat} (hb : blk w b = some (.map es ck)) (h : MapL enc es L) (zero : Value) (k : κ) :
    lookv kd zero false w (.map (some b)) (enc k) = some ((lk L k).getD zero) := by
  unfold lookv
  rw [mapOf_blk hb]
  simp only [mfind_L hk h, lk]
  cases hf : findL L k 0 with
  | none => simp
  | some p => obtain ⟨i, v⟩ := p; simp
omit [DecidableEq κ] in
theorem mlenv_L {w : World} {b ck : Nat} (hb : blk w b = some (.map es ck)) (h : MapL enc es L) : mlenv w (.map (some b)) = some (.int .i64 L.length) := by
  simp [mlenv, mapOf_blk hb, h.size]
theorem mupd_L (hk : KeyOk kd enc) {w : World} {b ck : Nat} (hb : blk w b = some (.map es ck)) (h : MapL enc es L) (k : κ) (v : Value) :
    ∃ es' ck', mupd kd w (.map (some b)) (enc k) v = some (setB w b (.map es' ck')) ∧ MapL enc es' (insL L k v) := by
  have h' : w.heap[b]? = some (.map es ck) := hb
  unfold mupd
  simp only [h', mfind_L hk h]
  cases hf : findL L k 0 with
  | none =>
    obtain ⟨h1, h2, _⟩ := findL_none hf
    refine ⟨_, _, rfl, ?_, once_ins h.once k v⟩
    simp [h2, h.ents]
  | some p =>
    obtain ⟨i, u⟩ := p
    obtain ⟨j, hj, h2, h3, _⟩ := findL_some hf
    simp at hj; subst hj
    have hlen : es.size = L.length := h.size
    have hi : i < L.length := (List.getElem?_eq_some_iff.1 h2).1
    have hkey : (((es[i]?).map (·.key)).getD (enc k)) = enc k := by
      have := congrArg (fun l : List (Value × Value) => l[i]?) h.ents
      simp only [List.getElem?_map, h2, Option.map_some, Array.getElem?_toList] at this
      cases he : es[i]? with
      | none => rfl
      | some e => rw [he] at this; simp at this; simp [this.1]
    simp only [hkey, hk.bits, if_true]
    refine ⟨_, _, rfl, ?_, once_ins h.once k v⟩
    rw [h3]
    apply List.ext_getElem?
    intro n
    have := congrArg (fun l : List (Value × Value) => l[n]?) h.ents
    simp only [List.getElem?_map, Array.getElem?_toList] at this
    simp only [List.getElem?_map, Array.getElem?_toList, Array.getElem?_modify, List.getElem?_set]
    by_cases hn : i = n
    · subst hn
      have hes : i < es.size := by omega
      simp [hi, hes]
    · simp [hn, this]
theorem mdel_L (hk : KeyOk kd enc) {w : World} {b ck : Nat} (hb : blk w b = some (.map es ck)) (h : MapL enc es L) (k : κ) :
    ∃ es' ck', mdel kd w (.map (some b)) (enc k) = some (setB w b (.map es' ck')) ∧ MapL enc es' (delL L k) := by
  have h' : w.heap[b]? = some (.map es ck) := hb
  unfold mdel
  simp only [h', mfind_L hk h]
  cases hf : findL L k 0 with
  | none =>
    obtain ⟨h1, _, h2⟩ := findL_none hf
    exact ⟨_, _, rfl, by rw [h2]; exact h.ents, once_del h.once k⟩
  | some p =>
    obtain ⟨i, u⟩ := p
    obtain ⟨j, hj, h2, _, h3⟩ := findL_some hf
    simp at hj; subst hj
    have hi : i < L.length := (List.getElem?_eq_some_iff.1 h2).1
    refine ⟨_, _, rfl, ?_, once_del h.once k⟩
    have hes : i < es.size := by rw [h.size]; exact hi
    rw [h3]
    simp only [Array.eraseIdxIfInBounds, hes, dif_pos, Array.toList_eraseIdx]
    apply List.ext_getElem?
    intro n
    have hh := fun n : Nat => congrArg (fun l : List (Value × Value) => l[n]?) h.ents
    simp only [List.getElem?_map] at hh
    simp only [List.getElem?_map, List.getElem?_eraseIdx]
    split <;> exact hh _
end

end Go.Den
end

section
namespace Go.Den
section
variable {α : Type} {enc : α → List Value} {sz : Nat} {w w' : World} {v : Value} {xs ys : List α} {F G : List Nat} {b : Nat}
theorem flat_take (hl : ∀ x, (enc x).length = sz) : ∀ (xs : List α) (n : Nat), (flat enc xs).take (n * sz) = flat enc (xs.take n)
  | [], n => by simp [flat]
  | x :: xs, 0 => by simp [flat]
  | x :: xs, n + 1 => by
    have ih := flat_take hl xs n
    simp only [flat, List.flatMap_cons, List.take_succ_cons] at ih ⊢
    rw [List.take_append, hl, List.take_of_length_le (by rw [hl, Nat.succ_mul]; omega), Nat.succ_mul, Nat.add_sub_cancel, ih]
theorem flat_drop (hl : ∀ x, (enc x).length = sz) : ∀ (xs : List α) (n : Nat), (flat enc xs).drop (n * sz) = flat enc (xs.drop n)
  | [], n => by simp [flat]
  | x :: xs, 0 => by simp [flat]
  | x :: xs, n + 1 => by
    have ih := flat_drop hl xs n
    simp only [flat, List.flatMap_cons, List.drop_succ_cons] at ih ⊢
    rw [List.drop_append, hl, List.drop_of_length_le (by rw [hl, Nat.succ_mul]; omega), Nat.succ_mul, Nat.add_sub_cancel, ih, List.nil_append]
theorem Slc.row (h : Slc enc sz w v xs F) (hl : ∀ x, (enc x).length = sz) : v = .slice none 0 0 ∧ xs = [] ∨ ∃ b cap c T fz, v = .slice (some ⟨b, 0, none⟩) xs.length cap ∧ blk w b = some (.cells c T fz) ∧ xs.length ≤ cap ∧ c.size = cap * sz ∧
    c.toList.take (xs.length * sz) = flat enc xs := by
  have hlo := h.loads hl
  rcases h with ⟨rfl, rfl, rfl⟩ | ⟨b, cap, c, T, rfl, hb, hc, hs, rfl, hel⟩
  · exact .inl ⟨rfl, rfl⟩
  · refine .inr ⟨b, cap, c, T, _, rfl, hb, hc, hs, ?_⟩
    have hle : 0 + 0 + xs.length * sz ≤ c.size := by rw [hs]; simpa using Nat.mul_le_mul_right sz hc
    simpa [cellsOfArg, loads_blk hb _ 0 hle] using hlo
/-- 'v[:n]', to be read. -/
theorem Slc.upto (h : Slc enc sz w v xs F) (hl : ∀ x, (enc x).length = sz) {n : Nat} (hn : n ≤ xs.length) (k : IntKind) :
    ∃ v', slicev sz v none (some (.int k (n : Int))) = some v' ∧ ∀ w', (∀ b ∈ F, blk w' b = blk w b) → cellsOfArg w' sz v' = some (flat enc (xs.take n), (xs.take n).length) := by
  have hcg := fun (w' : World) (hw : ∀ b ∈ F, blk w' b = blk w b) => h.congr hw
  rcases h.row hl with ⟨rfl, rfl⟩ | ⟨b, cap, c, T, fz, rfl, hb, hc, hs, _⟩
  · have : n = 0 := by simpa using hn
    subst this
    exact ⟨.slice none 0 0, by simp [slicev, natOf], fun w' _ => by simp [cellsOfArg, flat]⟩
  · have h1 : n ≤ cap := by omega
    refine ⟨.slice (some ⟨b, 0, none⟩) n cap, by simp [slicev, natOf, h1, Addr.add], fun w' hw => ?_⟩
    rcases (hcg w' hw).row hl with ⟨h0, _⟩ | ⟨b', cap', c', T', fz', h0, hb', hc', hs', hr'⟩
    · cases h0
    · cases h0
      have hle : 0 + 0 + n * sz ≤ c'.size := by rw [hs']; simpa using Nat.mul_le_mul_right sz h1
      simp only [cellsOfArg, loads_blk hb' _ 0 hle, Option.map_some, Nat.zero_add, List.drop_zero]
      rw [← flat_take hl, ← hr', List.take_take, Nat.min_eq_left (Nat.mul_le_mul_right sz hn), List.length_take, Nat.min_eq_left hn]
/-- 'v[n:]', to be read. -/
theorem Slc.from (h : Slc enc sz w v xs F) (hl : ∀ x, (enc x).length = sz) {n : Nat} (hn : n ≤ xs.length) (k : IntKind) :
    ∃ v', slicev sz v (some (.int k (n : Int))) none = some v' ∧ ∀ w', (∀ b ∈ F, blk w' b = blk w b) → cellsOfArg w' sz v' = some (flat enc (xs.drop n), (xs.drop n).length) := by
  have hcg := fun (w' : World) (hw : ∀ b ∈ F, blk w' b = blk w b) => h.congr hw
  rcases h.row hl with ⟨rfl, rfl⟩ | ⟨b, cap, c, T, fz, rfl, hb, hc, hs, _⟩
  · have : n = 0 := by simpa using hn
    subst this
    exact ⟨.slice none 0 0, by simp [slicev, natOf], fun w' _ => by simp [cellsOfArg, flat]⟩
  · refine ⟨.slice (some (if cap = n then ⟨b, 0, none⟩ else ⟨b, n * sz, none⟩)) (xs.length - n) (cap - n), ?_, fun w' hw => ?_⟩
    · simp only [slicev, natOf, Int.toNat_natCast, Int.natCast_nonneg, if_true, hc, hn, and_self]
      by_cases hcn : cap = n
      · simp [hcn]
      · simp [hcn, add_none]
    rcases (hcg w' hw).row hl with ⟨h0, _⟩ | ⟨b', cap', c', T', fz', h0, hb', hc', hs', hr'⟩
    · cases h0
    · cases h0
      have hdr : flat enc (xs.drop n) = (c'.toList.drop (n * sz)).take ((xs.length - n) * sz) := by
        rw [← flat_drop hl, ← hr', List.drop_take, Nat.sub_mul]
      by_cases hcn : cap = n
      · have h0 : xs.length - n = 0 := by omega
        rw [h0] at hdr
        simp only [hcn, if_true, h0]
        rw [hdr]
        simp [cellsOfArg, Den.loads, h0]
      · simp only [hcn, if_false]
        have hle : n * sz + 0 + (xs.length - n) * sz ≤ c'.size := by
          rw [hs', Nat.add_zero, ← Nat.add_mul]; exact Nat.mul_le_mul_right sz (by omega)
        simp only [cellsOfArg, loads_blk hb' _ 0 hle, Option.map_some, Nat.add_zero]
        rw [hdr, List.length_drop]
end
/-- '[]T{}'. -/
theorem newslice_none {α : Type} (enc : α → List Value) (E sz : Nat) (zero : Array Value) (w : World) : ∃ v w', newslice E zero sz 0 [] w = some (v, w') ∧ Slc enc sz w' v [] [hsz w] ∧ Fr [] w w' := by
  refine ⟨.slice (some ⟨hsz w, 0, none⟩) 0 0, w.alloc (.cells #[] E), ?_, .inr ⟨hsz w, 0, #[], E, rfl, by simp, by simp, by simp, rfl, fun i x hx => by simp at hx⟩, Fr.alloc _ _ _⟩
  unfold newslice
  have h0 : (Array.range (0 * sz)).map (zero[· % zero.size]!) = #[] := by apply Array.eq_empty_of_size_eq_zero; simp
  rw [h0]
  rfl
end Go.Den
end

section
namespace Go.Den
section
variable {α : Type} {enc : α → List Value} {sz : Nat} {w w' : World} {v : Value} {xs ys : List α} {F G : List Nat} {b : Nat}
theorem newslice_val (E sz : Nat) (zero : Array Value) (vs : List Value) (y : Value) (hy : y.cells = vs.toArray) (hl : vs.length = sz) (w : World) :
    newslice E zero sz 1 [(0, sz, y)] w = some (.slice (some ⟨hsz w, 0, none⟩) 1 1, w.alloc (.cells vs.toArray E)) := by
  have h := newslice_one E sz zero vs hl w
  unfold newslice fillv at h ⊢
  simp only [hy, cells_agg] at h ⊢
  exact h
/-- '[]T{x}', as what an append takes. -/
theorem newone_step {E : Nat} {zero : Array Value} {y : Value} {x : α} {k : Value → World → Prop} (hl : ∀ x, (enc x).length = sz) (hy : y.cells = (enc x).toArray)
    (h : ∀ t w1, Slc enc sz w1 t [x] [hsz w] → Fr [] w w1 → hsz w1 = hsz w + 1 → k t w1) : BND (newslice E zero sz 1 [(0, sz, y)] w) fun p => NEW p k := by
  refine BND_step (newslice_val E sz zero (enc x) y hy (hl x) w) <| (NEW_pair _ _ _).2 ?_
  refine h _ _ (.inr ⟨hsz w, 1, (enc x).toArray, E, rfl, blk_alloc_new _ _, by simp, by simp [hl], rfl, fun i u hu j hj => ?_⟩) (Fr.alloc _ _ _) (by simp)
  cases i with
  | zero => simp at hu; subst hu; simp
  | succ i => simp at hu
theorem newnil_step {E : Nat} {zero : Array Value} {k : Value → World → Prop} (enc : α → List Value) (h : ∀ t w1, Slc enc sz w1 t [] [hsz w] → Fr [] w w1 → hsz w1 = hsz w + 1 → k t w1) :
    BND (newslice E zero sz 0 [] w) fun p => NEW p k := by
  refine BND_step (v := (.slice (some ⟨hsz w, 0, none⟩) 0 0, w.alloc (.cells #[] E))) ?_ <| (NEW_pair _ _ _).2 ?_
  · unfold newslice
    have h0 : (Array.range (0 * sz)).map (zero[· % zero.size]!) = #[] := by apply Array.eq_empty_of_size_eq_zero; simp
    rw [h0]
    rfl
  · exact h _ _ (.inr ⟨hsz w, 0, #[], E, rfl, by simp, by simp, by simp, rfl, fun i x hx => by simp at hx⟩) (Fr.alloc _ _ _) (by simp)
theorem Slc.nil (enc : α → List Value) (sz : Nat) (w : World) : Slc enc sz w (.slice none 0 0) [] [] := .inl ⟨rfl, rfl, rfl⟩
/-- one's own slice reads as one that came in. -/
theorem Slc.arr (h : Slc enc sz w v xs F) : Arr enc sz w v xs := by
  rcases h with ⟨rfl, rfl, rfl⟩ | ⟨b, cap, c, T, rfl, hb, hc, hs, rfl, hel⟩
  · exact ⟨none, 0, rfl, .inl rfl⟩
  · refine ⟨some ⟨b, 0, none⟩, cap, rfl, .inr ⟨b, 0, c, T, (0, 0), rfl, hb, fun i x hx => ⟨?_, fun j hj => ?_⟩⟩⟩
    · have hi : i < xs.length := (List.getElem?_eq_some_iff.1 hx).1
      rw [hs, Nat.zero_add]
      have : (i + 1) * sz ≤ cap * sz := Nat.mul_le_mul_right _ (by omega)
      rw [Nat.succ_mul] at this
      exact this
    · rw [Nat.zero_add]; exact hel i x hx j hj
theorem Arr.src (h : Arr enc sz w v xs) (hl : ∀ x, (enc x).length = sz) (hsz : 0 < sz) : cellsOfArg w sz v = some (flat enc xs, xs.length) := by
  obtain ⟨a, cap, rfl, h⟩ := h
  rcases h with rfl | ⟨b, o, c, T, fz, rfl, h2, h3⟩
  · cases a <;> simp [cellsOfArg, flat, Den.loads]
  · by_cases h0 : xs = []
    · subst h0; simp [cellsOfArg, flat, Den.loads]
    have hpos : 0 < xs.length := List.length_pos_iff.2 h0
    have hbound : o + 0 + xs.length * sz ≤ c.size := by
      have hx := List.getElem?_eq_getElem (l := xs) (i := xs.length - 1) (by omega)
      have := (h3 _ _ hx).1
      have e : (xs.length - 1) * sz + sz = xs.length * sz := by
        rw [← Nat.succ_mul]; congr 1; omega
      omega
    simp only [cellsOfArg, loads_blk h2 _ 0 hbound, Option.map_some, Nat.add_zero]
    congr 2
    apply List.ext_getElem?
    intro n
    rw [List.getElem?_take, List.getElem?_drop]
    by_cases hn : n < xs.length * sz
    · rw [if_pos hn]
      have hd : n / sz < xs.length := Nat.div_lt_of_lt_mul (by rw [Nat.mul_comm]; exact hn)
      have hm : n % sz < sz := Nat.mod_lt _ hsz
      have hx := List.getElem?_eq_getElem hd
      have e1 := (h3 _ _ hx).2 _ hm
      have e2 := flat_get hl xs _ _ _ hx hm
      have e3 : n / sz * sz + n % sz = n := by rw [Nat.mul_comm]; exact Nat.div_add_mod n sz
      rw [Nat.add_assoc, e3] at e1
      rw [e3] at e2
      rw [e2, ← e1, Array.getElem?_toList]
    · rw [if_neg hn, List.getElem?_eq_none]
      rw [flat_len hl]; omega
end

/-! ## Maps with stamps -/
structure MapB {κ : Type} (enc : κ → Value) (es : Array MapEntry) (ck : Nat) (L : List (κ × Value)) : Prop where
  l : MapL enc es L
  lt : ∀ x ∈ es.toList, x.born < ck
  nd : (es.toList.map (·.born)).Nodup
section
variable {κ : Type} [DecidableEq κ] {enc : κ → Value} {kd : TypeDesc} {es : Array MapEntry} {ck : Nat} {L : List (κ × Value)}
omit [DecidableEq κ] in
theorem MapB.nil (enc : κ → Value) : MapB enc #[] 0 [] := ⟨⟨rfl, by simp⟩, by simp, by simp⟩
theorem modify_toList {α : Type} (es : Array α) (i : Nat) (f : α → α) : (es.modify i f).toList = es.toList.modify i f := by
  apply List.ext_getElem?
  intro n
  rw [Array.getElem?_toList, Array.getElem?_modify, List.getElem?_modify, Array.getElem?_toList]
  by_cases h : i = n <;> simp [h]
theorem map_modify_same {α β : Type} (g : α → β) (f : α → α) (h : ∀ x, g (f x) = g x) (l : List α) (i : Nat) : (l.modify i f).map g = l.map g := by
  apply List.ext_getElem?
  intro n
  rw [List.getElem?_map, List.getElem?_modify, List.getElem?_map]
  by_cases hn : i = n
  · subst hn; cases l[i]? <;> simp [h]
  · simp [hn]
theorem mem_modify {α : Type} {l : List α} {i : Nat} {f : α → α} {x : α} (h : x ∈ l.modify i f) : x ∈ l ∨ ∃ y ∈ l, x = f y := by
  obtain ⟨n, hn⟩ := List.mem_iff_getElem?.1 h
  rw [List.getElem?_modify] at hn
  cases hl : l[n]? with
  | none => simp [hl] at hn
  | some y =>
    simp [hl] at hn
    have hy := List.mem_of_getElem? hl
    by_cases hi : i = n
    · simp [hi] at hn; exact .inr ⟨y, hy, hn.symm⟩
    · simp [hi] at hn; exact .inl (hn ▸ hy)
theorem findBorn {es : Array MapEntry} (hnd : (es.toList.map (·.born)).Nodup) {i : Nat} {e : MapEntry} (he : es[i]? = some e) : es.findIdx? (fun x => (x.born : Int) == (e.born : Int)) = some i := by
  obtain ⟨hi, rfl⟩ := Array.getElem?_eq_some_iff.1 he
  rw [Array.findIdx?_eq_some_iff_getElem]
  refine ⟨hi, by simp, fun j hj => ?_⟩
  simp only [beq_iff_eq, Int.natCast_inj]
  intro e
  have hp := List.pairwise_iff_getElem.1 (List.nodup_iff_pairwise_ne.1 hnd) j i (by simp; omega) (by simpa using hi) hj
  simp at hp
  exact hp e
theorem mupd_B (hk : KeyOk kd enc) {w : World} {b : Nat} (hb : blk w b = some (.map es ck)) (h : MapB enc es ck L) (k : κ) (v : Value) :
    ∃ es' ck', mupd kd w (.map (some b)) (enc k) v = some (setB w b (.map es' ck')) ∧ MapB enc es' ck' (insL L k v) := by
  have h' : w.heap[b]? = some (.map es ck) := hb
  obtain ⟨es1, ck1, e1, l1⟩ := mupd_L hk hb h.l k v
  have e2 := e1
  unfold mupd at e2
  simp only [h', mfind_L hk h.l] at e2
  have key : ∀ es2 ck2, some ({ w with heap := w.heap.setIfInBounds b (.map es2 ck2) } : World) = some (setB w b (.map es1 ck1)) → es1 = es2 ∧ ck1 = ck2 := by
    intro es2 ck2 e
    have h1 : blk (setB w b (.map es2 ck2)) b = blk (setB w b (.map es1 ck1)) b := congrArg (fun x : World => blk x b) (Option.some.inj e)
    rw [blk_setB_same hb, blk_setB_same hb] at h1
    cases h1
    exact ⟨rfl, rfl⟩
  refine ⟨es1, ck1, e1, l1, ?_, ?_⟩
  all_goals
    cases hf : findL L k 0 with
    | none =>
      simp only [hf] at e2
      obtain ⟨rfl, rfl⟩ := key _ _ e2
      first
        | (intro x hx
           simp at hx
           rcases hx with hx | rfl
           · have := h.lt x (by simpa using hx); omega
           · simp)
        | (simp only [Array.toList_push, List.map_append, List.map_cons, List.map_nil]
           rw [List.nodup_append]
           refine ⟨h.nd, by simp, fun a ha c hc => ?_⟩
           simp at hc
           subst hc
           obtain ⟨x, hx, rfl⟩ := List.mem_map.1 ha
           have := h.lt x hx
           omega)
    | some p =>
      obtain ⟨i, u⟩ := p
      simp only [hf] at e2
      split at e2
      · obtain ⟨rfl, rfl⟩ := key _ _ e2
        rw [modify_toList]
        first
          | (intro x hx
             rcases mem_modify hx with hx | ⟨y, hy, rfl⟩
             · exact h.lt x hx
             · exact h.lt y hy)
          | (rw [map_modify_same (fun x : MapEntry => x.born) _ (by intro x; rfl)]; exact h.nd)
      · cases e2
/-- an entry made, and given its value. -/
theorem entry_B (hk : KeyOk kd enc) (zero : Value) {w : World} {b : Nat} (hb : blk w b = some (.map es ck)) (h : MapB enc es ck L) (k : κ) (v : Value) :
    ∃ es1 ck1 u n es2, mentry kd zero w (.map (some b)) (enc k) = some (.tuple #[u, .int .i64 n], setB w b (.map es1 ck1)) ∧
      (∀ w1, blk w1 b = some (.map es1 ck1) → mestore w1 (.map (some b)) (.int .i64 n) v = some (setB w1 b (.map es2 ck1))) ∧ MapB enc es2 ck1 (insL L k v) := by
  have h' : w.heap[b]? = some (.map es ck) := hb
  obtain ⟨es3, ck3, e3, l3⟩ := mupd_B hk hb h k v
  have e4 := e3
  unfold mupd at e4
  simp only [h', mfind_L hk h.l] at e4
  have key : ∀ es2 ck2, some ({ w with heap := w.heap.setIfInBounds b (.map es2 ck2) } : World) = some (setB w b (.map es3 ck3)) → es3 = es2 ∧ ck3 = ck2 := by
    intro es2 ck2 e
    have h1 : blk (setB w b (.map es2 ck2)) b = blk (setB w b (.map es3 ck3)) b := congrArg (fun x : World => blk x b) (Option.some.inj e)
    rw [blk_setB_same hb, blk_setB_same hb] at h1
    cases h1
    exact ⟨rfl, rfl⟩
  cases hf : findL L k 0 with
  | none =>
    simp only [hf] at e4
    obtain ⟨rfl, rfl⟩ := key _ _ e4
    refine ⟨es.push ⟨enc k, zero, ck⟩, ck + 1, zero, ck, es.push ⟨enc k, v, ck⟩, ?_, fun w1 hw1 => ?_, l3⟩
    · unfold mentry
      simp only [h', mfind_L hk h.l, hf]
      rfl
    · have h1 : w1.heap[b]? = some (.map (es.push ⟨enc k, zero, ck⟩) (ck + 1)) := hw1
      have hnd : ((es.push ⟨enc k, zero, ck⟩).toList.map (·.born)).Nodup := by
        have := l3.nd
        simpa using this
      have hfi := findBorn (i := es.size) (e := ⟨enc k, zero, ck⟩) hnd (by simp)
      unfold mestore
      simp only [h1, hfi]
      congr 2
      have : (es.push (⟨enc k, zero, ck⟩ : MapEntry)).modify es.size (fun e => { e with val := v }) = es.push ⟨enc k, v, ck⟩ := by
        apply Array.ext'
        rw [modify_toList, Array.toList_push, Array.toList_push]
        apply List.ext_getElem?
        intro n
        rw [List.getElem?_modify]
        by_cases hn : es.size = n
        · subst hn; simp
        · simp only [hn, if_false, List.getElem?_append, Array.length_toList]
          split
          · simp
          · have : n - es.size ≠ 0 := by omega
            obtain ⟨m, hm⟩ := Nat.exists_eq_succ_of_ne_zero this
            rw [hm]; simp
      rw [this]
  | some p =>
    obtain ⟨i, u⟩ := p
    simp only [hf] at e4
    split at e4
    · rename_i hs
      obtain ⟨rfl, rfl⟩ := key _ _ e4
      obtain ⟨j, hj, h2, _, _⟩ := findL_some hf
      simp at hj; subst hj
      have hi : i < es.size := by rw [h.l.size]; exact (List.getElem?_eq_some_iff.1 h2).1
      refine ⟨es.modify i (fun e => { e with key := enc k }), ck3, u, es[i].born, es.modify i (fun e => { e with key := enc k, val := v }), ?_, fun w1 hw1 => ?_, l3⟩
      · unfold mentry
        simp only [h', mfind_L hk h.l, hf, hs, if_true]
        simp [hi]
        rfl
      · have h1 : w1.heap[b]? = some (.map (es.modify i (fun e => { e with key := enc k })) ck3) := hw1
        have hnd : ((es.modify i (fun e : MapEntry => { e with key := enc k })).toList.map (·.born)).Nodup := by
          rw [modify_toList, map_modify_same (fun x : MapEntry => x.born) _ (by intro x; rfl)]; exact h.nd
        have hfi := findBorn (i := i) (e := ⟨enc k, es[i].val, es[i].born⟩) hnd (by rw [Array.getElem?_modify]; simp [hi])
        unfold mestore
        simp only [h1, hfi]
        congr 2
        have : (es.modify i (fun e : MapEntry => { e with key := enc k })).modify i (fun e => { e with val := v }) = es.modify i (fun e => { e with key := enc k, val := v }) := by
          apply Array.ext'
          rw [modify_toList, modify_toList, modify_toList]
          apply List.ext_getElem?
          intro n
          rw [List.getElem?_modify, List.getElem?_modify, List.getElem?_modify]
          by_cases hn : i = n
          · subst hn; cases es.toList[i]? <;> simp
          · simp [hn]
        rw [this]
    · cases e4
end
end Go.Den
end

section
namespace Go.Den
/-- a struct's block is given another struct. -/
theorem put_step {T n b : Nat} {w : World} {zs : Array Value} {vs : List Value} {K : World → Prop} (b1 : blk w b = some (.cells zs T (0, 0))) (hz : zs.size = n) (hv : vs.length = n) (h1 : ∀ u ∈ vs, u.oneCell' = true) (hn : vs ≠ [])
    (h : ∀ w', blk w' b = some (.cells vs.toArray T (0, 0)) → Fr [b] w w' → hsz w' = hsz w → K w') : BND (storev n w (.pointer (some ⟨b, 0, none⟩)) (.agg vs.toArray)) K := by
  refine BND_step (storevn_blk (o := 0) b1 hv (by omega) h1 hn) ?_
  have he : splice zs 0 vs = vs.toArray := splice_all _ _ (by omega)
  rw [he]
  exact h _ (blk_setB_same b1) (Fr.setB (.inl (by simp)) _) (by simp)
theorem loadn_all {T n b : Nat} {w : World} {vs : List Value} {f : Nat × Nat} (h : blk w b = some (.cells vs.toArray T f)) (hn : vs.length = n) : loadn n w (.pointer (some ⟨b, 0, none⟩)) = some (.agg vs.toArray) := by
  rw [loadn_blk h (by simp; omega)]
  subst hn
  simp
theorem splice_take {c : Array Value} {o : Nat} {vs : List Value} (h : o + vs.length ≤ c.size) : (splice c o vs).toList.take (o + vs.length) = c.toList.take o ++ vs := by
  apply List.ext_getElem?
  intro i
  rw [List.getElem?_take]
  have hs : (c.toList.take o).length = o := by simp; omega
  split
  · rename_i hi
    rw [Array.getElem?_toList, splice_get vs c o i h]
    by_cases ho : o ≤ i
    · rw [if_pos ⟨ho, hi⟩, List.getElem?_append_right (by omega), hs]
    · rw [if_neg (by omega), List.getElem?_append_left (by omega), List.getElem?_take, if_pos (by omega), Array.getElem?_toList]
  · rename_i hi
    exact (List.getElem?_eq_none (by simp; omega)).symm
section
variable {α : Type} {enc : α → List Value} {sz : Nat}
def partsAt (sz : Nat) (val : α → Value) : Nat → List α → List (Nat × Nat × Value)
  | _, [] => []
  | k, x :: xs => (k * sz, sz, val x) :: partsAt sz val (k + 1) xs
theorem fillv_parts (hl : ∀ x, (enc x).length = sz) {val : α → Value} (hv : ∀ x, (val x).cells = (enc x).toArray) : ∀ (xs : List α) (k : Nat) (c : Array Value), c.size = (k + xs.length) * sz →
    fillv c (partsAt sz val k xs) = some ((c.toList.take (k * sz) ++ flat enc xs).toArray)
  | [], k, c, h => by
    simp only [partsAt, fillv, flat, List.flatMap_nil, List.append_nil, List.length_nil, Nat.add_zero] at h ⊢
    rw [List.take_of_length_le (by simp; omega)]
  | x :: xs, k, c, h => by
    have hk : (k + (x :: xs).length) * sz = k * sz + sz + xs.length * sz := by
      simp only [List.length_cons]
      rw [show k + (xs.length + 1) = k + 1 + xs.length by omega, Nat.add_mul, Nat.succ_mul]
    rw [hk] at h
    have hs : (val x).cells.size = sz := by rw [hv]; simp [hl]
    have hc1 : ((val x).cells.zipIdx.foldl (fun cs (c, j) => cs.setIfInBounds (k * sz + j) c) c) = splice c (k * sz) (enc x) := by
      rw [hv]
      have := fold_splice (k * sz) (enc x) 0 c
      rw [Nat.add_zero] at this
      rw [← this, ← Array.foldl_toList, Array.toList_zipIdx]
    simp only [partsAt, fillv, hs]
    rw [if_neg (by simp; omega), hc1]
    have hss : (splice c (k * sz) (enc x)).size = c.size := by simp
    rw [fillv_parts hl hv xs (k + 1) _ (by rw [hss, h, Nat.add_mul, Nat.succ_mul])]
    congr 2
    have ht := splice_take (c := c) (o := k * sz) (vs := enc x) (by rw [hl]; omega)
    rw [hl] at ht
    rw [Nat.succ_mul, ht, flat, flat, List.flatMap_cons, List.append_assoc]
theorem newparts_step (hl : ∀ x, (enc x).length = sz) {val : α → Value} (hv : ∀ x, (val x).cells = (enc x).toArray) (xs : List α) {E n : Nat} {zero : Array Value} {ps : List (Nat × Nat × Value)} {w : World} {k : Value → World → Prop} (hn : n = xs.length) (hp : ps = partsAt sz val 0 xs)
    (h : ∀ t w1, Slc enc sz w1 t xs [hsz w] → Fr [] w w1 → hsz w1 = hsz w + 1 → k t w1) : BND (newslice E zero sz n ps w) fun p => NEW p k := by
  subst hn; subst hp
  have he : newslice E zero sz xs.length (partsAt sz val 0 xs) w = some (.slice (some ⟨hsz w, 0, none⟩) xs.length xs.length, w.alloc (.cells (flat enc xs).toArray E)) := by
    unfold newslice
    rw [fillv_parts hl hv xs 0 _ (by simp)]
    simp
  refine BND_step he <| (NEW_pair _ _ _).2 <| h _ _ (.inr ⟨hsz w, xs.length, _, E, rfl, blk_alloc_new _ _, Nat.le_refl _, by simp [flat_len hl], rfl, fun i x hx j hj => ?_⟩) (Fr.alloc _ _ _) (by simp)
  have := flat_get hl xs i x j hx hj
  simpa using this
end
end Go.Den
end

section
namespace Go.Den
theorem cell?_congr {w w' : World} {b o : Nat} (h : blk w' b = blk w b) : w'.cell? ⟨b, o, none⟩ = w.cell? ⟨b, o, none⟩ := by
  have h' : w'.heap[b]? = w.heap[b]? := h
  simp [World.cell?, h']
theorem loads_congr {w w' : World} {b o : Nat} (h : blk w' b = blk w b) : ∀ n i, loads w' ⟨b, o, none⟩ i n = loads w ⟨b, o, none⟩ i n
  | 0, _ => rfl
  | n + 1, i => by
    rw [loads, loads, add_none, cell?_congr h, loads_congr h n (i + 1)]
theorem loadn_congr {w w' : World} {b o n : Nat} (h : blk w' b = blk w b) : loadn n w' (.pointer (some ⟨b, o, none⟩)) = loadn n w (.pointer (some ⟨b, o, none⟩)) := by
  simp [loadn, loads_congr h]
theorem BND_cg {α : Type} {o o' : Option α} {k : α → Prop} (h : o = o') : BND o k = BND o' k := by rw [h]
theorem COND_cg {v v' : Value} {t e : Prop} (h : v = v') : COND v t e = COND v' t e := by rw [h]
theorem GEF_cg {c c' : Bool} {f : (Value → World → Prop) → Prop} {w : World} {k : Value → World → Prop} (h : c = c') : GEF c f w k = GEF c' f w k := by rw [h]
theorem load1_at {w : World} {b o : Nat} {c : List Value} {T : Nat} {f : Nat × Nat} {v : Value} (h : blk w b = some (.cells c.toArray T f)) (e : c[o]? = some v) : load1 w (.pointer (some ⟨b, o, none⟩)) = some v := by
  rw [load1_blk h, List.getElem?_toArray, e]
theorem BND_ld {w : World} {b o : Nat} {c : List Value} {T : Nat} {f : Nat × Nat} {v : Value} {k : Value → Prop} (h : blk w b = some (.cells c.toArray T f)) (e : c[o]? = some v) (hk : k v) : BND (load1 w (.pointer (some ⟨b, o, none⟩))) k := ⟨v, load1_at h e, hk⟩
theorem FLT_ld {S : World → Prop} {b o : Nat} {c : List Value} {T : Nat} {f : Nat × Nat} {v : Value} {k : Value → Prop} (h : ∀ w, S w → blk w b = some (.cells c.toArray T f)) (e : c[o]? = some v) (hk : k v) : FLT S (fun w_ => load1 w_ (.pointer (some ⟨b, o, none⟩))) k := ⟨v, fun w hw => load1_at (h w hw) e, hk⟩
theorem BND_ext {vs : List Value} {i : Nat} {v : Value} {k : Value → Prop} (e : vs[i]? = some v) (hk : k v) : BND (extractv (.tuple vs.toArray) i) k := ⟨v, by rw [extractv_tuple, List.getElem?_toArray, e], hk⟩
theorem BND_part {vs : List Value} {o n : Nat} {k : Value → Prop} (us : List Value) (e : (vs.drop o).take n = us) (hk : k (.agg us.toArray)) : BND (partn (.agg vs.toArray) o n) k := ⟨_, by simp [partn, List.extract_eq_take_drop, e], hk⟩
theorem inc_ {n : Nat} (h : n < 4000000000000000000) : binv .int .add (.int .i64 (n : Int)) (.int .i64 1) = some (.int .i64 ((n + 1 : Nat) : Int)) := by
  rw [binv_add, wrap_i64 (by omega) (by omega)]; congr 2
theorem dec_ {n : Nat} (h0 : 0 < n) (h : n < 4000000000000000000) : binv .int .sub (.int .i64 (n : Int)) (.int .i64 1) = some (.int .i64 ((n - 1 : Nat) : Int)) := by
  rw [binv_sub, wrap_i64 (by omega) (by omega)]; congr 2; omega
theorem addn_ {n m : Nat} (h : n + m < 4000000000000000000) : binv .int .add (.int .i64 (n : Int)) (.int .i64 (m : Int)) = some (.int .i64 ((n + m : Nat) : Int)) := by
  rw [binv_add, wrap_i64 (by omega) (by omega)]; congr 2
theorem subn_ {n m : Nat} (h0 : m ≤ n) (h : n < 4000000000000000000) : binv .int .sub (.int .i64 (n : Int)) (.int .i64 (m : Int)) = some (.int .i64 ((n - m : Nat) : Int)) := by
  rw [binv_sub, wrap_i64 (by omega) (by omega)]; congr 2; omega

theorem COND_nd_true {p : Prop} [Decidable p] (h : ¬ p) {t e : Prop} (ht : t) : COND (.bool (!decide p)) t e := .yes (by simp [h]) ht
theorem COND_nd_false {p : Prop} [Decidable p] (h : p) {t e : Prop} (he : e) : COND (.bool (!decide p)) t e := .no (by simp [h]) he
theorem BND_inc {n : Nat} {k : Value → Prop} (h : n < 4000000000000000000) (hk : k (.int .i64 ((n + 1 : Nat) : Int))) : BND (binv .int .add (.int .i64 (n : Int)) (.int .i64 1)) k := ⟨_, inc_ h, hk⟩
theorem BND_dec {n : Nat} {k : Value → Prop} (h : 0 < n ∧ n < 4000000000000000000) (hk : k (.int .i64 ((n - 1 : Nat) : Int))) : BND (binv .int .sub (.int .i64 (n : Int)) (.int .i64 1)) k := ⟨_, dec_ h.1 h.2, hk⟩
theorem steq (a b : ByteArray) : binv .str .eql (.string a) (.string b) = some (.bool (decide (a = b))) := by
  show some (Value.bool (a.toList == b.toList)) = _
  by_cases h : a = b
  · subst h; simp
  · have : ¬ a.toList = b.toList := fun e => h (by rw [ByteArray.toList_eq, ByteArray.toList_eq] at e; exact ByteArray.ext (Array.ext' e))
    simp [h, this]
theorem stne (a b : ByteArray) : binv .str .neq (.string a) (.string b) = some (.bool (!decide (a = b))) := by
  have := steq a b
  have h2 : binv .str .neq (.string a) (.string b) = (binv .str .eql (.string a) (.string b)).bind fun v => unv .not v := rfl
  rw [h2, this]; rfl
/-- a struct put together. -/
def spliceL : List Value → Nat → List Value → List Value
  | c, _, [] => c
  | c, o, v :: vs => spliceL (c.set o v) (o + 1) vs
def buildL : List Value → List (Nat × Nat × Value) → Option (List Value)
  | c, [] => some c
  | c, (off, size, v) :: rest => bif Nat.beq v.cells.toList.length size && Nat.ble (off + size) c.length then buildL (spliceL c off v.cells.toList) rest else none
theorem splice_L : ∀ (vs c : List Value) (o : Nat), splice c.toArray o vs = (spliceL c o vs).toArray
  | [], _, _ => rfl
  | v :: vs, c, o => by rw [splice, spliceL, List.setIfInBounds_toArray]; exact splice_L vs _ _
theorem fillv_L : ∀ (ps : List (Nat × Nat × Value)) (c vs : List Value), buildL c ps = some vs → fillv c.toArray ps = some vs.toArray
  | [], c, vs, h => by simp [buildL] at h; subst h; rfl
  | (off, size, v) :: rest, c, vs, h => by
    rw [buildL] at h
    cases hb : (Nat.beq v.cells.toList.length size && Nat.ble (off + size) c.length) with
    | false => rw [hb] at h; cases h
    | true =>
      rw [hb] at h
      simp only [Bool.and_eq_true, Nat.beq_eq, Nat.ble_eq] at hb
      have hs : v.cells.size = size := by simpa using hb.1
      have hf := fold_splice off v.cells.toList 0 c.toArray
      rw [Nat.add_zero, splice_L] at hf
      have hf2 : (v.cells.zipIdx.foldl (fun cs (x : Value × Nat) => cs.setIfInBounds (off + x.2) x.1) c.toArray) = (spliceL c off v.cells.toList).toArray := by
        rw [← hf, ← Array.foldl_toList, Array.toList_zipIdx]
      rw [fillv, if_neg (by simp [hs]; omega)]
      exact (congrArg (fun x => fillv x rest) hf2).trans (fillv_L rest _ _ h)
theorem build_at {zs : List Value} {ps : List (Nat × Nat × Value)} {vs : List Value} (h : buildL zs ps = some vs) : buildv zs.toArray ps = some (.agg vs.toArray) := by
  unfold buildv
  rw [fillv_L ps zs vs h]; rfl
theorem BND_build {zs : List Value} {ps : List (Nat × Nat × Value)} {k : Value → Prop} (vs : List Value) (h : buildL zs ps = some vs) (hk : k (.agg vs.toArray)) : BND (buildv zs.toArray ps) k := ⟨_, build_at h, hk⟩
/-! ## Steps that need no fact -/
class Ev (o : Option Value) (v : outParam Value) : Prop where
  h : o = some v
theorem stp {o : Option Value} {v : Value} {k : Value → Prop} [h : Ev o v] (hk : k v) : BND o k := ⟨v, h.h, hk⟩
section
variable {t : TK} {k : IntKind} {a b : Int} {p q : Bool} {x y z : Value} {s u : ByteArray}
instance : Ev (some x) x := ⟨rfl⟩
instance {off b o : Nat} : Ev (faddr off (.pointer (some ⟨b, o, none⟩))) (.pointer (some ⟨b, o + off, none⟩)) := ⟨faddr_ptr _ _ _⟩
instance {c : Addr} : Ev (nilchk (.pointer (some c))) (.pointer (some c)) := ⟨rfl⟩
instance {f : Nat} {c d : Array Value} : Ev (nilchk (.func (.func f) c d)) (.func (.func f) c d) := ⟨rfl⟩
instance : Ev (binv t .lss (.int k a) (.int k b)) (.bool (decide (a < b))) := ⟨binv_lss _ _ _ _⟩
instance : Ev (binv t .leq (.int k a) (.int k b)) (.bool (decide (a ≤ b))) := ⟨binv_leq _ _ _ _⟩
instance : Ev (binv t .gtr (.int k a) (.int k b)) (.bool (decide (b < a))) := ⟨binv_gtr _ _ _ _⟩
instance : Ev (binv t .geq (.int k a) (.int k b)) (.bool (decide (b ≤ a))) := ⟨binv_geq _ _ _ _⟩
instance : Ev (binv t .eql (.int k a) (.int k b)) (.bool (decide (a = b))) := ⟨binv_eql _ _ _ _⟩
instance : Ev (binv t .neq (.int k a) (.int k b)) (.bool (!decide (a = b))) := ⟨binv_neq _ _ _ _⟩
instance : Ev (binv .str .eql (.string s) (.string u)) (.bool (decide (s = u))) := ⟨steq _ _⟩
instance : Ev (binv .str .neq (.string s) (.string u)) (.bool (!decide (s = u))) := ⟨stne _ _⟩
instance : Ev (binv .bool .eql (.bool p) (.bool q)) (.bool (p == q)) := ⟨rfl⟩
instance : Ev (binv .bool .neq (.bool p) (.bool q)) (.bool (p != q)) := ⟨rfl⟩
instance {c : Addr} : Ev (binv .ptr .eql (.pointer (some c)) (.pointer none)) (.bool false) := ⟨rfl⟩
instance {c : Addr} : Ev (binv .ptr .neq (.pointer (some c)) (.pointer none)) (.bool true) := ⟨rfl⟩
instance : Ev (binv .ptr .eql (.pointer none) (.pointer none)) (.bool true) := ⟨rfl⟩
instance : Ev (binv .ptr .neq (.pointer none) (.pointer none)) (.bool false) := ⟨rfl⟩
instance : Ev (lens (.string s)) (.int .i64 s.size) := ⟨rfl⟩
instance {c : Option Addr} {n m : Nat} : Ev (lenl (.slice c n m)) (.int .i64 n) := ⟨rfl⟩
instance : Ev (unv .not (.bool p)) (.bool (!p)) := ⟨rfl⟩
instance : Ev (pickv (.bool true) x y) x := ⟨rfl⟩
instance : Ev (pickv (.bool false) x y) y := ⟨rfl⟩
instance : Ev (extractv (.tuple #[x, y]) 0) x := ⟨rfl⟩
instance : Ev (extractv (.tuple #[x, y]) 1) y := ⟨rfl⟩
instance : Ev (extractv (.tuple #[x, y, z]) 0) x := ⟨rfl⟩
instance : Ev (extractv (.tuple #[x, y, z]) 1) y := ⟨rfl⟩
instance : Ev (extractv (.tuple #[x, y, z]) 2) z := ⟨rfl⟩
end
/-- what a bool says. -/
class Dc (b : Bool) (p : outParam Prop) : Prop where
  h : b = true ↔ p
instance {p : Prop} [Decidable p] : Dc (decide p) p := ⟨by simp⟩
instance {p : Prop} [Decidable p] : Dc (!decide p) (¬ p) := ⟨by simp⟩
theorem cyes {b : Bool} {p : Prop} [d : Dc b p] {t e : Prop} (h : p) (ht : t) : COND (.bool b) t e := .yes (by rw [d.h.2 h]) ht
theorem cno {b : Bool} {p : Prop} [d : Dc b p] {t e : Prop} (h : ¬ p) (he : e) : COND (.bool b) t e := .no (by
  cases hb : b with
  | true => exact absurd (d.h.1 hb) h
  | false => rfl) he
theorem gs1 : (∀ {p : Prop} [Decidable p], p → decide p = true) ∧ (∀ {p : Prop} [Decidable p], ¬ p → decide p = false) := ⟨fun h => decide_eq_true h, fun h => decide_eq_false h⟩
theorem gs2 : isB (.bool true) true = true ∧ isB (.bool true) false = false ∧ isB (.bool false) true = false ∧ isB (.bool false) false = true ∧ (∀ o, grd true o = o) ∧ (∀ o, grd false o = some undef) ∧
    (∀ f w k, GEF true f w k ↔ f k) ∧ (∀ f w k, GEF false f w k ↔ k undef w) ∧ (∀ a b : Value, pickv (.bool true) a b = some a) ∧ (∀ a b : Value, pickv (.bool false) a b = some b) ∧ (∀ t e, COND (.bool true) t e ↔ t) ∧ (∀ t e, COND (.bool false) t e ↔ e) ∧ (∀ c, isB undef c = false) :=
  ⟨rfl, rfl, rfl, rfl, fun _ => rfl, fun _ => rfl, GEF_true, GEF_false, fun _ _ => rfl, fun _ _ => rfl, COND_true, COND_false, fun _ => rfl⟩
/-- a loop whose one variable counts up. -/
theorem loop_up {B : (Value → World → Prop) → (Value → World → Nat) → Value → World → Prop} {w : World} (s n : Nat) (I : Nat → World → Prop) (h0 : I s w) (hs : s ≤ n)
    (h : ∀ i w1, s ≤ i → i ≤ n → I i w1 → ∀ J m, (∀ w', i < n → I (i + 1) w' → J (.int .i64 ((i + 1 : Nat) : Int)) w' ∧ m (.int .i64 ((i + 1 : Nat) : Int)) w' < m (.int .i64 (i : Int)) w1) → B J m (.int .i64 (i : Int)) w1) :
    ∃ (J : Value → World → Prop) (m : Value → World → Nat), J (.int .i64 (s : Int)) w ∧ ∀ (_d : Env) (t : Value) (w1 : World), J t w1 → B J m t w1 := by
  refine ⟨fun t w' => ∃ i : Nat, t = .int .i64 i ∧ s ≤ i ∧ i ≤ n ∧ I i w', fun t _ => match t with | .int _ k => n - k.toNat | _ => 0, ⟨s, rfl, Nat.le_refl _, hs, h0⟩, ?_⟩
  rintro _ _ w1 ⟨i, rfl, h1, h2, h3⟩
  exact h i w1 h1 h2 h3 _ _ fun w' h4 h5 => ⟨⟨i + 1, rfl, by omega, by omega, h5⟩, by simp; omega⟩
/-- a loop of something made, and a variable that counts up. -/
theorem loop_up2 {B : (Value → Value → World → Prop) → (Value → Value → World → Nat) → Value → Value → World → Prop} {w : World} {o : Value} (s n : Nat) (I : Value → Nat → World → Prop) (h0 : I o s w) (hs : s ≤ n)
    (h : ∀ o i w1, s ≤ i → i ≤ n → I o i w1 → ∀ J m, (∀ o' w', i < n → I o' (i + 1) w' → J o' (.int .i64 ((i + 1 : Nat) : Int)) w' ∧ m o' (.int .i64 ((i + 1 : Nat) : Int)) w' < m o (.int .i64 (i : Int)) w1) → B J m o (.int .i64 (i : Int)) w1) :
    ∃ (J : Value → Value → World → Prop) (m : Value → Value → World → Nat), J o (.int .i64 (s : Int)) w ∧ ∀ (_d : Env) (o t : Value) (w1 : World), J o t w1 → B J m o t w1 := by
  refine ⟨fun o t w' => ∃ i : Nat, t = .int .i64 i ∧ s ≤ i ∧ i ≤ n ∧ I o i w', fun _ t _ => match t with | .int _ k => n - k.toNat | _ => 0, ⟨s, rfl, Nat.le_refl _, hs, h0⟩, ?_⟩
  rintro _ o _ w1 ⟨i, rfl, h1, h2, h3⟩
  exact h o i w1 h1 h2 h3 _ _ fun o' w' h4 h5 => ⟨⟨i + 1, rfl, by omega, by omega, h5⟩, by simp; omega⟩
/-- two ways that meet: what is known there. -/
theorem join_w {f : (World → Prop) → Prop} {k : World → Prop} (Q : World → Prop) (h : ∀ K, (∀ w', Q w' → K w') → f K) (hk : ∀ w', Q w' → k w') : JOIN f k := h k hk
theorem join_v {f : (Value → World → Prop) → Prop} {k : Value → World → Prop} (Q : Value → World → Prop) (h : ∀ K, (∀ v w', Q v w' → K v w') → f K) (hk : ∀ v w', Q v w' → k v w') : JOIN f k := h k hk

section
variable {α : Type} {enc : α → List Value} {sz : Nat} {w w' : World} {v : Value} {xs : List α} {F : List Nat} {i : Nat} {x : α}
/-- where an element stands. -/
theorem Arr.spot (h : Arr enc sz w v xs) (hx : xs[i]? = some x) (hl : (enc x).length = sz) (k : IntKind) :
    ∃ b o, iaddr sz v (.int k (i : Int)) = some (.pointer (some ⟨b, o, none⟩)) ∧ loadn sz w (.pointer (some ⟨b, o, none⟩)) = some (.agg (enc x).toArray) ∧ b < hsz w ∧
      ∀ {w'}, blk w' b = blk w b → ∀ {j u}, (enc x)[j]? = some u → load1 w' (.pointer (some ⟨b, o + j, none⟩)) = some u := by
  obtain ⟨p, e1, e2, e3⟩ := h.at hx hl k
  obtain ⟨a, cap, rfl, h⟩ := h
  have hi : i < xs.length := (List.getElem?_eq_some_iff.1 hx).1
  rcases h with rfl | ⟨b, o, c, T, fz, rfl, h2, h3⟩
  · simp at hi
  · have ep : p = .pointer (some ⟨b, o + i * sz, none⟩) := by simp [Den.iaddr, hi, add_none] at e1; exact e1.symm
    subst ep
    refine ⟨b, o + i * sz, e1, e2, blk_lt h2, fun hb j u hj => ?_⟩
    rw [load1_blk (hb.trans h2)]
    have hjl : j < sz := by have := (List.getElem?_eq_some_iff.1 hj).1; omega
    rw [(h3 i x hx).2 j hjl, hj]
theorem Arr.ofLen {v2 : Value} (h : Arr enc sz w v xs) (hv : v2 = v) : Arr enc sz w v2 xs := hv ▸ h
theorem Arr.le (h : Arr enc sz w v xs) : ∃ a c, v = .slice a xs.length c := by obtain ⟨a, c, e, _⟩ := h; exact ⟨a, c, e⟩
/-- where an element of a slice that came in stands. -/
def elemP (sz : Nat) (v : Value) (i : Nat) : Value :=
  match v with
  | .slice (some a) _ _ => .pointer (some (a.add (i * sz)))
  | _ => .pointer none
theorem Arr.ui (h : Arr enc sz w v xs) (n : Int) (hx : 0 ≤ n ∧ xs[n.toNat]? = some x) {k : IntKind} : Den.iaddr sz v (.int k n) = some (elemP sz v n.toNat) := by
  obtain ⟨a, cap, rfl, h⟩ := h
  obtain ⟨h0, hx⟩ := hx
  have hi : n.toNat < xs.length := (List.getElem?_eq_some_iff.1 hx).1
  rcases h with rfl | ⟨b, o, c, T, fz, rfl, h2, h3⟩
  · simp at hi
  · simp only [Den.iaddr, elemP]
    rw [if_pos (by omega)]
theorem Arr.ul (h : Arr enc 1 w v xs) {u : Value} (hx : (xs[i]?).bind (fun x => (enc x)[0]?) = some u) : Den.load1 w (elemP 1 v i) = some u := by
  cases hy : xs[i]? with
  | none => simp [hy] at hx
  | some x =>
    simp [hy] at hx
    obtain ⟨a, cap, rfl, h⟩ := h
    have hi : i < xs.length := (List.getElem?_eq_some_iff.1 hy).1
    rcases h with rfl | ⟨b, o, c, T, fz, rfl, h2, h3⟩
    · simp at hi
    · simp only [elemP, add_none]
      have := (h3 i x hy).2 0 (by omega)
      rw [Nat.add_zero] at this
      rw [load1_blk h2, this, hx]
theorem Arr.bui {k : Value → Prop} (h : Arr enc sz w v xs) {n : Int} {kk : IntKind} (hx : 0 ≤ n ∧ xs[n.toNat]? = some x) (hk : k (elemP sz v n.toNat)) : BND (Den.iaddr sz v (.int kk n)) k := ⟨_, h.ui n hx, hk⟩
theorem Arr.bul {k : Value → Prop} (h : Arr enc 1 w v xs) {u : Value} (hx : (xs[i]?).bind (fun x => (enc x)[0]?) = some u) (hk : k u) : BND (Den.load1 w (elemP 1 v i)) k := ⟨_, h.ul hx, hk⟩
theorem FLT_ul {S : World → Prop} {k : Value → Prop} (h : ∀ w, S w → Arr enc 1 w v xs) {u : Value} (hx : (xs[i]?).bind (fun x => (enc x)[0]?) = some u) (hk : k u) : FLT S (fun w_ => Den.load1 w_ (elemP 1 v i)) k := ⟨u, fun w hw => (h w hw).ul hx, hk⟩
/-- a field is given a value. -/
theorem fstore_step {T TT j : Nat} {fs : List Value} {u : Value} {K : World → Prop} (g : blk w T = some (.cells fs.toArray TT (0, 0))) (hu : u.cells = #[u] ∧ u.oneCell' = true) (hj : j < fs.length)
    (h : ∀ w', blk w' T = some (.cells (fs.set j u).toArray TT (0, 0)) → Fr [T] w w' → hsz w' = hsz w → K w') : BND (storev 1 w (.pointer (some ⟨T, j, none⟩)) u) K := by
  refine BND_step (storev1_blk g (by simpa using hj) hu.1 hu.2) ?_
  refine h _ ?_ (Fr.setB (.inl (by simp)) _) (by simp)
  rw [blk_setB_same g, List.setIfInBounds_toArray]
/-- its length is within its capacity. -/
def Capd (v : Value) : Prop := ∃ a n c, v = .slice a n c ∧ n ≤ c
theorem Slc.capd (h : Slc enc sz w v xs F) : Capd v := by
  rcases h with ⟨rfl, _, _⟩ | ⟨b, cap, c, T, rfl, _, hc, _⟩
  · exact ⟨none, 0, 0, rfl, Nat.le_refl _⟩
  · exact ⟨_, _, _, rfl, hc⟩
end
theorem BND_rw {α : Type} {o o' : Option α} {k : α → Prop} (h : o = o') (hk : BND o' k) : BND o k := h ▸ hk
theorem COND_rw {v v' : Value} {t e : Prop} (h : v = v') (hk : COND v' t e) : COND v t e := h ▸ hk
theorem GEF_rw {c c' : Bool} {f : (Value → World → Prop) → Prop} {w : World} {k : Value → World → Prop} (h : c = c') (hk : GEF c' f w k) : GEF c f w k := h ▸ hk
theorem FLT_rw {S : World → Prop} {f f' : World → Option Value} {k : Value → Prop} (h : ∀ w, f w = f' w) (hk : FLT S f' k) : FLT S f k := by
  obtain rfl : f = f' := funext h
  exact hk
/-- what is plain is stepped on, as long as there is something. -/
structure Hid (Q : Prop) : Prop where
  h : Q
theorem gg {P Q : Prop} (h : Q) (k : Hid Q → P := by
    intro h_
    first | refine BND_step (by assumption) ?_ | refine BND_ld (by assumption) (by exact rfl) ?_ | refine stp ?_ | (apply BND_inc; omega) | (apply BND_dec; omega) | refine BND_step (rfl : some _ = some _) ?_ | (apply cyes; first | assumption | omega) | (apply cno; first | assumption | omega) | refine (COND_true _ _).2 ?_ | refine (COND_false _ _).2 ?_ | refine FLT_ld (fun _ h_ => h_) (by exact rfl) ?_ | refine (GEF_true _ _ _).2 ?_ | refine (GEF_false _ _ _).2 ?_ | refine BND_rw (by (simp (disch := first | assumption | omega | rfl) only [gs1, gs2, decide_true, decide_false, beq_self_eq_true, Bool.not_true, Bool.not_false]); try rfl) ?_ | refine COND_rw (by (simp (disch := first | assumption | omega | rfl) only [gs1, gs2, decide_true, decide_false, beq_self_eq_true, Bool.not_true, Bool.not_false]); try rfl) ?_ | refine GEF_rw (by (simp (disch := first | assumption | omega | rfl) only [gs1, gs2, decide_true, decide_false, beq_self_eq_true, Bool.not_true, Bool.not_false]); try rfl) ?_ | refine FLT_rw (fun _ => (by (simp (disch := first | assumption | omega | rfl) only [gs1, gs2, decide_true, decide_false, beq_self_eq_true, Bool.not_true, Bool.not_false]); try rfl)) ?_
    repeat (first | refine BND_step (by assumption) ?_ | refine BND_ld (by assumption) (by exact rfl) ?_ | refine stp ?_ | (apply BND_inc; omega) | (apply BND_dec; omega) | refine BND_step (rfl : some _ = some _) ?_ | (apply cyes; first | assumption | omega) | (apply cno; first | assumption | omega) | refine (COND_true _ _).2 ?_ | refine (COND_false _ _).2 ?_ | refine FLT_ld (fun _ h_ => h_) (by exact rfl) ?_ | refine (GEF_true _ _ _).2 ?_ | refine (GEF_false _ _ _).2 ?_ | refine BND_rw (by (simp (disch := first | assumption | omega | rfl) only [gs1, gs2, decide_true, decide_false, beq_self_eq_true, Bool.not_true, Bool.not_false]); try rfl) ?_ | refine COND_rw (by (simp (disch := first | assumption | omega | rfl) only [gs1, gs2, decide_true, decide_false, beq_self_eq_true, Bool.not_true, Bool.not_false]); try rfl) ?_ | refine GEF_rw (by (simp (disch := first | assumption | omega | rfl) only [gs1, gs2, decide_true, decide_false, beq_self_eq_true, Bool.not_true, Bool.not_false]); try rfl) ?_ | refine FLT_rw (fun _ => (by (simp (disch := first | assumption | omega | rfl) only [gs1, gs2, decide_true, decide_false, beq_self_eq_true, Bool.not_true, Bool.not_false]); try rfl)) ?_)
    exact h_.h) : P := k ⟨h⟩
end Go.Den
end

section
namespace Go.Den
/-- what is said of memory, and of which blocks. -/
structure HP where
  p : World → List Nat → Prop
  lt : ∀ {w F}, p w F → ∀ b ∈ F, b < hsz w
  st : ∀ {w w' F}, p w F → (∀ b ∈ F, blk w' b = blk w b) → p w' F
theorem HP.fr (P : HP) {w w' : World} {F G : List Nat} (h : P.p w F) (f : Fr G w w') (hd : ∀ b ∈ F, b ∉ G) : P.p w' F := P.st h fun b hb => f.keep b (P.lt h b hb) (hd b hb)
def pts (b : Nat) (cs : List Value) : HP where
  p w F := (∃ T, blk w b = some (.cells cs.toArray T (0, 0))) ∧ F = [b]
  lt := by rintro w F ⟨⟨T, h⟩, rfl⟩ c hc; simp at hc; subst hc; exact blk_lt h
  st := by rintro w w' F ⟨⟨T, h⟩, rfl⟩ hk; exact ⟨⟨T, by rw [hk b (by simp), h]⟩, rfl⟩
def slc {α : Type} (enc : α → List Value) (sz : Nat) (v : Value) (xs : List α) : HP where
  p w F := Slc enc sz w v xs F
  lt := fun h => h.lt
  st := fun h hk => h.congr hk
def pure_ (φ : Prop) : HP where
  p _ F := φ ∧ F = []
  lt := by rintro w F ⟨_, rfl⟩ b hb; simp at hb
  st := fun h _ => h
def ex {α : Type} (f : α → HP) : HP where
  p w F := ∃ a, (f a).p w F
  lt := by rintro w F ⟨a, h⟩; exact (f a).lt h
  st := by rintro w w' F ⟨a, h⟩ hk; exact ⟨a, (f a).st h hk⟩
def star (P Q : HP) : HP where
  p w F := ∃ A B, P.p w A ∧ Q.p w B ∧ F = A ++ B ∧ ∀ b ∈ A, b ∉ B
  lt := by
    rintro w F ⟨A, B, h1, h2, rfl, _⟩ b hb
    rcases List.mem_append.1 hb with hb | hb
    · exact P.lt h1 b hb
    · exact Q.lt h2 b hb
  st := by
    rintro w w' F ⟨A, B, h1, h2, rfl, hd⟩ hk
    exact ⟨A, B, P.st h1 fun b hb => hk b (by simp [hb]), Q.st h2 fun b hb => hk b (by simp [hb]), rfl, hd⟩
def emp : HP := pure_ True
def stars : List HP → HP
  | [] => emp
  | P :: ps => star P (stars ps)
theorem stars_upd : ∀ (ps : List HP) (i : Nat) (P : HP) {w : World} {F : List Nat}, ps[i]? = some P → (stars ps).p w F → ∃ A, P.p w A ∧ (∀ b ∈ A, b ∈ F) ∧
    ∀ w' A' P', P'.p w' A' → Fr A w w' → (∀ b ∈ A', b ∈ A ∨ hsz w ≤ b) → ∃ F', (stars (ps.set i P')).p w' F' ∧ ∀ b ∈ F', b ∈ F ∨ hsz w ≤ b
  | [], i, P, w, F, hi, _ => by simp at hi
  | Q :: ps, 0, P, w, F, hi, h => by
    simp at hi; subst hi
    obtain ⟨A, B, h1, h2, rfl, hd⟩ := h
    refine ⟨A, h1, fun b hb => by simp [hb], fun w' A' P' h' f sub => ⟨A' ++ B, ⟨A', B, h', (stars ps).fr h2 f fun b hb hb' => hd b hb' hb, rfl, fun b hb hb' => ?_⟩, fun b hb => ?_⟩⟩
    · rcases sub b hb with hx | hx
      · exact hd b hx hb'
      · have := (stars ps).lt h2 b hb'; omega
    · rcases List.mem_append.1 hb with hb | hb
      · rcases sub b hb with hx | hx
        · exact .inl (by simp [hx])
        · exact .inr hx
      · exact .inl (by simp [hb])
  | Q :: ps, i + 1, P, w, F, hi, h => by
    obtain ⟨A, B, h1, h2, rfl, hd⟩ := h
    obtain ⟨C, h3, h4, h5⟩ := stars_upd ps i P (by simpa using hi) h2
    refine ⟨C, h3, fun b hb => by simp [h4 b hb], fun w' A' P' h' f sub => ?_⟩
    obtain ⟨F', h6, h7⟩ := h5 w' A' P' h' f sub
    refine ⟨A ++ F', ⟨A, F', Q.fr h1 f (fun b hb hb' => hd b hb (h4 b hb')), h6, rfl, fun b hb hb' => ?_⟩, fun b hb => ?_⟩
    · rcases h7 b hb' with hx | hx
      · exact hd b hb hx
      · have := Q.lt h1 b hb; omega
    · rcases List.mem_append.1 hb with hb | hb
      · exact .inl (by simp [hb])
      · rcases h7 b hb with hx | hx
        · exact .inl (by simp [hx])
        · exact .inr hx
theorem stars_get : ∀ (ps : List HP) (i : Nat) (P : HP) {w : World} {F : List Nat}, ps[i]? = some P → (stars ps).p w F → ∃ A, P.p w A ∧ ∀ b ∈ A, b ∈ F := fun ps i P w F hi h => by
  obtain ⟨A, h1, h2, _⟩ := stars_upd ps i P hi h
  exact ⟨A, h1, h2⟩

/-- since w0 only blocks of F0 have changed, of those that were there; P is said of some of these and of new ones. -/
def At (w0 : World) (F0 : List Nat) (P : HP) (w : World) : Prop := ∃ F, P.p w F ∧ (∀ b ∈ F, b ∈ F0 ∨ hsz w0 ≤ b) ∧ Fr F0 w0 w
section
variable {w0 w w' : World} {F0 : List Nat} {P Q : HP} {ps : List HP}
theorem At.start (h : P.p w F0) : At w F0 P w := ⟨F0, h, fun _ hb => .inl hb, Fr.refl _ _⟩
theorem At.frame (h : At w0 F0 P w) : Fr F0 w0 w := by obtain ⟨F, _, _, h⟩ := h; exact h
theorem At.fr0 (h : At w0 F0 P w) (f : Fr [] w w') : At w0 F0 P w' := by
  obtain ⟨F, h1, h2, h3⟩ := h
  exact ⟨F, P.fr h1 f (by simp), h2, h3.trans' f.nil⟩
theorem At.upd (h : At w0 F0 (stars ps) w) (i : Nat) {P : HP} (hi : ps[i]? = some P) : ∃ A, P.p w A ∧ ∀ w' A' P', P'.p w' A' → Fr A w w' → (∀ b ∈ A', b ∈ A ∨ hsz w ≤ b) → At w0 F0 (stars (ps.set i P')) w' := by
  obtain ⟨F, h1, h2, h3⟩ := h
  obtain ⟨A, h4, h5, h6⟩ := stars_upd ps i P hi h1
  have gr := h3.grow
  refine ⟨A, h4, fun w' A' P' h' f sub => ?_⟩
  obtain ⟨F', h7, h8⟩ := h6 w' A' P' h' f sub
  refine ⟨F', h7, fun b hb => ?_, h3.trans f fun b hb => h2 b (h5 b hb)⟩
  rcases h8 b hb with hx | hx
  · exact h2 b hx
  · exact .inr (by omega)
theorem At.get (h : At w0 F0 (stars ps) w) (i : Nat) {P : HP} (hi : ps[i]? = some P) : ∃ A, P.p w A ∧ ∀ b ∈ A, b ∈ F0 ∨ hsz w0 ≤ b := by
  obtain ⟨F, h1, h2, h3⟩ := h
  obtain ⟨A, h4, h5⟩ := stars_get ps i P hi h1
  exact ⟨A, h4, fun b hb => h2 b (h5 b hb)⟩
theorem At.add (h : At w0 F0 (stars ps) w) (f : Fr [] w w') {P : HP} {A : List Nat} (hP : P.p w' A) (hA : ∀ b ∈ A, hsz w ≤ b) : At w0 F0 (stars (P :: ps)) w' := by
  obtain ⟨F, h1, h2, h3⟩ := h
  have gr := h3.grow
  refine ⟨A ++ F, ⟨A, F, hP, (stars ps).fr h1 f (by simp), rfl, fun b hb hb' => ?_⟩, fun b hb => ?_, h3.trans' f.nil⟩
  · have := (stars ps).lt h1 b hb'; have := hA b hb; omega
  · rcases List.mem_append.1 hb with hb | hb
    · have := hA b hb; exact .inr (by omega)
    · exact h2 b hb
theorem At.nothing (w : World) : At w [] (stars []) w := ⟨[], ⟨trivial, rfl⟩, by simp, Fr.refl _ _⟩
theorem At.add0 (h : At w0 F0 (stars ps) w) {P : HP} (hP : P.p w []) : At w0 F0 (stars (P :: ps)) w := by
  obtain ⟨F, h1, h2, h3⟩ := h
  exact ⟨F, ⟨[], F, hP, h1, rfl, by simp⟩, h2, h3⟩
theorem At.cell {i b : Nat} {cs : List Value} (h : At w0 F0 (stars ps) w) (hi : ps[i]? = some (pts b cs)) : ∃ T, blk w b = some (.cells cs.toArray T (0, 0)) := by
  obtain ⟨A, ⟨h1, _⟩, _⟩ := h.get i hi
  exact h1
/-- a field of a block is given a value. -/
theorem At.store {i b j : Nat} {cs : List Value} {u : Value} {K : World → Prop} (h : At w0 F0 (stars ps) w) (hi : ps[i]? = some (pts b cs)) (hu : u.cells = #[u] ∧ u.oneCell' = true) (hj : j < cs.length)
    (hK : ∀ w', At w0 F0 (stars (ps.set i (pts b (cs.set j u)))) w' → Fr [b] w w' → K w') : BND (storev 1 w (.pointer (some ⟨b, j, none⟩)) u) K := by
  obtain ⟨A, ⟨⟨T, h1⟩, rfl⟩, upd⟩ := h.upd i hi
  exact fstore_step h1 hu hj fun w' b' f' _ => hK w' (upd w' [b] (pts b (cs.set j u)) ⟨⟨T, b'⟩, rfl⟩ f' (fun _ hb => .inl hb)) f'
/-- a whole block is given values. -/
theorem At.put {i b n : Nat} {cs vs : List Value} {K : World → Prop} (h : At w0 F0 (stars ps) w) (hi : ps[i]? = some (pts b cs)) (hz : cs.length = n) (hv : vs.length = n) (h1 : ∀ u ∈ vs, u.oneCell' = true) (hn : vs ≠ [])
    (hK : ∀ w', At w0 F0 (stars (ps.set i (pts b vs))) w' → Fr [b] w w' → K w') : BND (storev n w (.pointer (some ⟨b, 0, none⟩)) (.agg vs.toArray)) K := by
  obtain ⟨A, ⟨⟨T, h2⟩, rfl⟩, upd⟩ := h.upd i hi
  exact put_step h2 (by simpa using hz) hv h1 hn fun w' b' f' _ => hK w' (upd w' [b] (pts b vs) ⟨⟨T, b'⟩, rfl⟩ f' (fun _ hb => .inl hb)) f'
/-- things are put behind a slice. -/
theorem At.append2 {α : Type} {enc : α → List Value} {sz i E bytes : Nat} {zero v u : Value} {xs ys : List α} {K : Value → World → Prop} (h : At w0 F0 (stars ps) w) (hi : ps[i]? = some (slc enc sz v xs)) (hu : cellsOfArg w sz u = some (flat enc ys, ys.length))
    (hl : ∀ x, (enc x).length = sz) (hl1 : ∀ x, ∀ u ∈ enc x, u.oneCell' = true) (hz : zero.cells.size = sz) (hb : (xs.length + ys.length) * bytes ≤ 140737488355328) (hmax : xs.length + ys.length ≤ 9223372036854775807)
    (hK : ∀ v' w', At w0 F0 (stars (ps.set i (slc enc sz v' (xs ++ ys)))) w' → v'.cells = #[v'] ∧ v'.oneCell' = true → K v' w') : APPEND E sz bytes zero v u w K := by
  obtain ⟨A, hA, upd⟩ := h.upd i hi
  have hA' : Slc enc sz w v xs A := hA
  exact APPEND_slc hA' hu hl hl1 hz hb hmax fun v' w' F' s' f' sub => hK v' w' (upd w' F' (slc enc sz v' (xs ++ ys)) s' f' sub) s'.one
theorem At.append {α : Type} {enc : α → List Value} {sz i E bytes : Nat} {zero v u : Value} {xs ys : List α} {K : Value → World → Prop} (h : At w0 F0 (stars ps) w) (hi : ps[i]? = some (slc enc sz v xs)) (hu : cellsOfArg w sz u = some (flat enc ys, ys.length))
    (hl : ∀ x, (enc x).length = sz) (hl1 : ∀ x, ∀ u ∈ enc x, u.oneCell' = true) (hz : zero.cells.size = sz) (hb : bytes ≤ 1000) (hmax : xs.length + ys.length < 100000000000)
    (hK : ∀ v' w', At w0 F0 (stars (ps.set i (slc enc sz v' (xs ++ ys)))) w' → v'.cells = #[v'] ∧ v'.oneCell' = true → K v' w') : APPEND E sz bytes zero v u w K :=
  h.append2 hi hu hl hl1 hz (Nat.le_trans (Nat.mul_le_mul_left _ hb) (by omega)) (by omega) hK
theorem At.slc1 {α : Type} {enc : α → List Value} {sz : Nat} {v : Value} {xs : List α} (h : At w0 F0 (stars ps) w) {i : Nat} (hi : ps[i]? = some (slc enc sz v xs)) : ∃ F, Slc enc sz w v xs F ∧ ∀ b ∈ F, b ∈ F0 ∨ hsz w0 ≤ b := h.get i hi
theorem At.arr {α : Type} {enc : α → List Value} {sz : Nat} {v : Value} {xs : List α} (h : At w0 F0 (stars ps) w) {i : Nat} (hi : ps[i]? = some (slc enc sz v xs)) : Arr enc sz w v xs := by
  obtain ⟨F, h1, _⟩ := h.slc1 hi
  exact h1.arr
theorem At.swap {P Q : HP} (h : At w0 F0 (stars (P :: Q :: ps)) w) : At w0 F0 (stars (Q :: P :: ps)) w := by
  obtain ⟨F, ⟨A, B, p1, ⟨C, D, p2, p3, rfl, p4⟩, rfl, p5⟩, p6, p7⟩ := h
  refine ⟨C ++ (A ++ D), ⟨C, A ++ D, p2, ⟨A, D, p1, p3, rfl, fun b hb hd => p5 b hb (by simp [hd])⟩, rfl, fun b hb hd => ?_⟩, fun b hb => p6 b ?_, p7⟩
  · rcases List.mem_append.1 hd with hd | hd
    · exact p5 b hd (by simp [hb])
    · exact p4 b hb hd
  · simp only [List.mem_append] at hb ⊢
    rcases hb with h | h | h
    · exact .inr (.inl h)
    · exact .inl h
    · exact .inr (.inr h)
theorem At.base {w1 : World} (f : Fr [] w0 w1) (h : At w1 [] P w) : At w0 [] P w := by
  obtain ⟨F, h1, h2, h3⟩ := h
  have := f.grow
  exact ⟨F, h1, fun b hb => .inr (by have := (h2 b hb).resolve_left (by simp); omega), f.trans' h3⟩
theorem At.tail (h : At w0 F0 (stars (P :: ps)) w) : At w0 F0 (stars ps) w := by
  obtain ⟨F, ⟨A, B, h1, h2, rfl, _⟩, h3, h4⟩ := h
  exact ⟨B, h2, fun b hb => h3 b (by simp [hb]), h4⟩
end
/-! ## Structs compared -/
theorem eqCells_int {o : Nat} {k : IntKind} {r : List (Nat × TypeDesc)} {xs ys : List Value} {a b : Int} (hx : xs[o]? = some (.int k a)) (hy : ys[o]? = some (.int k b)) : eqCells ((o, .int k) :: r) xs.toArray ys.toArray = if a = b then eqCells r xs.toArray ys.toArray else some false := by
  rw [eqCells]
  simp only [List.getElem?_toArray, hx, hy, eqCell, if_true, beq_dec]
  by_cases h : a = b <;> simp [h]
theorem eqCells_bool {o : Nat} {r : List (Nat × TypeDesc)} {xs ys : List Value} {a b : Bool} (hx : xs[o]? = some (.bool a)) (hy : ys[o]? = some (.bool b)) : eqCells ((o, .bool) :: r) xs.toArray ys.toArray = if a = b then eqCells r xs.toArray ys.toArray else some false := by
  rw [eqCells]
  simp only [List.getElem?_toArray, hx, hy, eqCell]
  cases a <;> cases b <;> rfl
theorem eqCells_str {o : Nat} {r : List (Nat × TypeDesc)} {xs ys : List Value} {a b : ByteArray} (hx : xs[o]? = some (.string a)) (hy : ys[o]? = some (.string b)) : eqCells ((o, .string) :: r) xs.toArray ys.toArray = if a = b then eqCells r xs.toArray ys.toArray else some false := by
  have hs : (a.toList == b.toList) = decide (a = b) := by
    have h := steq a b
    simpa [binv, bins] using h
  rw [eqCells]
  simp only [List.getElem?_toArray, hx, hy, eqCell, hs]
  by_cases h : a = b <;> simp [h]
theorem eqCells_nil {xs ys : List Value} : eqCells [] xs.toArray ys.toArray = some (decide True) := by simp [eqCells]
theorem ite_and_d {p q : Prop} [Decidable p] [Decidable q] : (if p then some (decide q) else some false) = some (decide (p ∧ q)) := by
  by_cases h : p <;> simp [h]
theorem eqagg_ne {ks : List (Nat × TypeDesc)} {xs ys : List Value} {b : Bool} (h : eqCells ks xs.toArray ys.toArray = some b) : eqaggv ks .neq (.agg xs.toArray) (.agg ys.toArray) = some (.bool !b) := by
  simp [eqaggv, h, binn]
theorem eqagg_eq {ks : List (Nat × TypeDesc)} {xs ys : List Value} {b : Bool} (h : eqCells ks xs.toArray ys.toArray = some b) : eqaggv ks .eql (.agg xs.toArray) (.agg ys.toArray) = some (.bool b) := by
  simp [eqaggv, h, binn]
end Go.Den
end

section
set_option linter.unusedSimpArgs false
set_option linter.unusedVariables false
namespace Go.Proofs.YtmefbneoljpbgaaGreatDoor
open Go.Den
def itHP (r m ck : Nat) (sn : Array Nat) : HP where
  p w F := blk w r = some (.mapIter (some m) ck sn ck) ∧ F = [r]
  lt := by rintro w F ⟨h, rfl⟩ c hc; simp at hc; subst hc; exact blk_lt h
  st := by rintro w w' F ⟨h, rfl⟩ hk; exact ⟨by rw [hk r (by simp), h], rfl⟩
/-- what was seen, what was not. -/
structure ItAt (es : Array MapEntry) (sn : Array Nat) (A B : List MapEntry) : Prop where
  all : (A ++ B).Perm es.toList
  seen : sn.toList = A.map (·.born)
theorem ItAt.start (es : Array MapEntry) : ItAt es #[] [] es.toList := ⟨by simp, by simp⟩
theorem find_born : ∀ {l : List MapEntry} {e : MapEntry}, (l.map (·.born)).Nodup → e ∈ l → l.find? (fun x => x.born == e.born) = some e
  | [], e, _, h => by simp at h
  | x :: l, e, hn, h => by
    simp only [List.map_cons, List.nodup_cons] at hn
    rcases List.mem_cons.1 h with rfl | h
    · simp
    · have hne : x.born ≠ e.born := fun he => hn.1 (by rw [he]; exact List.mem_map.2 ⟨e, h, rfl⟩)
      rw [List.find?_cons_of_neg (by simpa using hne)]
      exact find_born hn.2 h
section
variable {es : Array MapEntry} {sn : Array Nat} {A B : List MapEntry} {w : World} {r m ck : Nat}
theorem ItAt.nd (h : ItAt es sn A B) (hn : (es.toList.map (·.born)).Nodup) : ((A ++ B).map (·.born)).Nodup := (h.all.map _).nodup_iff.2 hn
theorem RANGEM_step {k : Value → World → Prop} (b1 : blk w m = some (.map es ck)) (h : ∀ w', blk w' (hsz w) = some (.mapIter (some m) ck #[] ck) → Fr [] w w' → hsz w' = hsz w + 1 → k (.pointer (some ⟨hsz w, 0, none⟩)) w') :
    BND (rangemv w (.map (some m))) fun p => NEW p k := by
  have b1' : w.heap[m]? = some (.map es ck) := b1
  refine BND_step (v := (.pointer (some ⟨w.heap.size, 0, none⟩), w.alloc (.mapIter (some m) ck #[] ck))) (by simp [rangemv, b1']) <| (NEW_pair _ _ _).2 ?_
  exact h _ (blk_alloc_new _ _) (Fr.alloc _ _ _) (by simp)
theorem NEXTM_step {k : Value → World → Prop} (b1 : blk w m = some (.map es ck)) (hlt : ∀ x ∈ es.toList, x.born < ck) (hnd : (es.toList.map (·.born)).Nodup) (b2 : blk w r = some (.mapIter (some m) ck sn ck)) (hi : ItAt es sn A B)
    (h0 : B = [] → k (.tuple #[.bool false]) w)
    (h1 : ∀ e B1 B2 w', B = B1 ++ e :: B2 → Fr [r] w w' → (itHP r m ck (sn.push e.born)).p w' [r] → ItAt es (sn.push e.born) (A ++ [e]) (B1 ++ B2) → entryv w' (.pointer (some ⟨r, 0, none⟩)) = some (.tuple #[e.key, e.val]) → k (.tuple #[.bool true, e.key, e.val]) w') :
    NEXTM (.pointer (some ⟨r, 0, none⟩)) w k := by
  refine ⟨?_⟩
  have b1' : w.heap[m]? = some (.map es ck) := b1
  have b2' : w.heap[r]? = some (.mapIter (some m) ck sn ck) := b2
  have hn := hi.nd hnd
  unfold NEXTMS
  simp only [b2', b1']
  refine ⟨hlt, Nat.le_refl _, fun hall => h0 ?_, fun e he hse w1 hh ho => ?_⟩
  · cases hB : B with
    | nil => rfl
    | cons x B' =>
      exfalso
      have hx : x ∈ es.toList := hi.all.mem_iff.1 (by rw [hB]; simp)
      have := hall x hx
      have hc : x.born ∈ A.map (·.born) := by
        rw [← hi.seen]
        simpa using this
      rw [List.map_append, List.nodup_append] at hn
      exact hn.2.2 _ hc _ (List.mem_map.2 ⟨x, by rw [hB]; simp, rfl⟩) rfl
  · have heA : e ∉ A := fun hA => by
      have hc : e.born ∈ sn.toList := by rw [hi.seen]; exact List.mem_map.2 ⟨e, hA, rfl⟩
      have : sn.contains e.born = true := by simpa using hc
      rw [this] at hse; cases hse
    have heB : e ∈ B := by
      rcases List.mem_append.1 (hi.all.mem_iff.2 he) with h | h
      · exact absurd h heA
      · exact h
    obtain ⟨B1, B2, hB⟩ := List.append_of_mem heB
    have hrm : r ≠ m := fun e => by subst e; rw [b1'] at b2'; cases b2'
    have hrlt : r < w.heap.size := blk_lt b2
    have k1 : blk ({ w1 with heap := w1.heap.setIfInBounds r (.mapIter (some m) ck (sn.push e.born) ck) } : World) r = some (.mapIter (some m) ck (sn.push e.born) ck) := by
      show (w1.heap.setIfInBounds r _)[r]? = _
      rw [hh, Array.getElem?_setIfInBounds_self, if_pos hrlt]
    have k2 : blk ({ w1 with heap := w1.heap.setIfInBounds r (.mapIter (some m) ck (sn.push e.born) ck) } : World) m = some (.map es ck) := by
      show (w1.heap.setIfInBounds r _)[m]? = _
      rw [hh, Array.getElem?_setIfInBounds_ne hrm]; exact b1'
    refine h1 e B1 B2 _ hB ⟨?_, fun b hb hb' => ?_, ho.1, ho.2.1, ho.2.2⟩ ⟨k1, rfl⟩ ⟨?_, ?_⟩ ?_
    · show w.heap.size ≤ (w1.heap.setIfInBounds r _).size
      rw [Array.size_setIfInBounds, hh]; exact Nat.le_refl _
    · show (w1.heap.setIfInBounds r _)[b]? = w.heap[b]?
      rw [hh, Array.getElem?_setIfInBounds_ne (fun e => hb' (by simp [e]))]
    · refine List.Perm.trans ?_ hi.all
      rw [hB, List.append_assoc]
      refine List.Perm.append_left A ?_
      rw [List.singleton_append]
      exact List.perm_middle.symm
    · simp [hi.seen]
    · have k1' : ({ w1 with heap := w1.heap.setIfInBounds r (.mapIter (some m) ck (sn.push e.born) ck) } : World).heap[r]? = _ := k1
      have k2' : ({ w1 with heap := w1.heap.setIfInBounds r (.mapIter (some m) ck (sn.push e.born) ck) } : World).heap[m]? = _ := k2
      have hf : es.find? (fun x => x.born == e.born) = some e := by rw [← Array.find?_toList]; exact find_born hnd he
      unfold entryv
      simp only [k1', k2', Array.back?_push, hf, if_true, Option.map_some]
end
/-- pointers of blocks of cells, compared. -/
def ptrB (b : Nat) : Value := .pointer (some ⟨b, 0, none⟩)
theorem ptrv_blk {w : World} {a b : Nat} {c c' : Array Value} {T T' : Nat} (ha : blk w a = some (.cells c T (0, 0))) (hb : blk w b = some (.cells c' T' (0, 0))) :
    ptrv w .eql (.pointer (some ⟨a, 0, none⟩)) (.pointer (some ⟨b, 0, none⟩)) = some (.bool (decide (a = b))) := by
  have ha' : w.heap[a]? = some (.cells c T (0, 0)) := ha
  have hb' : w.heap[b]? = some (.cells c' T' (0, 0)) := hb
  by_cases h : a = b
  · subst h; simp [ptrv, binn]
  · simp [ptrv, binn, cellsAt, ha', hb', h]
instance {x : Value} : Ev (extractv (.tuple #[x]) 0) x := ⟨rfl⟩
theorem loop_up3 {B : (Value → Value → Value → World → Prop) → (Value → Value → Value → World → Nat) → Value → Value → Value → World → Prop} {w : World} {o p : Value} (s n : Nat) (I : Value → Value → Nat → World → Prop) (h0 : I o p s w) (hs : s ≤ n)
    (h : ∀ o p i w1, s ≤ i → i ≤ n → I o p i w1 → ∀ J m, (∀ o' p' w', i < n → I o' p' (i + 1) w' → J o' p' (.int .i64 ((i + 1 : Nat) : Int)) w' ∧ m o' p' (.int .i64 ((i + 1 : Nat) : Int)) w' < m o p (.int .i64 (i : Int)) w1) → B J m o p (.int .i64 (i : Int)) w1) :
    ∃ (J : Value → Value → Value → World → Prop) (m : Value → Value → Value → World → Nat), J o p (.int .i64 (s : Int)) w ∧ ∀ (_d : Env) (o p t : Value) (w1 : World), J o p t w1 → B J m o p t w1 := by
  refine ⟨fun o p t w' => ∃ i : Nat, t = .int .i64 i ∧ s ≤ i ∧ i ≤ n ∧ I o p i w', fun _ _ t _ => match t with | .int _ k => n - k.toNat | _ => 0, ⟨s, rfl, Nat.le_refl _, hs, h0⟩, ?_⟩
  rintro _ o p _ w1 ⟨i, rfl, h1, h2, h3⟩
  exact h o p i w1 h1 h2 h3 _ _ fun o' p' w' h4 h5 => ⟨⟨i + 1, rfl, by omega, by omega, h5⟩, by simp; omega⟩
def seenN (r : Nat) (w : World) : Nat := match blk w r with
  | some (.mapIter _ _ sn _) => sn.size
  | _ => 0
theorem seenN_it {r m ck : Nat} {sn : Array Nat} {w : World} (h : blk w r = some (.mapIter (some m) ck sn ck)) : seenN r w = sn.size := by unfold seenN; rw [h]
/-- a loop over a map, of two variables. -/
theorem loop_it2 {B : (Value → Value → World → Prop) → (Value → Value → World → Nat) → Value → Value → World → Prop} {w : World} {o p : Value} (r n : Nat) (I : Value → Value → World → Prop) (h0 : I o p w)
    (h : ∀ o p w1, I o p w1 → ∀ J m, (∀ o' p' w', seenN r w1 < n → seenN r w' = seenN r w1 + 1 → I o' p' w' → J o' p' w' ∧ m o' p' w' < m o p w1) → B J m o p w1) :
    ∃ (J : Value → Value → World → Prop) (m : Value → Value → World → Nat), J o p w ∧ ∀ (_d : Env) (o p : Value) (w1 : World), J o p w1 → B J m o p w1 := by
  refine ⟨I, fun _ _ w' => n - seenN r w', h0, ?_⟩
  intro _ o p w1 h3
  exact h o p w1 h3 _ _ fun o' p' w' h4 h5 h6 => ⟨h6, by show n - seenN r w' < n - seenN r w1; omega⟩
end Go.Proofs.YtmefbneoljpbgaaGreatDoor
end

section
namespace Go.Den
section
variable {w0 w w' w1 w2 : World} {A B : List Nat} {P Q P' Q' : HP}
theorem At.two (h : At w0 [] (stars [P, Q]) w) (f : Fr [] w w') : ∃ A B, At w' A P w' ∧ At w' B Q w' ∧ (∀ b ∈ A, b < hsz w) ∧ (∀ b ∈ B, b < hsz w) ∧ (∀ b ∈ A, b ∉ B) ∧ Fr [] w0 w' ∧ (∀ b ∈ A, b ∈ ([] : List Nat) ∨ hsz w0 ≤ b) ∧ (∀ b ∈ B, b ∈ ([] : List Nat) ∨ hsz w0 ≤ b) := by
  obtain ⟨F, ⟨A, C, p1, ⟨B, D, p2, _, rfl, p3⟩, rfl, p4⟩, p5, p6⟩ := h
  refine ⟨A, B, At.start (P.fr p1 f (by simp)), At.start (Q.fr p2 f (by simp)), P.lt p1, Q.lt p2, fun b h1 h2 => p4 b h1 (by simp [h2]), p6.trans' f, fun b hb => p5 b (by simp [hb]), fun b hb => p5 b (by simp [hb])⟩
/-- the second one has changed: the first one stands. -/
theorem At.first (hA : At w A P w) (hB : At w B Q' w1) (hd : ∀ b ∈ A, b ∉ B) : At w1 A P w1 := by
  obtain ⟨F, h1, h2, _⟩ := hA
  have hF : ∀ b ∈ F, b ∈ A := fun b hb => by
    rcases h2 b hb with h | h
    · exact h
    · have := P.lt h1 b hb; omega
  exact ⟨F, P.fr h1 hB.frame fun b hb => hd b (hF b hb), fun b hb => .inl (hF b hb), Fr.refl _ _⟩
theorem At.join2 (hB : At w B Q' w1) (hA : At w1 A P' w2) (hd : ∀ b ∈ A, b ∉ B) (hA1 : ∀ b ∈ A, b < hsz w) (f : Fr [] w0 w) (hA2 : ∀ b ∈ A, b ∈ ([] : List Nat) ∨ hsz w0 ≤ b) (hB2 : ∀ b ∈ B, b ∈ ([] : List Nat) ∨ hsz w0 ≤ b) : At w0 [] (stars [P', Q']) w2 := by
  obtain ⟨F1, p1, p2, p3⟩ := hB
  obtain ⟨F2, q1, q2, q3⟩ := hA
  have g1 := f.grow
  have g2 := p3.grow
  have dis : ∀ b ∈ F1, b ∉ A := fun b hb hb' => by
    rcases p2 b hb with h | h
    · exact hd b hb' h
    · have := hA1 b hb'; omega
  refine ⟨F2 ++ F1, ⟨F2, F1 ++ [], q1, ⟨F1, [], Q'.fr p1 q3 dis, ⟨trivial, rfl⟩, rfl, by simp⟩, by simp, fun b hb hb' => ?_⟩, fun b hb => ?_, (f.trans p3 hB2).trans q3 hA2⟩
  · simp only [List.append_nil] at hb'
    rcases q2 b hb with h | h
    · exact dis b hb' h
    · have := Q'.lt p1 b hb'; omega
  · rcases List.mem_append.1 hb with hb | hb
    · rcases q2 b hb with h | h
      · exact hA2 b h
      · right; omega
    · rcases p2 b hb with h | h
      · exact hB2 b h
      · right; omega
end
/-- the beginning of a slice of one's own. -/
theorem Slc.pre {α : Type} {enc : α → List Value} {sz n : Nat} {w : World} {v : Value} {xs : List α} {F : List Nat} (s : Slc enc sz w v xs F) (hn : n ≤ xs.length) :
    ∃ v', slicev sz v none (some (.int .i64 (n : Int))) = some v' ∧ Arr enc sz w v' (xs.take n) := by
  have ha := s.arr
  obtain ⟨a, cap, hv, hc⟩ : ∃ a cap, v = .slice a xs.length cap ∧ xs.length ≤ cap := by
    rcases s with ⟨rfl, rfl, _⟩ | ⟨b, cap, c, T, rfl, _, hc, _⟩
    · exact ⟨_, _, rfl, Nat.le_refl _⟩
    · exact ⟨_, _, rfl, hc⟩
  obtain ⟨a', cap', hv', h⟩ := ha
  rw [hv] at hv'
  cases hv'
  subst hv
  have e : (if cap = 0 then a else a.map (·.add (0 * sz))) = a := by
    by_cases h0 : cap = 0
    · rw [if_pos h0]
    · rw [if_neg h0]
      cases a with
      | none => rfl
      | some a => obtain ⟨b, o, p⟩ := a; cases p <;> simp [Addr.add]
  refine ⟨.slice a n cap, ?_, a, cap, by rw [List.length_take]; congr 1; omega, ?_⟩
  · unfold slicev
    simp only [natOf]
    simp [show n ≤ cap by omega]
    simpa using e
  · rcases h with h | ⟨b, o, c, T, fz, h1, h2, h3⟩
    · left; rw [h]; simp
    · right
      refine ⟨b, o, c, T, fz, h1, h2, fun i x hx => ?_⟩
      have hi : i < n := by
        have := (List.getElem?_eq_some_iff.1 hx).1
        rw [List.length_take] at this; omega
      rw [List.getElem?_take_of_lt hi] at hx
      exact h3 i x hx
/-- a slice's header. -/
structure SV where
  a : Option Addr
  n : Nat
  c : Nat
def SV.v (x : SV) : Value := .slice x.a x.n x.c
def encV (x : SV) : List Value := [x.v]
theorem encV_len (x : SV) : (encV x).length = 1 := rfl
theorem encV_one (x : SV) : ∀ u ∈ encV x, u.oneCell' = true := by intro u hu; simp [encV] at hu; subst hu; rfl
theorem slc_sv {α : Type} {enc : α → List Value} {sz : Nat} {w : World} {v : Value} {xs : List α} {F : List Nat} (s : Slc enc sz w v xs F) : ∃ x : SV, v = x.v := by
  rcases s with ⟨rfl, _⟩ | ⟨b, cap, c, T, rfl, _⟩
  · exact ⟨⟨none, 0, 0⟩, rfl⟩
  · exact ⟨⟨_, _, _⟩, rfl⟩
section
variable {α : Type} {enc : α → List Value} {sz : Nat} {w w' : World} {v u : Value} {xs ys : List α} {F G : List Nat} {k : Value → World → Prop}
/-- a new slice of what another one has. -/
theorem copy_step {E E' bytes : Nat} {zero : Array Value} {zero' : Value} (hu : ∀ w1, Fr [] w w1 → cellsOfArg w1 sz u = some (flat enc ys, ys.length)) (hl : ∀ x, (enc x).length = sz) (hl1 : ∀ x, ∀ u ∈ enc x, u.oneCell' = true) (hz : zero'.cells.size = sz) (hb : bytes ≤ 1000)
    (hmax : ys.length < 100000000000) (K : ∀ v' w' G, Slc enc sz w' v' ys G → (∀ b ∈ G, hsz w ≤ b) → Fr [] w w' → k v' w') : BND (newslice E zero sz 0 [] w) fun p_ => NEW p_ fun t w1 => APPEND E' sz bytes zero' t u w1 k := by
  refine newnil_step enc fun t w1 s1 f1 z1 => ?_
  refine APPEND_slc s1 (hu w1 f1) hl hl1 hz (by simp only [List.length_nil, Nat.zero_add]; exact Nat.le_trans (Nat.mul_le_mul_left _ hb) (by omega)) (by simp; omega) fun v' w' F' s' f' sub => ?_
  refine K v' w' F' (by simpa using s') (fun b hb => ?_) (f1.trans f' fun b hb => .inr (by simp at hb; omega))
  rcases sub b hb with h | h
  · simp at h; omega
  · omega
/-- one more behind a slice. -/
theorem push_step {E E' bytes : Nat} {zero : Array Value} {zero' y : Value} {x : α} (s : Slc enc sz w v xs G) (hl : ∀ x, (enc x).length = sz) (hl1 : ∀ x, ∀ u ∈ enc x, u.oneCell' = true) (hy : y.cells = (enc x).toArray) (hz : zero'.cells.size = sz) (hb : bytes ≤ 1000)
    (hmax : xs.length < 10000000000) (K : ∀ v' w' G', Slc enc sz w' v' (xs ++ [x]) G' → (∀ b ∈ G', b ∈ G ∨ hsz w ≤ b) → Fr G w w' → k v' w') : BND (newslice E zero sz 1 [(0, sz, y)] w) fun p_ => NEW p_ fun t w1 => APPEND E' sz bytes zero' v t w1 k := by
  refine newone_step hl hy fun t w1 s1 f1 z1 => ?_
  refine APPEND_slc (s.fr f1 (by simp)) (s1.loads hl) hl hl1 hz (Nat.le_trans (Nat.mul_le_mul_left _ hb) (by simp; omega)) (by simp; omega) fun v' w' F' s' f' sub => ?_
  refine K v' w' F' s' (fun b hb => ?_) (f1.nil.trans' f')
  rcases sub b hb with h | h
  · exact .inl h
  · exact .inr (by omega)
end
end Go.Den
end
