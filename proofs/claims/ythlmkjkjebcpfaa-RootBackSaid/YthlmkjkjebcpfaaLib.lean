/- Worlds as blocks; what the words of 'den' come to on them; slices, maps, frames. No condition. -/
import Derived.Test.YthlmkjkjebcpfaaDenCode
import Derived.Laws.Append
namespace Go.Den

theorem snoc_ind {α : Type} {P : List α → Prop} (h0 : P []) (h1 : ∀ xs a, P xs → P (xs ++ [a])) (xs : List α) : P xs := by
  have key : ∀ n (xs : List α), xs.length = n → P xs := by
    intro n
    induction n with
    | zero => intro xs h; rw [List.length_eq_zero_iff.1 h]; exact h0
    | succ n ih =>
      intro xs h
      have hne : xs ≠ [] := by intro e; subst e; simp at h
      rw [← List.dropLast_concat_getLast hne]
      exact h1 _ _ (ih _ (by simp [h]))
  exact key _ xs rfl

/-! ## Blocks -/
def blk (w : World) (b : Nat) : Option Obj := w.heap[b]?
def hsz (w : World) : Nat := w.heap.size
def setB (w : World) (b : Nat) (o : Obj) : World := { w with heap := w.heap.setIfInBounds b o }

theorem blk_lt {w : World} {b : Nat} {o : Obj} (h : blk w b = some o) : b < hsz w := (Array.getElem?_eq_some_iff.1 h).1
theorem blk_none {w : World} {b : Nat} (h : hsz w ≤ b) : blk w b = none := Array.getElem?_eq_none h
@[simp] theorem blk_drew (w : World) (b : Nat) : blk w.drew b = blk w b := rfl
@[simp] theorem hsz_drew (w : World) : hsz w.drew = hsz w := rfl
@[simp] theorem hsz_alloc (w : World) (o : Obj) : hsz (w.alloc o) = hsz w + 1 := by simp [hsz]
@[simp] theorem hsz_setB (w : World) (b : Nat) (o : Obj) : hsz (setB w b o) = hsz w := by simp [hsz, setB]
@[simp] theorem heap_size (w : World) : w.heap.size = hsz w := rfl
theorem blk_alloc (w : World) (o : Obj) (b : Nat) : blk (w.alloc o) b = if b = hsz w then some o else blk w b := by
  simp only [blk, World.alloc, Array.getElem?_push]
  rfl
@[simp] theorem blk_alloc_new (w : World) (o : Obj) : blk (w.alloc o) (hsz w) = some o := by simp [blk_alloc]
theorem blk_alloc_old {w : World} {o : Obj} {b : Nat} (h : b ≠ hsz w) : blk (w.alloc o) b = blk w b := by simp [blk_alloc, h]
theorem blk_alloc_some {w : World} {o x : Obj} {b : Nat} (h : blk w b = some x) : blk (w.alloc o) b = some x := by
  rw [blk_alloc_old (Nat.ne_of_lt (blk_lt h)), h]
theorem blk_setB (w : World) (b b' : Nat) (o : Obj) : blk (setB w b o) b' = if b = b' then (blk w b).map fun _ => o else blk w b' := by
  simp only [blk, setB, Array.getElem?_setIfInBounds]
  split
  · rename_i h
    subst h
    cases hb : w.heap[b]? with
    | none => simp at hb; simp [Nat.not_lt.2 hb]
    | some x => have : b < hsz w := (Array.getElem?_eq_some_iff.1 hb).1; simp [this]
  · rfl
theorem blk_setB_same {w : World} {b : Nat} {o x : Obj} (h : blk w b = some x) : blk (setB w b o) b = some o := by simp [blk_setB, h]
theorem blk_setB_other {w : World} {b b' : Nat} {o : Obj} (h : b ≠ b') : blk (setB w b o) b' = blk w b' := by simp [blk_setB, h]

theorem heap_ext {w w' : World} (h : w'.heap = w.heap) (b : Nat) : blk w' b = blk w b := by simp [blk, h]

/-- what a walk may change of the memory that was there: the blocks F. -/
structure Fr (F : List Nat) (w w' : World) : Prop where
  grow : hsz w ≤ hsz w'
  keep : ∀ b, b < hsz w → b ∉ F → blk w' b = blk w b
  rest : w'.os = w.os ∧ w'.tape = w.tape ∧ w'.output = w.output
theorem Fr.refl (F : List Nat) (w : World) : Fr F w w := ⟨Nat.le_refl _, fun _ _ _ => rfl, rfl, rfl, rfl⟩
theorem Fr.drew (F : List Nat) (w : World) : Fr F w w.drew := ⟨Nat.le_refl _, fun _ _ _ => rfl, rfl, rfl, rfl⟩
theorem Fr.alloc (F : List Nat) (w : World) (o : Obj) : Fr F w (w.alloc o) := ⟨by simp, fun b hb _ => blk_alloc_old (Nat.ne_of_lt hb), rfl, rfl, rfl⟩
theorem Fr.setB {F : List Nat} {w : World} {b : Nat} (h : b ∈ F ∨ hsz w ≤ b) (o : Obj) : Fr F w (setB w b o) :=
  ⟨by simp, fun c hc hn => blk_setB_other fun e => by subst e; rcases h with h | h; exact hn h; omega, rfl, rfl, rfl⟩
theorem Fr.trans {F G : List Nat} {w w1 w2 : World} (h : Fr F w w1) (h' : Fr G w1 w2) (hs : ∀ b ∈ G, b ∈ F ∨ hsz w ≤ b) : Fr F w w2 :=
  ⟨Nat.le_trans h.grow h'.grow, fun b hb hn => by
    rw [h'.keep b (Nat.lt_of_lt_of_le hb h.grow) (fun hg => (hs b hg).elim hn (fun h => by omega)), h.keep b hb hn],
    h'.rest.1.trans h.rest.1, h'.rest.2.1.trans h.rest.2.1, h'.rest.2.2.trans h.rest.2.2⟩
theorem Fr.trans' {F : List Nat} {w w1 w2 : World} (h : Fr F w w1) (h' : Fr F w1 w2) : Fr F w w2 := h.trans h' fun _ hb => .inl hb
theorem Fr.wider {F G : List Nat} {w w' : World} (h : Fr F w w') (hs : ∀ b ∈ F, b ∈ G) : Fr G w w' :=
  ⟨h.grow, fun b hb hn => h.keep b hb fun hf => hn (hs b hf), h.rest⟩
theorem Fr.nil {F : List Nat} {w w' : World} (h : Fr [] w w') : Fr F w w' := h.wider (by simp)
theorem Fr.some {F : List Nat} {w w' : World} (h : Fr F w w') {b : Nat} (hn : b ∉ F) {o : Obj} (hb : blk w b = some o) : blk w' b = some o := by
  rw [h.keep b (blk_lt hb) hn, hb]

@[simp] theorem cells_agg (cs : Array Value) : (Value.agg cs).cells = cs := rfl
@[simp] theorem cells_int (k : IntKind) (n : Int) : (Value.int k n).cells = #[.int k n] := rfl
@[simp] theorem cells_bool (b : Bool) : (Value.bool b).cells = #[.bool b] := rfl
@[simp] theorem cells_string (s : ByteArray) : (Value.string s).cells = #[.string s] := rfl
@[simp] theorem cells_pointer (a : Option Addr) : (Value.pointer a).cells = #[.pointer a] := rfl
@[simp] theorem cells_slice (a : Option Addr) (n c : Nat) : (Value.slice a n c).cells = #[.slice a n c] := rfl
@[simp] theorem cells_map (r : Option Nat) : (Value.map r).cells = #[.map r] := rfl
@[simp] theorem cells_func (f : Fn) (a b : Array Value) : (Value.func f a b).cells = #[.func f a b] := rfl
@[simp] theorem cells_nilFunc : Value.nilFunc.cells = #[.nilFunc] := rfl

/-! ## The words -/
theorem BND_step {α : Type} {o : Option α} {v : α} {k : α → Prop} (h : o = some v) (hk : k v) : BND o k := ⟨v, h, hk⟩
theorem JOIN_elim {α : Type} {f : α → Prop} {k : α} (h : ∀ K, K = k → f K) : JOIN f k := h k rfl
theorem GEF_elim {c : Bool} {f : (Value → World → Prop) → Prop} {w : World} {k : Value → World → Prop} (h : ∀ K, K = k → GEF c f w K) : GEF c f w k := h k rfl
@[simp] theorem COND_true (t e : Prop) : COND (.bool true) t e ↔ t := ⟨fun h => by cases h with | yes _ ht => exact ht | no h _ => simp at h, fun h => .yes rfl h⟩
@[simp] theorem COND_false (t e : Prop) : COND (.bool false) t e ↔ e := ⟨fun h => by cases h with | yes h _ => simp at h | no _ h => exact h, fun h => .no rfl h⟩
theorem COND_dec_true {p : Prop} [Decidable p] (h : p) {t e : Prop} (ht : t) : COND (.bool (decide p)) t e := .yes (by simp [h]) ht
theorem COND_dec_false {p : Prop} [Decidable p] (h : ¬ p) {t e : Prop} (he : e) : COND (.bool (decide p)) t e := .no (by simp [h]) he
theorem COND_bool (b : Bool) (t e : Prop) : COND (.bool b) t e ↔ if b = true then t else e := by cases b <;> simp
@[simp] theorem NEW_newv (T : Nat) (w : World) (v : Value) (k : Value → World → Prop) : NEW (newv T w v) k ↔ k (.pointer (some ⟨hsz w, 0, none⟩)) (w.alloc (.cells v.cells T)) :=
  ⟨fun h => h.h, fun h => ⟨h⟩⟩
@[simp] theorem NEW_newmap (w : World) (k : Value → World → Prop) : NEW (newmap w) k ↔ k (.map (some (hsz w))) (w.alloc (.map #[] 0)) := ⟨fun h => h.h, fun h => ⟨h⟩⟩
@[simp] theorem NEW_pair (v : Value) (w : World) (k : Value → World → Prop) : NEW (v, w) k ↔ k v w := ⟨fun h => h.h, fun h => ⟨h⟩⟩
theorem NEW_intro {T : Nat} {w : World} {v : Value} {k : Value → World → Prop} (h : ∀ w', blk w' (hsz w) = some (.cells v.cells T (0, 0)) → Fr [] w w' → hsz w' = hsz w + 1 → k (.pointer (some ⟨hsz w, 0, none⟩)) w') :
    NEW (newv T w v) k := (NEW_newv T w v k).2 (h _ (by simp) (Fr.alloc _ _ _) (by simp))
theorem NEWMAP_intro {w : World} {k : Value → World → Prop} (h : ∀ w', blk w' (hsz w) = some (.map #[] 0) → Fr [] w w' → hsz w' = hsz w + 1 → k (.map (some (hsz w))) w') :
    NEW (newmap w) k := (NEW_newmap w k).2 (h _ (by simp) (Fr.alloc _ _ _) (by simp))
theorem CALLV_func {P : Program} {f : Nat} {a b : Array Value} {args : List Value} {w : World} {k : Value → World → Prop} (hok : okCallee P f = true) :
    CALLV P (.func (.func f) a b) args w k ↔ CALL P f (a.toList ++ args ++ b.toList) w k :=
  ⟨fun ⟨g, x, y, h, _, hc⟩ => by cases h; exact hc, fun h => ⟨f, a, b, rfl, hok, h⟩⟩
theorem CALL_mono' {P : Program} {f : Nat} {args : List Value} {w : World} {k k' : Value → World → Prop} (h : CALL P f args w k) (hk : ∀ v w, k v w → k' v w) : CALL P f args w k' := CALL_mono hk h

@[simp] theorem nilchk_ptr (a : Addr) : nilchk (.pointer (some a)) = some (.pointer (some a)) := rfl
@[simp] theorem nilchk_func (f : Nat) (a b : Array Value) : nilchk (.func (.func f) a b) = some (.func (.func f) a b) := rfl
@[simp] theorem faddr_ptr (off b o : Nat) : faddr off (.pointer (some ⟨b, o, none⟩)) = some (.pointer (some ⟨b, o + off, none⟩)) := by
  unfold faddr Addr.add
  by_cases h : off = 0 <;> simp [h]
@[simp] theorem extractv_tuple (vs : Array Value) (i : Nat) : extractv (.tuple vs) i = vs[i]? := rfl
@[simp] theorem lenl_slice (a : Option Addr) (n c : Nat) : lenl (.slice a n c) = some (.int .i64 n) := rfl
@[simp] theorem lens_string (s : ByteArray) : lens (.string s) = some (.int .i64 s.size) := rfl
@[simp] theorem pickv_true (a b : Value) : pickv (.bool true) a b = some a := rfl
@[simp] theorem pickv_false (a b : Value) : pickv (.bool false) a b = some b := rfl
@[simp] theorem unv_not (b : Bool) : unv .not (.bool b) = some (.bool !b) := rfl
@[simp] theorem isB_bool (b c : Bool) : isB (.bool b) c = (b == c) := rfl
@[simp] theorem isB_tt : isB (.bool true) true = true := rfl
@[simp] theorem isB_tf : isB (.bool true) false = false := rfl
@[simp] theorem isB_ft : isB (.bool false) true = false := rfl
@[simp] theorem isB_ff : isB (.bool false) false = true := rfl
@[simp] theorem GEF_true (f : (Value → World → Prop) → Prop) (w : World) (k : Value → World → Prop) : GEF true f w k ↔ f k := ⟨fun h => h.yes rfl, fun h => ⟨fun _ => h, (fun hc => by cases hc)⟩⟩
@[simp] theorem GEF_false (f : (Value → World → Prop) → Prop) (w : World) (k : Value → World → Prop) : GEF false f w k ↔ k undef w := ⟨fun h => h.no rfl, fun h => ⟨(fun hc => by cases hc), fun _ => h⟩⟩
@[simp] theorem isB_undef (c : Bool) : isB undef c = false := rfl
@[simp] theorem grd_true (o : Option Value) : grd true o = o := rfl
@[simp] theorem grd_false (o : Option Value) : grd false o = some undef := rfl
theorem beq_dec (a b : Int) : (a == b) = decide (a = b) := by
  by_cases h : a = b <;> simp [h]
theorem binv_int (t : TK) (op : BinOp) (k : IntKind) (a b : Int) (h1 : op ≠ .shl) (h2 : op ≠ .shr) : binv t op (.int k a) (.int k b) = bini op k a b := by
  cases op <;> simp [binv] at * 
@[simp] theorem binv_lss (t : TK) (k : IntKind) (a b : Int) : binv t .lss (.int k a) (.int k b) = some (.bool (decide (a < b))) := by simp [binv, bini]
@[simp] theorem binv_leq (t : TK) (k : IntKind) (a b : Int) : binv t .leq (.int k a) (.int k b) = some (.bool (decide (a ≤ b))) := by simp [binv, bini]
@[simp] theorem binv_gtr (t : TK) (k : IntKind) (a b : Int) : binv t .gtr (.int k a) (.int k b) = some (.bool (decide (b < a))) := by simp [binv, bini]
@[simp] theorem binv_geq (t : TK) (k : IntKind) (a b : Int) : binv t .geq (.int k a) (.int k b) = some (.bool (decide (b ≤ a))) := by simp [binv, bini]
@[simp] theorem binv_eql (t : TK) (k : IntKind) (a b : Int) : binv t .eql (.int k a) (.int k b) = some (.bool (decide (a = b))) := by
  simp [binv, bini, beq_dec]
@[simp] theorem binv_neq (t : TK) (k : IntKind) (a b : Int) : binv t .neq (.int k a) (.int k b) = some (.bool (!decide (a = b))) := by
  simp [binv, bini, bne, beq_dec]
@[simp] theorem binv_add (t : TK) (k : IntKind) (a b : Int) : binv t .add (.int k a) (.int k b) = some (.int k (k.wrap (a + b))) := by simp [binv, bini]
@[simp] theorem binv_sub (t : TK) (k : IntKind) (a b : Int) : binv t .sub (.int k a) (.int k b) = some (.int k (k.wrap (a - b))) := by simp [binv, bini]
@[simp] theorem binv_mul (t : TK) (k : IntKind) (a b : Int) : binv t .mul (.int k a) (.int k b) = some (.int k (k.wrap (a * b))) := by simp [binv, bini]
theorem binv_quo (t : TK) (k : IntKind) (a b : Int) (h : b ≠ 0) : binv t .quo (.int k a) (.int k b) = some (.int k (k.wrap (a.tdiv b))) := by simp [binv, bini, h]
theorem binv_rem (t : TK) (k : IntKind) (a b : Int) (h : b ≠ 0) : binv t .rem (.int k a) (.int k b) = some (.int k (a.tmod b)) := by simp [binv, bini, h]
@[simp] theorem binv_eqb (a b : Bool) : binv .bool .eql (.bool a) (.bool b) = some (.bool (a == b)) := rfl
@[simp] theorem binv_neb (a b : Bool) : binv .bool .neq (.bool a) (.bool b) = some (.bool (a != b)) := rfl
@[simp] theorem binv_ptr_nil (a : Addr) : binv .ptr .eql (.pointer (some a)) (.pointer none) = some (.bool false) := rfl
@[simp] theorem binv_ptr_nnil (a : Addr) : binv .ptr .neq (.pointer (some a)) (.pointer none) = some (.bool true) := rfl
@[simp] theorem binv_nil_nil : binv .ptr .eql (.pointer none) (.pointer none) = some (.bool true) := rfl
@[simp] theorem binv_nil_nnil : binv .ptr .neq (.pointer none) (.pointer none) = some (.bool false) := rfl

theorem wrap_i64 {n : Int} (h : -9223372036854775808 ≤ n) (h' : n ≤ 9223372036854775807) : IntKind.i64.wrap n = n := by
  simp only [IntKind.wrap, IntKind.bits, IntKind.signed]
  simp
  omega
theorem wrap_u64 {n : Int} (h : 0 ≤ n) (h' : n < 18446744073709551616) : IntKind.u64.wrap n = n := by
  simp only [IntKind.wrap, IntKind.bits, IntKind.signed]
  simp
  omega

/-! ## Cells -/
theorem cell?_blk {w : World} {b : Nat} {c : Array Value} {T : Nat} {f : Nat × Nat} (h : blk w b = some (.cells c T f)) (o : Nat) : w.cell? ⟨b, o, none⟩ = c[o]? := by
  have h' : w.heap[b]? = some (.cells c T f) := h
  simp [World.cell?, h']
theorem add_none (b o i : Nat) : (⟨b, o, none⟩ : Addr).add i = ⟨b, o + i, none⟩ := by
  unfold Addr.add; by_cases h : i = 0 <;> simp [h]
theorem load1_blk {w : World} {b o : Nat} {c : Array Value} {T : Nat} {f : Nat × Nat} (h : blk w b = some (.cells c T f)) : load1 w (.pointer (some ⟨b, o, none⟩)) = c[o]? := cell?_blk h o
theorem loads_blk {w : World} {b o : Nat} {c : Array Value} {T : Nat} {f : Nat × Nat} (h : blk w b = some (.cells c T f)) : ∀ n i, o + i + n ≤ c.size →
    loads w ⟨b, o, none⟩ i n = some ((c.toList.drop (o + i)).take n)
  | 0, i, _ => by simp [loads]
  | n + 1, i, hs => by
    have hlt : o + i < c.size := by omega
    rw [loads, add_none, cell?_blk h, Array.getElem?_eq_getElem hlt, loads_blk h n (i + 1) (by omega)]
    simp only [Option.some.injEq]
    rw [List.drop_eq_getElem_cons (i := o + i) (by simpa using hlt), List.take_succ_cons]
    congr 1
theorem loadn_blk {w : World} {b o n : Nat} {c : Array Value} {T : Nat} {f : Nat × Nat} (h : blk w b = some (.cells c T f)) (hs : o + n ≤ c.size) :
    loadn n w (.pointer (some ⟨b, o, none⟩)) = some (.agg ((c.toList.drop o).take n).toArray) := by
  simp [loadn, loads_blk h n 0 (by simpa using hs)]

/-- cells laid over others, from a place on. -/
def splice (c : Array Value) (o : Nat) : List Value → Array Value
  | [] => c
  | v :: vs => splice (c.setIfInBounds o v) (o + 1) vs
@[simp] theorem size_splice : ∀ (vs : List Value) (c : Array Value) (o : Nat), (splice c o vs).size = c.size
  | [], c, o => rfl
  | v :: vs, c, o => by rw [splice, size_splice vs]; simp
theorem splice_get : ∀ (vs : List Value) (c : Array Value) (o i : Nat), o + vs.length ≤ c.size → (splice c o vs)[i]? = if o ≤ i ∧ i < o + vs.length then vs[i - o]? else c[i]?
  | [], c, o, i, _ => by
    have : ¬ (o ≤ i ∧ i < o + ([] : List Value).length) := by simp
    rw [if_neg this]; rfl
  | v :: vs, c, o, i, h => by
    simp only [List.length_cons] at h
    rw [splice, splice_get vs _ _ _ (by simp; omega)]
    by_cases h1 : o + 1 ≤ i ∧ i < o + 1 + vs.length
    · rw [if_pos h1, if_pos (by simp; omega)]
      obtain ⟨j, rfl⟩ : ∃ j, i = o + 1 + j := ⟨i - (o + 1), by omega⟩
      rw [show o + 1 + j - (o + 1) = j by omega, show o + 1 + j - o = j + 1 by omega]; rfl
    · rw [if_neg h1]
      by_cases h2 : i = o
      · subst h2
        rw [if_pos (by simp)]
        simp [show i < c.size by omega]
      · rw [if_neg (by simp; omega), Array.getElem?_setIfInBounds_ne (by omega)]

theorem setCell_setB {w : World} {b o : Nat} {c : Array Value} {T : Nat} {f : Nat × Nat} (h : blk w b = some (.cells c T f)) (v : Value) :
    w.setCell ⟨b, o, none⟩ v = setB w b (.cells (c.setIfInBounds o v) T f) := by
  unfold World.setCell setB
  congr 1
  apply Array.ext
  · simp
  · intro i h1 h2
    simp at h1
    have h' : w.heap[b]? = some (.cells c T f) := h
    by_cases hi : b = i
    · subst hi
      have := (Array.getElem?_eq_some_iff.1 h').2
      simp [Array.getElem_modify, this]
    · rw [Array.getElem_modify_of_ne hi, Array.getElem_setIfInBounds_ne _ hi]
theorem setB_setB (w : World) (b : Nat) (o o' : Obj) : setB (setB w b o) b o' = setB w b o' := by
  simp [setB]
theorem stores_blk {b o T : Nat} : ∀ (vs : List Value) (i : Nat) (w : World) (c : Array Value), blk w b = some (.cells c T (0, 0)) → (∀ v ∈ vs, v.oneCell' = true) → o + i + vs.length ≤ c.size → vs ≠ [] →
    stores w ⟨b, o, none⟩ i vs = some (setB w b (.cells (splice c (o + i) vs) T (0, 0)))
  | [], _, _, _, _, _, _, hn => absurd rfl hn
  | v :: vs, i, w, c, h, h1, hs, _ => by
    simp only [List.length_cons] at hs
    have hlt : o + i < c.size := by omega
    have hfr : w.frozen? ⟨b, o + i, none⟩ = false := by
      have h' : w.heap[b]? = some (.cells c T (0, 0)) := h
      simp [World.frozen?, h']
    rw [stores, if_pos (h1 v (by simp)), add_none, cell?_blk h, Array.getElem?_eq_getElem hlt]
    simp only [hfr, Bool.false_eq_true, if_false]
    rw [setCell_setB h]
    cases vs with
    | nil => simp [stores, splice]
    | cons u us =>
      rw [stores_blk (u :: us) (i + 1) _ (c.setIfInBounds (o + i) v) (blk_setB_same h) (fun x hx => h1 x (by simp [hx])) (by simp at *; omega) (by simp), setB_setB]
      rfl
theorem storev1_blk {w : World} {b o T : Nat} {c : Array Value} {v : Value} (h : blk w b = some (.cells c T (0, 0))) (ho : o < c.size) (hv : v.cells = #[v]) (h1 : v.oneCell' = true) :
    storev 1 w (.pointer (some ⟨b, o, none⟩)) v = some (setB w b (.cells (c.setIfInBounds o v) T (0, 0))) := by
  unfold storev
  rw [hv]
  simp only [List.size_toArray, List.length_cons, List.length_nil, if_true]
  rw [stores_blk [v] 0 w c h (by simpa using h1) (by simp; omega) (by simp)]
  rfl
theorem storevn_blk {w : World} {b o T n : Nat} {c : Array Value} {vs : List Value} (h : blk w b = some (.cells c T (0, 0))) (hn : vs.length = n) (hs : o + n ≤ c.size) (h1 : ∀ v ∈ vs, v.oneCell' = true) (hne : vs ≠ []) :
    storev n w (.pointer (some ⟨b, o, none⟩)) (.agg vs.toArray) = some (setB w b (.cells (splice c o vs) T (0, 0))) := by
  unfold storev
  simp only [Value.cells, List.size_toArray, hn, if_true]
  rw [stores_blk vs 0 w c h h1 (by omega) hne]
  rfl

theorem fold_splice (off : Nat) : ∀ (vs : List Value) (k : Nat) (cs : Array Value), (vs.zipIdx k).foldl (fun cs (x : Value × Nat) => cs.setIfInBounds (off + x.2) x.1) cs = splice cs (off + k) vs
  | [], k, cs => rfl
  | v :: vs, k, cs => by
    simp only [List.zipIdx_cons, List.foldl_cons, splice]
    exact fold_splice off vs (k + 1) _
theorem splice_all (cs : Array Value) (vs : List Value) (h : vs.length = cs.size) : splice cs 0 vs = vs.toArray := by
  apply Array.ext_getElem?
  intro i
  rw [splice_get _ _ _ _ (by omega)]
  by_cases hi : i < vs.length
  · rw [if_pos (by omega)]; simp
  · rw [if_neg (by omega), Array.getElem?_eq_none (by omega)]
    simp; omega
theorem newslice_one (E sz : Nat) (zero : Array Value) (vs : List Value) (hl : vs.length = sz) (w : World) :
    newslice E zero sz 1 [(0, sz, .agg vs.toArray)] w = some (.slice (some ⟨hsz w, 0, none⟩) 1 1, w.alloc (.cells vs.toArray E)) := by
  have h1 : (vs.toArray.zipIdx.foldl (fun cs (x : Value × Nat) => cs.setIfInBounds (0 + x.2) x.1) ((Array.range (1 * sz)).map (zero[· % zero.size]!))) = vs.toArray := by
    rw [← Array.foldl_toList, Array.toList_zipIdx, fold_splice 0 vs 0]
    exact splice_all _ _ (by simp [hl])
  have h3 : fillv ((Array.range (1 * sz)).map (zero[· % zero.size]!)) [(0, sz, .agg vs.toArray)] = some vs.toArray := by
    unfold fillv
    split
    · rename_i h; simp [hl] at h
    · exact congrArg some h1
  unfold newslice
  rw [h3]
  rfl

/-! ## Slices that are a row of their own -/
/-- the slice v has the things xs, each laid into sz cells, at the head of the block of F (none, of nil). -/
def Slc {α : Type} (enc : α → List Value) (sz : Nat) (w : World) (v : Value) (xs : List α) (F : List Nat) : Prop :=
  (v = .slice none 0 0 ∧ xs = [] ∧ F = []) ∨
  ∃ b cap c T, v = .slice (some ⟨b, 0, none⟩) xs.length cap ∧ blk w b = some (.cells c T (0, 0)) ∧ xs.length ≤ cap ∧ c.size = cap * sz ∧ F = [b] ∧
    ∀ i x, xs[i]? = some x → ∀ j, j < sz → c[i * sz + j]? = (enc x)[j]?
section
variable {α : Type} {enc : α → List Value} {sz : Nat} {w w' : World} {v : Value} {xs : List α} {F : List Nat} {b : Nat}
theorem Slc.lt (h : Slc enc sz w v xs F) : ∀ b ∈ F, b < hsz w := by
  rcases h with ⟨_, _, rfl⟩ | ⟨b, cap, c, T, _, hb, _, _, rfl, _⟩
  · simp
  · intro b' hb'; simp at hb'; subst hb'; exact blk_lt hb
theorem Slc.congr (h : Slc enc sz w v xs F) (hw : ∀ b ∈ F, blk w' b = blk w b) : Slc enc sz w' v xs F := by
  rcases h with h | ⟨b, cap, c, T, h1, hb, h2, h3, rfl, h4⟩
  · exact .inl h
  · exact .inr ⟨b, cap, c, T, h1, by rw [hw b (by simp), hb], h2, h3, rfl, h4⟩
theorem Slc.fr (h : Slc enc sz w v xs F) {G : List Nat} (hf : Fr G w w') (hd : ∀ b ∈ F, b ∉ G) : Slc enc sz w' v xs F :=
  h.congr fun b hb => hf.keep b (h.lt b hb) (hd b hb)
theorem Slc.one (h : Slc enc sz w v xs F) : v.cells = #[v] ∧ v.oneCell' = true := by
  rcases h with ⟨rfl, rfl, _⟩ | ⟨b, cap, c, T, rfl, _⟩ <;> exact ⟨rfl, rfl⟩
theorem Slc.len (h : Slc enc sz w v xs F) : lenl v = some (.int .i64 xs.length) := by
  rcases h with ⟨rfl, rfl, _⟩ | ⟨b, cap, c, T, rfl, _⟩ <;> rfl
theorem Slc.iaddr (h : Slc enc sz w v xs F) {i : Nat} (hi : i < xs.length) (k : IntKind) : ∃ b, F = [b] ∧ Den.iaddr sz v (.int k (i : Int)) = some (.pointer (some ⟨b, i * sz, none⟩)) := by
  rcases h with ⟨_, rfl, _⟩ | ⟨b, cap, c, T, rfl, _, _, _, rfl, _⟩
  · simp at hi
  · refine ⟨b, rfl, ?_⟩
    simp [Den.iaddr, hi, add_none]
theorem Slc.cells (h : Slc enc sz w v xs F) {b : Nat} (hF : F = [b]) : ∃ cap c T, v = .slice (some ⟨b, 0, none⟩) xs.length cap ∧ blk w b = some (.cells c T (0, 0)) ∧ xs.length ≤ cap ∧ c.size = cap * sz ∧
    ∀ i x, xs[i]? = some x → ∀ j, j < sz → c[i * sz + j]? = (enc x)[j]? := by
  rcases h with ⟨_, _, rfl⟩ | ⟨b', cap, c, T, h1, h2, h3, h4, rfl, h5⟩
  · simp at hF
  · simp at hF; subst hF; exact ⟨cap, c, T, h1, h2, h3, h4, h5⟩
theorem idx_lt {i n cap sz j : Nat} (hi : i < n) (hn : n ≤ cap) (hj : j < sz) : i * sz + j < cap * sz := by
  have : (i + 1) * sz ≤ cap * sz := Nat.mul_le_mul_right _ (by omega)
  rw [Nat.succ_mul] at this
  omega
theorem Slc.load1 (h : Slc enc sz w v xs [b]) {i j : Nat} {x : α} (hx : xs[i]? = some x) (hj : j < sz) : Den.load1 w (.pointer (some ⟨b, i * sz + j, none⟩)) = (enc x)[j]? := by
  obtain ⟨cap, c, T, _, hb, _, _, he⟩ := h.cells rfl
  rw [load1_blk hb, he i x hx j hj]
theorem Slc.loadn (h : Slc enc sz w v xs [b]) {i : Nat} {x : α} (hx : xs[i]? = some x) (he : (enc x).length = sz) : Den.loadn sz w (.pointer (some ⟨b, i * sz, none⟩)) = some (.agg (enc x).toArray) := by
  obtain ⟨cap, c, T, _, hb, hc, hs, hel⟩ := h.cells rfl
  have hi : i < xs.length := (List.getElem?_eq_some_iff.1 hx).1
  have hle : i * sz + sz ≤ c.size := by
    have : (i + 1) * sz ≤ cap * sz := Nat.mul_le_mul_right _ (by omega)
    rw [Nat.succ_mul] at this; omega
  rw [loadn_blk hb hle]
  have : (c.toList.drop (i * sz)).take sz = enc x := by
    apply List.ext_getElem?
    intro j
    rw [List.getElem?_take]
    split
    · rename_i hj
      rw [List.getElem?_drop]
      have := hel i x hx j hj
      simpa using this
    · rename_i hj
      exact (List.getElem?_eq_none (by omega)).symm
  rw [this]
theorem Fr.of_set {w w' : World} {b : Nat} (h : Fr [b] w w') (_ : ∀ b', b' ≠ b → blk w' b' = blk w b') : Fr [b] w w' := h
theorem Slc.set (h : Slc enc sz w v xs [b]) {i : Nat} {x : α} (hi : i < xs.length) (hl : (enc x).length = sz) (h1 : ∀ u ∈ enc x, u.oneCell' = true) (hz : 0 < sz) :
    ∃ w', storev sz w (.pointer (some ⟨b, i * sz, none⟩)) (.agg (enc x).toArray) = some w' ∧ Slc enc sz w' v (xs.set i x) [b] ∧ Fr [b] w w' ∧ ∀ b', b' ≠ b → blk w' b' = blk w b' := by
  obtain ⟨cap, c, T, hv, hb, hc, hs, hel⟩ := h.cells rfl
  have hle : i * sz + sz ≤ c.size := by
    have : (i + 1) * sz ≤ cap * sz := Nat.mul_le_mul_right _ (by omega)
    rw [Nat.succ_mul] at this; omega
  refine ⟨_, storevn_blk hb hl hle h1 (by intro e; rw [e] at hl; simp at hl; omega), ?_, Fr.setB (.inl (by simp)) _, fun b' hb' => blk_setB_other (Ne.symm hb')⟩
  refine .inr ⟨b, cap, _, T, by simpa using hv, blk_setB_same hb, by simpa using hc, by simpa using hs, rfl, fun k y hy j hj => ?_⟩
  rw [splice_get _ _ _ _ (by omega), hl]
  by_cases hki : k = i
  · subst hki
    rw [if_pos (by omega)]
    simp [hi] at hy; subst hy
    congr 1; omega
  · rw [List.getElem?_set_ne (Ne.symm hki)] at hy
    rw [if_neg, hel k y hy j hj]
    rintro ⟨h3, h4⟩
    rcases Nat.lt_or_ge k i with hk | hk
    · have : (k + 1) * sz ≤ i * sz := Nat.mul_le_mul_right _ (by omega)
      rw [Nat.succ_mul] at this; omega
    · have : (i + 1) * sz ≤ k * sz := Nat.mul_le_mul_right _ (by omega)
      rw [Nat.succ_mul] at this; omega
theorem Slc.set1 (h : Slc enc sz w v xs [b]) {i j : Nat} {x y : α} {u : Value} (hx : xs[i]? = some x) (hj : j < sz) (hy : ∀ m, m < sz → (enc y)[m]? = if m = j then some u else (enc x)[m]?)
    (hu : u.cells = #[u]) (h1 : u.oneCell' = true) :
    ∃ w', storev 1 w (.pointer (some ⟨b, i * sz + j, none⟩)) u = some w' ∧ Slc enc sz w' v (xs.set i y) [b] ∧ Fr [b] w w' ∧ ∀ b', b' ≠ b → blk w' b' = blk w b' := by
  obtain ⟨cap, c, T, hv, hb, hc, hs, hel⟩ := h.cells rfl
  have hi : i < xs.length := (List.getElem?_eq_some_iff.1 hx).1
  have hlt : i * sz + j < c.size := by rw [hs]; exact idx_lt hi hc hj
  refine ⟨_, storev1_blk hb hlt hu h1, ?_, Fr.setB (.inl (by simp)) _, fun b' hb' => blk_setB_other (Ne.symm hb')⟩
  refine .inr ⟨b, cap, _, T, by simpa using hv, blk_setB_same hb, by simpa using hc, by simpa using hs, rfl, fun k z hz m hm => ?_⟩
  rw [Array.getElem?_setIfInBounds]
  by_cases hki : k = i
  · subst hki
    simp [hi] at hz; subst hz
    rw [hy m hm]
    by_cases hmj : m = j
    · subst hmj; simp [hlt]
    · rw [if_neg (by omega), if_neg hmj]
      exact hel k x hx m hm
  · rw [List.getElem?_set_ne (Ne.symm hki)] at hz
    rw [if_neg, hel k z hz m hm]
    intro e
    rcases Nat.lt_or_ge k i with hk | hk
    · have : (k + 1) * sz ≤ i * sz := Nat.mul_le_mul_right _ (by omega)
      rw [Nat.succ_mul] at this; omega
    · have : (i + 1) * sz ≤ k * sz := Nat.mul_le_mul_right _ (by omega)
      rw [Nat.succ_mul] at this; omega
end

/-! ## Slices that came in: read alone -/
/-- the slice v reads as xs, each of sz cells. -/
def Arr {α : Type} (enc : α → List Value) (sz : Nat) (w : World) (v : Value) (xs : List α) : Prop :=
  ∃ a cap, v = .slice a xs.length cap ∧ (xs = [] ∨ ∃ b o c T fz, a = some ⟨b, o, none⟩ ∧ blk w b = some (.cells c T fz) ∧
    ∀ i x, xs[i]? = some x → o + i * sz + sz ≤ c.size ∧ ∀ j, j < sz → c[o + i * sz + j]? = (enc x)[j]?)
section
variable {α : Type} {enc : α → List Value} {sz : Nat} {w w' : World} {v : Value} {xs : List α}
theorem Arr.fr (h : Arr enc sz w v xs) {F : List Nat} (hf : Fr F w w') (hF : ∀ b ∈ F, hsz w ≤ b) : Arr enc sz w' v xs := by
  obtain ⟨a, cap, rfl, h⟩ := h
  refine ⟨a, cap, rfl, ?_⟩
  rcases h with h | ⟨b, o, c, T, fz, h1, h2, h3⟩
  · exact .inl h
  · refine .inr ⟨b, o, c, T, fz, h1, hf.some (fun hb => ?_) h2, h3⟩
    have := blk_lt h2; have := hF b hb; omega
theorem Arr.len (h : Arr enc sz w v xs) : lenl v = some (.int .i64 xs.length) := by
  obtain ⟨a, cap, rfl, _⟩ := h; rfl
/-- 'x := v[i]': where it stands, and what is read there. -/
theorem Arr.at (h : Arr enc sz w v xs) {i : Nat} {x : α} (hx : xs[i]? = some x) (he : (enc x).length = sz) (k : IntKind) :
    ∃ p, Den.iaddr sz v (.int k (i : Int)) = some p ∧ Den.loadn sz w p = some (.agg (enc x).toArray) ∧ (∀ j, j < sz → ∃ q, faddr j p = some q ∧ Den.load1 w q = (enc x)[j]?) := by
  obtain ⟨a, cap, rfl, h⟩ := h
  have hi : i < xs.length := (List.getElem?_eq_some_iff.1 hx).1
  rcases h with rfl | ⟨b, o, c, T, fz, rfl, h2, h3⟩
  · simp at hi
  · obtain ⟨h4, h5⟩ := h3 i x hx
    refine ⟨.pointer (some ⟨b, o + i * sz, none⟩), by simp [Den.iaddr, hi, add_none], ?_, fun j hj => ⟨_, faddr_ptr _ _ _, ?_⟩⟩
    · rw [loadn_blk h2 h4]
      have : (c.toList.drop (o + i * sz)).take sz = enc x := by
        apply List.ext_getElem?
        intro j
        rw [List.getElem?_take]
        split
        · rename_i hj
          rw [List.getElem?_drop]
          simpa using h5 j hj
        · rename_i hj
          exact (List.getElem?_eq_none (by omega)).symm
      rw [this]
    · rw [load1_blk h2]; exact h5 j hj
end
/-- a variable that is made and at once given a struct. -/
theorem box_step {T n : Nat} {w : World} {zs vs : List Value} {k : Value → World → Prop} (hz : zs.length = n) (hv : vs.length = n) (h1 : ∀ u ∈ vs, u.oneCell' = true) (hn : vs ≠ [])
    (h : ∀ w', blk w' (hsz w) = some (.cells vs.toArray T (0, 0)) → Fr [] w w' → hsz w' = hsz w + 1 → k (.pointer (some ⟨hsz w, 0, none⟩)) w') :
    NEW (newv T w (.agg zs.toArray)) fun o w4 => BND (storev n w4 o (.agg vs.toArray)) fun w5 => k o w5 := by
  refine NEW_intro fun w4 b4 f4 z4 => ?_
  refine BND_step (storevn_blk (o := 0) b4 hv (by simp; omega) h1 hn) ?_
  have he : splice zs.toArray 0 vs = vs.toArray := splice_all _ _ (by simp; omega)
  simp only [cells_agg]
  rw [he]
  exact h _ (blk_setB_same b4) (f4.trans (Fr.setB (F := [hsz w]) (.inl (by simp)) _) (by simp)) (by simp [z4])

/-! ## append, x[:n], on such slices -/
section
variable {α : Type} {enc : α → List Value} {sz : Nat} {w w' : World} {v : Value} {xs ys : List α} {F G : List Nat} {b : Nat}
/-- the cells of the things, one behind the other. -/
def flat (enc : α → List Value) (xs : List α) : List Value := xs.flatMap enc
theorem flat_len (hl : ∀ x, (enc x).length = sz) : ∀ xs : List α, (flat enc xs).length = xs.length * sz
  | [] => by simp [flat]
  | x :: xs => by
    have := flat_len hl xs
    simp only [flat, List.flatMap_cons, List.length_append, hl, List.length_cons] at *
    rw [this, Nat.succ_mul]; omega
theorem flat_get (hl : ∀ x, (enc x).length = sz) : ∀ (xs : List α) (i : Nat) (x : α) (j : Nat), xs[i]? = some x → j < sz → (flat enc xs)[i * sz + j]? = (enc x)[j]?
  | [], i, x, j, h, _ => by simp at h
  | y :: ys, 0, x, j, h, hj => by
    simp at h; subst h
    simp only [flat, List.flatMap_cons, Nat.zero_mul, Nat.zero_add]
    rw [List.getElem?_append_left (by rw [hl]; exact hj)]
  | y :: ys, i + 1, x, j, h, hj => by
    have := flat_get hl ys i x j (by simpa using h) hj
    simp only [flat, List.flatMap_cons] at *
    rw [List.getElem?_append_right (by rw [hl, Nat.succ_mul]; omega), hl, ← this]
    congr 1
    rw [Nat.succ_mul]; omega
theorem flat_one (hl1 : ∀ x, ∀ u ∈ enc x, u.oneCell' = true) (xs : List α) : ∀ u ∈ flat enc xs, u.oneCell' = true := by
  intro u hu
  obtain ⟨x, _, hx⟩ := List.mem_flatMap.1 hu
  exact hl1 x u hx
theorem app_get (A B : List Value) (C : Array Value) {n : Nat} (h : n < (A ++ B).length) : (A.toArray ++ B.toArray ++ C)[n]? = (A ++ B)[n]? := by
  have e : A.toArray ++ B.toArray = (A ++ B).toArray := by simp
  rw [e, Array.getElem?_append_left (by simpa using h)]
  simp
theorem flat_append (xs ys : List α) : flat enc (xs ++ ys) = flat enc xs ++ flat enc ys := by simp [flat]
theorem Slc.loads (h : Slc enc sz w v xs F) (hl : ∀ x, (enc x).length = sz) : cellsOfArg w sz v = some (flat enc xs, xs.length) := by
  rcases h with ⟨rfl, rfl, _⟩ | ⟨b, cap, c, T, rfl, hb, hc, hs, rfl, hel⟩
  · rfl
  · have hle : 0 + 0 + xs.length * sz ≤ c.size := by rw [hs]; simpa using Nat.mul_le_mul_right sz hc
    simp only [cellsOfArg, loads_blk hb _ 0 hle, Option.map_some]
    congr 2
    apply List.ext_getElem?
    intro m
    rw [List.getElem?_take]
    split
    · rename_i hm
      have hz : 0 < sz := by rcases Nat.eq_zero_or_pos sz with h0 | h0; simp [h0] at hm; exact h0
      have hi : m / sz < xs.length := Nat.div_lt_of_lt_mul (by rwa [Nat.mul_comm] at hm)
      have h1 := hel (m / sz) xs[m / sz] (List.getElem?_eq_getElem hi) (m % sz) (Nat.mod_lt _ hz)
      have h2 := flat_get hl xs (m / sz) xs[m / sz] (m % sz) (List.getElem?_eq_getElem hi) (Nat.mod_lt _ hz)
      rw [Nat.mul_comm, Nat.div_add_mod] at h1 h2
      simp [h1, h2]
    · rename_i hm
      exact (List.getElem?_eq_none (by rw [flat_len hl]; omega)).symm
/-- 'append(v, u...)': the things of both; in the block that v had, or in a new one. -/
theorem APPEND_slc {E bytes : Nat} {zero u : Value} {k : Value → World → Prop} (hv : Slc enc sz w v xs F) (hu : cellsOfArg w sz u = some (flat enc ys, ys.length)) (hl : ∀ x, (enc x).length = sz)
    (hl1 : ∀ x, ∀ u ∈ enc x, u.oneCell' = true) (hz : zero.cells.size = sz) (hb : (xs.length + ys.length) * bytes ≤ 140737488355328) (hmax : xs.length + ys.length ≤ 9223372036854775807)
    (hk : ∀ v' w' F', Slc enc sz w' v' (xs ++ ys) F' → Fr F w w' → (∀ b ∈ F', b ∈ F ∨ hsz w ≤ b) → k v' w') : APPEND E sz bytes zero v u w k := by
  refine ⟨?_⟩
  have hlo := hv.loads hl
  unfold APPENDS
  rcases hv with ⟨rfl, rfl, rfl⟩ | ⟨b, cap, c, T, rfl, hb', hc, hs, rfl, hel⟩
  · simp only [hu]
    split
    · rename_i h0
      have hy : ys = [] := by cases ys with
        | nil => rfl
        | cons y ys => simp at h0
      subst hy
      exact hk _ _ [] (.inl ⟨rfl, rfl, rfl⟩) (Fr.refl _ _) (by simp)
    · rename_i h0
      refine ⟨?_, ?_, ?_⟩
      · simp at hmax ⊢
        have : (IntKind.i64.max : Int) = 9223372036854775807 := by decide
        omega
      · simp only [Nat.zero_add]
        exact growslice_fits (by omega) (by simpa using hb)
      · rw [hlo]
        simp only [BND_some]
        intro cp w' hcp hh hrest
        have hsz' : hsz w' = hsz w := by unfold hsz; rw [hh]
        have heq : w'.heap = w.heap := hh
        refine hk _ _ [hsz w] (.inr ⟨hsz w, cp, _, E, by simp, by rw [← hsz']; exact blk_alloc_new _ _, by simpa using hcp, ?_, rfl, ?_⟩) ⟨by simp [hsz'], fun b hb1 _ => ?_, hrest.1, hrest.2.1, hrest.2.2⟩ (by simp)
        · simp only [Array.size_append, List.size_toArray, flat_len hl, Builtin.zeroCells, Array.size_map, Array.size_range, hz, List.length_nil, Nat.zero_mul, Nat.zero_add]
          rw [← Nat.add_mul]
          congr 1; simp at hcp; omega
        · intro i x hx j hj
          have h3 := flat_get hl ([] ++ ys) i x j hx hj
          have h4 := flat_len (enc := enc) hl ([] ++ ys)
          have hi : i < ([] ++ ys).length := (List.getElem?_eq_some_iff.1 hx).1
          have h5 : i * sz + j < (flat enc ([] ++ ys)).length := by rw [h4]; exact idx_lt hi (Nat.le_refl _) hj
          rw [← h3]
          rw [flat_append] at h5 ⊢
          exact app_get _ _ _ h5
        · rw [blk_alloc_old (by omega), heap_ext heq]
  · simp only [hu]
    split
    · rename_i hle
      have hbnd : xs.length * sz + (ys.length * sz) ≤ c.size := by
        rw [hs, ← Nat.add_mul]; exact Nat.mul_le_mul_right _ hle
      have hadd : (⟨b, 0, none⟩ : Addr).add (xs.length * sz) = ⟨b, xs.length * sz, none⟩ := by rw [add_none, Nat.zero_add]
      rw [hadd]
      by_cases hy : flat enc ys = []
      · have hys : ys.length * sz = 0 := by rw [← flat_len hl, hy]; rfl
        rw [hy]
        simp only [stores, BND_some]
        refine hk _ _ [b] (.inr ⟨b, cap, c, T, by simp, hb', by simpa using hle, hs, rfl, fun i x hx j hj => ?_⟩) (Fr.refl _ _) (fun _ h => .inl h)
        have hj0 : 0 < sz := by omega
        have : ys = [] := by
          cases ys with
          | nil => rfl
          | cons y ys => simp [Nat.succ_mul] at hys; omega
        subst this
        exact hel i x (by simpa using hx) j hj
      · rw [stores_blk (flat enc ys) 0 w c hb' (flat_one hl1 ys) (by rw [flat_len hl]; omega) hy]
        simp only [BND_some]
        refine hk _ _ [b] (.inr ⟨b, cap, _, T, by simp, blk_setB_same hb', by simpa using hle, by simpa using hs, rfl, fun i x hx j hj => ?_⟩) (Fr.setB (.inl (by simp)) _) (fun _ h => .inl h)
        rw [Nat.add_zero, splice_get _ _ _ _ (by rw [flat_len hl]; omega), flat_len hl]
        by_cases hi : i < xs.length
        · rw [List.getElem?_append_left hi] at hx
          have := idx_lt hi (Nat.le_refl _) hj
          rw [if_neg (by omega)]
          exact hel i x hx j hj
        · rw [List.getElem?_append_right (by omega)] at hx
          have hi2 : i - xs.length < ys.length := (List.getElem?_eq_some_iff.1 hx).1
          have h5 := idx_lt hi2 (Nat.le_refl _) hj
          have h6 : i * sz + j = xs.length * sz + ((i - xs.length) * sz + j) := by
            have : i = xs.length + (i - xs.length) := by omega
            rw [← Nat.add_assoc, ← Nat.add_mul, ← this]
          rw [if_pos (by omega), h6, Nat.add_sub_cancel_left]
          exact flat_get hl ys _ x j hx hj
    · rename_i hle
      refine ⟨?_, ?_, ?_⟩
      · have : (IntKind.i64.max : Int) = 9223372036854775807 := by decide
        omega
      · exact growslice_fits (by omega) hb
      · rw [hlo]
        simp only [BND_some]
        intro cp w' hcp hh hrest
        have hsz' : hsz w' = hsz w := by unfold hsz; rw [hh]
        have heq : w'.heap = w.heap := hh
        refine hk _ _ [hsz w] (.inr ⟨hsz w, cp, _, E, by simp, by rw [← hsz']; exact blk_alloc_new _ _, by simpa using hcp, ?_, rfl, ?_⟩) ⟨by simp [hsz'], fun b hb1 _ => ?_, hrest.1, hrest.2.1, hrest.2.2⟩ (by simp)
        · simp only [Array.size_append, List.size_toArray, flat_len hl, Builtin.zeroCells, Array.size_map, Array.size_range, hz]
          rw [← Nat.add_mul, ← Nat.add_mul]
          congr 1; omega
        · intro i x hx j hj
          have h3 := flat_get hl (xs ++ ys) i x j hx hj
          have h4 := flat_len (enc := enc) hl (xs ++ ys)
          have hi : i < (xs ++ ys).length := (List.getElem?_eq_some_iff.1 hx).1
          have h5 : i * sz + j < (flat enc (xs ++ ys)).length := by rw [h4]; exact idx_lt hi (Nat.le_refl _) hj
          rw [← h3]
          rw [flat_append] at h5 ⊢
          exact app_get _ _ _ h5
        · rw [blk_alloc_old (by omega), heap_ext heq]
/-- 'v[:n]'. -/
theorem Slc.take (h : Slc enc sz w v xs F) {n : Nat} (hn : n ≤ xs.length) (hpos : 0 < xs.length) (k : IntKind) : ∃ v', slicev sz v none (some (.int k (n : Int))) = some v' ∧ Slc enc sz w v' (xs.take n) F := by
  rcases h with ⟨_, rfl, _⟩ | ⟨b, cap, c, T, rfl, hb, hc, hs, rfl, hel⟩
  · simp at hpos
  · have h1 : n ≤ cap := by omega
    refine ⟨.slice (some ⟨b, 0, none⟩) n cap, ?_, .inr ⟨b, cap, c, T, by simp [Nat.min_eq_left hn], hb, by simp; omega, hs, rfl, fun i x hx j hj => ?_⟩⟩
    · simp [slicev, natOf, h1, Addr.add]
    · rw [List.getElem?_take] at hx
      split at hx
      · exact hel i x hx j hj
      · simp at hx
end

/-! ## Maps -/
structure KeyOk {κ : Type} (kd : TypeDesc) (enc : κ → Value) [DecidableEq κ] : Prop where
  same : ∀ a b, Instr.sameNow kd (enc a) (enc b) = some (decide (a = b))
  bits : ∀ a, Instr.sameBits 10000 (enc a) (enc a) = true
theorem keyInt (k : IntKind) : KeyOk (.int k) (fun n : Int => Value.int k n) :=
  ⟨fun a b => by simp [Instr.sameNow, beq_dec], fun a => by simp [Instr.sameBits]⟩
theorem ba_beq (a b : ByteArray) : (a == b) = decide (a = b) := by
  have h : (a == b) = (a.data == b.data) := rfl
  rw [h]
  by_cases hab : a = b
  · subst hab; simp
  · have : a.data ≠ b.data := fun e => hab (ByteArray.ext e)
    simp [hab, this]
theorem keyStr : KeyOk .string (fun s : ByteArray => Value.string s) :=
  ⟨fun a b => by simp [Instr.sameNow, ba_beq], fun a => by simp [Instr.sameBits, ba_beq]⟩

/-- the entries read as the pairs L: each key once. -/
structure MapL {κ : Type} (enc : κ → Value) (es : Array MapEntry) (L : List (κ × Value)) : Prop where
  ents : es.toList.map (fun e => (e.key, e.val)) = L.map fun p => (enc p.1, p.2)
  once : (L.map (·.1)).Nodup
section
variable {κ : Type} [DecidableEq κ] {enc : κ → Value} {kd : TypeDesc} {es : Array MapEntry} {L : List (κ × Value)}
def findL : List (κ × Value) → κ → Nat → Option (Nat × Value)
  | [], _, _ => none
  | (k', v) :: r, k, i => if k = k' then some (i, v) else findL r k (i + 1)
def lk (L : List (κ × Value)) (k : κ) : Option Value := (findL L k 0).map (·.2)
def insL : List (κ × Value) → κ → Value → List (κ × Value)
  | [], k, v => [(k, v)]
  | (k', v') :: r, k, v => if k = k' then (k, v) :: r else (k', v') :: insL r k v
def delL : List (κ × Value) → κ → List (κ × Value)
  | [], _ => []
  | (k', v') :: r, k => if k = k' then r else (k', v') :: delL r k
theorem findNow_L (hk : KeyOk kd enc) (k : κ) : ∀ (es : List MapEntry) (L : List (κ × Value)) (i : Nat), es.map (fun e => (e.key, e.val)) = L.map (fun p => (enc p.1, p.2)) →
    Instr.findNow kd (enc k) es i = some (findL L k i)
  | [], L, i, h => by
    have : L = [] := by simpa using h.symm
    subst this; rfl
  | e :: es, L, i, h => by
    cases L with
    | nil => simp at h
    | cons p L =>
      obtain ⟨k', v'⟩ := p
      simp only [List.map_cons, List.cons.injEq, Prod.mk.injEq] at h
      obtain ⟨⟨h1, h2⟩, h3⟩ := h
      simp only [Instr.findNow, h1, hk.same, findL]
      by_cases hkk : k = k'
      · simp [hkk, h2]
      · simp [hkk, findNow_L hk k es L (i + 1) h3]
theorem mfind_L (hk : KeyOk kd enc) (h : MapL enc es L) (k : κ) : mfind kd (enc k) es = some (findL L k 0) := findNow_L hk k _ _ _ h.ents
theorem findL_some {k : κ} {v : Value} {j : Nat} : ∀ {L : List (κ × Value)} {s : Nat}, findL L k s = some (j, v) → ∃ i, j = s + i ∧ L[i]? = some (k, v) ∧ (∀ u, insL L k u = L.set i (k, u)) ∧ delL L k = L.eraseIdx i
  | [], s, h => by simp [findL] at h
  | (k', v') :: L, s, h => by
    simp only [findL] at h
    by_cases hkk : k = k'
    · simp [hkk] at h
      obtain ⟨rfl, rfl⟩ := h
      exact ⟨0, by simp [hkk, insL, delL]⟩
    · rw [if_neg hkk] at h
      obtain ⟨i, h1, h2, h3, h4⟩ := findL_some h
      refine ⟨i + 1, by omega, by simpa using h2, fun u => by simp [insL, hkk, h3], by simp [delL, hkk, h4]⟩
theorem findL_none {k : κ} : ∀ {L : List (κ × Value)} {s : Nat}, findL L k s = none → k ∉ L.map (·.1) ∧ (∀ u, insL L k u = L ++ [(k, u)]) ∧ delL L k = L
  | [], s, _ => by simp [insL, delL]
  | (k', v') :: L, s, h => by
    simp only [findL] at h
    by_cases hkk : k = k'
    · simp [hkk] at h
    · rw [if_neg hkk] at h
      obtain ⟨h1, h2, h3⟩ := findL_none h
      refine ⟨?_, fun u => by simp [insL, hkk, h2], by simp [delL, hkk, h3]⟩
      simp only [List.map_cons, List.mem_cons, not_or]
      exact ⟨hkk, h1⟩
theorem lk_cons (k' : κ) (v' : Value) (L : List (κ × Value)) (k : κ) : lk ((k', v') :: L) k = if k = k' then some v' else lk L k := by
  have hsh : ∀ (L : List (κ × Value)) s t, (findL L k s).map (·.2) = (findL L k t).map (·.2) := by
    intro L
    induction L with
    | nil => intro s t; rfl
    | cons p L ih =>
      intro s t
      obtain ⟨a, b⟩ := p
      simp only [findL]
      split
      · rfl
      · exact ih _ _
  simp only [lk, findL]
  split
  · rfl
  · exact hsh L _ _
theorem lk_nil (k : κ) : lk ([] : List (κ × Value)) k = none := rfl
theorem lk_ins (L : List (κ × Value)) (k k2 : κ) (v : Value) : lk (insL L k v) k2 = if k2 = k then some v else lk L k2 := by
  induction L with
  | nil => simp only [insL, lk_cons, lk_nil]
  | cons p L ih =>
    obtain ⟨a, b⟩ := p
    simp only [insL]
    by_cases h : k = a
    · subst h
      simp only [if_true, lk_cons]
      split <;> rfl
    · rw [if_neg h, lk_cons, lk_cons, ih]
      by_cases h2 : k2 = a
      · subst h2
        rw [if_pos rfl, if_pos rfl, if_neg (fun e => h e.symm)]
      · rw [if_neg h2, if_neg h2]
theorem lk_mem {L : List (κ × Value)} {k : κ} : (lk L k).isSome ↔ k ∈ L.map (·.1) := by
  induction L with
  | nil => simp [lk_nil]
  | cons p L ih =>
    obtain ⟨a, b⟩ := p
    rw [lk_cons]
    by_cases h : k = a
    · simp [h]
    · rw [if_neg h, ih]; simp [h]
theorem lk_del {L : List (κ × Value)} (hn : (L.map (·.1)).Nodup) (k k2 : κ) : lk (delL L k) k2 = if k2 = k then none else lk L k2 := by
  induction L with
  | nil => simp [delL, lk_nil]
  | cons p L ih =>
    obtain ⟨a, b⟩ := p
    simp only [List.map_cons, List.nodup_cons] at hn
    simp only [delL]
    by_cases h : k = a
    · subst h
      rw [if_pos rfl, lk_cons]
      by_cases h2 : k2 = k
      · subst h2
        rw [if_pos rfl]
        have : ¬ (lk L k2).isSome := fun hh => hn.1 (lk_mem.1 hh)
        cases hl : lk L k2 with
        | none => rfl
        | some x => rw [hl] at this; simp at this
      · rw [if_neg h2, if_neg h2]
    · rw [if_neg h, lk_cons, lk_cons, ih hn.2]
      by_cases h2 : k2 = a
      · subst h2
        rw [if_pos rfl, if_pos rfl, if_neg (fun e => h e.symm)]
      · rw [if_neg h2, if_neg h2]
theorem keys_ins (L : List (κ × Value)) (k : κ) (v : Value) : (insL L k v).map (·.1) = if k ∈ L.map (·.1) then L.map (·.1) else L.map (·.1) ++ [k] := by
  induction L with
  | nil => simp [insL]
  | cons p L ih =>
    obtain ⟨a, b⟩ := p
    simp only [insL]
    by_cases h : k = a
    · simp [h]
    · rw [if_neg h]
      simp only [List.map_cons, List.mem_cons, h, false_or, ih]
      split <;> simp
theorem keys_del (L : List (κ × Value)) (k : κ) : (delL L k).map (·.1) = (L.map (·.1)).erase k := by
  induction L with
  | nil => simp [delL]
  | cons p L ih =>
    obtain ⟨a, b⟩ := p
    simp only [delL]
    by_cases h : k = a
    · subst h; simp
    · rw [if_neg h]
      simp only [List.map_cons, ih]
      rw [List.erase_cons_tail]
      simpa using fun e => h e.symm
theorem once_ins {L : List (κ × Value)} (h : (L.map (·.1)).Nodup) (k : κ) (v : Value) : ((insL L k v).map (·.1)).Nodup := by
  rw [keys_ins]
  split
  · exact h
  · rename_i hn
    rw [List.nodup_append]
    exact ⟨h, by simp, fun a ha b hb => by simp at hb; subst hb; exact fun e => hn (e ▸ ha)⟩
theorem once_del {L : List (κ × Value)} (h : (L.map (·.1)).Nodup) (k : κ) : ((delL L k).map (·.1)).Nodup := by
  rw [keys_del]; exact h.erase k

omit [DecidableEq κ] in
theorem MapL.size (h : MapL enc es L) : es.size = L.length := by
  have := congrArg List.length h.ents
  simpa using this
theorem mapOf_blk {w : World} {b : Nat} {ck : Nat} (h : blk w b = some (.map es ck)) : mapOf w (.map (some b)) = some es := by
  have h' : w.heap[b]? = some (.map es ck) := h
  simp [mapOf, h']
theorem lookv_L (hk : KeyOk kd enc) {w : World} {b ck : Nat} (hb : blk w b = some (.map es ck)) (h : MapL enc es L) (zero : Value) (k : κ) :
    lookv kd zero true w (.map (some b)) (enc k) = some (.tuple #[(lk L k).getD zero, .bool (lk L k).isSome]) := by
  unfold lookv
  rw [mapOf_blk hb]
  simp only [mfind_L hk h, lk]
  cases hf : findL L k 0 with
  | none => simp
  | some p => obtain ⟨i, v⟩ := p; simp
theorem lookv_L1 (hk : KeyOk kd enc) {w : World} {b ck : Nat} (hb : blk w b = some (.map es ck)) (h : MapL enc es L) (zero : Value) (k : κ) :
    lookv kd zero false w (.map (some b)) (enc k) = some ((lk L k).getD zero) := by
  unfold lookv
  rw [mapOf_blk hb]
  simp only [mfind_L hk h, lk]
  cases hf : findL L k 0 with
  | none => simp
  | some p => obtain ⟨i, v⟩ := p; simp
omit [DecidableEq κ] in
theorem mlenv_L {w : World} {b ck : Nat} (hb : blk w b = some (.map es ck)) (h : MapL enc es L) : mlenv w (.map (some b)) = some (.int .i64 L.length) := by
  simp [mlenv, mapOf_blk hb, h.size]
theorem mupd_L (hk : KeyOk kd enc) {w : World} {b ck : Nat} (hb : blk w b = some (.map es ck)) (h : MapL enc es L) (k : κ) (v : Value) :
    ∃ es' ck', mupd kd w (.map (some b)) (enc k) v = some (setB w b (.map es' ck')) ∧ MapL enc es' (insL L k v) := by
  have h' : w.heap[b]? = some (.map es ck) := hb
  unfold mupd
  simp only [h', mfind_L hk h]
  cases hf : findL L k 0 with
  | none =>
    obtain ⟨h1, h2, _⟩ := findL_none hf
    refine ⟨_, _, rfl, ?_, once_ins h.once k v⟩
    simp [h2, h.ents]
  | some p =>
    obtain ⟨i, u⟩ := p
    obtain ⟨j, hj, h2, h3, _⟩ := findL_some hf
    simp at hj; subst hj
    have hlen : es.size = L.length := h.size
    have hi : i < L.length := (List.getElem?_eq_some_iff.1 h2).1
    have hkey : (((es[i]?).map (·.key)).getD (enc k)) = enc k := by
      have := congrArg (fun l : List (Value × Value) => l[i]?) h.ents
      simp only [List.getElem?_map, h2, Option.map_some, Array.getElem?_toList] at this
      cases he : es[i]? with
      | none => rfl
      | some e => rw [he] at this; simp at this; simp [this.1]
    simp only [hkey, hk.bits, if_true]
    refine ⟨_, _, rfl, ?_, once_ins h.once k v⟩
    rw [h3]
    apply List.ext_getElem?
    intro n
    have := congrArg (fun l : List (Value × Value) => l[n]?) h.ents
    simp only [List.getElem?_map, Array.getElem?_toList] at this
    simp only [List.getElem?_map, Array.getElem?_toList, Array.getElem?_modify, List.getElem?_set]
    by_cases hn : i = n
    · subst hn
      have hes : i < es.size := by omega
      simp [hi, hes]
    · simp [hn, this]
theorem mdel_L (hk : KeyOk kd enc) {w : World} {b ck : Nat} (hb : blk w b = some (.map es ck)) (h : MapL enc es L) (k : κ) :
    ∃ es' ck', mdel kd w (.map (some b)) (enc k) = some (setB w b (.map es' ck')) ∧ MapL enc es' (delL L k) := by
  have h' : w.heap[b]? = some (.map es ck) := hb
  unfold mdel
  simp only [h', mfind_L hk h]
  cases hf : findL L k 0 with
  | none =>
    obtain ⟨h1, _, h2⟩ := findL_none hf
    exact ⟨_, _, rfl, by rw [h2]; exact h.ents, once_del h.once k⟩
  | some p =>
    obtain ⟨i, u⟩ := p
    obtain ⟨j, hj, h2, _, h3⟩ := findL_some hf
    simp at hj; subst hj
    have hi : i < L.length := (List.getElem?_eq_some_iff.1 h2).1
    refine ⟨_, _, rfl, ?_, once_del h.once k⟩
    have hes : i < es.size := by rw [h.size]; exact hi
    rw [h3]
    simp only [Array.eraseIdxIfInBounds, hes, dif_pos, Array.toList_eraseIdx]
    apply List.ext_getElem?
    intro n
    have hh := fun n : Nat => congrArg (fun l : List (Value × Value) => l[n]?) h.ents
    simp only [List.getElem?_map] at hh
    simp only [List.getElem?_map, List.getElem?_eraseIdx]
    split <;> exact hh _
end

end Go.Den
