/- Steps of a walk put shortly: what stands at a place, loops that count, ways that meet. No condition. -/
import Derived.Test.YthlmkjkjebcpfaaLib5
import Derived.Laws.Strings
namespace Go.Den
theorem cell?_congr {w w' : World} {b o : Nat} (h : blk w' b = blk w b) : w'.cell? ⟨b, o, none⟩ = w.cell? ⟨b, o, none⟩ := by
  have h' : w'.heap[b]? = w.heap[b]? := h
  simp [World.cell?, h']
theorem loads_congr {w w' : World} {b o : Nat} (h : blk w' b = blk w b) : ∀ n i, loads w' ⟨b, o, none⟩ i n = loads w ⟨b, o, none⟩ i n
  | 0, _ => rfl
  | n + 1, i => by
    rw [loads, loads, add_none, cell?_congr h, loads_congr h n (i + 1)]
theorem loadn_congr {w w' : World} {b o n : Nat} (h : blk w' b = blk w b) : loadn n w' (.pointer (some ⟨b, o, none⟩)) = loadn n w (.pointer (some ⟨b, o, none⟩)) := by
  simp [loadn, loads_congr h]
theorem BND_cg {α : Type} {o o' : Option α} {k : α → Prop} (h : o = o') : BND o k = BND o' k := by rw [h]
theorem COND_cg {v v' : Value} {t e : Prop} (h : v = v') : COND v t e = COND v' t e := by rw [h]
theorem GEF_cg {c c' : Bool} {f : (Value → World → Prop) → Prop} {w : World} {k : Value → World → Prop} (h : c = c') : GEF c f w k = GEF c' f w k := by rw [h]
theorem load1_at {w : World} {b o : Nat} {c : List Value} {T : Nat} {f : Nat × Nat} {v : Value} (h : blk w b = some (.cells c.toArray T f)) (e : c[o]? = some v) : load1 w (.pointer (some ⟨b, o, none⟩)) = some v := by
  rw [load1_blk h, List.getElem?_toArray, e]
theorem BND_ld {w : World} {b o : Nat} {c : List Value} {T : Nat} {f : Nat × Nat} {v : Value} {k : Value → Prop} (h : blk w b = some (.cells c.toArray T f)) (e : c[o]? = some v) (hk : k v) : BND (load1 w (.pointer (some ⟨b, o, none⟩))) k := ⟨v, load1_at h e, hk⟩
theorem FLT_ld {S : World → Prop} {b o : Nat} {c : List Value} {T : Nat} {f : Nat × Nat} {v : Value} {k : Value → Prop} (h : ∀ w, S w → blk w b = some (.cells c.toArray T f)) (e : c[o]? = some v) (hk : k v) : FLT S (fun w_ => load1 w_ (.pointer (some ⟨b, o, none⟩))) k := ⟨v, fun w hw => load1_at (h w hw) e, hk⟩
theorem BND_ext {vs : List Value} {i : Nat} {v : Value} {k : Value → Prop} (e : vs[i]? = some v) (hk : k v) : BND (extractv (.tuple vs.toArray) i) k := ⟨v, by rw [extractv_tuple, List.getElem?_toArray, e], hk⟩
theorem BND_part {vs : List Value} {o n : Nat} {k : Value → Prop} (us : List Value) (e : (vs.drop o).take n = us) (hk : k (.agg us.toArray)) : BND (partn (.agg vs.toArray) o n) k := ⟨_, by simp [partn, List.extract_eq_take_drop, e], hk⟩
theorem inc_ {n : Nat} (h : n < 4000000000000000000) : binv .int .add (.int .i64 (n : Int)) (.int .i64 1) = some (.int .i64 ((n + 1 : Nat) : Int)) := by
  rw [binv_add, wrap_i64 (by omega) (by omega)]; congr 2
theorem dec_ {n : Nat} (h0 : 0 < n) (h : n < 4000000000000000000) : binv .int .sub (.int .i64 (n : Int)) (.int .i64 1) = some (.int .i64 ((n - 1 : Nat) : Int)) := by
  rw [binv_sub, wrap_i64 (by omega) (by omega)]; congr 2; omega
theorem addn_ {n m : Nat} (h : n + m < 4000000000000000000) : binv .int .add (.int .i64 (n : Int)) (.int .i64 (m : Int)) = some (.int .i64 ((n + m : Nat) : Int)) := by
  rw [binv_add, wrap_i64 (by omega) (by omega)]; congr 2
theorem subn_ {n m : Nat} (h0 : m ≤ n) (h : n < 4000000000000000000) : binv .int .sub (.int .i64 (n : Int)) (.int .i64 (m : Int)) = some (.int .i64 ((n - m : Nat) : Int)) := by
  rw [binv_sub, wrap_i64 (by omega) (by omega)]; congr 2; omega

theorem COND_nd_true {p : Prop} [Decidable p] (h : ¬ p) {t e : Prop} (ht : t) : COND (.bool (!decide p)) t e := .yes (by simp [h]) ht
theorem COND_nd_false {p : Prop} [Decidable p] (h : p) {t e : Prop} (he : e) : COND (.bool (!decide p)) t e := .no (by simp [h]) he
theorem BND_inc {n : Nat} {k : Value → Prop} (h : n < 4000000000000000000) (hk : k (.int .i64 ((n + 1 : Nat) : Int))) : BND (binv .int .add (.int .i64 (n : Int)) (.int .i64 1)) k := ⟨_, inc_ h, hk⟩
theorem BND_dec {n : Nat} {k : Value → Prop} (h : 0 < n ∧ n < 4000000000000000000) (hk : k (.int .i64 ((n - 1 : Nat) : Int))) : BND (binv .int .sub (.int .i64 (n : Int)) (.int .i64 1)) k := ⟨_, dec_ h.1 h.2, hk⟩
theorem steq (a b : ByteArray) : binv .str .eql (.string a) (.string b) = some (.bool (decide (a = b))) := by
  show some (Value.bool (a.toList == b.toList)) = _
  by_cases h : a = b
  · subst h; simp
  · have : ¬ a.toList = b.toList := fun e => h (by rw [ByteArray.toList_eq, ByteArray.toList_eq] at e; exact ByteArray.ext (Array.ext' e))
    simp [h, this]
theorem stne (a b : ByteArray) : binv .str .neq (.string a) (.string b) = some (.bool (!decide (a = b))) := by
  have := steq a b
  have h2 : binv .str .neq (.string a) (.string b) = (binv .str .eql (.string a) (.string b)).bind fun v => unv .not v := rfl
  rw [h2, this]; rfl
/-- a struct put together. -/
def spliceL : List Value → Nat → List Value → List Value
  | c, _, [] => c
  | c, o, v :: vs => spliceL (c.set o v) (o + 1) vs
def buildL : List Value → List (Nat × Nat × Value) → Option (List Value)
  | c, [] => some c
  | c, (off, size, v) :: rest => bif Nat.beq v.cells.toList.length size && Nat.ble (off + size) c.length then buildL (spliceL c off v.cells.toList) rest else none
theorem splice_L : ∀ (vs c : List Value) (o : Nat), splice c.toArray o vs = (spliceL c o vs).toArray
  | [], _, _ => rfl
  | v :: vs, c, o => by rw [splice, spliceL, List.setIfInBounds_toArray]; exact splice_L vs _ _
theorem fillv_L : ∀ (ps : List (Nat × Nat × Value)) (c vs : List Value), buildL c ps = some vs → fillv c.toArray ps = some vs.toArray
  | [], c, vs, h => by simp [buildL] at h; subst h; rfl
  | (off, size, v) :: rest, c, vs, h => by
    rw [buildL] at h
    cases hb : (Nat.beq v.cells.toList.length size && Nat.ble (off + size) c.length) with
    | false => rw [hb] at h; cases h
    | true =>
      rw [hb] at h
      simp only [Bool.and_eq_true, Nat.beq_eq, Nat.ble_eq] at hb
      have hs : v.cells.size = size := by simpa using hb.1
      have hf := fold_splice off v.cells.toList 0 c.toArray
      rw [Nat.add_zero, splice_L] at hf
      have hf2 : (v.cells.zipIdx.foldl (fun cs (x : Value × Nat) => cs.setIfInBounds (off + x.2) x.1) c.toArray) = (spliceL c off v.cells.toList).toArray := by
        rw [← hf, ← Array.foldl_toList, Array.toList_zipIdx]
      rw [fillv, if_neg (by simp [hs]; omega)]
      exact (congrArg (fun x => fillv x rest) hf2).trans (fillv_L rest _ _ h)
theorem build_at {zs : List Value} {ps : List (Nat × Nat × Value)} {vs : List Value} (h : buildL zs ps = some vs) : buildv zs.toArray ps = some (.agg vs.toArray) := by
  unfold buildv
  rw [fillv_L ps zs vs h]; rfl
theorem BND_build {zs : List Value} {ps : List (Nat × Nat × Value)} {k : Value → Prop} (vs : List Value) (h : buildL zs ps = some vs) (hk : k (.agg vs.toArray)) : BND (buildv zs.toArray ps) k := ⟨_, build_at h, hk⟩
/-! ## Steps that need no fact -/
class Ev (o : Option Value) (v : outParam Value) : Prop where
  h : o = some v
theorem stp {o : Option Value} {v : Value} {k : Value → Prop} [h : Ev o v] (hk : k v) : BND o k := ⟨v, h.h, hk⟩
section
variable {t : TK} {k : IntKind} {a b : Int} {p q : Bool} {x y z : Value} {s u : ByteArray}
instance : Ev (some x) x := ⟨rfl⟩
instance {off b o : Nat} : Ev (faddr off (.pointer (some ⟨b, o, none⟩))) (.pointer (some ⟨b, o + off, none⟩)) := ⟨faddr_ptr _ _ _⟩
instance {c : Addr} : Ev (nilchk (.pointer (some c))) (.pointer (some c)) := ⟨rfl⟩
instance {f : Nat} {c d : Array Value} : Ev (nilchk (.func (.func f) c d)) (.func (.func f) c d) := ⟨rfl⟩
instance : Ev (binv t .lss (.int k a) (.int k b)) (.bool (decide (a < b))) := ⟨binv_lss _ _ _ _⟩
instance : Ev (binv t .leq (.int k a) (.int k b)) (.bool (decide (a ≤ b))) := ⟨binv_leq _ _ _ _⟩
instance : Ev (binv t .gtr (.int k a) (.int k b)) (.bool (decide (b < a))) := ⟨binv_gtr _ _ _ _⟩
instance : Ev (binv t .geq (.int k a) (.int k b)) (.bool (decide (b ≤ a))) := ⟨binv_geq _ _ _ _⟩
instance : Ev (binv t .eql (.int k a) (.int k b)) (.bool (decide (a = b))) := ⟨binv_eql _ _ _ _⟩
instance : Ev (binv t .neq (.int k a) (.int k b)) (.bool (!decide (a = b))) := ⟨binv_neq _ _ _ _⟩
instance : Ev (binv .str .eql (.string s) (.string u)) (.bool (decide (s = u))) := ⟨steq _ _⟩
instance : Ev (binv .str .neq (.string s) (.string u)) (.bool (!decide (s = u))) := ⟨stne _ _⟩
instance : Ev (binv .bool .eql (.bool p) (.bool q)) (.bool (p == q)) := ⟨rfl⟩
instance : Ev (binv .bool .neq (.bool p) (.bool q)) (.bool (p != q)) := ⟨rfl⟩
instance {c : Addr} : Ev (binv .ptr .eql (.pointer (some c)) (.pointer none)) (.bool false) := ⟨rfl⟩
instance {c : Addr} : Ev (binv .ptr .neq (.pointer (some c)) (.pointer none)) (.bool true) := ⟨rfl⟩
instance : Ev (binv .ptr .eql (.pointer none) (.pointer none)) (.bool true) := ⟨rfl⟩
instance : Ev (binv .ptr .neq (.pointer none) (.pointer none)) (.bool false) := ⟨rfl⟩
instance : Ev (lens (.string s)) (.int .i64 s.size) := ⟨rfl⟩
instance {c : Option Addr} {n m : Nat} : Ev (lenl (.slice c n m)) (.int .i64 n) := ⟨rfl⟩
instance : Ev (unv .not (.bool p)) (.bool (!p)) := ⟨rfl⟩
instance : Ev (pickv (.bool true) x y) x := ⟨rfl⟩
instance : Ev (pickv (.bool false) x y) y := ⟨rfl⟩
instance : Ev (extractv (.tuple #[x, y]) 0) x := ⟨rfl⟩
instance : Ev (extractv (.tuple #[x, y]) 1) y := ⟨rfl⟩
instance : Ev (extractv (.tuple #[x, y, z]) 0) x := ⟨rfl⟩
instance : Ev (extractv (.tuple #[x, y, z]) 1) y := ⟨rfl⟩
instance : Ev (extractv (.tuple #[x, y, z]) 2) z := ⟨rfl⟩
end
/-- what a bool says. -/
class Dc (b : Bool) (p : outParam Prop) : Prop where
  h : b = true ↔ p
instance {p : Prop} [Decidable p] : Dc (decide p) p := ⟨by simp⟩
instance {p : Prop} [Decidable p] : Dc (!decide p) (¬ p) := ⟨by simp⟩
theorem cyes {b : Bool} {p : Prop} [d : Dc b p] {t e : Prop} (h : p) (ht : t) : COND (.bool b) t e := .yes (by rw [d.h.2 h]) ht
theorem cno {b : Bool} {p : Prop} [d : Dc b p] {t e : Prop} (h : ¬ p) (he : e) : COND (.bool b) t e := .no (by
  cases hb : b with
  | true => exact absurd (d.h.1 hb) h
  | false => rfl) he
theorem gs1 : (∀ {p : Prop} [Decidable p], p → decide p = true) ∧ (∀ {p : Prop} [Decidable p], ¬ p → decide p = false) := ⟨fun h => decide_eq_true h, fun h => decide_eq_false h⟩
theorem gs2 : isB (.bool true) true = true ∧ isB (.bool true) false = false ∧ isB (.bool false) true = false ∧ isB (.bool false) false = true ∧ (∀ o, grd true o = o) ∧ (∀ o, grd false o = some undef) ∧
    (∀ f w k, GEF true f w k ↔ f k) ∧ (∀ f w k, GEF false f w k ↔ k undef w) ∧ (∀ a b : Value, pickv (.bool true) a b = some a) ∧ (∀ a b : Value, pickv (.bool false) a b = some b) ∧ (∀ t e, COND (.bool true) t e ↔ t) ∧ (∀ t e, COND (.bool false) t e ↔ e) ∧ (∀ c, isB undef c = false) :=
  ⟨rfl, rfl, rfl, rfl, fun _ => rfl, fun _ => rfl, GEF_true, GEF_false, fun _ _ => rfl, fun _ _ => rfl, COND_true, COND_false, fun _ => rfl⟩
/-- a loop whose one variable counts up. -/
theorem loop_up {B : (Value → World → Prop) → (Value → World → Nat) → Value → World → Prop} {w : World} (s n : Nat) (I : Nat → World → Prop) (h0 : I s w) (hs : s ≤ n)
    (h : ∀ i w1, s ≤ i → i ≤ n → I i w1 → ∀ J m, (∀ w', i < n → I (i + 1) w' → J (.int .i64 ((i + 1 : Nat) : Int)) w' ∧ m (.int .i64 ((i + 1 : Nat) : Int)) w' < m (.int .i64 (i : Int)) w1) → B J m (.int .i64 (i : Int)) w1) :
    ∃ (J : Value → World → Prop) (m : Value → World → Nat), J (.int .i64 (s : Int)) w ∧ ∀ (_d : Env) (t : Value) (w1 : World), J t w1 → B J m t w1 := by
  refine ⟨fun t w' => ∃ i : Nat, t = .int .i64 i ∧ s ≤ i ∧ i ≤ n ∧ I i w', fun t _ => match t with | .int _ k => n - k.toNat | _ => 0, ⟨s, rfl, Nat.le_refl _, hs, h0⟩, ?_⟩
  rintro _ _ w1 ⟨i, rfl, h1, h2, h3⟩
  exact h i w1 h1 h2 h3 _ _ fun w' h4 h5 => ⟨⟨i + 1, rfl, by omega, by omega, h5⟩, by simp; omega⟩
/-- a loop of something made, and a variable that counts up. -/
theorem loop_up2 {B : (Value → Value → World → Prop) → (Value → Value → World → Nat) → Value → Value → World → Prop} {w : World} {o : Value} (s n : Nat) (I : Value → Nat → World → Prop) (h0 : I o s w) (hs : s ≤ n)
    (h : ∀ o i w1, s ≤ i → i ≤ n → I o i w1 → ∀ J m, (∀ o' w', i < n → I o' (i + 1) w' → J o' (.int .i64 ((i + 1 : Nat) : Int)) w' ∧ m o' (.int .i64 ((i + 1 : Nat) : Int)) w' < m o (.int .i64 (i : Int)) w1) → B J m o (.int .i64 (i : Int)) w1) :
    ∃ (J : Value → Value → World → Prop) (m : Value → Value → World → Nat), J o (.int .i64 (s : Int)) w ∧ ∀ (_d : Env) (o t : Value) (w1 : World), J o t w1 → B J m o t w1 := by
  refine ⟨fun o t w' => ∃ i : Nat, t = .int .i64 i ∧ s ≤ i ∧ i ≤ n ∧ I o i w', fun _ t _ => match t with | .int _ k => n - k.toNat | _ => 0, ⟨s, rfl, Nat.le_refl _, hs, h0⟩, ?_⟩
  rintro _ o _ w1 ⟨i, rfl, h1, h2, h3⟩
  exact h o i w1 h1 h2 h3 _ _ fun o' w' h4 h5 => ⟨⟨i + 1, rfl, by omega, by omega, h5⟩, by simp; omega⟩
/-- two ways that meet: what is known there. -/
theorem join_w {f : (World → Prop) → Prop} {k : World → Prop} (Q : World → Prop) (h : ∀ K, (∀ w', Q w' → K w') → f K) (hk : ∀ w', Q w' → k w') : JOIN f k := h k hk
theorem join_v {f : (Value → World → Prop) → Prop} {k : Value → World → Prop} (Q : Value → World → Prop) (h : ∀ K, (∀ v w', Q v w' → K v w') → f K) (hk : ∀ v w', Q v w' → k v w') : JOIN f k := h k hk

section
variable {α : Type} {enc : α → List Value} {sz : Nat} {w w' : World} {v : Value} {xs : List α} {F : List Nat} {i : Nat} {x : α}
/-- where an element stands. -/
theorem Arr.spot (h : Arr enc sz w v xs) (hx : xs[i]? = some x) (hl : (enc x).length = sz) (k : IntKind) :
    ∃ b o, iaddr sz v (.int k (i : Int)) = some (.pointer (some ⟨b, o, none⟩)) ∧ loadn sz w (.pointer (some ⟨b, o, none⟩)) = some (.agg (enc x).toArray) ∧ b < hsz w ∧
      ∀ {w'}, blk w' b = blk w b → ∀ {j u}, (enc x)[j]? = some u → load1 w' (.pointer (some ⟨b, o + j, none⟩)) = some u := by
  obtain ⟨p, e1, e2, e3⟩ := h.at hx hl k
  obtain ⟨a, cap, rfl, h⟩ := h
  have hi : i < xs.length := (List.getElem?_eq_some_iff.1 hx).1
  rcases h with rfl | ⟨b, o, c, T, fz, rfl, h2, h3⟩
  · simp at hi
  · have ep : p = .pointer (some ⟨b, o + i * sz, none⟩) := by simp [Den.iaddr, hi, add_none] at e1; exact e1.symm
    subst ep
    refine ⟨b, o + i * sz, e1, e2, blk_lt h2, fun hb j u hj => ?_⟩
    rw [load1_blk (hb.trans h2)]
    have hjl : j < sz := by have := (List.getElem?_eq_some_iff.1 hj).1; omega
    rw [(h3 i x hx).2 j hjl, hj]
theorem Arr.ofLen {v2 : Value} (h : Arr enc sz w v xs) (hv : v2 = v) : Arr enc sz w v2 xs := hv ▸ h
theorem Arr.le (h : Arr enc sz w v xs) : ∃ a c, v = .slice a xs.length c := by obtain ⟨a, c, e, _⟩ := h; exact ⟨a, c, e⟩
/-- where an element of a slice that came in stands. -/
def elemP (sz : Nat) (v : Value) (i : Nat) : Value :=
  match v with
  | .slice (some a) _ _ => .pointer (some (a.add (i * sz)))
  | _ => .pointer none
theorem Arr.ui (h : Arr enc sz w v xs) (n : Int) (hx : 0 ≤ n ∧ xs[n.toNat]? = some x) {k : IntKind} : Den.iaddr sz v (.int k n) = some (elemP sz v n.toNat) := by
  obtain ⟨a, cap, rfl, h⟩ := h
  obtain ⟨h0, hx⟩ := hx
  have hi : n.toNat < xs.length := (List.getElem?_eq_some_iff.1 hx).1
  rcases h with rfl | ⟨b, o, c, T, fz, rfl, h2, h3⟩
  · simp at hi
  · simp only [Den.iaddr, elemP]
    rw [if_pos (by omega)]
theorem Arr.ul (h : Arr enc 1 w v xs) {u : Value} (hx : (xs[i]?).bind (fun x => (enc x)[0]?) = some u) : Den.load1 w (elemP 1 v i) = some u := by
  cases hy : xs[i]? with
  | none => simp [hy] at hx
  | some x =>
    simp [hy] at hx
    obtain ⟨a, cap, rfl, h⟩ := h
    have hi : i < xs.length := (List.getElem?_eq_some_iff.1 hy).1
    rcases h with rfl | ⟨b, o, c, T, fz, rfl, h2, h3⟩
    · simp at hi
    · simp only [elemP, add_none]
      have := (h3 i x hy).2 0 (by omega)
      rw [Nat.add_zero] at this
      rw [load1_blk h2, this, hx]
theorem Arr.bui {k : Value → Prop} (h : Arr enc sz w v xs) {n : Int} {kk : IntKind} (hx : 0 ≤ n ∧ xs[n.toNat]? = some x) (hk : k (elemP sz v n.toNat)) : BND (Den.iaddr sz v (.int kk n)) k := ⟨_, h.ui n hx, hk⟩
theorem Arr.bul {k : Value → Prop} (h : Arr enc 1 w v xs) {u : Value} (hx : (xs[i]?).bind (fun x => (enc x)[0]?) = some u) (hk : k u) : BND (Den.load1 w (elemP 1 v i)) k := ⟨_, h.ul hx, hk⟩
theorem FLT_ul {S : World → Prop} {k : Value → Prop} (h : ∀ w, S w → Arr enc 1 w v xs) {u : Value} (hx : (xs[i]?).bind (fun x => (enc x)[0]?) = some u) (hk : k u) : FLT S (fun w_ => Den.load1 w_ (elemP 1 v i)) k := ⟨u, fun w hw => (h w hw).ul hx, hk⟩
/-- a field is given a value. -/
theorem fstore_step {T TT j : Nat} {fs : List Value} {u : Value} {K : World → Prop} (g : blk w T = some (.cells fs.toArray TT (0, 0))) (hu : u.cells = #[u] ∧ u.oneCell' = true) (hj : j < fs.length)
    (h : ∀ w', blk w' T = some (.cells (fs.set j u).toArray TT (0, 0)) → Fr [T] w w' → hsz w' = hsz w → K w') : BND (storev 1 w (.pointer (some ⟨T, j, none⟩)) u) K := by
  refine BND_step (storev1_blk g (by simpa using hj) hu.1 hu.2) ?_
  refine h _ ?_ (Fr.setB (.inl (by simp)) _) (by simp)
  rw [blk_setB_same g, List.setIfInBounds_toArray]
/-- its length is within its capacity. -/
def Capd (v : Value) : Prop := ∃ a n c, v = .slice a n c ∧ n ≤ c
theorem Slc.capd (h : Slc enc sz w v xs F) : Capd v := by
  rcases h with ⟨rfl, _, _⟩ | ⟨b, cap, c, T, rfl, _, hc, _⟩
  · exact ⟨none, 0, 0, rfl, Nat.le_refl _⟩
  · exact ⟨_, _, _, rfl, hc⟩
end
end Go.Den
