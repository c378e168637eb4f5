/- Things that lie apart in memory: which blocks each has; one is changed, the others stay. No condition. -/
import Derived.Test.YthlmkjkjebcpfaaWalk
namespace Go.Den
/-- what is said of memory, and of which blocks. -/
structure HP where
  p : World → List Nat → Prop
  lt : ∀ {w F}, p w F → ∀ b ∈ F, b < hsz w
  st : ∀ {w w' F}, p w F → (∀ b ∈ F, blk w' b = blk w b) → p w' F
theorem HP.fr (P : HP) {w w' : World} {F G : List Nat} (h : P.p w F) (f : Fr G w w') (hd : ∀ b ∈ F, b ∉ G) : P.p w' F := P.st h fun b hb => f.keep b (P.lt h b hb) (hd b hb)
def pts (b : Nat) (cs : List Value) : HP where
  p w F := (∃ T, blk w b = some (.cells cs.toArray T (0, 0))) ∧ F = [b]
  lt := by rintro w F ⟨⟨T, h⟩, rfl⟩ c hc; simp at hc; subst hc; exact blk_lt h
  st := by rintro w w' F ⟨⟨T, h⟩, rfl⟩ hk; exact ⟨⟨T, by rw [hk b (by simp), h]⟩, rfl⟩
def slc {α : Type} (enc : α → List Value) (sz : Nat) (v : Value) (xs : List α) : HP where
  p w F := Slc enc sz w v xs F
  lt := fun h => h.lt
  st := fun h hk => h.congr hk
def pure_ (φ : Prop) : HP where
  p _ F := φ ∧ F = []
  lt := by rintro w F ⟨_, rfl⟩ b hb; simp at hb
  st := fun h _ => h
def ex {α : Type} (f : α → HP) : HP where
  p w F := ∃ a, (f a).p w F
  lt := by rintro w F ⟨a, h⟩; exact (f a).lt h
  st := by rintro w w' F ⟨a, h⟩ hk; exact ⟨a, (f a).st h hk⟩
def star (P Q : HP) : HP where
  p w F := ∃ A B, P.p w A ∧ Q.p w B ∧ F = A ++ B ∧ ∀ b ∈ A, b ∉ B
  lt := by
    rintro w F ⟨A, B, h1, h2, rfl, _⟩ b hb
    rcases List.mem_append.1 hb with hb | hb
    · exact P.lt h1 b hb
    · exact Q.lt h2 b hb
  st := by
    rintro w w' F ⟨A, B, h1, h2, rfl, hd⟩ hk
    exact ⟨A, B, P.st h1 fun b hb => hk b (by simp [hb]), Q.st h2 fun b hb => hk b (by simp [hb]), rfl, hd⟩
def emp : HP := pure_ True
def stars : List HP → HP
  | [] => emp
  | P :: ps => star P (stars ps)
theorem stars_upd : ∀ (ps : List HP) (i : Nat) (P : HP) {w : World} {F : List Nat}, ps[i]? = some P → (stars ps).p w F → ∃ A, P.p w A ∧ (∀ b ∈ A, b ∈ F) ∧
    ∀ w' A' P', P'.p w' A' → Fr A w w' → (∀ b ∈ A', b ∈ A ∨ hsz w ≤ b) → ∃ F', (stars (ps.set i P')).p w' F' ∧ ∀ b ∈ F', b ∈ F ∨ hsz w ≤ b
  | [], i, P, w, F, hi, _ => by simp at hi
  | Q :: ps, 0, P, w, F, hi, h => by
    simp at hi; subst hi
    obtain ⟨A, B, h1, h2, rfl, hd⟩ := h
    refine ⟨A, h1, fun b hb => by simp [hb], fun w' A' P' h' f sub => ⟨A' ++ B, ⟨A', B, h', (stars ps).fr h2 f fun b hb hb' => hd b hb' hb, rfl, fun b hb hb' => ?_⟩, fun b hb => ?_⟩⟩
    · rcases sub b hb with hx | hx
      · exact hd b hx hb'
      · have := (stars ps).lt h2 b hb'; omega
    · rcases List.mem_append.1 hb with hb | hb
      · rcases sub b hb with hx | hx
        · exact .inl (by simp [hx])
        · exact .inr hx
      · exact .inl (by simp [hb])
  | Q :: ps, i + 1, P, w, F, hi, h => by
    obtain ⟨A, B, h1, h2, rfl, hd⟩ := h
    obtain ⟨C, h3, h4, h5⟩ := stars_upd ps i P (by simpa using hi) h2
    refine ⟨C, h3, fun b hb => by simp [h4 b hb], fun w' A' P' h' f sub => ?_⟩
    obtain ⟨F', h6, h7⟩ := h5 w' A' P' h' f sub
    refine ⟨A ++ F', ⟨A, F', Q.fr h1 f (fun b hb hb' => hd b hb (h4 b hb')), h6, rfl, fun b hb hb' => ?_⟩, fun b hb => ?_⟩
    · rcases h7 b hb' with hx | hx
      · exact hd b hb hx
      · have := Q.lt h1 b hb; omega
    · rcases List.mem_append.1 hb with hb | hb
      · exact .inl (by simp [hb])
      · rcases h7 b hb with hx | hx
        · exact .inl (by simp [hx])
        · exact .inr hx
theorem stars_get : ∀ (ps : List HP) (i : Nat) (P : HP) {w : World} {F : List Nat}, ps[i]? = some P → (stars ps).p w F → ∃ A, P.p w A ∧ ∀ b ∈ A, b ∈ F := fun ps i P w F hi h => by
  obtain ⟨A, h1, h2, _⟩ := stars_upd ps i P hi h
  exact ⟨A, h1, h2⟩

/-- since w0 only blocks of F0 have changed, of those that were there; P is said of some of these and of new ones. -/
def At (w0 : World) (F0 : List Nat) (P : HP) (w : World) : Prop := ∃ F, P.p w F ∧ (∀ b ∈ F, b ∈ F0 ∨ hsz w0 ≤ b) ∧ Fr F0 w0 w
section
variable {w0 w w' : World} {F0 : List Nat} {P Q : HP} {ps : List HP}
theorem At.start (h : P.p w F0) : At w F0 P w := ⟨F0, h, fun _ hb => .inl hb, Fr.refl _ _⟩
theorem At.frame (h : At w0 F0 P w) : Fr F0 w0 w := by obtain ⟨F, _, _, h⟩ := h; exact h
theorem At.fr0 (h : At w0 F0 P w) (f : Fr [] w w') : At w0 F0 P w' := by
  obtain ⟨F, h1, h2, h3⟩ := h
  exact ⟨F, P.fr h1 f (by simp), h2, h3.trans' f.nil⟩
theorem At.upd (h : At w0 F0 (stars ps) w) (i : Nat) {P : HP} (hi : ps[i]? = some P) : ∃ A, P.p w A ∧ ∀ w' A' P', P'.p w' A' → Fr A w w' → (∀ b ∈ A', b ∈ A ∨ hsz w ≤ b) → At w0 F0 (stars (ps.set i P')) w' := by
  obtain ⟨F, h1, h2, h3⟩ := h
  obtain ⟨A, h4, h5, h6⟩ := stars_upd ps i P hi h1
  have gr := h3.grow
  refine ⟨A, h4, fun w' A' P' h' f sub => ?_⟩
  obtain ⟨F', h7, h8⟩ := h6 w' A' P' h' f sub
  refine ⟨F', h7, fun b hb => ?_, h3.trans f fun b hb => h2 b (h5 b hb)⟩
  rcases h8 b hb with hx | hx
  · exact h2 b hx
  · exact .inr (by omega)
theorem At.get (h : At w0 F0 (stars ps) w) (i : Nat) {P : HP} (hi : ps[i]? = some P) : ∃ A, P.p w A ∧ ∀ b ∈ A, b ∈ F0 ∨ hsz w0 ≤ b := by
  obtain ⟨F, h1, h2, h3⟩ := h
  obtain ⟨A, h4, h5⟩ := stars_get ps i P hi h1
  exact ⟨A, h4, fun b hb => h2 b (h5 b hb)⟩
theorem At.add (h : At w0 F0 (stars ps) w) (f : Fr [] w w') {P : HP} {A : List Nat} (hP : P.p w' A) (hA : ∀ b ∈ A, hsz w ≤ b) : At w0 F0 (stars (P :: ps)) w' := by
  obtain ⟨F, h1, h2, h3⟩ := h
  have gr := h3.grow
  refine ⟨A ++ F, ⟨A, F, hP, (stars ps).fr h1 f (by simp), rfl, fun b hb hb' => ?_⟩, fun b hb => ?_, h3.trans' f.nil⟩
  · have := (stars ps).lt h1 b hb'; have := hA b hb; omega
  · rcases List.mem_append.1 hb with hb | hb
    · have := hA b hb; exact .inr (by omega)
    · exact h2 b hb
theorem At.nothing (w : World) : At w [] (stars []) w := ⟨[], ⟨trivial, rfl⟩, by simp, Fr.refl _ _⟩
theorem At.add0 (h : At w0 F0 (stars ps) w) {P : HP} (hP : P.p w []) : At w0 F0 (stars (P :: ps)) w := by
  obtain ⟨F, h1, h2, h3⟩ := h
  exact ⟨F, ⟨[], F, hP, h1, rfl, by simp⟩, h2, h3⟩
theorem At.cell {i b : Nat} {cs : List Value} (h : At w0 F0 (stars ps) w) (hi : ps[i]? = some (pts b cs)) : ∃ T, blk w b = some (.cells cs.toArray T (0, 0)) := by
  obtain ⟨A, ⟨h1, _⟩, _⟩ := h.get i hi
  exact h1
/-- a field of a block is given a value. -/
theorem At.store {i b j : Nat} {cs : List Value} {u : Value} {K : World → Prop} (h : At w0 F0 (stars ps) w) (hi : ps[i]? = some (pts b cs)) (hu : u.cells = #[u] ∧ u.oneCell' = true) (hj : j < cs.length)
    (hK : ∀ w', At w0 F0 (stars (ps.set i (pts b (cs.set j u)))) w' → Fr [b] w w' → K w') : BND (storev 1 w (.pointer (some ⟨b, j, none⟩)) u) K := by
  obtain ⟨A, ⟨⟨T, h1⟩, rfl⟩, upd⟩ := h.upd i hi
  exact fstore_step h1 hu hj fun w' b' f' _ => hK w' (upd w' [b] (pts b (cs.set j u)) ⟨⟨T, b'⟩, rfl⟩ f' (fun _ hb => .inl hb)) f'
/-- a whole block is given values. -/
theorem At.put {i b n : Nat} {cs vs : List Value} {K : World → Prop} (h : At w0 F0 (stars ps) w) (hi : ps[i]? = some (pts b cs)) (hz : cs.length = n) (hv : vs.length = n) (h1 : ∀ u ∈ vs, u.oneCell' = true) (hn : vs ≠ [])
    (hK : ∀ w', At w0 F0 (stars (ps.set i (pts b vs))) w' → Fr [b] w w' → K w') : BND (storev n w (.pointer (some ⟨b, 0, none⟩)) (.agg vs.toArray)) K := by
  obtain ⟨A, ⟨⟨T, h2⟩, rfl⟩, upd⟩ := h.upd i hi
  exact put_step h2 (by simpa using hz) hv h1 hn fun w' b' f' _ => hK w' (upd w' [b] (pts b vs) ⟨⟨T, b'⟩, rfl⟩ f' (fun _ hb => .inl hb)) f'
/-- things are put behind a slice. -/
theorem At.append2 {α : Type} {enc : α → List Value} {sz i E bytes : Nat} {zero v u : Value} {xs ys : List α} {K : Value → World → Prop} (h : At w0 F0 (stars ps) w) (hi : ps[i]? = some (slc enc sz v xs)) (hu : cellsOfArg w sz u = some (flat enc ys, ys.length))
    (hl : ∀ x, (enc x).length = sz) (hl1 : ∀ x, ∀ u ∈ enc x, u.oneCell' = true) (hz : zero.cells.size = sz) (hb : (xs.length + ys.length) * bytes ≤ 140737488355328) (hmax : xs.length + ys.length ≤ 9223372036854775807)
    (hK : ∀ v' w', At w0 F0 (stars (ps.set i (slc enc sz v' (xs ++ ys)))) w' → v'.cells = #[v'] ∧ v'.oneCell' = true → K v' w') : APPEND E sz bytes zero v u w K := by
  obtain ⟨A, hA, upd⟩ := h.upd i hi
  have hA' : Slc enc sz w v xs A := hA
  exact APPEND_slc hA' hu hl hl1 hz hb hmax fun v' w' F' s' f' sub => hK v' w' (upd w' F' (slc enc sz v' (xs ++ ys)) s' f' sub) s'.one
theorem At.append {α : Type} {enc : α → List Value} {sz i E bytes : Nat} {zero v u : Value} {xs ys : List α} {K : Value → World → Prop} (h : At w0 F0 (stars ps) w) (hi : ps[i]? = some (slc enc sz v xs)) (hu : cellsOfArg w sz u = some (flat enc ys, ys.length))
    (hl : ∀ x, (enc x).length = sz) (hl1 : ∀ x, ∀ u ∈ enc x, u.oneCell' = true) (hz : zero.cells.size = sz) (hb : bytes ≤ 1000) (hmax : xs.length + ys.length < 100000000000)
    (hK : ∀ v' w', At w0 F0 (stars (ps.set i (slc enc sz v' (xs ++ ys)))) w' → v'.cells = #[v'] ∧ v'.oneCell' = true → K v' w') : APPEND E sz bytes zero v u w K :=
  h.append2 hi hu hl hl1 hz (Nat.le_trans (Nat.mul_le_mul_left _ hb) (by omega)) (by omega) hK
theorem At.slc1 {α : Type} {enc : α → List Value} {sz : Nat} {v : Value} {xs : List α} (h : At w0 F0 (stars ps) w) {i : Nat} (hi : ps[i]? = some (slc enc sz v xs)) : ∃ F, Slc enc sz w v xs F ∧ ∀ b ∈ F, b ∈ F0 ∨ hsz w0 ≤ b := h.get i hi
theorem At.arr {α : Type} {enc : α → List Value} {sz : Nat} {v : Value} {xs : List α} (h : At w0 F0 (stars ps) w) {i : Nat} (hi : ps[i]? = some (slc enc sz v xs)) : Arr enc sz w v xs := by
  obtain ⟨F, h1, _⟩ := h.slc1 hi
  exact h1.arr
theorem At.swap {P Q : HP} (h : At w0 F0 (stars (P :: Q :: ps)) w) : At w0 F0 (stars (Q :: P :: ps)) w := by
  obtain ⟨F, ⟨A, B, p1, ⟨C, D, p2, p3, rfl, p4⟩, rfl, p5⟩, p6, p7⟩ := h
  refine ⟨C ++ (A ++ D), ⟨C, A ++ D, p2, ⟨A, D, p1, p3, rfl, fun b hb hd => p5 b hb (by simp [hd])⟩, rfl, fun b hb hd => ?_⟩, fun b hb => p6 b ?_, p7⟩
  · rcases List.mem_append.1 hd with hd | hd
    · exact p5 b hd (by simp [hb])
    · exact p4 b hb hd
  · simp only [List.mem_append] at hb ⊢
    rcases hb with h | h | h
    · exact .inr (.inl h)
    · exact .inl h
    · exact .inr (.inr h)
theorem At.base {w1 : World} (f : Fr [] w0 w1) (h : At w1 [] P w) : At w0 [] P w := by
  obtain ⟨F, h1, h2, h3⟩ := h
  have := f.grow
  exact ⟨F, h1, fun b hb => .inr (by have := (h2 b hb).resolve_left (by simp); omega), f.trans' h3⟩
theorem At.tail (h : At w0 F0 (stars (P :: ps)) w) : At w0 F0 (stars ps) w := by
  obtain ⟨F, ⟨A, B, h1, h2, rfl, _⟩, h3, h4⟩ := h
  exact ⟨B, h2, fun b hb => h3 b (by simp [hb]), h4⟩
end
/-! ## Structs compared -/
theorem eqCells_int {o : Nat} {k : IntKind} {r : List (Nat × TypeDesc)} {xs ys : List Value} {a b : Int} (hx : xs[o]? = some (.int k a)) (hy : ys[o]? = some (.int k b)) : eqCells ((o, .int k) :: r) xs.toArray ys.toArray = if a = b then eqCells r xs.toArray ys.toArray else some false := by
  rw [eqCells]
  simp only [List.getElem?_toArray, hx, hy, eqCell, if_true, beq_dec]
  by_cases h : a = b <;> simp [h]
theorem eqCells_bool {o : Nat} {r : List (Nat × TypeDesc)} {xs ys : List Value} {a b : Bool} (hx : xs[o]? = some (.bool a)) (hy : ys[o]? = some (.bool b)) : eqCells ((o, .bool) :: r) xs.toArray ys.toArray = if a = b then eqCells r xs.toArray ys.toArray else some false := by
  rw [eqCells]
  simp only [List.getElem?_toArray, hx, hy, eqCell]
  cases a <;> cases b <;> rfl
theorem eqCells_str {o : Nat} {r : List (Nat × TypeDesc)} {xs ys : List Value} {a b : ByteArray} (hx : xs[o]? = some (.string a)) (hy : ys[o]? = some (.string b)) : eqCells ((o, .string) :: r) xs.toArray ys.toArray = if a = b then eqCells r xs.toArray ys.toArray else some false := by
  have hs : (a.toList == b.toList) = decide (a = b) := by
    have h := steq a b
    simpa [binv, bins] using h
  rw [eqCells]
  simp only [List.getElem?_toArray, hx, hy, eqCell, hs]
  by_cases h : a = b <;> simp [h]
theorem eqCells_nil {xs ys : List Value} : eqCells [] xs.toArray ys.toArray = some (decide True) := by simp [eqCells]
theorem ite_and_d {p q : Prop} [Decidable p] [Decidable q] : (if p then some (decide q) else some false) = some (decide (p ∧ q)) := by
  by_cases h : p <;> simp [h]
theorem eqagg_ne {ks : List (Nat × TypeDesc)} {xs ys : List Value} {b : Bool} (h : eqCells ks xs.toArray ys.toArray = some b) : eqaggv ks .neq (.agg xs.toArray) (.agg ys.toArray) = some (.bool !b) := by
  simp [eqaggv, h, binn]
theorem eqagg_eq {ks : List (Nat × TypeDesc)} {xs ys : List Value} {b : Bool} (h : eqCells ks xs.toArray ys.toArray = some b) : eqaggv ks .eql (.agg xs.toArray) (.agg ys.toArray) = some (.bool b) := by
  simp [eqaggv, h, binn]
end Go.Den
