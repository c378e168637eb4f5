
/- Each word of 'den' says what the model's operation does: the proofs, operation by operation. No condition. -/
import Derived.Test.YtpgflmjeedbimaaGreatDen
import Derived.Laws.StructEq
import Derived.Laws.AppendOwn
import Derived.Lib.OthersKept
import Derived.Laws.IdiomStrings
import Derived.Laws.Cover4
import Derived.Laws.BytesString
import Derived.Laws.IdiomRangeMap
import Derived.Laws.MakeOwn
import Derived.LaidEql
set_option linter.unusedVariables false
set_option linter.unusedSimpArgs false
namespace Go.Den
section
variable {P : Program}

theorem ok_eff0 {s : Sem Unit} {g : World → Option World} (h : ∀ w w', g w = some w' → s.run P w = .ok () w') :
    (OpSem.eff fun w k => BND (g w) fun w' => k undef w').ok P (do s; pure .skip) := by
  refine ⟨fun w k hk => ?_, fun w k k' hkk hk => BND_mono (fun w' h => hkk _ _ h) hk⟩
  obtain ⟨w', hw, hk⟩ := BND_iff.1 hk
  simp only [Sem.run_bind, h w w' hw, Result.andThen_ok, Sem.run_pure, Upon]
  exact hk
theorem NEW_iff {p : Value × World} {k : Value → World → Prop} : NEW p k ↔ k p.1 p.2 := ⟨fun h => h.h, fun h => ⟨h⟩⟩
theorem ok_new {s : Sem Value} {g : World → Value × World} (h : ∀ w, s.run P w = .ok (g w).1 (g w).2) :
    (OpSem.eff fun w k => NEW (g w) k).ok P (do pure (.value (← s))) := by
  refine ⟨fun w k hk => ?_, fun w k k' hkk hk => ⟨hkk _ _ hk.h⟩⟩
  simp only [Sem.run_bind, h w, Result.andThen_ok, Sem.run_pure, Upon]
  exact hk.h

theorem ok_pick (c a b : Value) : (OpSem.pure (pickv c a b)).ok P (do pure (.value (if ← asBool c then a else b))) := by
  intro v hv w
  cases c <;> simp [pickv] at hv
  rename_i t
  cases t <;> simp at hv <;> subst hv <;> simp [asBool]

theorem ok_move (v : Value) : (OpSem.val v).ok P (pure (.value v)) := fun _ => rfl

theorem run_newVar (T : TypeId) (v : Value) (w : World) : (newVar T v).run P w = .ok ⟨w.heap.size, 0, none⟩ (w.alloc (.cells v.cells T)) := by
  simp [newVar, newRow]

theorem run_box (T : TypeId) (v : Value) (w : World) : (Instr.box T v).run P w = .ok (newv T w v).1 (newv T w v).2 := by
  simp [Instr.box, run_newVar, newv]
theorem run_alloc {T : TypeId} {z : Value} (h : zeroOf P T = some z) (w : World) : (Instr.alloc T true (.tuple #[])).run P w = .ok (newv T w z).1 (newv T w z).2 := by
  simp [Instr.alloc, run_zeroValue h, run_newVar, newv]

theorem fill_eq (place : Nat → Option (Nat × Nat)) : ∀ (l : List (Nat × Value)) (cells : Array Value) (ps : List (Nat × Nat × Value)),
    (∀ j : Nat, (l[j]?).map (fun x => (place x.1).map fun y => (y.1, y.2, x.2)) = (ps[j]?).map some) → Instr.fill place cells l = fillv cells ps
  | [], cells, ps, h => by
    cases ps with
    | nil => rfl
    | cons p ps => have := h 0; simp at this
  | (i, v) :: l, cells, ps, h => by
    cases ps with
    | nil => have := h 0; simp at this
    | cons p ps =>
      have h0 := h 0
      simp at h0
      obtain ⟨a, b, hp, rfl⟩ := h0
      simp only [Instr.fill, hp, fillv]
      split
      · rfl
      · exact fill_eq place l _ ps fun j => by simpa using h (j + 1)

theorem partsOf_spec {pl : Nat → Option (Nat × Nat)} {f : Operand → Value} : ∀ {l : List (Nat × Operand)} {ps : List (Nat × Nat × Value)}, partsOf pl f l = some ps →
    ∀ j : Nat, ((l.map fun x => (x.1, f x.2))[j]?).map (fun x => (pl x.1).map fun y => (y.1, y.2, x.2)) = (ps[j]?).map some
  | [], ps, h => by simp [partsOf] at h; subst h; simp
  | (i, x) :: l, ps, h => by
    simp only [partsOf] at h
    cases hp : pl i with
    | none => simp [hp] at h
    | some y =>
      cases hq : partsOf pl f l with
      | none => simp [hp, hq] at h
      | some qs =>
        simp [hp, hq] at h
        subst h
        intro j
        cases j with
        | zero => simp [hp]
        | succ j => simpa using partsOf_spec hq j

theorem run_places : ∀ (fs : List Field), (∀ f ∈ fs, (sizeT P f.type).isSome) → ∀ w : World,
    (fs.mapM (fun f => (do pure (f.offset, ← sizeOf f.type) : Sem (Nat × Nat)))).run P w = .ok (fs.map fun f => (f.offset, (sizeT P f.type).getD 0)) w
  | [], _, w => by simp
  | f :: fs, h, w => by
    have h1 := h f (by simp)
    cases hs : sizeT P f.type with
    | none => simp [hs] at h1
    | some n =>
      simp only [List.mapM_cons, Sem.run_bind, run_sizeOf hs, Result.andThen_ok, Sem.run_pure, run_places fs (fun g hg => h g (by simp [hg])) w]
      simp [hs]

theorem run_build {t : TypeId} {z : Value} {f : Operand → Value} {l : List (Nat × Operand)} {ps : List (Nat × Nat × Value)} (hz : zeroOf P t = some z) (hall : placesAll P t = true)
    (hp : partsOf (placeOf P t) f l = some ps) {v : Value} (hv : buildv z.cells ps = some v) (w : World) :
    (Instr.build t (l.map fun x => (x.1, f x.2)).toArray).run P w = .ok v w := by
  unfold Instr.build
  simp only [Sem.run_bind, run_zeroValue hz, Result.andThen_ok]
  unfold placesAll at hall
  cases hu : P.underlying t with
  | none => simp [hu] at hall
  | some d =>
    simp only [run_underlying hu, Result.andThen_ok]
    cases d
    case struct fs =>
      simp only [hu] at hall
      have hm : (fs.mapM (fun f => (do pure (f.offset, ← sizeOf f.type) : Sem (Nat × Nat)))).run P w = .ok (fs.map fun f => (f.offset, (sizeT P f.type).getD 0)) w := by
        rw [← Array.toArray_toList (xs := fs), List.mapM_toArray, Sem.run_map, run_places fs.toList (fun f hf => List.all_eq_true.1 hall f hf)]
        simp [← List.map_toArray]
      simp only [Sem.run_bind, hm, Result.andThen_ok]
      have hf : Instr.fill (fun i => (fs.map fun f => (f.offset, (sizeT P f.type).getD 0))[i]?) z.cells (l.map fun x => (x.1, f x.2)) = fillv z.cells ps := by
        refine fill_eq _ _ _ _ fun j => ?_
        rw [← partsOf_spec hp j]
        congr 1
        funext x
        congr 1
        simp only [placeOf, hu, Array.getElem?_map]
        cases hg : fs[x.1]? with
        | none => rfl
        | some g =>
          have := List.all_eq_true.1 hall g (by simpa using Array.mem_of_getElem? hg)
          cases hs : sizeT P g.type with
          | none => simp [hs] at this
          | some n => simp [hs]
      unfold buildv at hv
      cases hq : fillv z.cells ps with
      | none => simp [hq] at hv
      | some cs => simp [hq] at hv; subst hv; simp only [hf, hq]; rfl
    case array len e =>
      simp only [hu] at hall
      cases hs : sizeT P e with
      | none => simp [hs] at hall
      | some n =>
        simp only [Sem.run_bind, run_sizeOf hs, Result.andThen_ok]
        have hf : Instr.fill (fun i => some (i * n, n)) z.cells (l.map fun x => (x.1, f x.2)) = fillv z.cells ps := by
          refine fill_eq _ _ _ _ fun j => ?_
          rw [← partsOf_spec hp j]
          simp [placeOf, hu, hs]
        unfold buildv at hv
        cases hq : fillv z.cells ps with
        | none => simp [hq] at hv
        | some cs => simp [hq] at hv; subst hv; simp [hf, hq]
    all_goals (simp only [hu] at hall; exact absurd hall (by simp))

theorem run_loadAt1 {t : TypeId} (h : aggT P t = some false) {w : World} {x v : Value} (hv : load1 w x = some v) : (Instr.loadAt t x).run P w = .ok v w := by
  unfold load1 at hv
  split at hv
  · simp [Instr.loadAt, Instr.sureAddr, loadVar, run_isAgg h, hv]
  · simp at hv
theorem run_loadAtn {t : TypeId} {n : Nat} (h : aggT P t = some true) (hs : sizeT P t = some n) {w : World} {x v : Value} (hv : loadn n w x = some v) :
    (Instr.loadAt t x).run P w = .ok v w := by
  unfold loadn at hv
  split at hv
  · rename_i a
    cases hl : loads w a 0 n with
    | none => simp [hl] at hv
    | some vs =>
      simp [hl] at hv; subst hv
      simp [Instr.loadAt, Instr.sureAddr, loadVar, run_isAgg h, run_sizeOf hs, loadCells, run_loadCellsFrom a n 0 #[] vs hl]
  · simp at hv
theorem run_storeAt {t : TypeId} {n : Nat} (hs : sizeT P t = some n) {w w' : World} {x v : Value} (hv : storev n w x v = some w') :
    (Instr.storeAt t x v).run P w = .ok () w' := by
  unfold storev at hv
  split at hv
  · rename_i a
    split at hv
    · rename_i hn
      simp [Instr.storeAt, Instr.sureAddr, storeVar, run_sizeOf hs, hn, run_storeCells a _ 0 w w' hv]
    · simp at hv
  · simp at hv

theorem ok_nilchk (x : Value) : (OpSem.pure (nilchk x)).ok P (match x with
    | .pointer none | .nilIface | .nilFunc => runtimePanic .nilDeref
    | .func (.method name) first captured =>
      match (first[0]? : Option Value) with
      | some .nilIface => runtimePanic .nilDeref
      | some (.iface t w) => do
        if (← nilAhead ((← program).types.size + Made.depth) t w name) != some false then
          unsupported (.noEntry "op/nilCheck.the method's receiver behind this interface value is a nil pointer, or cannot be seen to be none, and the arguments act or may panic (ledger 612)")
        pure (.value (.func (.method name) first captured))
      | _ => pure (.value (.func (.method name) first captured))
    | x => pure (.value x)) := by
  intro v hv w
  unfold nilchk at hv
  split at hv
  · simp at hv
  · simp at hv
  · simp at hv
  · simp at hv
  · rename_i x h1 h2 h3 h4
    simp at hv; subst hv
    split
    · exact absurd rfl h1
    · exact absurd rfl h2
    · exact absurd rfl h3
    · exact absurd rfl (h4 _ _ _)
    · rfl

theorem run_intArith (op : BinOp) (k : IntKind) (a b : Int) (v : Value) (w : World) (h : op = .add ∨ op = .sub ∨ op = .mul) (hv : bini op k a b = some v) :
    (Op.intArith op k a b).run P w = .ok v w := by
  rcases h with rfl | rfl | rfl <;> simp [bini] at hv <;> subst hv <;> simp [Op.intArith]

theorem run_binInts {op : BinOp} (hs : op ≠ .shl ∧ op ≠ .shr) {t : TypeId} {k : IntKind} {a b : Int} {v : Value} (hv : bini op k a b = some v) (w : World) :
    (binOp op t (.int k a) (.int k b)).run P w = .ok v w := by
  cases op <;> simp [bini] at hv <;> (try (obtain ⟨hb, hv⟩ := hv)) <;> (try subst hv) <;>
    simp_all [binOp, Op.intArith, Op.intDiv, Op.intBits, Op.intCmp]
theorem run_binStrs {op : BinOp} {t : TypeId} {a b : ByteArray} {v : Value} (hv : bins op a b = some v) (w : World) :
    (binOp op t (.string a) (.string b)).run P w = .ok v w := by
  cases op <;> simp [bins] at hv <;> (try (obtain ⟨hb, hv⟩ := hv)) <;> (try subst hv) <;> simp [binOp, Op.stringOp]
  omega

theorem run_eqGuard {op : BinOp} {t : TypeId} {x y : Operand} {a b : Value} (h1 : a ≠ .nilIface) (h2 : ∀ c, a ≠ .agg c) (w : World) :
    (eqGuard op t x y a b).run P w = .ok () w := by
  unfold eqGuard
  cases op <;> simp <;> split <;> simp_all

theorem run_equal_bool (d : Nat) {t : TypeId} (h : P.underlying t = some .bool) (a b : Bool) (w : World) :
    (Op.equalIn (d + 1) t (.bool a) (.bool b)).run P w = .ok (a == b) w := by
  simp [Op.equalIn, run_underlying h]
theorem run_equal_slc (d : Nat) {t e : TypeId} (h : P.underlying t = some (.slice e)) (b : Option Addr) (n c m k : Nat) (w : World) :
    (Op.equalIn (d + 1) t (.slice none n c) (.slice b m k)).run P w = .ok b.isNone w := by
  simp [Op.equalIn, run_underlying h]
theorem run_equal_slc' (d : Nat) {t e : TypeId} (h : P.underlying t = some (.slice e)) (b : Addr) (n c m k : Nat) (w : World) :
    (Op.equalIn (d + 1) t (.slice (some b) n c) (.slice none m k)).run P w = .ok false w := by
  simp [Op.equalIn, run_underlying h]
theorem run_equal_map (d : Nat) {t e g : TypeId} (h : P.underlying t = some (.map e g)) (b : Option Nat) (w : World) :
    (Op.equalIn (d + 1) t (.map none) (.map b)).run P w = .ok b.isNone w := by
  simp [Op.equalIn, run_underlying h]
theorem run_equal_map' (d : Nat) {t e g : TypeId} (h : P.underlying t = some (.map e g)) (b : Nat) (w : World) :
    (Op.equalIn (d + 1) t (.map (some b)) (.map none)).run P w = .ok false w := by
  simp [Op.equalIn, run_underlying h]
theorem run_equal_ptr (d : Nat) {t e : TypeId} (h : P.underlying t = some (.pointer e)) (b : Option Addr) (w : World) :
    (Op.equalIn (d + 1) t (.pointer none) (.pointer b)).run P w = .ok b.isNone w := by
  simp [Op.equalIn, run_underlying h]
theorem run_equal_ptr' (d : Nat) {t e : TypeId} (h : P.underlying t = some (.pointer e)) (b : Addr) (w : World) :
    (Op.equalIn (d + 1) t (.pointer (some b)) (.pointer none)).run P w = .ok false w := by
  simp [Op.equalIn, run_underlying h]

theorem run_binEq {op : BinOp} {t : TypeId} {a b : Value} {r : Bool} {v : Value} {w : World} (h : (Op.equal t a b).run P w = .ok r w) (hv : binn op r = some v)
    (h1 : ∀ k n, a ≠ .int k n) (h2 : ∀ k n, a ≠ .float k n) (h3 : ∀ k n m, a ≠ .complex k n m) (h4 : ∀ s, a ≠ .string s) : (binOp op t a b).run P w = .ok v w := by
  cases op <;> simp [binn] at hv <;> subst hv
  · unfold binOp
    split <;> simp_all
  · unfold binOp
    split <;> simp_all

theorem tk_bool {t : TypeId} (h : tkOf (P.underlying t) = .bool) : P.underlying t = some .bool := by
  unfold tkOf at h; split at h <;> simp_all
theorem tk_ptr {t : TypeId} (h : tkOf (P.underlying t) = .ptr) : ∃ e, P.underlying t = some (.pointer e) := by
  unfold tkOf at h; split at h <;> simp_all
theorem tk_slc {t : TypeId} (h : tkOf (P.underlying t) = .slc) : ∃ e, P.underlying t = some (.slice e) := by
  unfold tkOf at h; split at h <;> simp_all
theorem tk_map {t : TypeId} (h : tkOf (P.underlying t) = .map) : ∃ e f, P.underlying t = some (.map e f) := by
  unfold tkOf at h; split at h <;> simp_all

theorem run_binv {op : BinOp} {t : TypeId} {x y : Operand} {a b v : Value} (hv : binv (tkOf (P.underlying t)) op a b = some v) (w : World) :
    (do eqGuard op t x y a b; binOp op t a b : Sem Value).run P w = .ok v w := by
  have hB := tk_bool (P := P) (t := t)
  have hP := tk_ptr (P := P) (t := t)
  have hS := tk_slc (P := P) (t := t)
  have hM := tk_map (P := P) (t := t)
  generalize tkOf (P.underlying t) = tk at hv hB hP hS hM
  unfold binv at hv
  split at hv
  · simp at hv
  · simp at hv
  · split at hv
    · rename_i hs1 hs2 hk
      subst hk
      simp only [Sem.run_bind, run_eqGuard (P := P) (x := x) (y := y) (t := t) (op := op) (a := .int _ _) (by simp) (by simp) w, Result.andThen_ok]
      exact run_binInts ⟨by rintro rfl; exact hs1 rfl, by rintro rfl; exact hs2 rfl⟩ hv w
    · simp at hv
  · simp only [Sem.run_bind, run_eqGuard (P := P) (x := x) (y := y) (t := t) (op := op) (a := .string _) (by simp) (by simp) w, Result.andThen_ok]
    exact run_binStrs hv w
  · split at hv
    · rename_i hk
      simp only [Sem.run_bind, run_eqGuard (P := P) (x := x) (y := y) (t := t) (op := op) (a := .bool _) (by simp) (by simp) w, Result.andThen_ok]
      exact run_binEq (run_equal_bool 9999 (hB hk) _ _ w) hv (by simp) (by simp) (by simp) (by simp)
    · simp at hv
  · split at hv
    · rename_i hk
      obtain ⟨e, he⟩ := hS hk
      simp only [Sem.run_bind, run_eqGuard (P := P) (x := x) (y := y) (t := t) (op := op) (a := .slice _ _ _) (by simp) (by simp) w, Result.andThen_ok]
      exact run_binEq (run_equal_slc 9999 he _ _ _ _ _ w) hv (by simp) (by simp) (by simp) (by simp)
    · simp at hv
  · split at hv
    · rename_i hk
      obtain ⟨e, he⟩ := hS hk
      simp only [Sem.run_bind, run_eqGuard (P := P) (x := x) (y := y) (t := t) (op := op) (a := .slice _ _ _) (by simp) (by simp) w, Result.andThen_ok]
      exact run_binEq (run_equal_slc' 9999 he _ _ _ _ _ w) hv (by simp) (by simp) (by simp) (by simp)
    · simp at hv
  · split at hv
    · rename_i hk
      obtain ⟨e, f, he⟩ := hM hk
      simp only [Sem.run_bind, run_eqGuard (P := P) (x := x) (y := y) (t := t) (op := op) (a := .map _) (by simp) (by simp) w, Result.andThen_ok]
      exact run_binEq (run_equal_map 9999 he _ w) hv (by simp) (by simp) (by simp) (by simp)
    · simp at hv
  · split at hv
    · rename_i hk
      obtain ⟨e, f, he⟩ := hM hk
      simp only [Sem.run_bind, run_eqGuard (P := P) (x := x) (y := y) (t := t) (op := op) (a := .map _) (by simp) (by simp) w, Result.andThen_ok]
      exact run_binEq (run_equal_map' 9999 he _ w) hv (by simp) (by simp) (by simp) (by simp)
    · simp at hv
  · split at hv
    · rename_i hk
      obtain ⟨e, he⟩ := hP hk
      simp only [Sem.run_bind, run_eqGuard (P := P) (x := x) (y := y) (t := t) (op := op) (a := .pointer _) (by simp) (by simp) w, Result.andThen_ok]
      exact run_binEq (run_equal_ptr 9999 he _ w) hv (by simp) (by simp) (by simp) (by simp)
    · simp at hv
  · split at hv
    · rename_i hk
      obtain ⟨e, he⟩ := hP hk
      simp only [Sem.run_bind, run_eqGuard (P := P) (x := x) (y := y) (t := t) (op := op) (a := .pointer _) (by simp) (by simp) w, Result.andThen_ok]
      exact run_binEq (run_equal_ptr' 9999 he _ w) hv (by simp) (by simp) (by simp) (by simp)
    · simp at hv
  · simp at hv

theorem eqCells_append {X Y : Array Value} : ∀ (l2 l : List (Nat × TypeDesc)) (r : Bool), eqCells (l2 ++ l) X Y = some r → (eqCells l2 X Y = some false ∧ r = false) ∨ (eqCells l2 X Y = some true ∧ eqCells l X Y = some r)
  | [], l, r, h => .inr ⟨rfl, h⟩
  | (o, d) :: l2, l, r, h => by
    simp only [List.cons_append, eqCells] at h ⊢
    cases hx : X[o]? with
    | none => simp [hx] at h
    | some a =>
      cases hy : Y[o]? with
      | none => simp [hx, hy] at h
      | some b =>
        simp only [hx, hy] at h ⊢
        cases hc : eqCell d a b with
        | none => simp [hc] at h
        | some q =>
          cases q with
          | true => simp only [hc] at h ⊢; exact eqCells_append l2 l r h
          | false => simp [hc] at h; exact .inl ⟨rfl, h⟩
theorem eqFields_flat {w : World} {X Y : Array Value} : ∀ (n d base : Nat) (fs : List Field) (ks : List (Nat × TypeDesc)) (r : Bool) (xs ys : Array Value), n ≤ d → flatK P n base fs = some ks →
    (∀ p ∈ ks, base ≤ p.1 → xs[p.1 - base]? = X[p.1]? ∧ ys[p.1 - base]? = Y[p.1]?) → eqCells ks X Y = some r → (Op.eqFields d xs ys fs).run P w = .ok r w := by
  intro n
  induction n with
  | zero => intro d base fs ks r xs ys _ hk; simp [flatK] at hk
  | succ n ihn =>
    intro d base fs
    induction fs with
    | nil =>
      intro ks r xs ys _ hk _ hr
      simp [flatK] at hk; subst hk
      simp [eqCells] at hr; subst hr
      simp [Op.eqFields]
    | cons f fs ih =>
      intro ks r xs ys hd hk hloc hr
      obtain ⟨d, rfl⟩ : ∃ d', d = d' + 1 := ⟨d - 1, by omega⟩
      have hfold : ∀ l, flatK P (n + 1) base fs = l → flatK P (n + 1) base (f :: fs) = (bif f.name == "_" then none else
        match P.underlying f.type, l with
        | some (.int k), some l => some ((base + f.offset, .int k) :: l)
        | some .string, some l => some ((base + f.offset, .string) :: l)
        | some .bool, some l => some ((base + f.offset, .bool) :: l)
        | some (.struct gs), some l => bif P.stoodInHeld f.type then none else
          match sizeT0 P f.type, flatK P n (base + f.offset) gs.toList with
          | some m, some l2 => bif l2.all (fun p => decide (base + f.offset ≤ p.1) && decide (p.1 < base + f.offset + m)) then some (l2 ++ l) else none
          | _, _ => none
        | _, _ => none) := fun l hl => by subst hl; rfl
      rw [hfold _ rfl] at hk
      cases hn : f.name == "_" with
      | true => simp [hn] at hk
      | false =>
        rw [hn] at hk
        have hne : f.name ≠ "_" := by simpa using hn
        cases hl : flatK P (n + 1) base fs with
        | none =>
          rw [hl] at hk
          cases hu : P.underlying f.type with
          | none => simp [hu] at hk
          | some d => cases d <;> simp [hu] at hk
        | some l =>
          rw [hl] at hk
          -- a plain part
          have leaf : ∀ dd : TypeDesc, P.underlying f.type = some dd → ((∃ k, dd = .int k) ∨ dd = .string ∨ dd = .bool) → ks = (base + f.offset, dd) :: l → (Op.eqFields (d + 1) xs ys (f :: fs)).run P w = .ok r w := by
            intro dd hu hdd hks
            subst hks
            have h0 := hloc (base + f.offset, dd) (by simp) (by simp)
            simp only [Nat.add_sub_cancel_left] at h0
            simp only [eqCells] at hr
            rw [← h0.1, ← h0.2] at hr
            cases hx : xs[f.offset]? with
            | none => simp [hx] at hr
            | some a =>
              cases hy : ys[f.offset]? with
              | none => simp [hx, hy] at hr
              | some b =>
                simp only [hx, hy] at hr
                have hag : (isAgg f.type).run P w = .ok false w := run_isAgg (by unfold aggT; rw [hu]; rcases hdd with ⟨k, rfl⟩ | rfl | rfl <;> rfl) w
                have hpx : (part f.type xs f.offset).run P w = .ok a w := by simp [part, hag, hx]
                have hpy : (part f.type ys f.offset).run P w = .ok b w := by simp [part, hag, hy]
                have heq : ∀ q, eqCell dd a b = some q → (Op.equalIn (d + 1) f.type a b).run P w = .ok q w := fun q hq => by
                  rcases hdd with ⟨k, rfl⟩ | rfl | rfl
                  · cases a <;> cases b <;> simp [eqCell] at hq
                    obtain ⟨rfl, rfl⟩ := hq
                    exact run_equalIn_int w d _ _ _ _ _ hu
                  · cases a <;> cases b <;> simp [eqCell] at hq
                    rename_i s1 s2
                    rw [run_equalIn_string w d f.type s1 s2 hu]
                    simp [← hq]
                  · cases a <;> cases b <;> simp [eqCell] at hq
                    subst hq
                    exact run_equalIn_bool' w d _ _ _ hu
                simp only [Op.eqFields, if_pos hne, Sem.run_bind, hpx, hpy, Result.andThen_ok]
                cases hc : eqCell dd a b with
                | none => simp [hc] at hr
                | some q =>
                  rw [heq q hc]
                  cases q with
                  | true => simp [hc] at hr; simpa using ih l r xs ys hd hl (fun p hp => hloc p (by simp [hp])) hr
                  | false => simp [hc] at hr; subst hr; simp
          cases hu : P.underlying f.type with
          | none => simp [hu] at hk
          | some dd =>
            cases dd with
            | int k => simp only [hu, cond_false] at hk; exact leaf _ hu (.inl ⟨k, rfl⟩) (Option.some.inj hk).symm
            | string => simp only [hu, cond_false] at hk; exact leaf _ hu (.inr (.inl rfl)) (Option.some.inj hk).symm
            | bool => simp only [hu, cond_false] at hk; exact leaf _ hu (.inr (.inr rfl)) (Option.some.inj hk).symm
            | struct gs =>
              simp only [hu, cond_false] at hk
              cases hst : P.stoodInHeld f.type with
              | true => simp [hst] at hk
              | false =>
                simp only [hst, cond_false] at hk
                cases hm : sizeT0 P f.type with
                | none => simp [hm] at hk
                | some m =>
                  cases hl2 : flatK P n (base + f.offset) gs.toList with
                  | none => simp [hm, hl2] at hk
                  | some l2 =>
                    simp only [hm, hl2] at hk
                    cases hal : l2.all (fun p => decide (base + f.offset ≤ p.1) && decide (p.1 < base + f.offset + m)) with
                    | false => simp [hal] at hk
                    | true =>
                      simp only [hal, cond_true, Option.some.injEq] at hk
                      subst hk
                      have hag : (isAgg f.type).run P w = .ok true w := run_isAgg (by unfold aggT; rw [hu]) w
                      have hsz : (sizeOf f.type).run P w = .ok m w := run_sizeOf (by exact hm) w
                      have hp : ∀ zs : Array Value, (part f.type zs f.offset).run P w = .ok (.agg (zs.extract f.offset (f.offset + m))) w := fun zs => by simp [part, hag, hsz]
                      have hfs : P.fieldsOf f.type = gs := by simp [Program.fieldsOf, hu]
                      have hloc2 : ∀ p ∈ l2, base + f.offset ≤ p.1 → (xs.extract f.offset (f.offset + m))[p.1 - (base + f.offset)]? = X[p.1]? ∧ (ys.extract f.offset (f.offset + m))[p.1 - (base + f.offset)]? = Y[p.1]? := fun p hp hb => by
                        have hin := List.all_eq_true.1 hal p hp
                        simp only [Bool.and_eq_true, decide_eq_true_eq] at hin
                        have h0 := hloc p (by simp [hp]) (by omega)
                        have ext : ∀ zs : Array Value, (zs.extract f.offset (f.offset + m))[p.1 - (base + f.offset)]? = zs[p.1 - base]? := fun zs => by
                          rw [Array.getElem?_extract]
                          have e : f.offset + (p.1 - (base + f.offset)) = p.1 - base := by omega
                          rw [e]
                          split
                          · rfl
                          · rename_i hlt
                            refine (Array.getElem?_eq_none ?_).symm
                            omega
                        rw [ext, ext]; exact h0
                      have hne0 : n ≠ 0 := fun e => by subst e; simp [flatK] at hl2
                      obtain ⟨d, rfl⟩ : ∃ d', d = d' + 1 := ⟨d - 1, by omega⟩
                      have sub : ∀ q, eqCells l2 X Y = some q → (Op.equalIn (d + 1 + 1) f.type (.agg (xs.extract f.offset (f.offset + m))) (.agg (ys.extract f.offset (f.offset + m)))).run P w = .ok q w := fun q hq => by
                        rw [run_equalIn_struct w (d + 1) f.type _ _ (by rw [hfs]; exact hu) hst, hfs]
                        exact ihn (d + 1) _ _ _ _ _ _ (by omega) hl2 hloc2 hq
                      simp only [Op.eqFields, if_pos hne, Sem.run_bind, hp, Result.andThen_ok]
                      rcases eqCells_append l2 l r hr with ⟨h1, rfl⟩ | ⟨h1, h2⟩
                      · rw [sub _ h1]; simp
                      · rw [sub _ h1]
                        simpa using ih l r xs ys hd hl (fun p hp => hloc p (by simp [hp])) h2
            | _ => simp [hu] at hk
theorem run_eqaggv {op : BinOp} {t : TypeId} {x y : Operand} {ks : List (Nat × TypeDesc)} {a b v : Value} (hk : eqFlat P t = some ks) (hv : eqaggv ks op a b = some v) (w : World) :
    (do eqGuard op t x y a b; binOp op t a b : Sem Value).run P w = .ok v w := by
  unfold eqFlat at hk
  split at hk
  · rename_i fs hu
    have hfs : P.fieldsOf t = fs := by simp [Program.fieldsOf, hu]
    cases hg : P.eqGuardType P.depth t with
    | true => simp [hg] at hk
    | false =>
      cases hst : P.stoodInHeld t with
      | true => simp [hst] at hk
      | false =>
        simp only [hg, hst, Bool.or_false, cond_false] at hk
        unfold eqaggv at hv
        split at hv
        · rename_i xs ys
          cases hc : eqCells ks xs ys with
          | none => simp [hc] at hv
          | some r =>
            simp only [hc, Option.bind_some] at hv
            have he : (Op.equalIn 10000 t (.agg xs) (.agg ys)).run P w = .ok r w := by
              rw [run_equalIn_struct w 9999 t xs ys (by rw [hfs]; exact hu) hst, hfs]
              exact eqFields_flat 5 9999 0 _ _ _ _ _ (by omega) hk (fun p _ _ => by simp) hc
            simp only [Sem.run_bind, run_eqGuard_agg w op t x y xs ys hg, Result.andThen_ok]
            cases op <;> simp [binn] at hv <;> subst hv
            · rw [run_eql_struct, he]; rfl
            · rw [run_neq_struct, he]; rfl
        · simp at hv
  · simp at hk

theorem run_shiftv {op : BinOp} (hs : op = .shl ∨ op = .shr) {t : TypeId} {x y : Operand} {a b v : Value} (hv : shiftv op a b = some v) (w : World) :
    (do eqGuard op t x y a b; binOp op t a b : Sem Value).run P w = .ok v w := by
  have hg : (eqGuard op t x y a b).run P w = .ok () w := by
    unfold eqGuard
    rcases hs with rfl | rfl <;> simp
  simp only [Sem.run_bind, hg, Result.andThen_ok]
  unfold shiftv at hv
  split at hv
  · split at hv
    · simp at hv; subst hv
      rename_i h
      have h' : ¬ ((_ : Int) < 0) := Int.not_lt.2 h
      simp [binOp, Op.shift, h']
    · simp at hv
  · split at hv
    · simp at hv; subst hv
      rename_i h
      have h' : ¬ ((_ : Int) < 0) := Int.not_lt.2 h
      simp [binOp, Op.shift, h']
    · simp at hv
  · simp at hv

theorem run_unv {op : UnOp} {x v : Value} (hv : unv op x = some v) (w : World) : (Op.unary op x).run P w = .ok v w := by
  unfold unv at hv
  split at hv <;> simp at hv <;> subst hv <;> simp [Op.unary, Op.intArith, Op.intBits]

theorem run_convi {src dst : TypeId} {k j : IntKind} {x v : Value} (h1 : P.underlying src = some (.int j)) (h2 : P.underlying dst = some (.int k)) (hv : convi k x = some v) (w : World) :
    (convert src dst x).run P w = .ok v w := by
  unfold convi at hv
  split at hv
  · simp at hv; subst hv
    simp [convert, run_underlying h1, run_underlying h2, Conv.intToInt]
  · simp at hv

theorem run_runev {src dst : TypeId} {j : IntKind} {x v : Value} (h1 : P.underlying src = some (.int j)) (h2 : P.underlying dst = some .string) (hv : runev x = some v) (w : World) :
    (convert src dst x).run P w = .ok v w := by
  unfold runev at hv
  split at hv
  · simp at hv; subst hv
    simp [convert, run_underlying h1, run_underlying h2, Conv.intToString]
  · simp at hv
theorem run_faddr {s : TypeId} {fs : Array Field} {i n : Nat} {fd : Field} {x v : Value} (h1 : P.underlying s = some (.struct fs)) (h2 : fs[i]? = some fd) (h3 : sizeT P fd.type = some (n + 1))
    (hv : faddr fd.offset x = some v) (w : World) : (Instr.fieldAt s x i).run P w = .ok v w := by
  unfold faddr at hv
  split at hv
  · simp at hv; subst hv
    simp [Instr.fieldAt, run_underlying h1, h2, Instr.sureAddr, fieldPlace, run_sizeOf h3]
  · simp at hv

theorem run_part {t : TypeId} {b : Bool} (h : aggT P t = some b) {cs : Array Value} {off : Nat} {v : Value}
    (hv : (b = false ∧ cs[off]? = some v) ∨ (b = true ∧ ∃ n, sizeT P t = some n ∧ v = .agg (cs.extract off (off + n)))) (w : World) : (part t cs off).run P w = .ok v w := by
  rcases hv with ⟨rfl, hv⟩ | ⟨rfl, n, hs, rfl⟩
  · simp [part, run_isAgg h, hv]
  · simp [part, run_isAgg h, run_sizeOf hs]

theorem run_field {s : TypeId} {fs : Array Field} {i : Nat} {fd : Field} {x v : Value} {b : Bool} (h1 : P.underlying s = some (.struct fs)) (h2 : fs[i]? = some fd) (h3 : aggT P fd.type = some b)
    (hv : (b = false ∧ part1 x fd.offset = some v) ∨ (b = true ∧ ∃ n, sizeT P fd.type = some n ∧ partn x fd.offset n = some v)) (w : World) :
    (Instr.field s x i).run P w = .ok v w := by
  simp only [Instr.field, Sem.run_bind, run_underlying h1, Result.andThen_ok, h2]
  rcases hv with ⟨rfl, hv⟩ | ⟨rfl, n, hs, hv⟩
  · unfold part1 at hv
    split at hv
    · simp only [asAgg, Sem.run_pure, Result.andThen_ok]
      exact run_part h3 (.inl ⟨rfl, hv⟩) w
    · simp at hv
  · unfold partn at hv
    split at hv
    · simp at hv; subst hv
      simp only [asAgg, Sem.run_pure, Result.andThen_ok]
      exact run_part h3 (.inr ⟨rfl, n, hs, rfl⟩) w
    · simp at hv

theorem run_iaddr {t e : TypeId} {n : Nat} {x i v : Value} (h1 : P.underlying t = some (.slice e)) (h2 : sizeT P e = some n) (hv : iaddr n x i = some v) (w : World) :
    (Instr.indexAt t x i).run P w = .ok v w := by
  unfold iaddr at hv
  split at hv
  · split at hv
    · rename_i h
      simp at hv; subst hv
      simp [Instr.indexAt, asIntOf, run_underlying h1, run_sizeOf h2, h]
    · simp at hv
  · simp at hv
theorem run_iaddra {t e : TypeId} {len n : Nat} {x i v : Value} (h1 : P.underlying t = some (.array len e)) (h2 : sizeT P e = some n) (hv : iaddra len n x i = some v) (w : World) :
    (Instr.indexAt t x i).run P w = .ok v w := by
  unfold iaddra at hv
  split at hv
  · split at hv
    · rename_i h
      simp at hv; subst hv
      simp [Instr.indexAt, asIntOf, run_underlying h1, run_sizeOf h2, h, Instr.sureAddr]
    · simp at hv
  · simp at hv
theorem run_indexav {t e : TypeId} {b : Bool} {len n : Nat} {x i v : Value} (h1 : P.underlying t = some (.array len e)) (h2 : aggT P e = some b) (h3 : sizeT P e = some n) (hv : indexav b len n x i = some v) (w : World) :
    (Instr.index t x i).run P w = .ok v w := by
  unfold indexav at hv
  split at hv
  · split at hv
    · rename_i cs k m h
      have hp : (part e cs (m.toNat * n)).run P w = .ok v w := by
        cases b with
        | true => simp at hv; exact run_part h2 (.inr ⟨rfl, n, h3, hv.symm⟩) w
        | false => exact run_part h2 (.inl ⟨rfl, hv⟩) w
      simp [Instr.index, asIntOf, run_underlying h1, run_sizeOf h3, h, hp]
    · simp at hv
  · simp at hv
theorem run_indexs {t : TypeId} {x i v : Value} (h1 : P.underlying t = some .string) (hv : indexs x i = some v) (w : World) :
    (Instr.index t x i).run P w = .ok v w := by
  unfold indexs at hv
  split at hv
  · split at hv
    · rename_i s k n h
      cases hb : s[n.toNat]? with
      | none => simp [hb] at hv
      | some b =>
        simp [hb] at hv; subst hv
        simp [Instr.index, asIntOf, run_underlying h1, h, hb]
    · simp at hv
  · simp at hv

theorem natOf_spec {v : Value} {n : Nat} (h : natOf v = some n) : ∃ k i, v = .int k i ∧ 0 ≤ i ∧ i.toNat = n := by
  unfold natOf at h
  split at h
  · split at h
    · exact ⟨_, _, rfl, ‹_›, by simpa using h⟩
    · simp at h
  · simp at h
theorem run_sliceBound {v : Value} {n y : Nat} (h : natOf v = some n) (hn : n ≤ y) (c : BoundsCode) (w : World) : (Instr.sliceBound v y c).run P w = .ok n w := by
  obtain ⟨k, i, rfl, h0, rfl⟩ := natOf_spec h
  have : i ≤ (y : Int) := by omega
  simp [Instr.sliceBound, asIntOf, h0, this]
theorem run_sliceBounds {b : Bool} {len cap h l : Nat} {lo hi : Option Value} (hh : (match hi with | some v => natOf v | none => some len) = some h)
    (hl : (match lo with | some v => natOf v | none => some 0) = some l) (h1 : h ≤ cap) (h2 : l ≤ h) (w : World) :
    (Instr.sliceBounds b len cap lo hi none).run P w = .ok (l, h, cap) w := by
  unfold Instr.sliceBounds
  cases hi with
  | none =>
    simp at hh; subst hh
    cases lo with
    | none => simp at hl; subst hl; simp
    | some v => simp at hl; simp [run_sliceBound hl h2]
  | some u =>
    simp at hh
    cases lo with
    | none => simp at hl; subst hl; simp [run_sliceBound hh h1]
    | some v => simp at hl; simp [run_sliceBound hh h1, run_sliceBound hl h2]
theorem run_slicev {t e : TypeId} {n : Nat} {x v : Value} {lo hi : Option Value} (h1 : P.underlying t = some (.slice e)) (h2 : sizeT P e = some n) (hv : slicev n x lo hi = some v) (w : World) :
    (Instr.sliceAt t x lo hi none).run P w = .ok v w := by
  unfold slicev at hv
  split at hv
  · split at hv
    · split at hv
      · rename_i a len cap _ _ h l hh hl hb
        simp at hv; subst hv
        simp [Instr.sliceAt, Instr.slice, run_underlying h1, run_sizeOf h2, run_sliceBounds hh hl hb.1 hb.2]
      · simp at hv
    · simp at hv
  · simp at hv
theorem run_slices {t : TypeId} {x v : Value} {lo hi : Option Value} (h1 : P.underlying t = some .string) (hv : slices x lo hi = some v) (w : World) :
    (Instr.sliceAt t x lo hi none).run P w = .ok v w := by
  unfold slices at hv
  split at hv
  · split at hv
    · split at hv
      · rename_i s _ _ h l hh hl hb
        simp at hv; subst hv
        simp [Instr.sliceAt, Instr.slice, run_underlying h1, run_sliceBounds hh hl hb.1 hb.2]
      · simp at hv
    · simp at hv
  · simp at hv

theorem run_slicev3 {t e : TypeId} {n : Nat} {x hi mx v : Value} {lo : Option Value} (h1 : P.underlying t = some (.slice e)) (h2 : sizeT P e = some n) (hv : slicev3 n x lo hi mx = some v) (w : World) :
    (Instr.sliceAt t x lo (some hi) (some mx)).run P w = .ok v w := by
  unfold slicev3 at hv
  split at hv
  · split at hv
    · split at hv
      · rename_i a len cap _ _ _ m h l hm hh hl hb
        simp at hv; subst hv
        have hbs : (Instr.sliceBounds true len cap lo (some hi) (some mx)).run P w = .ok (l, h, m) w := by
          unfold Instr.sliceBounds
          cases lo with
          | none => simp at hl; subst hl; simp [run_sliceBound hm hb.1, run_sliceBound hh hb.2.1]
          | some u => simp at hl; simp [run_sliceBound hm hb.1, run_sliceBound hh hb.2.1, run_sliceBound hl hb.2.2]
        simp [Instr.sliceAt, Instr.slice, run_underlying h1, run_sizeOf h2, hbs]
      · simp at hv
    · simp at hv
  · simp at hv
theorem run_slicea {t e : TypeId} {len n : Nat} {x v : Value} {lo hi mx : Option Value} (h0 : P.underlying t = some (.array len e)) (h2 : sizeT P e = some n) (hm : mx.isSome = true → hi.isSome = true) (hv : slicea len n x lo hi mx = some v) (w : World) :
    (Instr.sliceAt t x lo hi mx).run P w = .ok v w := by
  unfold slicea at hv
  split at hv
  · split at hv
    · split at hv
      · rename_i a _ _ _ m h l hm' hh hl hb
        simp at hv; subst hv
        have hbs : (Instr.sliceBounds false len len lo hi mx).run P w = .ok (l, h, m) w := by
          unfold Instr.sliceBounds
          cases mx with
          | none =>
            simp at hm'; subst hm'
            cases hi with
            | none =>
              simp at hh; subst hh
              cases lo with
              | none => simp at hl; subst hl; simp
              | some u => simp at hl; simp [run_sliceBound hl hb.2.2]
            | some y =>
              simp at hh
              cases lo with
              | none => simp at hl; subst hl; simp [run_sliceBound hh hb.2.1]
              | some u => simp at hl; simp [run_sliceBound hh hb.2.1, run_sliceBound hl hb.2.2]
          | some z =>
            simp at hm'
            cases hi with
            | none => simp at hm
            | some y =>
              simp at hh
              cases lo with
              | none => simp at hl; subst hl; simp [run_sliceBound hm' hb.1, run_sliceBound hh hb.2.1]
              | some u => simp at hl; simp [run_sliceBound hm' hb.1, run_sliceBound hh hb.2.1, run_sliceBound hl hb.2.2]
        simp [Instr.sliceAt, run_underlying h0, run_sizeOf h2, hbs, Instr.sureAddr]
      · simp at hv
    · simp at hv
  · simp at hv
theorem run_extractv {t v : Value} {i : Nat} (hv : extractv t i = some v) (w : World) : (Instr.extract t i).run P w = .ok v w := by
  unfold extractv at hv
  split at hv
  · simp [Instr.extract, hv]
  · simp at hv

/- maps -/
theorem keyKind_spec {t : TypeId} {kd : TypeDesc} (h : keyKind P t = some kd) : P.underlying t = some kd ∧ ((∃ k, kd = .int k) ∨ kd = .string ∨ kd = .bool) := by
  unfold keyKind at h
  split at h <;> simp at h <;> subst h <;> simp_all
theorem run_checkKey {t : TypeId} {kd : TypeDesc} (h : keyKind P t = some kd) (b : Bool) (n : Nat) (v : Value) (w : World) : (Instr.checkKey b (n + 1) t v).run P w = .ok () w := by
  obtain ⟨hu, hk⟩ := keyKind_spec h
  rcases hk with ⟨k, rfl⟩ | rfl | rfl <;> simp [Instr.checkKey, run_underlying hu]
theorem run_findKey {t : TypeId} {kd : TypeDesc} (h : keyKind P t = some kd) {x : Value} {es : Array MapEntry} {r : Option (Nat × Value)} (hf : mfind kd x es = some r) (w : World) :
    (Instr.findKey t x es.toList).run P w = .ok r w := by
  unfold mfind at hf
  simp [Instr.findKey, run_underlying (keyKind_spec h).1, hf]
theorem run_lookv {t kt e : TypeId} {kd : TypeDesc} {z : Value} (h1 : P.underlying t = some (.map kt e)) (h2 : keyKind P kt = some kd) (h3 : zeroOf P e = some z) {ok : Bool} {w : World} {m x v : Value}
    (hv : lookv kd z ok w m x = some v) : (Instr.lookup t m x ok).run P w = .ok v w := by
  unfold lookv at hv
  cases hm : mapOf w m with
  | none => simp [hm] at hv
  | some es =>
    simp only [hm] at hv
    simp only [Instr.lookup, Sem.run_bind, run_underlying h1, Result.andThen_ok]
    unfold mapOf at hm
    cases hf : mfind kd x es with
    | none => simp [hf] at hv
    | some r =>
      simp only [hf] at hv
      have hk := run_findKey h2 hf w
      split at hm
      · simp at hm; subst hm
        simp only [Sem.run_bind, Sem.run_pure, Result.andThen_ok, run_checkKey h2 _ 9999, hk]
        cases r with
        | none => simp at hv; subst hv; cases ok <;> simp [run_zeroValue h3]
        | some q => obtain ⟨i, u⟩ := q; simp at hv; subst hv; cases ok <;> simp
      · rename_i r'
        split at hm
        · rename_i es' clock hb
          simp at hm; subst hm
          have hg : (getObj r').run P w = .ok (.map es' clock) w := by simp [getObj, Sem.run, hb]
          simp only [Sem.run_bind, hg, Sem.run_pure, Result.andThen_ok, run_checkKey h2 _ 9999, hk]
          cases r with
          | none => simp at hv; subst hv; cases ok <;> simp [run_zeroValue h3]
          | some q => obtain ⟨i, u⟩ := q; simp at hv; subst hv; cases ok <;> simp
        · simp at hm
      · simp at hm
theorem run_setObjMap {w : World} {r : Nat} {es es' : Array MapEntry} {c c' : Nat} (h : w.heap[r]? = some (.map es c)) :
    (setObj r (.map es' c')).run P w = .ok () { w with heap := w.heap.setIfInBounds r (.map es' c') } := by
  simp [setObj, Sem.run, h]
theorem run_mupd {t kt e : TypeId} {kd : TypeDesc} (h1 : P.underlying t = some (.map kt e)) (h2 : keyKind P kt = some kd) {w w' : World} {m x v : Value}
    (hv : mupd kd w m x v = some w') : (Instr.mapUpdate t m x v).run P w = .ok () w' := by
  unfold mupd at hv
  split at hv
  · rename_i r
    split at hv
    · rename_i es clock hb
      simp only [Instr.mapUpdate, Sem.run_bind, run_underlying h1, Result.andThen_ok]
      have hg : (getObj r).run P w = .ok (.map es clock) w := by simp [getObj, Sem.run, hb]
      simp only [Sem.run_bind, hg, Result.andThen_ok, run_checkKey h2 _ 9999]
      cases hf : mfind kd x es with
      | none => simp [hf] at hv
      | some q =>
        rw [run_findKey h2 hf]
        simp only [hf] at hv
        cases q with
        | none => simp at hv; subst hv; simp only [Result.andThen_ok]; rw [run_setObjMap hb]
        | some p =>
          obtain ⟨i, u⟩ := p
          simp only at hv
          split at hv
          · rename_i hs
            simp at hv; subst hv
            simp only [Result.andThen_ok, Instr.keyThatStays, hs, if_true, Sem.run_bind, Sem.run_pure]
            rw [run_setObjMap hb]
          · simp at hv
    · simp at hv
  · simp at hv
theorem run_mentry {t kt e : TypeId} {kd : TypeDesc} {z : Value} (h1 : P.underlying t = some (.map kt e)) (h2 : keyKind P kt = some kd) (h3 : zeroOf P e = some z) {w : World} {m x : Value} {p : Value × World}
    (hv : mentry kd z w m x = some p) : (Instr.mapEntry t m x).run P w = .ok p.1 p.2 := by
  unfold mentry at hv
  split at hv
  · rename_i r
    split at hv
    · rename_i es clock hb
      simp only [Instr.mapEntry, Sem.run_bind, run_underlying h1, Result.andThen_ok]
      have hg : (getObj r).run P w = .ok (.map es clock) w := by simp [getObj, Sem.run, hb]
      simp only [Sem.run_bind, hg, Result.andThen_ok, run_checkKey h2 _ 9999]
      cases hf : mfind kd x es with
      | none => simp [hf] at hv
      | some q =>
        rw [run_findKey h2 hf]
        simp only [hf] at hv
        cases q with
        | none =>
          simp at hv; subst hv
          simp only [Result.andThen_ok, Sem.run_bind, run_zeroValue h3]
          rw [run_setObjMap hb]
          simp [goInt]
        | some p =>
          obtain ⟨i, u⟩ := p
          simp only at hv
          split at hv
          · rename_i hs
            simp at hv; subst hv
            simp only [Result.andThen_ok, Instr.keyThatStays, hs, if_true, Sem.run_bind, Sem.run_pure]
            rw [run_setObjMap hb]
            cases es[i]? <;> simp [goInt]
          · simp at hv
    · simp at hv
  · simp at hv
theorem run_mestore {t : TypeId} {w w' : World} {m s v : Value} (hv : mestore w m s v = some w') : (Instr.entryStore t m s v).run P w = .ok () w' := by
  unfold mestore at hv
  split at hv
  · rename_i r k n
    split at hv
    · rename_i es clock hb
      have hg : (getObj r).run P w = .ok (.map es clock) w := by simp [getObj, Sem.run, hb]
      cases hf : es.findIdx? (fun e => (e.born : Int) == n) with
      | none => simp [hf] at hv
      | some i =>
        simp [hf] at hv; subst hv
        simp only [Instr.entryStore, Sem.run_bind, hg, Result.andThen_ok, asInt, asIntOf, Sem.run_pure, hf]
        rw [run_setObjMap hb]
    · simp at hv
  · simp at hv
theorem run_clearv {t e ty : TypeId} {z : Value} (h1 : P.underlying t = some (.slice e)) (h2 : zeroOf P e = some z) {w w' : World} {x : Value} (hv : clearv z w x = some w') :
    (Builtin.clear_ #[t] ty #[x]).run P w = .ok (.tuple #[]) w' := by
  unfold clearv at hv
  split at hv
  · simp at hv; subst hv
    simp [Builtin.clear_, run_underlying h1]
  · rename_i a n c
    split at hv
    · rename_i hn
      simp at hv; subst hv; subst hn
      simp [Builtin.clear_, run_underlying h1]
    · rename_i hn
      have hst := run_storeCells (P := P) a _ 0 w w' hv
      cases n with
      | zero => exact absurd rfl hn
      | succ n =>
        simp only [Builtin.clear_, List.getElem?_toArray, List.getElem?_cons_zero, Sem.run_bind, run_underlying h1, Result.andThen_ok, run_zeroValue h2, hst, Sem.run_pure]
  · simp at hv
theorem run_mdel {t kt e u ty : TypeId} {kd : TypeDesc} (h1 : P.underlying t = some (.map kt e)) (h2 : keyKind P kt = some kd) {w w' : World} {m x : Value}
    (hv : mdel kd w m x = some w') : (Builtin.delete_ #[t, u] ty #[m, x]).run P w = .ok (.tuple #[]) w' := by
  unfold mdel at hv
  split at hv
  · rename_i r
    split at hv
    · rename_i es clock hb
      have hg : (getObj r).run P w = .ok (.map es clock) w := by simp [getObj, Sem.run, hb]
      simp only [Builtin.delete_, List.getElem?_toArray, List.getElem?_cons_zero, List.getElem?_cons_succ, Sem.run_bind, run_underlying h1, Result.andThen_ok, hg, run_checkKey h2 _ 9999]
      cases hf : mfind kd x es with
      | none => simp [hf] at hv
      | some q =>
        rw [run_findKey h2 hf]
        simp only [hf] at hv
        cases q with
        | none => simp at hv; subst hv; simp only [Result.andThen_ok, Sem.run_bind, run_setObjMap hb, Sem.run_pure]
        | some p => obtain ⟨i, u⟩ := p; simp at hv; subst hv; simp only [Result.andThen_ok, Sem.run_bind, run_setObjMap hb, Sem.run_pure]
    · simp at hv
  · simp at hv; subst hv
    simp only [Builtin.delete_, List.getElem?_toArray, List.getElem?_cons_zero, List.getElem?_cons_succ, Sem.run_bind, run_underlying h1, Result.andThen_ok, run_checkKey h2 _ 9999]
    rfl
  · simp at hv

theorem run_lens {t ty : TypeId} {x v : Value} (h : P.underlying t = some .string) (hv : lens x = some v) (w : World) : (Builtin.len_ #[t] ty #[x]).run P w = .ok v w := by
  unfold lens at hv
  split at hv
  · simp at hv; subst hv; simp [Builtin.len_, run_underlying h, goInt]
  · simp at hv
theorem run_capl {t e ty : TypeId} {x v : Value} (h : P.underlying t = some (.slice e)) (hv : capl x = some v) (w : World) : (Builtin.cap_ #[t] ty #[x]).run P w = .ok v w := by
  unfold capl at hv
  split at hv
  · simp at hv; subst hv; simp [Builtin.cap_, run_underlying h, goInt]
  · simp at hv
theorem run_lenl {t e ty : TypeId} {x v : Value} (h : P.underlying t = some (.slice e)) (hv : lenl x = some v) (w : World) : (Builtin.len_ #[t] ty #[x]).run P w = .ok v w := by
  unfold lenl at hv
  split at hv
  · simp at hv; subst hv; simp [Builtin.len_, run_underlying h, goInt]
  · simp at hv
theorem run_mlenv {t kt e ty : TypeId} {x v : Value} {w : World} (h : P.underlying t = some (.map kt e)) (hv : mlenv w x = some v) : (Builtin.len_ #[t] ty #[x]).run P w = .ok v w := by
  unfold mlenv mapOf at hv
  split at hv
  · simp at hv; subst hv; simp [Builtin.len_, run_underlying h, goInt]
  · rename_i r
    split at hv
    · rename_i es clock hb
      simp at hv; subst hv
      have hg : (getObj r).run P w = .ok (.map es clock) w := by simp [getObj, Sem.run, hb]
      simp [Builtin.len_, run_underlying h, goInt, hg]
    · simp at hv
  · simp at hv

theorem cell?_heap {w w' : World} (h : w'.heap = w.heap) (a : Addr) : w'.cell? a = w.cell? a := by simp [World.cell?, h]
theorem loads_heap {w w' : World} (h : w'.heap = w.heap) (a : Addr) : ∀ n i, loads w' a i n = loads w a i n
  | 0, _ => rfl
  | n + 1, i => by simp only [loads, cell?_heap h, loads_heap h a n (i + 1)]
theorem cellsOfArg_heap {w w' : World} (h : w'.heap = w.heap) (sz : Nat) (x : Value) : cellsOfArg w' sz x = cellsOfArg w sz x := by
  unfold cellsOfArg
  split <;> simp [loads_heap h]
theorem run_lenOf {w : World} {sz : Nat} {x : Value} {vs : List Value} {n : Nat} (h : cellsOfArg w sz x = some (vs, n)) : (Builtin.lenOf x).run P w = .ok n w := by
  unfold cellsOfArg at h
  split at h
  · rename_i a m c
    cases hl : loads w a 0 (m * sz) with
    | none => simp [hl] at h
    | some us => simp [hl] at h; simp [Builtin.lenOf, h]
  · simp at h; simp [Builtin.lenOf, h]
  · simp at h; simp [Builtin.lenOf, h]
  · simp at h
theorem run_firstCells {w : World} {sz : Nat} {x : Value} {vs : List Value} {n : Nat} (h : cellsOfArg w sz x = some (vs, n)) : (Builtin.firstCells sz n x).run P w = .ok vs.toArray w := by
  unfold cellsOfArg at h
  split at h
  · rename_i a m c
    cases hl : loads w a 0 (m * sz) with
    | none => simp [hl] at h
    | some us =>
      simp [hl] at h
      obtain ⟨rfl, rfl⟩ := h
      simp [Builtin.firstCells, loadCells, run_loadCellsFrom a _ 0 #[] _ hl]
  · simp at h; obtain ⟨rfl, rfl⟩ := h; simp [Builtin.firstCells]
  · rename_i s
    simp at h; obtain ⟨rfl, rfl⟩ := h
    simp only [Builtin.firstCells, Sem.run_pure]
    have : s.extract 0 s.size = s := by
      apply ByteArray.ext
      simp
    rw [this, ← Array.toArray_toList (xs := s.data), List.map_toArray]
  · simp at h

theorem APPEND_mono {E sz bytes : Nat} {zero s x : Value} {w : World} {k k' : Value → World → Prop} (hk : ∀ v w, k v w → k' v w) (h : APPEND E sz bytes zero s x w k) : APPEND E sz bytes zero s x w k' := by
  obtain ⟨h⟩ := h
  refine ⟨?_⟩
  unfold APPENDS at *
  split at h
  · rename_i base len cap new n _
    split at h
    · rename_i hle
      rw [if_pos hle]
      cases base with
      | none => exact hk _ _ h
      | some a => exact BND_mono (fun _ h => hk _ _ h) h
    · rename_i hle
      rw [if_neg hle]
      exact ⟨h.1, h.2.1, BND_mono (fun old ho c w' h1 h2 h3 => hk _ _ (ho c w' h1 h2 h3)) h.2.2⟩
  · exact h

theorem run_append {t u e ty : TypeId} {i : TypeInfo} {z : Value} (h1 : P.underlying t = some (.slice e)) (h2 : (∃ g, P.underlying u = some (.slice g)) ∨ P.underlying u = some .string) (h4 : P.info? e = some i)
    (h5 : i.zero = some z) {s x : Value} {w : World} {k : Value → World → Prop} (h : APPEND e i.size i.bytes z s x w k) :
    ∃ v w', (Builtin.append_ #[t, u] ty #[s, x]).run P w = .ok v w' ∧ k v w' := by
  obtain ⟨h⟩ := h
  unfold APPENDS at h
  split at h
  · rename_i base len cap new n hx
    have hl : (Builtin.lenOf x).run P w = .ok n w := run_lenOf hx
    have hf : (Builtin.firstCells i.size n x).run P w = .ok new.toArray w := run_firstCells hx
    split at h
    · rename_i hle
      cases base with
      | none =>
        refine ⟨_, _, ?_, h⟩
        rcases h2 with ⟨g, h2⟩ | h2 <;> simp [Builtin.append_, run_underlying h1, run_underlying h2, sizeOf, typeInfo, h4, hl, hle, hf]
      | some a =>
        obtain ⟨w', hw, hk⟩ := BND_iff.1 h
        have hst := run_storeCells (P := P) (a.add (len * i.size)) new 0 w w' hw
        refine ⟨_, _, ?_, hk⟩
        rcases h2 with ⟨g, h2⟩ | h2 <;> simp [Builtin.append_, run_underlying h1, run_underlying h2, sizeOf, typeInfo, h4, hl, hle, hf, hst]
    · rename_i hle
      obtain ⟨hmax, hbytes, hb⟩ := h
      obtain ⟨⟨old, m⟩, ho, hk⟩ := BND_iff.1 hb
      have hm : m = len := by
        unfold cellsOfArg at ho
        split at ho
        · rename_i a _ _ hs
          cases hs
          cases hl : loads w a 0 (len * i.size) with
          | none => simp [hl] at ho
          | some us => simp [hl] at ho; exact ho.2.symm
        · rename_i hs; cases hs; simp at ho; exact ho.2.symm
        · rename_i hs; cases hs
        · simp at ho
      subst hm
      have hof : (Builtin.firstCells i.size m (.slice base m cap)).run P w.drew = .ok old.toArray w.drew := run_firstCells (w := w.drew) (by rw [← ho]; exact cellsOfArg_heap (w := w) (w' := w.drew) rfl _ _)
      have hff : (Builtin.firstCells i.size n x).run P w.drew = .ok new.toArray w.drew := run_firstCells (w := w.drew) (by rw [← hx]; exact cellsOfArg_heap (w := w) (w' := w.drew) rfl _ _)
      have hmax' : ¬ ((9223372036854775807 : Int) < (m : Int) + (n : Int)) := by
        have : (IntKind.i64.max : Int) = 9223372036854775807 := by decide
        rw [this] at hmax
        omega
      have hn2 : ¬ (281474976710656 < Builtin.nextslicecap (m + n) cap * i.bytes) := by simpa using hbytes
      refine ⟨_, _, ?_, hk (grownCap w (m + n) cap e) w.drew (grownCap_ge _ _ _ _) rfl ⟨rfl, rfl, rfl⟩⟩
      rcases h2 with ⟨g, h2⟩ | h2 <;>
        (simp [Builtin.append_, run_underlying h1, run_underlying h2, sizeOf, typeInfo, zeroValue, h4, h5, hl, hle, hmax', hn2, Question.forced, hff, hof, newRow, grownCap, IntKind.max, IntKind.signed, IntKind.bits]
         congr 2; apply Array.ext'; simp [List.append_assoc])
  · exact h.elim

theorem run_rangev {t : TypeId} (hu : P.underlying t = some .string) {x : Value} {w : World} {p : Value × World} (h : rangev w x = some p) : (Instr.range t x).run P w = .ok p.1 p.2 := by
  unfold rangev at h
  split at h
  · cases h; simp [Instr.range, run_underlying hu]
  · cases h
theorem run_nexts {it : Value} {ty : TypeId} {w : World} {p : Value × World} (h : nexts w it = some p) : (Instr.next it true ty).run P w = .ok p.1 p.2 := by
  unfold nexts at h
  split at h
  · rename_i r g
    split at h
    · rename_i s pos hk
      split at h
      · rename_i hp
        cases h
        simp only [Instr.next, getObj, setObj, Sem.run_bind, Sem.run, hk, Result.andThen, hp, if_true]
        simp [goInt]
      · rename_i hp
        cases h
        simp [Instr.next, getObj, Sem.run, hk, hp]
    · cases h
  · cases h
theorem run_RUNES {src dst e : TypeId} (hs : P.underlying src = some .string) (hd : P.underlying dst = some (.slice e)) (he : P.underlying e = some (.int .i32)) {x : Value} {w : World} {k : Value → World → Prop} (h : RUNES e x w k) :
    ∃ v w', (convert src dst x).run P w = .ok v w' ∧ k v w' := by
  obtain ⟨s, rfl, h46, hk⟩ := h.h
  refine ⟨_, _, run_runes_of_string w src dst e s hs hd he h46, ?_⟩
  exact hk _ w.drew (grownCap_ge _ _ _ _) rfl ⟨rfl, rfl, rfl⟩
theorem run_BYTES {src dst e : TypeId} (hs : P.underlying src = some .string) (hd : P.underlying dst = some (.slice e)) (he : P.underlying e = some (.int .u8)) {x : Value} {w : World} {k : Value → World → Prop} (h : BYTES e x w k) :
    ∃ v w', (convert src dst x).run P w = .ok v w' ∧ k v w' := by
  obtain ⟨s, rfl, hk⟩ := h.h
  refine ⟨_, _, run_bytes_of_string w src dst e s hs hd he, ?_⟩
  have hge := grownCap_ge w s.size 0 e
  have := hk _ w.drew hge rfl ⟨rfl, rfl, rfl⟩
  have hsz : (bytesRow s (grownCap w s.size 0 e)).size = grownCap w s.size 0 e := by
    simp [bytesRow]; omega
  rw [hsz]
  exact this
theorem intsOf_map {k : IntKind} : ∀ {vs : List Value} {ns : List Int}, intsOf k vs = some ns → vs = ns.map (Value.int k)
  | [], ns, h => by cases h; rfl
  | v :: r, ns, h => by
    unfold intsOf at h
    split at h
    · rename_i h'; cases h'
    · rename_i k' n r' h'
      cases h'
      split at h
      · rename_i hkk
        cases hr : intsOf k r with
        | none => simp [hr] at h
        | some ms =>
          simp [hr] at h
          subst h; subst hkk
          rw [intsOf_map hr]; rfl
      · cases h
    · cases h
theorem run_textRunes {src dst e : TypeId} (hs : P.underlying src = some (.slice e)) (he : P.underlying e = some (.int .i32)) (hd : P.underlying dst = some .string) {x v : Value} {w : World} (h : textv .i32 textOfRunes w x = some v) :
    (convert src dst x).run P w = .ok v w := by
  unfold textv at h
  split at h
  · cases h; exact run_convert_runes_nil w src dst e _ _ hs he hd
  · rename_i a n c
    cases hl : loads w a 0 n with
    | none => simp [hl] at h
    | some vs =>
      cases hi : intsOf .i32 vs with
      | none => simp [hl, hi] at h
      | some ns =>
        simp [hl, hi] at h
        subst h
        rw [run_convert_runes_string w src dst e _ _ _ hs he hd]
        refine run_runesToString w a n c ns ?_
        rw [← intsOf_map hi]
        simp [loadCells, run_loadCellsFrom a n 0 #[] vs hl]
  · cases h
theorem run_textBytes {src dst e : TypeId} (hs : P.underlying src = some (.slice e)) (he : P.underlying e = some (.int .u8)) (hd : P.underlying dst = some .string) {x v : Value} {w : World} (h : textv .u8 textOfBytes w x = some v) :
    (convert src dst x).run P w = .ok v w := by
  unfold textv at h
  split at h
  · cases h
    rw [run_convert_bytes_string w src dst e _ _ _ hs he hd]
    simp [Conv.bytesToString]
  · rename_i a n c
    cases hl : loads w a 0 n with
    | none => simp [hl] at h
    | some vs =>
      cases hi : intsOf .u8 vs with
      | none => simp [hl, hi] at h
      | some ns =>
        simp [hl, hi] at h
        subst h
        rw [run_convert_bytes_string w src dst e _ _ _ hs he hd]
        refine run_bytesToString w a n c ns ?_
        rw [← intsOf_map hi]
        simp [loadCells, run_loadCellsFrom a n 0 #[] vs hl]
  · cases h

theorem run_rangemv {t k e : TypeId} (hu : P.underlying t = some (.map k e)) {x : Value} {w : World} {p : Value × World} (h : rangemv w x = some p) : (Instr.range t x).run P w = .ok p.1 p.2 := by
  cases x with
  | map m =>
    cases m with
    | none => cases h; exact run_range_nilMap w t k e hu
    | some m =>
      cases hm : w.heap[m]? with
      | none => simp [rangemv, hm] at h
      | some o =>
        cases o with
        | map es clock =>
          simp [rangemv, hm] at h
          subst h
          exact run_range_map w t k e m es clock hu hm
        | _ => simp [rangemv, hm] at h
  | _ => simp [rangemv] at h
theorem run_NEXTM {it : Value} {ty : TypeId} {w : World} {k : Value → World → Prop} (h : NEXTM it w k) : ∃ v w', (Instr.next it false ty).run P w = .ok v w' ∧ k v w' := by
  have h := h.h
  unfold NEXTMS at h
  split at h
  · rename_i r g
    split at h
    · rename_i hr
      refine ⟨_, _, ?_, h⟩
      simp [Instr.next, getObj, Sem.run, hr]
    · rename_i m since seen last hr
      split at h
      · rename_i es clock hm
        obtain ⟨hold, hsc, hend, hmore⟩ := h
        simp only [Instr.next, getObj, Sem.run_bind, Sem.run, hr, hm, Result.andThen, next_test_false seen es since last hold hsc, Bool.false_eq_true, if_false]
        have hmem : ∀ x ∈ (Array.filter (fun e => !seen.contains e.born) es).toList, x.born < since ∧ x ∈ es.toList ∧ seen.contains x.born = false := fun x hx => by
          simp at hx
          exact ⟨hold x (by simpa using hx.1), by simpa using hx.1, by simpa using hx.2⟩
        have hnil : (Array.filter (fun e => !seen.contains e.born) es).size = 0 → ∀ x ∈ es.toList, seen.contains x.born = true := fun h0 x hx => by
          cases hc : seen.contains x.born with
          | true => rfl
          | false =>
            have : x ∈ Array.filter (fun e => !seen.contains e.born) es := by simp; exact ⟨by simpa using hx, by simpa using hc⟩
            rw [Array.eq_empty_of_size_eq_zero h0] at this
            simp at this
        generalize Array.filter (fun e => !seen.contains e.born) es = L at hmem hnil ⊢
        have e1 : L.filter (fun x => decide (x.born < since)) = L := Array.filter_eq_self.2 (fun x hx => by simpa using (hmem x (by simpa using hx)).1)
        have e2 : L.filter (fun x => decide (x.born ≥ since)) = #[] := by
          rw [Array.filter_eq_empty_iff]
          intro x hx
          have := (hmem x (by simpa using hx)).1
          simp
          omega
        simp only [e1, e2, Array.append_empty]
        by_cases h0 : L.size = 0
        · have hL : L = #[] := Array.eq_empty_of_size_eq_zero h0
          refine ⟨_, _, ?_, hend (hnil h0)⟩
          subst hL
          simp [choose, Sem.run, Question.forced]
        · have hne : L.isEmpty = false := by simp [Array.isEmpty, h0]
          simp only [hne, Bool.false_eq_true, if_false, Array.empty_append, Array.size_map]
          have hch : ∃ (j : Nat) (w1 : World), j < L.size ∧ w1.heap = w.heap ∧ (w1.os = w.os ∧ w1.tape = w.tape ∧ w1.output = w.output) ∧ (choose (Question.mapNext L.size)).run P w = .ok j w1 := by
            by_cases hf : L.size ≤ 1
            · exact ⟨0, w, by omega, rfl, ⟨rfl, rfl, rfl⟩, by simp [choose, Sem.run, Question.forced, hf]⟩
            · exact ⟨_, w.drew, Nat.mod_lt _ (by omega), rfl, ⟨rfl, rfl, rfl⟩, by
                simp only [choose, Sem.run, Question.forced, decide_eq_true_eq, hf, if_false, Question.cut]
                rfl⟩
          obtain ⟨j, w1, hj, hh, hrest, hrun⟩ := hch
          have hm1 := hmem L[j] (by simp)
          refine ⟨_, _, ?_, hmore L[j] hm1.2.1 hm1.2.2 w1 hh hrest⟩
          have hr1 := hr
          rw [← hh] at hr1
          simp only [hrun, Array.getElem?_map, Array.getElem?_eq_getElem hj, Option.map_some, Sem.run_bind, setObj, Sem.run, hr1, Result.andThen]
          rfl
      · exact h.elim
    · exact h.elim
  · exact h.elim
theorem run_entryv {it v : Value} {w : World} (h : entryv w it = some v) : (Instr.entry it).run P w = .ok v w := by
  unfold entryv at h
  split at h
  · split at h
    · rename_i hr
      split at h
      · rename_i hs hm
        split at h
        · rename_i hc
          simp only [Option.map_eq_some_iff] at h
          obtain ⟨e, he, rfl⟩ := h
          subst hc
          simp [Instr.entry, getObj, Sem.run, hr, hs, hm, he]
        · cases h
      · cases h
    · cases h
  · cases h
theorem run_mkslice {t e : TypeId} {i : TypeInfo} {z : Value} (hu : P.underlying t = some (.slice e)) (hi : P.info? e = some i) (hz : i.zero = some z) {l c : Value} {w : World} {p : Value × World} (h : mkslice e i.size i.bytes z w l c = some p) :
    (Instr.makeSlice t l c).run P w = .ok p.1 p.2 := by
  unfold mkslice at h
  split at h
  · rename_i kl n kc m
    split at h
    · rename_i hc
      cases h
      obtain ⟨h1, h2, h3, h4⟩ := hc
      have := run_make (P := P) w t e i z hu hi hz kl kc n m h1 h2 (by rw [Int.mul_comm]; exact h3) h4
      rw [this]
      rfl
    · cases h
  · cases h
theorem run_equal_pp (d : Nat) {t e : TypeId} {i : TypeInfo} {n : Nat} (he : P.underlying t = some (.pointer e)) (hi : P.info? e = some i) (his : i.size = n + 1) (a : Addr) (w : World) :
    (Op.equalIn (d + 1) t (.pointer (some a)) (.pointer (some a))).run P w = .ok true w := by
  simp [Op.equalIn, run_underlying he, sizeOf, typeInfo, hi, his, run_sameAddr_same]
theorem run_equal_pq (d : Nat) {t e : TypeId} {i : TypeInfo} {n : Nat} (he : P.underlying t = some (.pointer e)) (hi : P.info? e = some i) (his : i.size = n + 1) {a b : Addr} {ca cb : Array Value} {Ta Tb : TypeId} (w : World)
    (hab : a ≠ b) (ha : w.heap[a.block]? = some (.cells ca Ta (0, 0))) (hb : w.heap[b.block]? = some (.cells cb Tb (0, 0))) : (Op.equalIn (d + 1) t (.pointer (some a)) (.pointer (some b))).run P w = .ok false w := by
  simp [Op.equalIn, run_underlying he, sizeOf, typeInfo, hi, his, run_sameAddr_other w hab ha hb]
theorem ifNil_y {t : TypeId} {y : Operand} (hc : ifNil P t y = true) : ∃ ms, P.underlying t = some (.interface ms) ∧ y = .const .nilIface := by
  unfold ifNil at hc
  split at hc
  · rename_i ms h1; exact ⟨ms, h1, rfl⟩
  · cases hc
theorem run_equal_if (d : Nat) {t : TypeId} {ms} (h : P.underlying t = some (.interface ms)) (w : World) : (Op.equalIn (d + 1) t .nilIface .nilIface).run P w = .ok true w := by
  simp [Op.equalIn, run_underlying h]
theorem run_equal_if' (d : Nat) {t : TypeId} {ms} (h : P.underlying t = some (.interface ms)) (ta : TypeId) (pa : Value) (w : World) : (Op.equalIn (d + 1) t (.iface ta pa) .nilIface).run P w = .ok false w := by
  simp [Op.equalIn, run_underlying h]
theorem run_ifnil {op : BinOp} {t : TypeId} {x : Operand} {ms} (hms : P.underlying t = some (.interface ms)) {a b v : Value} (hv : ifnilv op a b = some v) (w : World) : (do eqGuard op t x (.const .nilIface) a b; binOp op t a b : Sem Value).run P w = .ok v w := by
  unfold ifnilv at hv
  split at hv
  · have hg : (eqGuard op t x (.const .nilIface) .nilIface .nilIface).run P w = .ok () w := by
      unfold eqGuard
      cases op <;> simp
    rw [Sem.run_bind, hg]
    exact run_binEq (run_equal_if 9999 hms w) hv (by simp) (by simp) (by simp) (by simp)
  · rename_i ta pa
    have hg : (eqGuard op t x (.const .nilIface) (.iface ta pa) .nilIface).run P w = .ok () w := by
      unfold eqGuard
      cases op <;> simp
    rw [Sem.run_bind, hg]
    exact run_binEq (run_equal_if' 9999 hms ta pa w) hv (by simp) (by simp) (by simp) (by simp)
  · cases hv
theorem run_ptrv {op : BinOp} {t : TypeId} {x y : Operand} (hc : ptrCmp P t x y = true) {a b v : Value} {w : World} (h : ptrv w op a b = some v) : (do eqGuard op t x y a b; binOp op t a b : Sem Value).run P w = .ok v w := by
  unfold ptrCmp at hc
  split at hc
  · rename_i e he
    split at hc
    · rename_i n hn
      have hsz : ∃ i, P.info? e = some i ∧ i.size = n + 1 := by
        unfold sizeT at hn
        cases hi : P.info? e with
        | none => simp [hi] at hn
        | some i => simp [hi] at hn; exact ⟨i, rfl, hn⟩
      obtain ⟨i, hi, his⟩ := hsz
      unfold ptrv at h
      split at h
      · simp only [Sem.run_bind, run_eqGuard (P := P) (x := x) (y := y) (t := t) (op := op) (a := .pointer _) (by simp) (by simp) w, Result.andThen_ok]
        exact run_binEq (run_equal_ptr 9999 he _ w) h (by simp) (by simp) (by simp) (by simp)
      · simp only [Sem.run_bind, run_eqGuard (P := P) (x := x) (y := y) (t := t) (op := op) (a := .pointer _) (by simp) (by simp) w, Result.andThen_ok]
        exact run_binEq (run_equal_ptr' 9999 he _ w) h (by simp) (by simp) (by simp) (by simp)
      · rename_i a b
        simp only [Sem.run_bind, run_eqGuard (P := P) (x := x) (y := y) (t := t) (op := op) (a := .pointer _) (by simp) (by simp) w, Result.andThen_ok]
        by_cases hab : a = b
        · rw [if_pos hab] at h
          subst hab
          exact run_binEq (run_equal_pp 9999 he hi his a w) h (by simp) (by simp) (by simp) (by simp)
        · rw [if_neg hab] at h
          split at h
          · rename_i hcl
            rw [Bool.and_eq_true] at hcl
            have cl : ∀ r, cellsAt w r = true → ∃ c T, w.heap[r]? = some (.cells c T (0, 0)) := fun r hr => by
              unfold cellsAt at hr
              split at hr
              · exact ⟨_, _, by assumption⟩
              · cases hr
            obtain ⟨ca, Ta, ha⟩ := cl _ hcl.1
            obtain ⟨cb, Tb, hb⟩ := cl _ hcl.2
            exact run_binEq (run_equal_pq 9999 he hi his w hab ha hb) h (by simp) (by simp) (by simp) (by simp)
          · cases h
      · cases h
    · cases hc
  · cases hc
end
end Go.Den
