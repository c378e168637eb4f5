/- From a law's walk to its row: how arguments read, and that they read behind the call as before. No condition. What every row asks of the program itself. No condition. How slices that stand in structs read. No condition. -/
import Derived.Test.YtmefbneoljpbgaaGreatDoorGb
import Derived.ProofKit
import Derived.OpenShut
import Derived.ShutString
import Derived.ChangeOld
import Derived.Below
import Derived.Deep.Slices
import Derived.Deep.Strs
import Derived.Test.YtmefbneoljpbgaaGreatDoorRows
import Derived.Lib.SmallJoins
section
namespace Go.Den
open Go.ChangeShapes Go.WideShapes Go.ChangeAt Go.RowKit

theorem Fr.below {w w' : World} (h : Fr [] w w') : Below w.heap.size w w' :=
  ⟨h.rest.1, h.rest.2.1, h.rest.2.2, h.grow, fun k hk => h.keep k hk (by simp)⟩

theorem cells?_spec {w : World} {base : Nat} {a : Addr} {n : Nat} {cs : List Value} (h : w.cells? base a n = some cs) : cs.length = n ∧ ∀ j, j < n → w.cell? (a.add j) = cs[j]? := by
  unfold World.cells? at h
  split at h
  · have key : ∀ (n s : Nat) (cs : List Value), (List.range' s n).mapM (fun i => w.cell? (a.add i)) = some cs → cs.length = n ∧ ∀ j, j < n → w.cell? (a.add (s + j)) = cs[j]? := by
      intro n
      induction n with
      | zero => intro s cs h; simp at h; subst h; simp
      | succ n ih =>
        intro s cs h
        rw [List.range'_succ, List.mapM_cons] at h
        cases hc : w.cell? (a.add s) with
        | none => simp [hc] at h
        | some v =>
          cases hr : (List.range' (s + 1) n).mapM (fun i => w.cell? (a.add i)) with
          | none => simp [hc, hr] at h
          | some r =>
            simp [hc, hr] at h
            subst h
            obtain ⟨h1, h2⟩ := ih (s + 1) r hr
            refine ⟨by simp [h1], fun j hj => ?_⟩
            cases j with
            | zero => simpa using hc
            | succ j =>
              have := h2 j (by omega)
              rw [show s + 1 + j = s + (j + 1) by omega] at this
              simpa using this
    rw [List.range_eq_range'] at h
    simpa using key n 0 cs h
  · simp at h

section
variable {α H : Type} {enc : TypeId × Value → H} {P : Program} {w : World} {encS : α → List Value} {OK : α → Prop}
/-- a slice that came in reads as a list of things, if each of its elements does. -/
theorem arr_of_trod {t e sz : Nat} {v : Value} {d : DataW H} {ps : List MemPlace} (ht : P.underlying t = some (.slice e)) (hc : P.cellsOf e = sz) (hsz : 0 < sz) (hl : ∀ x, (encS x).length = sz)
    (hdec : ∀ fuel cs y, DataW.trod enc P w 0 (fun _ => true) true fuel e cs = some y → ∃ x, cs = encS x ∧ OK x)
    (h : DataW.Trod enc P w 0 (fun _ => true) true t v d ps) (hv : ∃ a n c, v = .slice a n c) : ∃ xs, Arr encS sz w v xs ∧ ∀ x ∈ xs, OK x := by
  obtain ⟨a, n, c, rfl⟩ := hv
  obtain ⟨fuel, hf⟩ := h
  rcases Deep.open_slice ht hf with ⟨hcs, _⟩ | ⟨x, len, cap, m, k, D, Pl, hcs, _, hle, _, hm, _, hel⟩
  · simp [Value.cells] at hcs
    obtain ⟨rfl, rfl, rfl⟩ := hcs
    exact ⟨[], ⟨none, 0, rfl, .inl rfl⟩, by simp⟩
  · simp [Value.cells] at hcs
    obtain ⟨rfl, rfl, rfl⟩ := hcs
    have hnm : n ≤ m := by rw [hm]; simp; omega
    have hex : ∀ i, i < n → ∃ y : α, OK y ∧ ∀ j, j < sz → w.cell? (x.add (i * sz + j)) = (encS y)[j]? := fun i hi => by
      obtain ⟨cs', h1, h2⟩ := hel i (by omega)
      obtain ⟨y, rfl, hy⟩ := hdec _ _ _ h2
      rw [hc] at h1
      obtain ⟨_, h4⟩ := cells?_spec h1
      refine ⟨y, hy, fun j hj => ?_⟩
      have := h4 j hj
      have hadd : (x.add (i * sz)).add j = x.add (i * sz + j) := by
        unfold Addr.add
        by_cases h0 : i * sz = 0
        · simp [h0]
        · by_cases h1 : j = 0
          · simp [h0, h1]
          · simp [h0, h1, Nat.add_assoc]
      rwa [hadd] at this
    have key : ∀ n', n' ≤ n → ∃ xs : List α, xs.length = n' ∧ (∀ y ∈ xs, OK y) ∧ ∀ i y, xs[i]? = some y → ∀ j, j < sz → w.cell? (x.add (i * sz + j)) = (encS y)[j]? := by
      intro n'
      induction n' with
      | zero => intro _; exact ⟨[], rfl, by simp, by simp⟩
      | succ n' ih =>
        intro hn'
        obtain ⟨xs, h1, h2, h3⟩ := ih (by omega)
        obtain ⟨y, hy, hcell⟩ := hex n' (by omega)
        refine ⟨xs ++ [y], by simp [h1], fun z hz => ?_, fun i z hz j hj => ?_⟩
        · rcases List.mem_append.1 hz with h | h
          · exact h2 z h
          · simp at h; subst h; exact hy
        · by_cases hi : i < xs.length
          · rw [List.getElem?_append_left hi] at hz; exact h3 i z hz j hj
          · rw [List.getElem?_append_right (by omega)] at hz
            have : i = n' := by
              by_cases e : i - xs.length = 0
              · omega
              · simp [e] at hz
            subst this
            simp [h1] at hz; subst hz
            exact hcell j hj
    obtain ⟨xs, h1, h2, h3⟩ := key n (Nat.le_refl _)
    subst h1
    refine ⟨xs, ⟨some x, c, rfl, ?_⟩, h2⟩
    cases xs with
    | nil => exact .inl rfl
    | cons y ys =>
      right
      obtain ⟨b, o, spot⟩ := x
      have h00 := h3 0 y rfl 0 hsz
      rw [Nat.zero_mul, Nat.zero_add] at h00
      have hlen := hl y
      have hsome : ∃ u, w.cell? ⟨b, o, spot⟩ = some u := by
        have : (⟨b, o, spot⟩ : Addr).add 0 = ⟨b, o, spot⟩ := rfl
        rw [this] at h00
        exact ⟨(encS y)[0], by rw [h00, List.getElem?_eq_getElem (by omega)]⟩
      obtain ⟨u, hu⟩ := hsome
      have hspot : spot = none := World.cell?_spot hu
      subst hspot
      have hblk : ∃ c T fz, blk w b = some (.cells c T fz) := by
        unfold World.cell? at hu
        unfold blk
        split at hu
        · exact ⟨_, _, _, by assumption⟩
        · cases hu
      obtain ⟨cc, T, fz, hb⟩ := hblk
      refine ⟨b, o, cc, T, fz, rfl, hb, fun i z hz => ?_⟩
      have hz3 := h3 i z hz
      have hget : ∀ j, j < sz → cc[o + i * sz + j]? = (encS z)[j]? := fun j hj => by
        have := hz3 j hj
        rw [add_none, cell?_blk hb] at this
        rw [Nat.add_assoc]; exact this
      refine ⟨?_, hget⟩
      have h4 := hget (sz - 1) (by omega)
      rw [List.getElem?_eq_getElem (by rw [hl]; omega)] at h4
      have := (Array.getElem?_eq_some_iff.1 h4).1
      omega
theorem trodAll_below {ts : List TypeId} {vs : List Value} {ds : List (DataW H)} {ps : List MemPlace} {w' : World} (hl : laidOutB P = true) (hts : ts.all (fun t => P.readableRec t && decide (t < P.types.size)) = true)
    (h : DataW.TrodAll enc P w 0 (fun _ => true) true ts vs ds ps) (hb : Below w.heap.size w w') : DataW.TrodAll enc P w' 0 (fun b => decide (b < w.heap.size)) true ts vs ds ps := by
  induction ts generalizing vs ds ps with
  | nil =>
    obtain ⟨rfl, rfl, rfl⟩ := trodAll_nil h
    exact trodAll_mk0
  | cons t ts ih =>
    simp only [List.all_cons, Bool.and_eq_true, decide_eq_true_eq] at hts
    obtain ⟨v, vs', d, ds', p, q, rfl, rfl, rfl, h1, h2⟩ := trodAll_cons h
    have lt : ∀ x ∈ p, x.block < w.heap.size := by obtain ⟨m, hm⟩ := h1; exact DataW.trod_lt m _ _ _ hm
    exact trodAll_cons_mk (Below.trod hl hts.1.1 hts.1.2 h1 hb lt) (ih hts.2 h2)
end

/-- the frame of a row, with what its arguments weigh. -/
theorem handed_sized {H : Type} {enc : TypeId × Value → H} {a : Assume} {C : Checked} {os : Os} {f : FuncId} {fn : Func} {s : ChangeSpec} {conds : List PathCond} {apart fresh handsOn again : Bool}
    (own : ownKnob C.prog.godebug = none) (started : os.Started) (noInit : C.prog.inits.idxOf? f = none) (hfn : C.prog.funcs[f]? = some fn)
    (witness : ∃ (w : World) (tape : Tape) (i : Input), w.os = os ∧ (w.forCall tape i).Shaped C.prog ∧ i.vars = [] ∧ Input.okWide C.prog (w.forCall tape i) .any w.heap.size f i ∧
      s.pre6 enc C.prog fn conds apart (w.forCall tape i).memory i.args ∧ a.holds C.prog (lone (Frame.enter C.prog f i.args .normal) [] (w.forCall tape i)))
    (contract : ∀ (W : World) (base : Nat) (args : Array Value) (ds gs : List (DataW H)) (before : List MemPlace),
      (∀ (j : Nat) t v, fn.params[j]? = some t → args[j]? = some v → Value.okWide C.prog W .any base t v) →
      DataW.Whole enc C.prog fn.params.toList s.vars apart W args.toList ds gs before →
      (DataW.weightsEach C.prog (fn.params.toList ++ s.plain.varTypes C.prog) (ds ++ gs)).all (· ≤ reachBytes) = true →
      Calls C.prog f args W fun e W' => ∃ v, e = .returned v ∧ s.post enc C.prog fn apart fresh handsOn again W args v W') :
    ReturnsInHanded a C os f .any (s.pre6 enc C.prog fn conds apart) (s.post enc C.prog fn apart fresh handsOn again) := by
  refine returnsInHanded_of_calls own started noInit witness ?_
  intro w tape i _ _ _ hok hpre hholds
  obtain ⟨_, _, _, fn', hfn', _, _, _, _, hval⟩ := hok
  have e : fn' = fn := Option.some.inj (hfn'.symm.trans hfn)
  subst e
  obtain ⟨⟨ds, gs, before, hw, hc⟩, hz⟩ := hpre
  have hw' := DataW.Whole.of_heap (w' := w.forCall tape i) (by rfl) hw
  refine (contract (w.forCall tape i) w.heap.size i.args ds gs before hval hw' (hz.weights hw)).mono fun e W' ⟨v, he, hp⟩ => ?_
  subst he
  exact ChangeSpec.post_blind hp

theorem int_bounds_u64 {n : Int} (h : (Lit.int .u64 n).wf = true) : 0 ≤ n ∧ n < 18446744073709551616 := by
  have := bounds_u64 h; omega

end Go.Den
end

section
namespace Go.Proofs.YtmefbneoljpbgaaGreatDoor
theorem ownK : ownKnob Tryz.prog.godebug = none := by kernel_rfl
theorem laidOutK : laidOutB Tryz.prog = true := by kernel_rfl
end Go.Proofs.YtmefbneoljpbgaaGreatDoor
end

section
namespace Go.Den
open Go.ChangeShapes Go.WideShapes Go.ChangeAt Go.RowKit
section
variable {α H : Type} {enc : TypeId × Value → H} {P : Program} {w : World} {encS : α → List Value} {OK : α → Prop}
theorem trodS1 {base : Nat} {spare : Nat → Bool} {held : Bool} {t : TypeId} {f0 : Field} {fuel : Nat} {cs : List Value} {x : DataW H × List MemPlace} (ht : P.underlying t = some (.struct #[f0])) (h : DataW.trod enc P w base spare held fuel t cs = some x) :
    ∃ y0 n, x.1 = .agg [y0.1] ∧ cs.length = P.cellsOf t ∧ DataW.trod enc P w base spare held n f0.type ((cs.drop f0.offset).take (P.cellsOf f0.type)) = some y0 := by
  obtain ⟨xs, n, _, rfl, hl, hlen, hf⟩ := DataW.trod_struct ht h
  match xs, hlen with
  | [y0], _ => exact ⟨y0, n, rfl, hl, by simpa using hf 0 f0 rfl⟩
theorem trodS2 {base : Nat} {spare : Nat → Bool} {held : Bool} {t : TypeId} {f0 f1 : Field} {fuel : Nat} {cs : List Value} {x : DataW H × List MemPlace} (ht : P.underlying t = some (.struct #[f0, f1])) (h : DataW.trod enc P w base spare held fuel t cs = some x) :
    ∃ y0 y1 n, x.1 = .agg [y0.1, y1.1] ∧ cs.length = P.cellsOf t ∧ DataW.trod enc P w base spare held n f0.type ((cs.drop f0.offset).take (P.cellsOf f0.type)) = some y0 ∧
      DataW.trod enc P w base spare held n f1.type ((cs.drop f1.offset).take (P.cellsOf f1.type)) = some y1 := by
  obtain ⟨xs, n, _, rfl, hl, hlen, hf⟩ := DataW.trod_struct ht h
  match xs, hlen with
  | [y0, y1], _ => exact ⟨y0, y1, n, rfl, hl, by simpa using hf 0 f0 rfl, by simpa using hf 1 f1 rfl⟩
theorem trodS3 {base : Nat} {spare : Nat → Bool} {held : Bool} {t : TypeId} {f0 f1 f2 : Field} {fuel : Nat} {cs : List Value} {x : DataW H × List MemPlace} (ht : P.underlying t = some (.struct #[f0, f1, f2])) (h : DataW.trod enc P w base spare held fuel t cs = some x) :
    ∃ y0 y1 y2 n, x.1 = .agg [y0.1, y1.1, y2.1] ∧ cs.length = P.cellsOf t ∧ DataW.trod enc P w base spare held n f0.type ((cs.drop f0.offset).take (P.cellsOf f0.type)) = some y0 ∧
      DataW.trod enc P w base spare held n f1.type ((cs.drop f1.offset).take (P.cellsOf f1.type)) = some y1 ∧
      DataW.trod enc P w base spare held n f2.type ((cs.drop f2.offset).take (P.cellsOf f2.type)) = some y2 := by
  obtain ⟨xs, n, _, rfl, hl, hlen, hf⟩ := DataW.trod_struct ht h
  match xs, hlen with
  | [y0, y1, y2], _ => exact ⟨y0, y1, y2, n, rfl, hl, by simpa using hf 0 f0 rfl, by simpa using hf 1 f1 rfl, by simpa using hf 2 f2 rfl⟩
theorem trodS4 {base : Nat} {spare : Nat → Bool} {held : Bool} {t : TypeId} {f0 f1 f2 f3 : Field} {fuel : Nat} {cs : List Value} {x : DataW H × List MemPlace} (ht : P.underlying t = some (.struct #[f0, f1, f2, f3])) (h : DataW.trod enc P w base spare held fuel t cs = some x) :
    ∃ y0 y1 y2 y3 n, x.1 = .agg [y0.1, y1.1, y2.1, y3.1] ∧ cs.length = P.cellsOf t ∧ DataW.trod enc P w base spare held n f0.type ((cs.drop f0.offset).take (P.cellsOf f0.type)) = some y0 ∧
      DataW.trod enc P w base spare held n f1.type ((cs.drop f1.offset).take (P.cellsOf f1.type)) = some y1 ∧
      DataW.trod enc P w base spare held n f2.type ((cs.drop f2.offset).take (P.cellsOf f2.type)) = some y2 ∧
      DataW.trod enc P w base spare held n f3.type ((cs.drop f3.offset).take (P.cellsOf f3.type)) = some y3 := by
  obtain ⟨xs, n, _, rfl, hl, hlen, hf⟩ := DataW.trod_struct ht h
  match xs, hlen with
  | [y0, y1, y2, y3], _ => exact ⟨y0, y1, y2, y3, n, rfl, hl, by simpa using hf 0 f0 rfl, by simpa using hf 1 f1 rfl, by simpa using hf 2 f2 rfl, by simpa using hf 3 f3 rfl⟩
theorem trodS5 {base : Nat} {spare : Nat → Bool} {held : Bool} {t : TypeId} {f0 f1 f2 f3 f4 : Field} {fuel : Nat} {cs : List Value} {x : DataW H × List MemPlace} (ht : P.underlying t = some (.struct #[f0, f1, f2, f3, f4])) (h : DataW.trod enc P w base spare held fuel t cs = some x) :
    ∃ y0 y1 y2 y3 y4 n, x.1 = .agg [y0.1, y1.1, y2.1, y3.1, y4.1] ∧ cs.length = P.cellsOf t ∧ DataW.trod enc P w base spare held n f0.type ((cs.drop f0.offset).take (P.cellsOf f0.type)) = some y0 ∧
      DataW.trod enc P w base spare held n f1.type ((cs.drop f1.offset).take (P.cellsOf f1.type)) = some y1 ∧
      DataW.trod enc P w base spare held n f2.type ((cs.drop f2.offset).take (P.cellsOf f2.type)) = some y2 ∧
      DataW.trod enc P w base spare held n f3.type ((cs.drop f3.offset).take (P.cellsOf f3.type)) = some y3 ∧
      DataW.trod enc P w base spare held n f4.type ((cs.drop f4.offset).take (P.cellsOf f4.type)) = some y4 := by
  obtain ⟨xs, n, _, rfl, hl, hlen, hf⟩ := DataW.trod_struct ht h
  match xs, hlen with
  | [y0, y1, y2, y3, y4], _ => exact ⟨y0, y1, y2, y3, y4, n, rfl, hl, by simpa using hf 0 f0 rfl, by simpa using hf 1 f1 rfl, by simpa using hf 2 f2 rfl, by simpa using hf 3 f3 rfl, by simpa using hf 4 f4 rfl⟩
theorem trodS6 {base : Nat} {spare : Nat → Bool} {held : Bool} {t : TypeId} {f0 f1 f2 f3 f4 f5 : Field} {fuel : Nat} {cs : List Value} {x : DataW H × List MemPlace} (ht : P.underlying t = some (.struct #[f0, f1, f2, f3, f4, f5])) (h : DataW.trod enc P w base spare held fuel t cs = some x) :
    ∃ y0 y1 y2 y3 y4 y5 n, x.1 = .agg [y0.1, y1.1, y2.1, y3.1, y4.1, y5.1] ∧ cs.length = P.cellsOf t ∧ DataW.trod enc P w base spare held n f0.type ((cs.drop f0.offset).take (P.cellsOf f0.type)) = some y0 ∧
      DataW.trod enc P w base spare held n f1.type ((cs.drop f1.offset).take (P.cellsOf f1.type)) = some y1 ∧
      DataW.trod enc P w base spare held n f2.type ((cs.drop f2.offset).take (P.cellsOf f2.type)) = some y2 ∧
      DataW.trod enc P w base spare held n f3.type ((cs.drop f3.offset).take (P.cellsOf f3.type)) = some y3 ∧
      DataW.trod enc P w base spare held n f4.type ((cs.drop f4.offset).take (P.cellsOf f4.type)) = some y4 ∧
      DataW.trod enc P w base spare held n f5.type ((cs.drop f5.offset).take (P.cellsOf f5.type)) = some y5 := by
  obtain ⟨xs, n, _, rfl, hl, hlen, hf⟩ := DataW.trod_struct ht h
  match xs, hlen with
  | [y0, y1, y2, y3, y4, y5], _ => exact ⟨y0, y1, y2, y3, y4, y5, n, rfl, hl, by simpa using hf 0 f0 rfl, by simpa using hf 1 f1 rfl, by simpa using hf 2 f2 rfl, by simpa using hf 3 f3 rfl, by simpa using hf 4 f4 rfl, by simpa using hf 5 f5 rfl⟩
theorem trodS7 {base : Nat} {spare : Nat → Bool} {held : Bool} {t : TypeId} {f0 f1 f2 f3 f4 f5 f6 : Field} {fuel : Nat} {cs : List Value} {x : DataW H × List MemPlace} (ht : P.underlying t = some (.struct #[f0, f1, f2, f3, f4, f5, f6])) (h : DataW.trod enc P w base spare held fuel t cs = some x) :
    ∃ y0 y1 y2 y3 y4 y5 y6 n, x.1 = .agg [y0.1, y1.1, y2.1, y3.1, y4.1, y5.1, y6.1] ∧ cs.length = P.cellsOf t ∧ DataW.trod enc P w base spare held n f0.type ((cs.drop f0.offset).take (P.cellsOf f0.type)) = some y0 ∧
      DataW.trod enc P w base spare held n f1.type ((cs.drop f1.offset).take (P.cellsOf f1.type)) = some y1 ∧
      DataW.trod enc P w base spare held n f2.type ((cs.drop f2.offset).take (P.cellsOf f2.type)) = some y2 ∧
      DataW.trod enc P w base spare held n f3.type ((cs.drop f3.offset).take (P.cellsOf f3.type)) = some y3 ∧
      DataW.trod enc P w base spare held n f4.type ((cs.drop f4.offset).take (P.cellsOf f4.type)) = some y4 ∧
      DataW.trod enc P w base spare held n f5.type ((cs.drop f5.offset).take (P.cellsOf f5.type)) = some y5 ∧
      DataW.trod enc P w base spare held n f6.type ((cs.drop f6.offset).take (P.cellsOf f6.type)) = some y6 := by
  obtain ⟨xs, n, _, rfl, hl, hlen, hf⟩ := DataW.trod_struct ht h
  match xs, hlen with
  | [y0, y1, y2, y3, y4, y5, y6], _ => exact ⟨y0, y1, y2, y3, y4, y5, y6, n, rfl, hl, by simpa using hf 0 f0 rfl, by simpa using hf 1 f1 rfl, by simpa using hf 2 f2 rfl, by simpa using hf 3 f3 rfl, by simpa using hf 4 f4 rfl, by simpa using hf 5 f5 rfl, by simpa using hf 6 f6 rfl⟩
theorem trodS8 {base : Nat} {spare : Nat → Bool} {held : Bool} {t : TypeId} {f0 f1 f2 f3 f4 f5 f6 f7 : Field} {fuel : Nat} {cs : List Value} {x : DataW H × List MemPlace} (ht : P.underlying t = some (.struct #[f0, f1, f2, f3, f4, f5, f6, f7])) (h : DataW.trod enc P w base spare held fuel t cs = some x) :
    ∃ y0 y1 y2 y3 y4 y5 y6 y7 n, x.1 = .agg [y0.1, y1.1, y2.1, y3.1, y4.1, y5.1, y6.1, y7.1] ∧ cs.length = P.cellsOf t ∧ DataW.trod enc P w base spare held n f0.type ((cs.drop f0.offset).take (P.cellsOf f0.type)) = some y0 ∧
      DataW.trod enc P w base spare held n f1.type ((cs.drop f1.offset).take (P.cellsOf f1.type)) = some y1 ∧
      DataW.trod enc P w base spare held n f2.type ((cs.drop f2.offset).take (P.cellsOf f2.type)) = some y2 ∧
      DataW.trod enc P w base spare held n f3.type ((cs.drop f3.offset).take (P.cellsOf f3.type)) = some y3 ∧
      DataW.trod enc P w base spare held n f4.type ((cs.drop f4.offset).take (P.cellsOf f4.type)) = some y4 ∧
      DataW.trod enc P w base spare held n f5.type ((cs.drop f5.offset).take (P.cellsOf f5.type)) = some y5 ∧
      DataW.trod enc P w base spare held n f6.type ((cs.drop f6.offset).take (P.cellsOf f6.type)) = some y6 ∧
      DataW.trod enc P w base spare held n f7.type ((cs.drop f7.offset).take (P.cellsOf f7.type)) = some y7 := by
  obtain ⟨xs, n, _, rfl, hl, hlen, hf⟩ := DataW.trod_struct ht h
  match xs, hlen with
  | [y0, y1, y2, y3, y4, y5, y6, y7], _ => exact ⟨y0, y1, y2, y3, y4, y5, y6, y7, n, rfl, hl, by simpa using hf 0 f0 rfl, by simpa using hf 1 f1 rfl, by simpa using hf 2 f2 rfl, by simpa using hf 3 f3 rfl, by simpa using hf 4 f4 rfl, by simpa using hf 5 f5 rfl, by simpa using hf 6 f6 rfl, by simpa using hf 7 f7 rfl⟩
theorem trodS9 {base : Nat} {spare : Nat → Bool} {held : Bool} {t : TypeId} {f0 f1 f2 f3 f4 f5 f6 f7 f8 : Field} {fuel : Nat} {cs : List Value} {x : DataW H × List MemPlace} (ht : P.underlying t = some (.struct #[f0, f1, f2, f3, f4, f5, f6, f7, f8])) (h : DataW.trod enc P w base spare held fuel t cs = some x) :
    ∃ y0 y1 y2 y3 y4 y5 y6 y7 y8 n, x.1 = .agg [y0.1, y1.1, y2.1, y3.1, y4.1, y5.1, y6.1, y7.1, y8.1] ∧ cs.length = P.cellsOf t ∧ DataW.trod enc P w base spare held n f0.type ((cs.drop f0.offset).take (P.cellsOf f0.type)) = some y0 ∧
      DataW.trod enc P w base spare held n f1.type ((cs.drop f1.offset).take (P.cellsOf f1.type)) = some y1 ∧
      DataW.trod enc P w base spare held n f2.type ((cs.drop f2.offset).take (P.cellsOf f2.type)) = some y2 ∧
      DataW.trod enc P w base spare held n f3.type ((cs.drop f3.offset).take (P.cellsOf f3.type)) = some y3 ∧
      DataW.trod enc P w base spare held n f4.type ((cs.drop f4.offset).take (P.cellsOf f4.type)) = some y4 ∧
      DataW.trod enc P w base spare held n f5.type ((cs.drop f5.offset).take (P.cellsOf f5.type)) = some y5 ∧
      DataW.trod enc P w base spare held n f6.type ((cs.drop f6.offset).take (P.cellsOf f6.type)) = some y6 ∧
      DataW.trod enc P w base spare held n f7.type ((cs.drop f7.offset).take (P.cellsOf f7.type)) = some y7 ∧
      DataW.trod enc P w base spare held n f8.type ((cs.drop f8.offset).take (P.cellsOf f8.type)) = some y8 := by
  obtain ⟨xs, n, _, rfl, hl, hlen, hf⟩ := DataW.trod_struct ht h
  match xs, hlen with
  | [y0, y1, y2, y3, y4, y5, y6, y7, y8], _ => exact ⟨y0, y1, y2, y3, y4, y5, y6, y7, y8, n, rfl, hl, by simpa using hf 0 f0 rfl, by simpa using hf 1 f1 rfl, by simpa using hf 2 f2 rfl, by simpa using hf 3 f3 rfl, by simpa using hf 4 f4 rfl, by simpa using hf 5 f5 rfl, by simpa using hf 6 f6 rfl, by simpa using hf 7 f7 rfl, by simpa using hf 8 f8 rfl⟩
theorem trodS10 {base : Nat} {spare : Nat → Bool} {held : Bool} {t : TypeId} {f0 f1 f2 f3 f4 f5 f6 f7 f8 f9 : Field} {fuel : Nat} {cs : List Value} {x : DataW H × List MemPlace} (ht : P.underlying t = some (.struct #[f0, f1, f2, f3, f4, f5, f6, f7, f8, f9])) (h : DataW.trod enc P w base spare held fuel t cs = some x) :
    ∃ y0 y1 y2 y3 y4 y5 y6 y7 y8 y9 n, x.1 = .agg [y0.1, y1.1, y2.1, y3.1, y4.1, y5.1, y6.1, y7.1, y8.1, y9.1] ∧ cs.length = P.cellsOf t ∧ DataW.trod enc P w base spare held n f0.type ((cs.drop f0.offset).take (P.cellsOf f0.type)) = some y0 ∧
      DataW.trod enc P w base spare held n f1.type ((cs.drop f1.offset).take (P.cellsOf f1.type)) = some y1 ∧
      DataW.trod enc P w base spare held n f2.type ((cs.drop f2.offset).take (P.cellsOf f2.type)) = some y2 ∧
      DataW.trod enc P w base spare held n f3.type ((cs.drop f3.offset).take (P.cellsOf f3.type)) = some y3 ∧
      DataW.trod enc P w base spare held n f4.type ((cs.drop f4.offset).take (P.cellsOf f4.type)) = some y4 ∧
      DataW.trod enc P w base spare held n f5.type ((cs.drop f5.offset).take (P.cellsOf f5.type)) = some y5 ∧
      DataW.trod enc P w base spare held n f6.type ((cs.drop f6.offset).take (P.cellsOf f6.type)) = some y6 ∧
      DataW.trod enc P w base spare held n f7.type ((cs.drop f7.offset).take (P.cellsOf f7.type)) = some y7 ∧
      DataW.trod enc P w base spare held n f8.type ((cs.drop f8.offset).take (P.cellsOf f8.type)) = some y8 ∧
      DataW.trod enc P w base spare held n f9.type ((cs.drop f9.offset).take (P.cellsOf f9.type)) = some y9 := by
  obtain ⟨xs, n, _, rfl, hl, hlen, hf⟩ := DataW.trod_struct ht h
  match xs, hlen with
  | [y0, y1, y2, y3, y4, y5, y6, y7, y8, y9], _ => exact ⟨y0, y1, y2, y3, y4, y5, y6, y7, y8, y9, n, rfl, hl, by simpa using hf 0 f0 rfl, by simpa using hf 1 f1 rfl, by simpa using hf 2 f2 rfl, by simpa using hf 3 f3 rfl, by simpa using hf 4 f4 rfl, by simpa using hf 5 f5 rfl, by simpa using hf 6 f6 rfl, by simpa using hf 7 f7 rfl, by simpa using hf 8 f8 rfl, by simpa using hf 9 f9 rfl⟩
theorem weightsAll_mem {e : TypeId} {p : Nat → Bool} {d : DataW H} : ∀ {l : List (DataW H)}, d ∈ l → (DataW.weightsAll P e l).all p = true → (d.weights P e).all p = true
  | a :: l, h, hw => by
    simp only [DataW.weightsAll, List.all_append, Bool.and_eq_true] at hw
    rcases List.mem_cons.1 h with rfl | h
    · exact hw.1
    · exact weightsAll_mem h hw.2
theorem arr_of_trodW {t e sz : Nat} {v : Value} {OKW : α → Prop} {d : DataW H} {ps : List MemPlace} (ht : P.underlying t = some (.slice e)) (hc : P.cellsOf e = sz) (hsz : 0 < sz) (hl : ∀ x, (encS x).length = sz)
    (hdec : ∀ fuel cs y, DataW.trod enc P w 0 (fun _ => true) true fuel e cs = some y → ∃ x, cs = encS x ∧ OK x ∧ ((y.1.weights P e).all (· ≤ reachBytes) = true → OKW x))
    (h : DataW.Trod enc P w 0 (fun _ => true) true t v d ps) (hv : ∃ a n c, v = .slice a n c) : ∃ xs, Arr encS sz w v xs ∧ ∀ x ∈ xs, OK x ∧ ((d.weights P t).all (· ≤ reachBytes) = true → OKW x) := by
  obtain ⟨a, n, c, rfl⟩ := hv
  obtain ⟨fuel, hf⟩ := h
  rcases Deep.open_slice ht hf with ⟨hcs, _⟩ | ⟨x, len, cap, m, k, D, Pl, hcs, _, hle, _, hm, hx, hel⟩
  · simp [Value.cells] at hcs
    obtain ⟨rfl, rfl, rfl⟩ := hcs
    exact ⟨[], ⟨none, 0, rfl, .inl rfl⟩, by simp⟩
  · simp [Value.cells] at hcs
    obtain ⟨rfl, rfl, rfl⟩ := hcs
    have hnm : n ≤ m := by rw [hm]; simp; omega
    have hex : ∀ i, i < n → ∃ y : α, (OK y ∧ ((d.weights P t).all (· ≤ reachBytes) = true → OKW y)) ∧ ∀ j, j < sz → w.cell? (x.add (i * sz + j)) = (encS y)[j]? := fun i hi => by
      obtain ⟨cs', h1, h2⟩ := hel i (by omega)
      obtain ⟨y, rfl, hy1, hy2⟩ := hdec _ _ _ h2
      have hy : OK y ∧ ((d.weights P t).all (· ≤ reachBytes) = true → OKW y) := ⟨hy1, fun hW => hy2 (by
        obtain rfl := congrArg Prod.fst hx
        simp only [DataW.weights, ht, List.all_cons, List.all_append, Bool.and_eq_true] at hW
        exact weightsAll_mem (List.mem_map.2 ⟨i, List.mem_range.2 hi, rfl⟩) hW.2.1)⟩
      rw [hc] at h1
      obtain ⟨_, h4⟩ := cells?_spec h1
      refine ⟨y, hy, fun j hj => ?_⟩
      have := h4 j hj
      have hadd : (x.add (i * sz)).add j = x.add (i * sz + j) := by
        unfold Addr.add
        by_cases h0 : i * sz = 0
        · simp [h0]
        · by_cases h1 : j = 0
          · simp [h0, h1]
          · simp [h0, h1, Nat.add_assoc]
      rwa [hadd] at this
    have key : ∀ n', n' ≤ n → ∃ xs : List α, xs.length = n' ∧ (∀ y ∈ xs, OK y ∧ ((d.weights P t).all (· ≤ reachBytes) = true → OKW y)) ∧ ∀ i y, xs[i]? = some y → ∀ j, j < sz → w.cell? (x.add (i * sz + j)) = (encS y)[j]? := by
      intro n'
      induction n' with
      | zero => intro _; exact ⟨[], rfl, by simp, by simp⟩
      | succ n' ih =>
        intro hn'
        obtain ⟨xs, h1, h2, h3⟩ := ih (by omega)
        obtain ⟨y, hy, hcell⟩ := hex n' (by omega)
        refine ⟨xs ++ [y], by simp [h1], fun z hz => ?_, fun i z hz j hj => ?_⟩
        · rcases List.mem_append.1 hz with h | h
          · exact h2 z h
          · simp at h; subst h; exact hy
        · by_cases hi : i < xs.length
          · rw [List.getElem?_append_left hi] at hz; exact h3 i z hz j hj
          · rw [List.getElem?_append_right (by omega)] at hz
            have : i = n' := by
              by_cases e : i - xs.length = 0
              · omega
              · simp [e] at hz
            subst this
            simp [h1] at hz; subst hz
            exact hcell j hj
    obtain ⟨xs, h1, h2, h3⟩ := key n (Nat.le_refl _)
    subst h1
    refine ⟨xs, ⟨some x, c, rfl, ?_⟩, h2⟩
    cases xs with
    | nil => exact .inl rfl
    | cons y ys =>
      right
      obtain ⟨b, o, spot⟩ := x
      have h00 := h3 0 y rfl 0 hsz
      rw [Nat.zero_mul, Nat.zero_add] at h00
      have hlen := hl y
      have hsome : ∃ u, w.cell? ⟨b, o, spot⟩ = some u := by
        have : (⟨b, o, spot⟩ : Addr).add 0 = ⟨b, o, spot⟩ := rfl
        rw [this] at h00
        exact ⟨(encS y)[0], by rw [h00, List.getElem?_eq_getElem (by omega)]⟩
      obtain ⟨u, hu⟩ := hsome
      have hspot : spot = none := World.cell?_spot hu
      subst hspot
      have hblk : ∃ c T fz, blk w b = some (.cells c T fz) := by
        unfold World.cell? at hu
        unfold blk
        split at hu
        · exact ⟨_, _, _, by assumption⟩
        · cases hu
      obtain ⟨cc, T, fz, hb⟩ := hblk
      refine ⟨b, o, cc, T, fz, rfl, hb, fun i z hz => ?_⟩
      have hz3 := h3 i z hz
      have hget : ∀ j, j < sz → cc[o + i * sz + j]? = (encS z)[j]? := fun j hj => by
        have := hz3 j hj
        rw [add_none, cell?_blk hb] at this
        rw [Nat.add_assoc]; exact this
      refine ⟨?_, hget⟩
      have h4 := hget (sz - 1) (by omega)
      rw [List.getElem?_eq_getElem (by rw [hl]; omega)] at h4
      have := (Array.getElem?_eq_some_iff.1 h4).1
      omega
theorem wts_slice {t e B fuel n c R : Nat} {a : Option Addr} {y : DataW H × List MemPlace} (ht : P.underlying t = some (.slice e)) (hB : P.bytesOf e = B) (h : DataW.trod enc P w 0 (fun _ => true) true fuel t [.slice a n c] = some y)
    (hw : (y.1.weights P t).all (· ≤ R) = true) : n * B ≤ R := by
  rcases Deep.open_slice ht h with ⟨hcs, _⟩ | ⟨x, len, cap, m, k, D, Pl, hcs, _, hle, _, hm, hx, _⟩
  · simp at hcs
    obtain ⟨_, rfl, _⟩ := hcs
    simp
  · simp at hcs
    obtain ⟨_, rfl, rfl⟩ := hcs
    rw [hx] at hw
    simp only [DataW.weights, ht, List.all_cons, Bool.and_eq_true, decide_eq_true_eq, List.length_map, List.length_range, hB] at hw
    exact Nat.le_trans (Nat.mul_le_mul_right _ (by omega)) hw.1
theorem arr_of_cells {t e sz fuel : Nat} {cs : List Value} {y : DataW H × List MemPlace} (ht : P.underlying t = some (.slice e)) (hc : P.cellsOf e = sz) (hsz : 0 < sz) (hl : ∀ x, (encS x).length = sz)
    (hdec : ∀ fuel cs y, DataW.trod enc P w 0 (fun _ => true) true fuel e cs = some y → ∃ x, cs = encS x ∧ OK x)
    (h : DataW.trod enc P w 0 (fun _ => true) true fuel t cs = some y) : ∃ v, cs = [v] ∧ Capd v ∧ ∃ xs, Arr encS sz w v xs ∧ (∀ x ∈ xs, OK x) ∧ ((y.1.weights P t).all (· ≤ reachBytes) = true → xs.length * P.bytesOf e ≤ reachBytes) := by
  have hv : ∃ a n c, cs = [.slice a n c] ∧ n ≤ c := by
    rcases Deep.open_slice ht h with ⟨rfl, _⟩ | ⟨x, len, cap, m, k, D, Pl, rfl, _, hle, _⟩
    · exact ⟨_, _, _, rfl, Nat.le_refl _⟩
    · exact ⟨_, _, _, rfl, hle⟩
  obtain ⟨a, n, c, rfl, hle⟩ := hv
  refine ⟨_, rfl, ⟨_, _, _, rfl, hle⟩, ?_⟩
  obtain ⟨xs, h1, h2⟩ := arr_of_trod (encS := encS) (OK := OK) (d := y.1) (ps := y.2) ht hc hsz hl hdec ⟨fuel, by simpa [Value.cells] using h⟩ ⟨_, _, _, rfl⟩
  refine ⟨xs, h1, h2, fun hw => ?_⟩
  obtain ⟨_, _, e, _⟩ := h1
  cases e
  exact wts_slice ht rfl h hw
theorem capd_of {t e : Nat} {v : Value} {d : DataW H} {ps : List MemPlace} (ht : P.underlying t = some (.slice e)) (h : DataW.Trod enc P w 0 (fun _ => true) true t v d ps) (hv : ∃ a n c, v = .slice a n c) : Capd v := by
  obtain ⟨a, n, c, rfl⟩ := hv
  obtain ⟨fuel, hf⟩ := h
  rcases Deep.open_slice ht hf with ⟨hcs, _⟩ | ⟨x, len, cap, m, k, D, Pl, hcs, _, hle, _⟩
  · simp [Value.cells] at hcs
    obtain ⟨rfl, rfl, rfl⟩ := hcs
    exact ⟨_, _, _, rfl, Nat.le_refl _⟩
  · simp [Value.cells] at hcs
    obtain ⟨rfl, rfl, rfl⟩ := hcs
    exact ⟨_, _, _, rfl, hle⟩
theorem u64_of_wf {n : Int} (h : (Lit.int .u64 n).wf = true) : 0 ≤ n ∧ n < 18446744073709551616 := int_bounds_u64 h
end
end Go.Den
end
