/- From a law's walk to its row: how arguments read, and that they read behind the call as before. No condition. -/
import Derived.Test.YthlmkjkjebcpfaaLib
import Derived.ProofKit
import Derived.OpenShut
import Derived.ShutString
import Derived.ChangeOld
import Derived.Below
import Derived.Deep.Slices
import Derived.Deep.Strs
namespace Go.Den
open Go.ChangeShapes Go.WideShapes Go.ChangeAt Go.RowKit

theorem Fr.below {w w' : World} (h : Fr [] w w') : Below w.heap.size w w' :=
  ⟨h.rest.1, h.rest.2.1, h.rest.2.2, h.grow, fun k hk => h.keep k hk (by simp)⟩

theorem cells?_spec {w : World} {base : Nat} {a : Addr} {n : Nat} {cs : List Value} (h : w.cells? base a n = some cs) : cs.length = n ∧ ∀ j, j < n → w.cell? (a.add j) = cs[j]? := by
  unfold World.cells? at h
  split at h
  · have key : ∀ (n s : Nat) (cs : List Value), (List.range' s n).mapM (fun i => w.cell? (a.add i)) = some cs → cs.length = n ∧ ∀ j, j < n → w.cell? (a.add (s + j)) = cs[j]? := by
      intro n
      induction n with
      | zero => intro s cs h; simp at h; subst h; simp
      | succ n ih =>
        intro s cs h
        rw [List.range'_succ, List.mapM_cons] at h
        cases hc : w.cell? (a.add s) with
        | none => simp [hc] at h
        | some v =>
          cases hr : (List.range' (s + 1) n).mapM (fun i => w.cell? (a.add i)) with
          | none => simp [hc, hr] at h
          | some r =>
            simp [hc, hr] at h
            subst h
            obtain ⟨h1, h2⟩ := ih (s + 1) r hr
            refine ⟨by simp [h1], fun j hj => ?_⟩
            cases j with
            | zero => simpa using hc
            | succ j =>
              have := h2 j (by omega)
              rw [show s + 1 + j = s + (j + 1) by omega] at this
              simpa using this
    rw [List.range_eq_range'] at h
    simpa using key n 0 cs h
  · simp at h

section
variable {α H : Type} {enc : TypeId × Value → H} {P : Program} {w : World} {encS : α → List Value} {OK : α → Prop}
/-- a slice that came in reads as a list of things, if each of its elements does. -/
theorem arr_of_trod {t e sz : Nat} {v : Value} {d : DataW H} {ps : List MemPlace} (ht : P.underlying t = some (.slice e)) (hc : P.cellsOf e = sz) (hsz : 0 < sz) (hl : ∀ x, (encS x).length = sz)
    (hdec : ∀ fuel cs y, DataW.trod enc P w 0 (fun _ => true) true fuel e cs = some y → ∃ x, cs = encS x ∧ OK x)
    (h : DataW.Trod enc P w 0 (fun _ => true) true t v d ps) (hv : ∃ a n c, v = .slice a n c) : ∃ xs, Arr encS sz w v xs ∧ ∀ x ∈ xs, OK x := by
  obtain ⟨a, n, c, rfl⟩ := hv
  obtain ⟨fuel, hf⟩ := h
  rcases Deep.open_slice ht hf with ⟨hcs, _⟩ | ⟨x, len, cap, m, k, D, Pl, hcs, _, hle, _, hm, _, hel⟩
  · simp [Value.cells] at hcs
    obtain ⟨rfl, rfl, rfl⟩ := hcs
    exact ⟨[], ⟨none, 0, rfl, .inl rfl⟩, by simp⟩
  · simp [Value.cells] at hcs
    obtain ⟨rfl, rfl, rfl⟩ := hcs
    have hnm : n ≤ m := by rw [hm]; simp; omega
    have hex : ∀ i, i < n → ∃ y : α, OK y ∧ ∀ j, j < sz → w.cell? (x.add (i * sz + j)) = (encS y)[j]? := fun i hi => by
      obtain ⟨cs', h1, h2⟩ := hel i (by omega)
      obtain ⟨y, rfl, hy⟩ := hdec _ _ _ h2
      rw [hc] at h1
      obtain ⟨_, h4⟩ := cells?_spec h1
      refine ⟨y, hy, fun j hj => ?_⟩
      have := h4 j hj
      have hadd : (x.add (i * sz)).add j = x.add (i * sz + j) := by
        unfold Addr.add
        by_cases h0 : i * sz = 0
        · simp [h0]
        · by_cases h1 : j = 0
          · simp [h0, h1]
          · simp [h0, h1, Nat.add_assoc]
      rwa [hadd] at this
    have key : ∀ n', n' ≤ n → ∃ xs : List α, xs.length = n' ∧ (∀ y ∈ xs, OK y) ∧ ∀ i y, xs[i]? = some y → ∀ j, j < sz → w.cell? (x.add (i * sz + j)) = (encS y)[j]? := by
      intro n'
      induction n' with
      | zero => intro _; exact ⟨[], rfl, by simp, by simp⟩
      | succ n' ih =>
        intro hn'
        obtain ⟨xs, h1, h2, h3⟩ := ih (by omega)
        obtain ⟨y, hy, hcell⟩ := hex n' (by omega)
        refine ⟨xs ++ [y], by simp [h1], fun z hz => ?_, fun i z hz j hj => ?_⟩
        · rcases List.mem_append.1 hz with h | h
          · exact h2 z h
          · simp at h; subst h; exact hy
        · by_cases hi : i < xs.length
          · rw [List.getElem?_append_left hi] at hz; exact h3 i z hz j hj
          · rw [List.getElem?_append_right (by omega)] at hz
            have : i = n' := by
              by_cases e : i - xs.length = 0
              · omega
              · simp [e] at hz
            subst this
            simp [h1] at hz; subst hz
            exact hcell j hj
    obtain ⟨xs, h1, h2, h3⟩ := key n (Nat.le_refl _)
    subst h1
    refine ⟨xs, ⟨some x, c, rfl, ?_⟩, h2⟩
    cases xs with
    | nil => exact .inl rfl
    | cons y ys =>
      right
      obtain ⟨b, o, spot⟩ := x
      have h00 := h3 0 y rfl 0 hsz
      rw [Nat.zero_mul, Nat.zero_add] at h00
      have hlen := hl y
      have hsome : ∃ u, w.cell? ⟨b, o, spot⟩ = some u := by
        have : (⟨b, o, spot⟩ : Addr).add 0 = ⟨b, o, spot⟩ := rfl
        rw [this] at h00
        exact ⟨(encS y)[0], by rw [h00, List.getElem?_eq_getElem (by omega)]⟩
      obtain ⟨u, hu⟩ := hsome
      have hspot : spot = none := World.cell?_spot hu
      subst hspot
      have hblk : ∃ c T fz, blk w b = some (.cells c T fz) := by
        unfold World.cell? at hu
        unfold blk
        split at hu
        · exact ⟨_, _, _, by assumption⟩
        · cases hu
      obtain ⟨cc, T, fz, hb⟩ := hblk
      refine ⟨b, o, cc, T, fz, rfl, hb, fun i z hz => ?_⟩
      have hz3 := h3 i z hz
      have hget : ∀ j, j < sz → cc[o + i * sz + j]? = (encS z)[j]? := fun j hj => by
        have := hz3 j hj
        rw [add_none, cell?_blk hb] at this
        rw [Nat.add_assoc]; exact this
      refine ⟨?_, hget⟩
      have h4 := hget (sz - 1) (by omega)
      rw [List.getElem?_eq_getElem (by rw [hl]; omega)] at h4
      have := (Array.getElem?_eq_some_iff.1 h4).1
      omega
theorem trodAll_below {ts : List TypeId} {vs : List Value} {ds : List (DataW H)} {ps : List MemPlace} {w' : World} (hl : laidOutB P = true) (hts : ts.all (fun t => P.readableRec t && decide (t < P.types.size)) = true)
    (h : DataW.TrodAll enc P w 0 (fun _ => true) true ts vs ds ps) (hb : Below w.heap.size w w') : DataW.TrodAll enc P w' 0 (fun b => decide (b < w.heap.size)) true ts vs ds ps := by
  induction ts generalizing vs ds ps with
  | nil =>
    obtain ⟨rfl, rfl, rfl⟩ := trodAll_nil h
    exact trodAll_mk0
  | cons t ts ih =>
    simp only [List.all_cons, Bool.and_eq_true, decide_eq_true_eq] at hts
    obtain ⟨v, vs', d, ds', p, q, rfl, rfl, rfl, h1, h2⟩ := trodAll_cons h
    have lt : ∀ x ∈ p, x.block < w.heap.size := by obtain ⟨m, hm⟩ := h1; exact DataW.trod_lt m _ _ _ hm
    exact trodAll_cons_mk (Below.trod hl hts.1.1 hts.1.2 h1 hb lt) (ih hts.2 h2)
end

/-- the frame of a row, with what its arguments weigh. -/
theorem handed_sized {H : Type} {enc : TypeId × Value → H} {a : Assume} {C : Checked} {os : Os} {f : FuncId} {fn : Func} {s : ChangeSpec} {conds : List PathCond} {apart fresh handsOn again : Bool}
    (own : ownKnob C.prog.godebug = none) (started : os.Started) (noInit : C.prog.inits.idxOf? f = none) (hfn : C.prog.funcs[f]? = some fn)
    (witness : ∃ (w : World) (tape : Tape) (i : Input), w.os = os ∧ (w.forCall tape i).Shaped C.prog ∧ i.vars = [] ∧ Input.okWide C.prog (w.forCall tape i) .any w.heap.size f i ∧
      s.pre6 enc C.prog fn conds apart (w.forCall tape i).memory i.args ∧ a.holds C.prog (lone (Frame.enter C.prog f i.args .normal) [] (w.forCall tape i)))
    (contract : ∀ (W : World) (base : Nat) (args : Array Value) (ds gs : List (DataW H)) (before : List MemPlace),
      (∀ (j : Nat) t v, fn.params[j]? = some t → args[j]? = some v → Value.okWide C.prog W .any base t v) →
      DataW.Whole enc C.prog fn.params.toList s.vars apart W args.toList ds gs before →
      (DataW.weightsEach C.prog (fn.params.toList ++ s.plain.varTypes C.prog) (ds ++ gs)).all (· ≤ reachBytes) = true →
      Calls C.prog f args W fun e W' => ∃ v, e = .returned v ∧ s.post enc C.prog fn apart fresh handsOn again W args v W') :
    ReturnsInHanded a C os f .any (s.pre6 enc C.prog fn conds apart) (s.post enc C.prog fn apart fresh handsOn again) := by
  refine returnsInHanded_of_calls own started noInit witness ?_
  intro w tape i _ _ _ hok hpre hholds
  obtain ⟨_, _, _, fn', hfn', _, _, _, _, hval⟩ := hok
  have e : fn' = fn := Option.some.inj (hfn'.symm.trans hfn)
  subst e
  obtain ⟨⟨ds, gs, before, hw, hc⟩, hz⟩ := hpre
  have hw' := DataW.Whole.of_heap (w' := w.forCall tape i) (by rfl) hw
  refine (contract (w.forCall tape i) w.heap.size i.args ds gs before hval hw' (hz.weights hw)).mono fun e W' ⟨v, he, hp⟩ => ?_
  subst he
  exact ChangeSpec.post_blind hp

theorem int_bounds_u64 {n : Int} (h : (Lit.int .u64 n).wf = true) : 0 ≤ n ∧ n < 18446744073709551616 := by
  have := bounds_u64 h; omega

end Go.Den
