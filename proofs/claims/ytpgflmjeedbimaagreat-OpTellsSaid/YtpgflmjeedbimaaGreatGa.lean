/- Every operation that 'den' takes is the model's. No condition. 'den' of a function's body, and that it may be leant on: whatever order Go takes where it leaves the order open. No condition. A region whose order Go leaves open: one order that 'den' reads in stands for all of them. No condition. A region whose order Go leaves open, read in several orders at once: each order that Go may take is one of them, but for what may be moved. No condition. A region of which some words may be done in any order that their grounds let: all these orders are read, as a tree. No condition. 'den' of code, and of a function; that it may be leant on. No condition. -/
import Derived.Test.YtpgflmjeedbimaaGreatDenOps
import Derived.Scope
set_option linter.unusedVariables false
set_option linter.unusedSimpArgs false
section
namespace Go.Den
section
variable {P : Program}
theorem run_min2v {x y v : Value} (hv : min2v x y = some v) (ts : Array TypeId) (t : TypeId) (w : World) : (Builtin.min_ ts t #[x, y]).run P w = .ok v w := by
  unfold min2v at hv
  split at hv
  · simp at hv; subst hv; simp [Builtin.min_, Builtin.min2]
  · simp at hv
theorem run_max2v {x y v : Value} (hv : max2v x y = some v) (ts : Array TypeId) (t : TypeId) (w : World) : (Builtin.max_ ts t #[x, y]).run P w = .ok v w := by
  unfold max2v at hv
  split at hv
  · simp at hv; subst hv; simp [Builtin.max_, Builtin.max2]
  · simp at hv
theorem run_max3v {x y z v : Value} (hv : ((max2v x y).bind fun a => max2v a z) = some v) (ts : Array TypeId) (t : TypeId) (w : World) : (Builtin.max_ ts t #[x, y, z]).run P w = .ok v w := by
  have one : ∀ {x y v : Value}, max2v x y = some v → (Builtin.max2 x y).run P w = .ok v w := by
    intro x y v hv
    unfold max2v at hv
    split at hv
    · simp at hv; subst hv; simp [Builtin.max2]
    · simp at hv
  cases h1 : max2v x y with
  | none => simp [h1] at hv
  | some a =>
    simp [h1] at hv
    simp [Builtin.max_, List.foldlM, one h1, one hv]
theorem run_max4v {x y z u v : Value} (hv : ((max2v x y).bind fun a => (max2v a z).bind fun b => max2v b u) = some v) (ts : Array TypeId) (t : TypeId) (w : World) : (Builtin.max_ ts t #[x, y, z, u]).run P w = .ok v w := by
  have one : ∀ {x y v : Value}, max2v x y = some v → (Builtin.max2 x y).run P w = .ok v w := by
    intro x y v hv
    unfold max2v at hv
    split at hv
    · simp at hv; subst hv; simp [Builtin.max2]
    · simp at hv
  cases h1 : max2v x y with
  | none => simp [h1] at hv
  | some a =>
    cases h2 : max2v a z with
    | none => simp [h1, h2] at hv
    | some b =>
      simp [h1, h2] at hv
      simp [Builtin.max_, List.foldlM, one h1, one h2, one hv]
theorem okCallee_spec {g : Nat} (h : okCallee P g = true) (args : Array Value) (w : World) : (callFunc g args).run P w = .ok (.enter g args) w := by
  unfold okCallee at h
  cases hg : P.funcs[g]? with
  | none => simp [hg] at h
  | some fn =>
    simp [hg] at h
    have h1 : ¬ (fn.name = "runtime.NumGoroutine") := h.2
    simp [callFunc, hg, h1]
    intro hb; simp [hb] at h
theorem extAdd_spec {g : Nat} (h : extAdd P g = true) {l : List Value} {v : Value} (hv : add64v l = some v) (w : World) : (callFunc g l.toArray).run P w = .ok (.value v) w := by
  unfold extAdd at h
  cases hg : P.funcs[g]? with
  | none => simp [hg] at h
  | some fn =>
    simp only [hg, Bool.and_eq_true] at h
    obtain ⟨⟨hb, hn⟩, hx⟩ := h
    have hn' : fn.name = "math/bits.Add64" := by simpa using hn
    have hx' : Extern.findNext fn = none := by simpa using hx
    have he : Extern.find fn = some add64Entry := by
      unfold Extern.find
      rw [hn']
      rfl
    rw [run_callFunc_extern hg (by rw [hn']; rfl) hb hx' he]
    unfold add64v at hv
    split at hv
    · split at hv
      · rename_i h4
        cases hv
        rw [run_add64 _ _ _ h4.1 h4.2.1 h4.2.2.1 h4.2.2.2]
        rfl
      · cases hv
    · cases hv
theorem upon_enter {k : Value → World → Prop} {f : Nat} {args : List Value} {w : World} (h : CALL P f args w k) : Upon P k (.ok (.enter f args.toArray) w) := h.calls
theorem CALL_mono {f : Nat} {args : List Value} {w : World} {k k' : Value → World → Prop} (hk : ∀ v w, k v w → k' v w) (h : CALL P f args w k) : CALL P f args w k' :=
  ⟨Calls.mono h.calls fun _ _ ⟨v, he, hv⟩ => ⟨v, he, hk _ _ hv⟩⟩
theorem CALLV_mono {fv : Value} {args : List Value} {w : World} {k k' : Value → World → Prop} (hk : ∀ v w, k v w → k' v w) (h : CALLV P fv args w k) : CALLV P fv args w k' := by
  obtain ⟨f, a, b, h1, h2, h3⟩ := h
  exact ⟨f, a, b, h1, h2, CALL_mono hk h3⟩
theorem call_ok (f : Operand → Value) (hf : ∀ g, f (.func g) = .func (.func g) #[] #[]) (c : Call) (ty : TypeId) :
    (semCall P f c).ok P (do let d ← resolve f c ty; invoke d.target d.args) := by
  obtain ⟨callee, args, tys⟩ := c
  have hargs : args.map f = (args.toList.map f).toArray := by
    rw [← Array.toArray_toList (xs := args), List.map_toArray]
  unfold semCall
  split
  · rename_i b hc
    simp only at hc; subst hc
    simp only [resolve, pure_bind, invoke]
    generalize hl : args.toList = l
    generalize ht : tys.toList = tl
    have ha : args = l.toArray := by rw [← hl]
    have hty : tys = tl.toArray := by rw [← ht]
    subst ha; subst hty
    unfold semBuiltin
    split
    · rename_i x t
      simp only [builtin, List.map_toArray, List.map_cons, List.map_nil]
      split
      · rename_i hu
        exact ok_pure fun v hv w => run_lens hu hv w
      · rename_i hu
        exact ok_pure fun v hv w => run_lenl hu hv w
      · rename_i hu
        exact ok_read fun w v hv => run_mlenv hu hv
      · exact ok_bad _
    · rename_i x t
      simp only [builtin, List.map_toArray, List.map_cons, List.map_nil]
      split
      · rename_i hu
        exact ok_pure fun v hv w => run_capl hu hv w
      · exact ok_bad _
    · rename_i s x t u
      simp only [builtin, List.map_toArray, List.map_cons, List.map_nil]
      cases hu : P.underlying t with
      | none => exact ok_bad _
      | some d =>
        cases d with
        | slice e =>
          simp only
          cases hi : P.info? e with
          | none => exact ok_bad _
          | some i =>
            simp only
            cases hz : i.zero with
            | none => exact ok_bad _
            | some z =>
              simp only
              split
              · rename_i hv
                refine ⟨fun w k hk => ?_, fun w k k' hkk hk => APPEND_mono hkk hk⟩
                obtain ⟨v, w', hr, hk⟩ := run_append (ty := ty) hu (.inl ⟨_, hv⟩) hi hz hk
                simp only [Sem.run_bind, hr, Result.andThen_ok, Sem.run_pure, Upon]
                exact hk
              · rename_i hv
                refine ⟨fun w k hk => ?_, fun w k k' hkk hk => APPEND_mono hkk hk⟩
                obtain ⟨v, w', hr, hk⟩ := run_append (ty := ty) hu (.inr hv) hi hz hk
                simp only [Sem.run_bind, hr, Result.andThen_ok, Sem.run_pure, Upon]
                exact hk
              · exact ok_bad _
        | _ => exact ok_bad _
    · rename_i m x t u
      simp only [builtin, List.map_toArray, List.map_cons, List.map_nil]
      split
      · rename_i kt e hu
        split
        · rename_i kd hkd
          refine ⟨fun w k hk => ?_, fun w k k' hkk hk => BND_mono (fun w' h => hkk _ _ h) hk⟩
          obtain ⟨w', hw, hk⟩ := BND_iff.1 hk
          simp only [Sem.run_bind, run_mdel (u := u) (ty := ty) hu hkd hw, Result.andThen_ok, Sem.run_pure, Upon]
          exact hk
        · exact ok_bad _
      · exact ok_bad _
    · rename_i x t
      simp only [builtin, List.map_toArray, List.map_cons, List.map_nil]
      split
      · rename_i e hu
        split
        · rename_i z hz
          refine ⟨fun w k hk => ?_, fun w k k' hkk hk => BND_mono (fun w' h => hkk _ _ h) hk⟩
          obtain ⟨w', hw, hk⟩ := BND_iff.1 hk
          simp only [Sem.run_bind, run_clearv (ty := ty) hu hz hw, Result.andThen_ok, Sem.run_pure, Upon]
          exact hk
        · exact ok_bad _
      · exact ok_bad _
    · simp only [builtin, List.map_toArray, List.map_cons, List.map_nil]
      exact ok_pure fun v hv w => run_min2v hv _ _ w
    · simp only [builtin, List.map_toArray, List.map_cons, List.map_nil]
      exact ok_pure fun v hv w => run_max2v hv _ _ w
    · simp only [builtin, List.map_toArray, List.map_cons, List.map_nil]
      exact ok_pure fun v hv w => run_max3v hv _ _ w
    · simp only [builtin, List.map_toArray, List.map_cons, List.map_nil]
      exact ok_pure fun v hv w => run_max4v hv _ _ w
    · exact ok_bad _
  · rename_i g hc
    simp only at hc; subst hc
    split
    · rename_i hg
      refine ⟨fun w k hk => ?_, fun w k k' hkk hk => CALL_mono hkk hk⟩
      simp only [resolve, hf, Deferred.ofValue, pure_bind, invoke, Array.append_empty, Array.empty_append, okCallee_spec hg, hargs]
      exact upon_enter hk
    · split
      · rename_i hx
        intro v hv w
        simp only [resolve, hf, Deferred.ofValue, pure_bind, invoke, Array.append_empty, Array.empty_append, hargs]
        exact extAdd_spec hx hv w
      · exact ok_bad _
  · rename_i fv _ hc
    simp only at hc; subst hc
    refine ⟨fun w k hk => ?_, fun w k k' hkk hk => CALLV_mono hkk hk⟩
    obtain ⟨g, first, captured, hv, hok, hc⟩ := hk
    simp only [resolve, hv, Deferred.ofValue, pure_bind, invoke, okCallee_spec hok, hargs]
    have : first ++ (args.toList.map f).toArray ++ captured = (first.toList ++ args.toList.map f ++ captured.toList).toArray := by
      apply Array.ext'; simp
    rw [this]
    exact upon_enter hc
  · exact ok_bad _
theorem ok_some {s : Sem Value} {g : World → (Value → World → Prop) → Prop} (h : ∀ w k, g w k → ∃ v w', s.run P w = .ok v w' ∧ k v w') (hm : ∀ w k k', (∀ v w, k v w → k' v w) → g w k → g w k') :
    (OpSem.eff g).ok P (do pure (.value (← s))) := by
  refine ⟨fun w k hk => ?_, hm⟩
  obtain ⟨v, w', hr, hv⟩ := h w k hk
  simp only [Sem.run_bind, hr, Result.andThen_ok, Sem.run_pure, Upon]
  exact hv
theorem ok_bnew {s : Sem Value} {g : World → Option (Value × World)} (h : ∀ w p, g w = some p → s.run P w = .ok p.1 p.2) : (OpSem.eff fun w k => BND (g w) fun p => NEW p k).ok P (do pure (.value (← s))) :=
  ok_some (fun w k hk => by obtain ⟨p, hp, hk⟩ := BND_iff.1 hk; exact ⟨_, _, h w p hp, hk.h⟩) fun w k k' hk h => BND_mono (fun p hp => ⟨hk _ _ hp.h⟩) h
theorem op_ok (f : Operand → Value) (hf : ∀ g, f (.func g) = .func (.func g) #[] #[]) (o : Oper) : (opSem P f o.op).ok P (execOp f o) := by
  obtain ⟨dst, op, ty, pos, after, guard⟩ := o
  have hparts : ∀ parts : Array (Nat × Operand), (parts.map fun x => (x.1, f x.2)) = (parts.toList.map fun x => (x.1, f x.2)).toArray := fun parts => by
    rw [← Array.toArray_toList (xs := parts), List.map_toArray]
  have hmap : ∀ xs : Array Operand, xs.map f = (xs.toList.map f).toArray := fun xs => by
    rw [← Array.toArray_toList (xs := xs), List.map_toArray]
  cases op
  case move x =>
    dsimp only [execOp, opSem]
    exact ok_move _
  case assign x =>
    dsimp only [execOp, opSem]
    exact ok_move _
  case pick c a b =>
    dsimp only [execOp, opSem]
    exact ok_pick _ _ _
  case alloc T =>
    dsimp only [execOp, opSem]
    split
    · rename_i hz; exact ok_new fun w => run_alloc hz w
    · exact ok_bad _
  case box T x =>
    dsimp only [execOp, opSem]
    exact ok_new fun w => run_box _ _ w
  case build t parts =>
    dsimp only [execOp, opSem]
    split
    · rename_i z ps hz hall hp
      refine ok_pure fun v hv w => ?_
      have := run_build hz hall hp hv w
      rw [hparts]; exact this
    · exact ok_bad _
  case buildSlice t len parts =>
    dsimp only [execOp, opSem]
    split
    · rename_i e hu
      split
      · rename_i i hi
        split
        · rename_i z ps hz hp
          split
          · rename_i hlen
            refine ⟨fun w k hk => ?_, fun w k k' hkk hk => BND_mono (fun p h => ⟨hkk _ _ h.h⟩) hk⟩
            obtain ⟨p, hn, hk⟩ := BND_iff.1 hk
            have hs : sizeT P e = some i.size := by simp [sizeT, hi]
            have hzz : zeroOf P e = some z := by simp [zeroOf, hi, hz]
            have hr : (Instr.buildSlice t len (parts.map fun x => (x.1, f x.2))).run P w = .ok p.1 p.2 := by
              unfold newslice at hn
              split at hn
              · rename_i cells hfill
                simp at hn; subst hn
                have hlen' : ¬ (16777216 < len * i.size) := by simpa using hlen
                have hf' : Instr.fill (fun j => some (j * i.size, i.size)) ((Array.range (len * i.size)).map (z.cells[· % z.cells.size]!)) (parts.toList.map fun x => (x.1, f x.2)) = some cells := by
                  rw [← hfill]
                  exact fill_eq _ _ _ _ fun j => by rw [← partsOf_spec hp j]
                simp only [Instr.buildSlice, Sem.run_bind, run_underlying hu, run_sizeOf hs, Result.andThen_ok]
                rw [if_neg (by simpa using hlen)]
                by_cases h0 : len * i.size = 0
                · have h00 : ∀ g : Nat → Value, (Array.range (len * i.size)).map g = #[] := fun g => by rw [h0]; simp
                  rw [h00] at hf'
                  rw [if_pos h0]
                  simp only [Sem.run_bind, Sem.run_pure, Result.andThen_ok, h00, Array.toList_map, hf', newRow, run_newObj, World.alloc_eq]
                · rw [if_neg h0]
                  simp [run_zeroValue hzz, hf', newRow]
              · simp at hn
            simp only [Sem.run_bind, hr, Result.andThen_ok, Sem.run_pure, Upon]
            exact hk.h
          · exact ok_bad _
        · exact ok_bad _
      · exact ok_bad _
    · exact ok_bad _
  case load t a =>
    dsimp only [execOp, opSem]
    split
    · rename_i n h1 h2; exact ok_read fun w v hv => run_loadAtn h1 h2 hv
    · rename_i h1; exact ok_read fun w v hv => run_loadAt1 h1 hv
    · exact ok_bad _
  case store t a x =>
    dsimp only [execOp, opSem]
    split
    · rename_i n hn; exact ok_eff0 fun w w' h => run_storeAt hn h
    · exact ok_bad _
  case nilCheck x =>
    dsimp only [execOp, opSem]
    exact ok_nilchk _
  case binOp op t x y yt =>
    dsimp only [execOp, opSem]
    split
    · exact ok_pure fun v hv w => run_shiftv (.inl rfl) hv w
    · exact ok_pure fun v hv w => run_shiftv (.inr rfl) hv w
    · split
      · rename_i hk; exact ok_pure fun v hv w => run_eqaggv hk hv w
      · split
        · rename_i hpc; exact ok_read fun w v hv => run_ptrv hpc hv
        · split
          · rename_i hin; exact ok_pure fun v hv w => by
              obtain ⟨_, hms, hy⟩ := ifNil_y hin
              subst hy
              exact run_ifnil hms hv w
          · exact ok_pure fun v hv w => run_binv hv w
  case unOp op t x =>
    dsimp only [execOp, opSem]
    exact ok_pure fun v hv w => run_unv hv w
  case convert src dst x =>
    dsimp only [execOp, opSem]
    split
    · rename_i h1 h2; exact ok_pure fun v hv w => run_convi h1 h2 hv w
    · rename_i h1 h2; exact ok_pure fun v hv w => run_runev h1 h2 hv w
    · rename_i e h1 h2
      split
      · rename_i h3
        exact ok_some (fun w k h => run_RUNES h1 h2 h3 h) fun w k k' hk h => ⟨by obtain ⟨s, hs, hn, hh⟩ := h.h; exact ⟨s, hs, hn, fun c w' h1 h2 h3 => hk _ _ (hh c w' h1 h2 h3)⟩⟩
      · rename_i h3
        exact ok_some (fun w k h => run_BYTES h1 h2 h3 h) fun w k k' hk h => ⟨by obtain ⟨s, hs, hh⟩ := h.h; exact ⟨s, hs, fun c w' h1 h2 h3 => hk _ _ (hh c w' h1 h2 h3)⟩⟩
      · exact ok_bad _
    · rename_i e h1 h2
      split
      · rename_i h3; exact ok_read fun w v hv => run_textRunes h1 h3 h2 hv
      · rename_i h3; exact ok_read fun w v hv => run_textBytes h1 h3 h2 hv
      · exact ok_bad _
    · exact ok_bad _
  case range t x =>
    dsimp only [execOp, opSem]
    split
    · rename_i hu; exact ok_bnew fun w p h => run_rangev hu h
    · rename_i hu; exact ok_bnew fun w p h => run_rangemv hu h
    · exact ok_bad _
  case next it b =>
    cases b with
    | true =>
      dsimp only [execOp, opSem]
      exact ok_bnew fun w p h => run_nexts h
    | false =>
      dsimp only [execOp, opSem]
      refine ok_some (fun w k h => run_NEXTM h) fun w k k' hk h => ⟨?_⟩
      have h := h.h
      unfold NEXTMS at *
      split at h
      · split at h
        · exact hk _ _ h
        · split at h
          · exact ⟨h.1, h.2.1, fun h0 => hk _ _ (h.2.2.1 h0), fun e he h0 w1 h1 h2 => hk _ _ (h.2.2.2 e he h0 w1 h1 h2)⟩
          · exact h
        · exact h
      · exact h
  case entry it =>
    dsimp only [execOp, opSem]
    exact ok_read fun w v hv => run_entryv hv
  case makeSlice t l c =>
    dsimp only [execOp, opSem]
    split
    · rename_i e hu
      split
      · rename_i i hi
        split
        · rename_i z hz; exact ok_bnew fun w p h => run_mkslice hu hi hz h
        · exact ok_bad _
      · exact ok_bad _
    · exact ok_bad _
  case makeInterface t x =>
    dsimp only [execOp, opSem]
    split
    · exact ok_bad _
    · rename_i d hne hu
      intro w
      cases d <;> simp_all [Instr.makeInterface, run_underlying hu]
    · exact ok_bad _
  case makeFunc fn first captured =>
    dsimp only [execOp, opSem]
    intro w
    simp only [Instr.makeFunc, hmap, Sem.run_bind, Sem.run_pure, Result.andThen_ok]
  case makeMap t r =>
    cases r with
    | some _ => exact ok_bad _
    | none =>
      dsimp only [execOp, opSem]
      refine ok_new fun w => ?_
      simp [Instr.makeMap, newmap]
  case slice t x lo hi mx =>
    cases mx with
    | some mx =>
      cases hi with
      | none => exact ok_bad _
      | some hi =>
        dsimp only [execOp, opSem]
        split
        · rename_i e hu
          split
          · rename_i n hn; exact ok_pure fun v hv w => run_slicev3 hu hn hv w
          · exact ok_bad _
        · rename_i len e hu
          split
          · rename_i n hn; exact ok_pure fun v hv w => run_slicea hu hn (by simp) hv w
          · exact ok_bad _
        · exact ok_bad _
    | none =>
      dsimp only [execOp, opSem]
      split
      · rename_i hu; exact ok_pure fun v hv w => run_slices hu hv w
      · rename_i e hu
        split
        · rename_i n hn; exact ok_pure fun v hv w => run_slicev hu hn hv w
        · exact ok_bad _
      · rename_i len e hu
        split
        · rename_i n hn; exact ok_pure fun v hv w => run_slicea hu hn (by simp) hv w
        · exact ok_bad _
      · exact ok_bad _
  case fieldAddr s x i =>
    dsimp only [execOp, opSem]
    split
    · rename_i fs hu
      split
      · rename_i fd hfd
        split
        · rename_i hn; exact ok_pure fun v hv w => run_faddr hu hfd hn hv w
        · exact ok_bad _
      · exact ok_bad _
    · exact ok_bad _
  case field s x i =>
    dsimp only [execOp, opSem]
    split
    · rename_i fs hu
      split
      · rename_i fd hfd
        split
        · rename_i n h1 h2; exact ok_pure fun v hv w => run_field hu hfd h1 (.inr ⟨rfl, n, h2, hv⟩) w
        · rename_i h1; exact ok_pure fun v hv w => run_field hu hfd h1 (.inl ⟨rfl, hv⟩) w
        · exact ok_bad _
      · exact ok_bad _
    · exact ok_bad _
  case indexAddr t x i =>
    dsimp only [execOp, opSem]
    split
    · rename_i e hu
      split
      · rename_i n hn; exact ok_pure fun v hv w => run_iaddr hu hn hv w
      · exact ok_bad _
    · rename_i len e hu
      split
      · rename_i n hn; exact ok_pure fun v hv w => run_iaddra hu hn hv w
      · exact ok_bad _
    · exact ok_bad _
  case index t x i =>
    dsimp only [execOp, opSem]
    split
    · rename_i hu; exact ok_pure fun v hv w => run_indexs hu hv w
    · rename_i hu
      split
      · rename_i h2 h3; exact ok_pure fun v hv w => run_indexav hu h2 h3 hv w
      · exact ok_bad _
    · exact ok_bad _
  case lookup t m x ok =>
    dsimp only [execOp, opSem]
    split
    · rename_i kt e hu
      split
      · rename_i kd z h1 h2; exact ok_read fun w v hv => run_lookv hu h1 h2 hv
      · exact ok_bad _
    · exact ok_bad _
  case mapUpdate t m x v =>
    dsimp only [execOp, opSem]
    split
    · rename_i kt e hu
      split
      · rename_i kd h1; exact ok_eff0 fun w w' h => run_mupd hu h1 h
      · exact ok_bad _
    · exact ok_bad _
  case mapEntry t m x =>
    dsimp only [execOp, opSem]
    split
    · rename_i kt e hu
      split
      · rename_i kd z h1 h2; exact ok_bnew fun w p h => run_mentry hu h1 h2 h
      · exact ok_bad _
    · exact ok_bad _
  case entryStore t m s v =>
    dsimp only [execOp, opSem]
    exact ok_eff0 fun w w' h => run_mestore h
  case extract t i =>
    dsimp only [execOp, opSem]
    exact ok_pure fun v hv w => run_extractv hv w
  case call c =>
    dsimp only [execOp, opSem]
    exact call_ok f hf _ _
  all_goals exact ok_bad _
end
end Go.Den
end
section
namespace Go.Den
def gsem (c : Bool) : OpSem → OpSem
  | .val v => .pure (grd c (some v))
  | .pure o => .pure (grd c o)
  | .read f => .read fun w => grd c (f w)
  | .eff f => .eff fun w k => GEF c (f w) w k
def slotOf (ops : Array Oper) (j : Nat) : Option Nat := (ops[j]?).bind (·.dst)
def gval (ops : Array Oper) (ρ : Env) (j : Nat) (want : Bool) : Bool :=
  match slotOf ops j with
  | some t => isB (ρ t) want
  | none => false
def osem (P : Program) (ops : Array Oper) (ρ : Env) (o : Oper) : OpSem :=
  match o.guard with
  | none => opSem P (ev ρ) o.op
  | some (j, want) => gsem (gval ops ρ j want) (opSem P (ev ρ) o.op)
def semK : OpSem → World → (Value → World → Prop) → Prop
  | .val v, w, k => k v w
  | .pure o, w, k => BND o fun v => k v w
  | .read f, w, k => BND (f w) fun v => k v w
  | .eff f, w, k => f w k
def denL (P : Program) (ops : Array Oper) : List Nat → (Env → World → Prop) → Env → World → Prop
  | [], Q, ρ, w => Q ρ w
  | i :: is, Q, ρ, w =>
    match ops[i]? with
    | none => False
    | some o => semK (osem P ops ρ o) w fun v w' => denL P ops is Q (updO ρ o.dst v) w'
def clsOf : OpSem → Nat
  | .val _ => 0
  | .pure _ => 0
  | .read _ => 1
  | .eff _ => 2
def DEM (S : Nat → World → Prop) : List Nat → World → Prop → Prop
  | [], _, k => k
  | p :: r, w, k => S p w ∧ DEM S r w k
theorem DEM_iff {S : Nat → World → Prop} {w : World} {k : Prop} : ∀ {l : List Nat}, DEM S l w k ↔ (∀ p ∈ l, S p w) ∧ k
  | [] => by simp [DEM]
  | p :: r => by simp [DEM, DEM_iff (l := r), and_assoc]
def semKS (S : Nat → World → Prop) (i : Nat) (fl : Bool) (dem : List Nat) : OpSem → World → (Value → World → Prop) → Prop
  | .val v, w, k => k v w
  | .pure o, w, k => BND o fun v => k v w
  | .read f, w, k => bif fl then FLT (S i) f fun v => k v w else BND (f w) fun v => k v w
  | .eff f, w, k => f w fun v w' => DEM S dem w' (k v w')
def denLS (P : Program) (ops : Array Oper) (S : Nat → World → Prop) (fl : List Nat) (dem : Nat → List Nat) : List Nat → (Env → World → Prop) → Env → World → Prop
  | [], Q, ρ, w => Q ρ w
  | i :: is, Q, ρ, w =>
    match ops[i]? with
    | none => False
    | some o => semKS S i (fl.contains i) (dem i) (osem P ops ρ o) w fun v w' => denLS P ops S fl dem is Q (updO ρ o.dst v) w'
section
variable {P : Program} {ops : Array Oper}
def OpSem.mono : OpSem → Prop
  | .eff f => ∀ w k k', (∀ v w, k v w → k' v w) → f w k → f w k'
  | _ => True
theorem opSem_mono (f : Operand → Value) (hf : ∀ g, f (.func g) = .func (.func g) #[] #[]) (o : Oper) : (opSem P f o.op).mono := by
  have := op_ok (P := P) f hf o
  cases h : opSem P f o.op with
  | eff g => rw [h] at this; exact this.2
  | _ => trivial
theorem gsem_mono {c : Bool} {s : OpSem} (h : s.mono) : (gsem c s).mono := by
  cases s with
  | eff f => exact fun w k k' hk hg => ⟨fun hc => h w k k' hk (hg.yes hc), fun hc => hk _ _ (hg.no hc)⟩
  | _ => trivial
theorem osem_mono (ρ : Env) (o : Oper) : (osem P ops ρ o).mono := by
  unfold osem
  split
  · exact opSem_mono _ (fun _ => rfl) o
  · exact gsem_mono (opSem_mono _ (fun _ => rfl) o)
theorem semK_mono {s : OpSem} (hs : s.mono) {w : World} {k k' : Value → World → Prop} (h : ∀ v w, k v w → k' v w) (hk : semK s w k) : semK s w k' := by
  cases s with
  | val v => exact h v w hk
  | pure o => exact BND_mono (fun v => h v w) hk
  | read f => exact BND_mono (fun v => h v w) hk
  | eff f => exact hs w k k' h hk
theorem beq_no {i j : Nat} (h : i ≠ j) : Nat.beq i j = false := by
  cases hb : Nat.beq i j with
  | false => rfl
  | true => exact absurd (Nat.eq_of_beq_eq_true hb) h
theorem semKS_mono {S : Nat → World → Prop} {i : Nat} {fl : Bool} {dem : List Nat} {s : OpSem} (hs : s.mono) {w : World} {k k' : Value → World → Prop} (h : ∀ v w, k v w → k' v w) (hk : semKS S i fl dem s w k) : semKS S i fl dem s w k' := by
  cases s with
  | val v => exact h v w hk
  | pure o => exact BND_mono (fun v => h v w) hk
  | read f =>
    cases fl with
    | true => obtain ⟨v, hv, hk⟩ := hk; exact ⟨v, hv, h v w hk⟩
    | false => exact BND_mono (fun v => h v w) hk
  | eff f => exact hs w _ _ (fun v w' hh => DEM_iff.2 ⟨(DEM_iff.1 hh).1, h v w' (DEM_iff.1 hh).2⟩) hk
theorem semKS_sem {S : Nat → World → Prop} {i : Nat} {fl : Bool} {dem : List Nat} {s : OpSem} (hs : s.mono) {w : World} (hS : fl = true → clsOf s = 1 → S i w) {k : Value → World → Prop} (h : semKS S i fl dem s w k) :
    semK s w fun v w' => ((clsOf s ≠ 2 → w' = w) ∧ (clsOf s = 2 → ∀ p ∈ dem, S p w')) ∧ k v w' := by
  cases s with
  | val v => exact ⟨⟨fun _ => rfl, fun hc => by cases hc⟩, h⟩
  | pure o => exact BND_mono (fun v hh => ⟨⟨fun _ => rfl, fun hc => by cases hc⟩, hh⟩) h
  | read f =>
    cases fl with
    | true => obtain ⟨v, hv, hk⟩ := h; exact BND_iff.2 ⟨v, hv w (hS rfl rfl), ⟨⟨fun _ => rfl, fun hc => by cases hc⟩, hk⟩⟩
    | false => exact BND_mono (fun v hh => ⟨⟨fun _ => rfl, fun hc => by cases hc⟩, hh⟩) h
  | eff f => exact hs w _ _ (fun v w' hh => ⟨⟨fun hc => absurd rfl hc, fun _ => (DEM_iff.1 hh).1⟩, (DEM_iff.1 hh).2⟩) h
theorem denLS_of_denL : ∀ (is : List Nat) {Q : Env → World → Prop} {ρ : Env} {w : World}, denL P ops is Q ρ w → denLS P ops (fun _ _ => True) [] (fun _ => []) is Q ρ w
  | [], _, _, _, h => h
  | i :: is, Q, ρ, w, h => by
    simp only [denL, denLS] at *
    cases ho : ops[i]? with
    | none => simp [ho] at h
    | some o =>
      simp only [ho] at *
      have h2 := semK_mono (osem_mono ρ o) (fun v w' hh => denLS_of_denL is hh) h
      generalize osem P ops ρ o = s at *
      cases s with
      | val v => exact h2
      | pure o => exact h2
      | read f => exact h2
      | eff f => exact h2
def envOf (a : Act) : Env := fun i => a.tmps.getD i undef
theorem eval_envOf (a : Act) : a.eval = ev (envOf a) := by
  funext x; cases x <;> rfl
theorem envOf_put (a : Act) (d : Option Nat) (v : Value) (h : ∀ t, d = some t → t < a.tmps.size) : envOf (a.put d v) = updO (envOf a) d v := by
  cases d with
  | none => rfl
  | some t =>
    have ht := h t rfl
    funext i
    simp only [envOf, Act.put, updO, upd, Array.getD_eq_getD_getElem?]
    by_cases hi : i = t
    · subst hi; simp [ht]
    · rw [Array.getElem?_setIfInBounds_ne (Ne.symm hi)]
      have : Nat.beq i t = false := beq_no hi
      rw [this]; rfl
theorem size_put (a : Act) (d : Option Nat) (v : Value) : (a.put d v).tmps.size = a.tmps.size := by
  cases d <;> simp [Act.put]
theorem defers_put (a : Act) (d : Option Nat) (v : Value) : (a.put d v).defers = a.defers := by
  cases d <;> rfl
theorem wanted_gval {o : Oper} {a : Act} {j : Nat} {want : Bool} (hg : o.guard = some (j, want)) : Region.wanted o (yielded ops a.tmps) = gval ops (envOf a) j want := by
  unfold Region.wanted
  rw [hg]
  simp only [yielded, gval, slotOf]
  cases (ops[j]?).bind (·.dst) with
  | none => rfl
  | some t =>
    simp only [Option.bind_some, envOf, Array.getD_eq_getD_getElem?]
    cases a.tmps[t]? with
    | none => rfl
    | some v => cases v <;> simp [isB]
theorem wpOp_of_sem {Q : Exit → Act → World → Prop} {i : Nat} {o : Oper} (hi : ops[i]? = some o) {a : Act} {w : World} {K : Act → World → Prop} {k : Value → World → Prop}
    (hk : ∀ v w', k v w' → K (a.put o.dst v) w') (h : semK (osem P ops (envOf a) o) w k) : wpOp P ops Q i K a w := by
  unfold wpOp
  simp only [hi]
  have hok := op_ok (P := P) (ev (envOf a)) (fun _ => rfl) o
  have main : ∀ kk : Value → World → Prop, (∀ v w', kk v w' → K (a.put o.dst v) w') → semK (opSem P (ev (envOf a)) o.op) w kk → o.wp P a w K Q := by
    intro kk hkk hs
    unfold Oper.wp
    rw [eval_envOf]
    cases hop : opSem P (ev (envOf a)) o.op with
    | val v =>
      rw [hop] at hok hs
      rw [hok w]
      exact hkk v w hs
    | pure ov =>
      rw [hop] at hok hs
      obtain ⟨v, hv, hs⟩ := BND_iff.1 hs
      rw [hok v hv w]
      exact hkk v w hs
    | read f =>
      rw [hop] at hok hs
      obtain ⟨v, hv, hs⟩ := BND_iff.1 hs
      rw [hok w v hv]
      exact hkk v w hs
    | eff f =>
      rw [hop] at hok hs
      have hu := hok.1 w kk hs
      generalize (execOp (ev (envOf a)) o).run P w = r at hu ⊢
      unfold Upon at hu
      split at hu
      · exact hkk _ _ hu
      · exact hkk _ _ hu
      · refine Calls.mono hu ?_
        rintro e w'' ⟨v, rfl, hv⟩
        exact hkk _ _ hv
      · exact hu.elim
  cases hg : o.guard with
  | none =>
    have hw : Region.wanted o (yielded ops a.tmps) = true := by simp [Region.wanted, hg]
    rw [if_pos hw]
    refine .inl (main k hk ?_)
    simpa [osem, hg] using h
  | some g =>
    obtain ⟨j, want⟩ := g
    have hw := wanted_gval (ops := ops) (a := a) hg
    have h' : semK (gsem (gval ops (envOf a) j want) (opSem P (ev (envOf a)) o.op)) w k := by simpa [osem, hg] using h
    cases hc : gval ops (envOf a) j want with
    | true =>
      rw [if_pos (by rw [hw, hc])]
      refine .inl (main k hk ?_)
      rw [hc] at h'
      cases hop : opSem P (ev (envOf a)) o.op with
      | val v => rw [hop] at h'; exact (BND_some v fun v => k v w).1 h'
      | pure ov => rw [hop] at h'; exact h'
      | read f => rw [hop] at h'; exact h'
      | eff f => rw [hop] at h'; exact h'.yes rfl
    | false =>
      rw [if_neg (by rw [hw, hc]; simp)]
      rw [hc] at h'
      refine hk undef w ?_
      cases hop : opSem P (ev (envOf a)) o.op with
      | val v => rw [hop] at h'; exact (BND_some undef fun v => k v w).1 h'
      | pure ov => rw [hop] at h'; exact (BND_some undef fun v => k v w).1 h'
      | read f => rw [hop] at h'; exact (BND_some undef fun v => k v w).1 h'
      | eff f => rw [hop] at h'; exact h'.no rfl
def dstsOk (n : Nat) (ops : Array Oper) : Bool := ops.all fun o => match o.dst with | some d => decide (d < n) | none => true
theorem dstsOk_spec {n : Nat} (h : dstsOk n ops = true) {i : Nat} {o : Oper} (hi : ops[i]? = some o) : ∀ t, o.dst = some t → t < n := by
  intro t ht
  have := Array.all_eq_true_iff_forall_mem.1 h o (Array.mem_of_getElem? hi)
  simpa [ht] using this
def writesOps (ops : Array Oper) : List Nat := ops.toList.filterMap (·.dst)
theorem mem_writesOps {i : Nat} {o : Oper} (hi : ops[i]? = some o) {t : Nat} (ht : o.dst = some t) : t ∈ writesOps ops :=
  List.mem_filterMap.2 ⟨o, Array.mem_toList_iff.2 (Array.mem_of_getElem? hi), ht⟩
structure Kept (n : Nat) (W : List Nat) (ρ0 : Env) (a : Act) : Prop where
  size : a.tmps.size = n
  defers : a.defers = []
  same : ∀ i, i ∉ W → envOf a i = ρ0 i
theorem Kept.put {n : Nat} {ρ0 : Env} {a : Act} (h : Kept n (writesOps ops) ρ0 a) {i : Nat} {o : Oper} (hi : ops[i]? = some o) (hd : dstsOk n ops = true) (v : Value) :
    Kept n (writesOps ops) ρ0 (a.put o.dst v) := by
  have hb := dstsOk_spec hd hi
  refine ⟨by rw [size_put, h.size], by rw [defers_put, h.defers], fun j hj => ?_⟩
  rw [envOf_put a o.dst v (fun t ht => h.size ▸ hb t ht)]
  cases hdst : o.dst with
  | none => exact h.same j hj
  | some t =>
    have hne : j ≠ t := fun e => hj (e ▸ mem_writesOps hi hdst)
    have : Nat.beq j t = false := beq_no hne
    simp only [updO, upd, this]
    exact h.same j hj
def after (n : Nat) (W : List Nat) (ρ0 : Env) (Q : Env → World → Prop) : Exit → Act → World → Prop
  | .normal, a, w => Kept n W ρ0 a ∧ Q (envOf a) w
  | _, _, _ => False
theorem wpOps_of_denL {n : Nat} {ρ0 : Env} {Q : Env → World → Prop} (hd : dstsOk n ops = true) : ∀ (is : List Nat) (a : Act) (w : World), Kept n (writesOps ops) ρ0 a →
    denL P ops is Q (envOf a) w → wpOps P ops (after n (writesOps ops) ρ0 Q) is a w
  | [], a, w, hk, h => ⟨hk, h⟩
  | i :: is, a, w, hk, h => by
    rw [wpOps_cons]
    simp only [denL] at h
    cases ho : ops[i]? with
    | none => simp [ho] at h
    | some o =>
      simp only [ho] at h
      refine wpOp_of_sem ho (fun v w' hv => ?_) h
      refine wpOps_of_denL hd is _ _ (hk.put ho hd v) ?_
      rw [envOf_put a o.dst v (fun t ht => hk.size ▸ dstsOk_spec hd ho t ht)]
      exact hv
end
end Go.Den
end
section
namespace Go.Den
def ocls (P : Program) (o : Oper) : Nat := clsOf (opSem P (fun _ => undef) o.op)
section
variable {P : Program} {ops : Array Oper}
theorem partsOf_same {pl : Nat → Option (Nat × Nat)} {f g : Operand → Value} : ∀ l : List (Nat × Operand), (partsOf pl f l).isSome = (partsOf pl g l).isSome
  | [] => rfl
  | (i, x) :: l => by
    have := partsOf_same (pl := pl) (f := f) (g := g) l
    simp only [partsOf]
    cases pl i <;> cases hf : partsOf pl f l <;> cases hg : partsOf pl g l <;> simp_all
theorem partsOf_congr {pl : Nat → Option (Nat × Nat)} {f g : Operand → Value} : ∀ l : List (Nat × Operand), (∀ x ∈ l.map (·.2), f x = g x) → partsOf pl f l = partsOf pl g l
  | [], _ => rfl
  | (i, x) :: l, h => by
    simp only [partsOf, partsOf_congr l (fun y hy => h y (by simp at hy ⊢; exact .inr hy)), h x (by simp)]
theorem semBuiltin_cls (f g : Operand → Value) (b : Builtin) (args : List Operand) (tys : List TypeId) : clsOf (semBuiltin P f b args tys) = clsOf (semBuiltin P g b args tys) := by
  unfold semBuiltin
  split
  · split <;> rfl
  · split <;> rfl
  · split
    · split
      · split
        · split <;> rfl
        · rfl
      · rfl
    · rfl
  · split
    · split <;> rfl
    · rfl
  · split
    · split <;> rfl
    · rfl
  · rfl
  · rfl
  · rfl
  · rfl
  · rfl
theorem opSem_cls (f g : Operand → Value) (op : Op) : clsOf (opSem P f op) = clsOf (opSem P g op) := by
  cases op
  case build t parts =>
    have := partsOf_same (pl := placeOf P t) (f := f) (g := g) parts.toList
    simp only [opSem]
    cases zeroOf P t <;> cases placesAll P t <;> cases hf : partsOf (placeOf P t) f parts.toList <;> cases hg : partsOf (placeOf P t) g parts.toList <;> simp_all [clsOf]
  case buildSlice t len parts =>
    simp only [opSem]
    split
    · split
      · rename_i i _
        have := partsOf_same (pl := fun j => some (j * i.size, i.size)) (f := f) (g := g) parts.toList
        cases i.zero <;> cases hf : partsOf (fun j => some (j * i.size, i.size)) f parts.toList <;> cases hg : partsOf (fun j => some (j * i.size, i.size)) g parts.toList <;> simp_all [clsOf]
        by_cases hl : len * i.size ≤ 16777216 <;> simp [hl, OpSem.bad]
      · rfl
    · rfl
  case call c =>
    simp only [opSem, semCall]
    split
    · exact semBuiltin_cls _ _ _ _ _
    · split
      · rfl
      · split <;> rfl
    · rfl
    · rfl
  case slice t x lo hi mx =>
    cases mx
    · simp only [opSem]
      repeat (first | rfl | split)
    · cases hi
      · rfl
      · simp only [opSem]
        repeat (first | rfl | split)
  case makeMap t r => cases r <;> rfl
  case next it b => cases b <;> rfl
  case binOp op t x y u => cases op <;> simp only [opSem] <;> (first | rfl | (split <;> first | rfl | (split <;> first | rfl | (split <;> rfl))))
  all_goals (simp only [opSem]; repeat (first | rfl | split))
theorem semBuiltin_congr {f g : Operand → Value} {args : List Operand} (h : ∀ x ∈ args, f x = g x) (b : Builtin) (tys : List TypeId) : semBuiltin P f b args tys = semBuiltin P g b args tys := by
  unfold semBuiltin
  split
  · rename_i x t; simp only [h x (by simp)]
  · rename_i x t; simp only [h x (by simp)]
  · rename_i x y t u; simp only [h x (by simp), h y (by simp)]
  · rename_i x y t u; simp only [h x (by simp), h y (by simp)]
  · rename_i x t; simp only [h x (by simp)]
  · rename_i x y; simp only [h x (by simp), h y (by simp)]
  · rename_i x y; simp only [h x (by simp), h y (by simp)]
  · rename_i x y z; simp only [h x (by simp), h y (by simp), h z (by simp)]
  · rename_i x y z u; simp only [h x (by simp), h y (by simp), h z (by simp), h u (by simp)]
  · rfl
theorem opSem_congr {f g : Operand → Value} (op : Op) (h : ∀ x ∈ op.operands, f x = g x) : opSem P f op = opSem P g op := by
  have lst : ∀ xs : Array Operand, (∀ x ∈ xs, f x = g x) → xs.toList.map f = xs.toList.map g := fun xs hx => List.map_congr_left fun x hm => hx x (Array.mem_toList_iff.1 hm)
  cases op
  case build t parts =>
    have : partsOf (placeOf P t) f parts.toList = partsOf (placeOf P t) g parts.toList := partsOf_congr _ fun x hx => h x (by simpa [Op.operands] using hx)
    simp only [opSem, this]
  case buildSlice t len parts =>
    have : ∀ pl, partsOf pl f parts.toList = partsOf pl g parts.toList := fun pl => partsOf_congr _ fun x hx => h x (by simpa [Op.operands] using hx)
    simp only [opSem, this]
  case makeFunc fn first captured =>
    simp only [opSem, lst first (fun x hx => h x (by simp [Op.operands, hx])), lst captured (fun x hx => h x (by simp [Op.operands, hx]))]
  case call c =>
    obtain ⟨callee, args, tys⟩ := c
    have ha : ∀ x ∈ args, f x = g x := fun x hx => h x (by simp [Op.operands, Call.operands, hx])
    simp only [opSem, semCall, lst args ha]
    cases callee with
    | builtin b => exact semBuiltin_congr (fun x hx => ha x (Array.mem_toList_iff.1 hx)) b _
    | invoke r m => rfl
    | value fv =>
      have hv : f fv = g fv := h fv (by simp [Op.operands, Call.operands])
      cases fv <;> simp only [hv]
  case slice t x lo hi mx =>
    have hx : f x = g x := h x (by simp [Op.operands])
    have hl : lo.map f = lo.map g := by cases lo with
      | none => rfl
      | some y => simp [h y (by simp [Op.operands])]
    have hh : hi.map f = hi.map g := by cases hi with
      | none => rfl
      | some y => simp [h y (by simp [Op.operands])]
    cases mx with
    | none => simp only [opSem, hx, hl, hh]
    | some m =>
      have hm : f m = g m := h m (by simp [Op.operands])
      cases hi with
      | none => rfl
      | some y =>
        have hy : f y = g y := h y (by simp [Op.operands])
        simp only [opSem, hx, hl, hy, hm]
  case mapEntry t x y => simp only [opSem, h x (by simp [Op.operands]), h y (by simp [Op.operands])]
  case entryStore t x y z => simp only [opSem, h x (by simp [Op.operands]), h y (by simp [Op.operands]), h z (by simp [Op.operands])]
  case makeMap t r => cases r <;> rfl
  case next it b => cases b with
    | true => simp only [opSem, h it (by simp [Op.operands])]
    | false => simp only [opSem, h it (by simp [Op.operands])]
  case entry x => simp only [opSem, h x (by simp [Op.operands])]
  case makeSlice t x y => simp only [opSem, h x (by simp [Op.operands]), h y (by simp [Op.operands])]
  case range t x => simp only [opSem, h x (by simp [Op.operands])]
  case move x => simp only [opSem, h x (by simp [Op.operands])]
  case assign x => simp only [opSem, h x (by simp [Op.operands])]
  case pick c a b => simp only [opSem, h c (by simp [Op.operands]), h a (by simp [Op.operands]), h b (by simp [Op.operands])]
  case box t x => simp only [opSem, h x (by simp [Op.operands])]
  case load t x => simp only [opSem, h x (by simp [Op.operands])]
  case store t x y => simp only [opSem, h x (by simp [Op.operands]), h y (by simp [Op.operands])]
  case nilCheck x => simp only [opSem, h x (by simp [Op.operands])]
  case binOp op t x y u => simp only [opSem, h x (by simp [Op.operands]), h y (by simp [Op.operands])]
  case unOp op t x => simp only [opSem, h x (by simp [Op.operands])]
  case convert t u x => simp only [opSem, h x (by simp [Op.operands])]
  case makeInterface t x => simp only [opSem, h x (by simp [Op.operands])]
  case fieldAddr t x i => simp only [opSem, h x (by simp [Op.operands])]
  case field t x i => simp only [opSem, h x (by simp [Op.operands])]
  case indexAddr t x y => simp only [opSem, h x (by simp [Op.operands]), h y (by simp [Op.operands])]
  case index t x y => simp only [opSem, h x (by simp [Op.operands]), h y (by simp [Op.operands])]
  case lookup t x y ok => simp only [opSem, h x (by simp [Op.operands]), h y (by simp [Op.operands])]
  case mapUpdate t m x y => simp only [opSem, h m (by simp [Op.operands]), h x (by simp [Op.operands]), h y (by simp [Op.operands])]
  case extract t i => simp only [opSem, h t (by simp [Op.operands])]
  all_goals rfl
theorem upd_other {ρ : Env} {d i : Nat} {v : Value} (h : i ≠ d) : upd ρ d v i = ρ i := by
  simp [upd, beq_no h]
theorem osem_upd {ρ : Env} {d : Option Nat} {v : Value} {o : Oper} (h : ∀ t, d = some t → t ∉ o.looksAt ops) : osem P ops (updO ρ d v) o = osem P ops ρ o := by
  cases d with
  | none => rfl
  | some t =>
    have ht := h t rfl
    have h1 : opSem P (ev (updO ρ (some t) v)) o.op = opSem P (ev ρ) o.op := by
      refine opSem_congr _ fun x hx => ?_
      cases x with
      | tmp u =>
        have hne : u ≠ t := fun e => ht (by
          subst e
          exact List.mem_append_left _ (List.mem_filterMap.2 ⟨.tmp u, by simpa using hx, rfl⟩))
        exact upd_other hne
      | _ => rfl
    have h2 : ∀ j want, o.guard = some (j, want) → gval ops (updO ρ (some t) v) j want = gval ops ρ j want := fun j want hg => by
      unfold gval slotOf
      cases hs : (ops[j]?).bind (·.dst) with
      | none => rfl
      | some u =>
        have hne : u ≠ t := fun e => ht (by
          subst e
          exact List.mem_append_right _ (by simp [hg, hs]))
        simp only [updO, upd_other hne]
    unfold osem
    split
    · exact h1
    · rename_i j want hg; rw [h1, h2 j want hg]
theorem upd_comm {ρ : Env} {x y : Option Nat} {v u : Value} (h : ∀ d, x = some d → y ≠ some d) : updO (updO ρ x v) y u = updO (updO ρ y u) x v := by
  cases x with
  | none => rfl
  | some d =>
    cases y with
    | none => rfl
    | some e =>
      have hne : d ≠ e := fun he => h d rfl (he ▸ rfl)
      funext i
      simp only [updO, upd]
      by_cases h1 : i = d
      · subst h1; simp [beq_no hne]
      · simp [beq_no h1]
theorem osem_cls (ρ : Env) (o : Oper) : clsOf (osem P ops ρ o) = ocls P o := by
  have : ∀ c s, clsOf (gsem c s) = clsOf s := fun c s => by cases s <;> rfl
  unfold osem ocls
  split
  · exact opSem_cls _ _ _
  · rw [this]; exact opSem_cls _ _ _
def fcls (P : Program) (fl : List Nat) (i : Nat) (o : Oper) : Nat := bif fl.contains i && ocls P o == 1 then 0 else ocls P o
theorem denL_swap {S : Nat → World → Prop} {fl : List Nat} {dem : Nat → List Nat} {i j : Nat} {oi oj : Oper} {is : List Nat} {Q : Env → World → Prop} {ρ : Env} {w : World} (hi : ops[i]? = some oi) (hj : ops[j]? = some oj) (hap : oi.apart ops oj = true)
    (hc : fcls P fl i oi = 0 ∨ (fcls P fl i oi = 1 ∧ fcls P fl j oj ≤ 1)) (h : denLS P ops S fl dem (i :: j :: is) Q ρ w) : denLS P ops S fl dem (j :: i :: is) Q ρ w := by
  obtain ⟨h1, h2, h3⟩ := Oper.apart_spec hap
  simp only [denLS, hi, hj] at *
  have eij : ∀ v, osem P ops (updO ρ oi.dst v) oj = osem P ops ρ oj := fun v => osem_upd h1
  have eji : ∀ v, osem P ops (updO ρ oj.dst v) oi = osem P ops ρ oi := fun v => osem_upd h3
  have hm := osem_mono (P := P) (ops := ops) ρ oj
  have c1 := osem_cls (P := P) (ops := ops) ρ oi
  have c2 := osem_cls (P := P) (ops := ops) ρ oj
  simp only [eij] at h
  simp only [eji]
  have hcomm : ∀ v u, updO (updO ρ oi.dst v) oj.dst u = updO (updO ρ oj.dst u) oi.dst v := fun v u => upd_comm h2
  simp only [hcomm] at h
  unfold fcls at hc
  rw [← c1, ← c2] at hc
  clear c1 c2 eij eji hcomm h1 h2 h3
  generalize osem P ops ρ oi = si at *
  generalize osem P ops ρ oj = sj at *
  generalize fl.contains i = fi at *
  generalize fl.contains j = fj at *
  generalize dem i = di at *
  generalize dem j = dj at *
  cases si with
  | val v => exact semKS_mono hm (fun u w' hh => hh) h
  | pure ov =>
    obtain ⟨v, hv, h⟩ := BND_iff.1 h
    refine semKS_mono hm (fun u w' hh => ?_) h
    exact BND_iff.2 ⟨v, hv, hh⟩
  | read f =>
    cases fi with
    | true =>
      obtain ⟨v, hv, h⟩ := h
      exact semKS_mono hm (fun u w' hh => ⟨v, hv, hh⟩) h
    | false =>
      obtain ⟨v, hv, h⟩ := BND_iff.1 h
      simp [clsOf] at hc
      cases sj with
      | val u => exact BND_iff.2 ⟨v, hv, h⟩
      | pure ou =>
        obtain ⟨u, hu, h⟩ := BND_iff.1 h
        exact BND_iff.2 ⟨u, hu, BND_iff.2 ⟨v, hv, h⟩⟩
      | read g =>
        cases fj with
        | true =>
          obtain ⟨u, hu, h⟩ := h
          exact ⟨u, hu, BND_iff.2 ⟨v, hv, h⟩⟩
        | false =>
          obtain ⟨u, hu, h⟩ := BND_iff.1 h
          exact BND_iff.2 ⟨u, hu, BND_iff.2 ⟨v, hv, h⟩⟩
      | eff g => simp at hc
  | eff f => simp [clsOf] at hc
def swapOk (P : Program) (ops : Array Oper) (fl : List Nat) (i j : Nat) : Bool :=
  match ops[i]?, ops[j]? with
  | some oi, some oj => oi.apart ops oj && (fcls P fl i oi == 0 || (fcls P fl i oi == 1 && decide (fcls P fl j oj ≤ 1)))
  | _, _ => false
theorem denL_swapOk {S : Nat → World → Prop} {fl : List Nat} {dem : Nat → List Nat} {i j : Nat} {is : List Nat} {Q : Env → World → Prop} {ρ : Env} {w : World} (hs : swapOk P ops fl i j = true) (h : denLS P ops S fl dem (i :: j :: is) Q ρ w) :
    denLS P ops S fl dem (j :: i :: is) Q ρ w := by
  unfold swapOk at hs
  split at hs
  · rename_i oi oj hi hj
    simp only [Bool.and_eq_true, Bool.or_eq_true, beq_iff_eq, decide_eq_true_eq] at hs
    exact denL_swap hi hj hs.1 hs.2 h
  · simp at hs
theorem denL_front {S : Nat → World → Prop} {fl : List Nat} {dem : Nat → List Nat} {i : Nat} {post : List Nat} {Q : Env → World → Prop} : ∀ (pre : List Nat), (∀ p ∈ pre, swapOk P ops fl p i = true) → ∀ {ρ : Env} {w : World},
    denLS P ops S fl dem (pre ++ i :: post) Q ρ w → denLS P ops S fl dem (i :: (pre ++ post)) Q ρ w
  | [], _, _, _, h => h
  | p :: pre, hp, ρ, w, h => by
    refine denL_swapOk (hp p (by simp)) ?_
    simp only [List.cons_append, denLS] at h ⊢
    cases ho : ops[p]? with
    | none => simp [ho] at h
    | some o =>
      simp only [ho] at h ⊢
      refine semKS_mono (osem_mono ρ o) (fun v w' hh => ?_) h
      have := denL_front pre (fun q hq => hp q (by simp [hq])) hh
      exact this
theorem foldl_bits (acc : Array Nat) (p : Nat) : ∀ (es : List Edge) (s : Nat),
    (es.foldl (fun s e => if Region.binds .any e then s ||| 2 ^ e.on ||| acc.getD e.on 0 else s) s).testBit p = true →
    s.testBit p = true ∨ ∃ e ∈ es, Region.binds .any e = true ∧ (e.on = p ∨ (acc.getD e.on 0).testBit p = true)
  | [], s, h => .inl h
  | e :: es, s, h => by
    rcases foldl_bits acc p es _ h with h | ⟨e', he', hh⟩
    · simp only at h
      split at h
      · rename_i hb
        simp only [Nat.testBit_or, Bool.or_eq_true] at h
        rcases h with (h | h) | h
        · exact .inl h
        · rw [Nat.testBit_two_pow] at h
          exact .inr ⟨e, by simp, hb, .inl (by simpa using h)⟩
        · exact .inr ⟨e, by simp, hb, .inr h⟩
      · exact .inl h
    · exact .inr ⟨e', by simp [he'], hh⟩
def bef (l : List Oper) : Array Nat :=
  l.foldl (fun acc o => acc.push (o.after.foldl (fun s e => if Region.binds .any e then s ||| 2 ^ e.on ||| acc.getD e.on 0 else s) 0)) #[]
theorem bef_snoc (l : List Oper) (o : Oper) : bef (l ++ [o]) = (bef l).push (o.after.foldl (fun s e => if Region.binds .any e then s ||| 2 ^ e.on ||| (bef l).getD e.on 0 else s) 0) := by
  simp [bef, List.foldl_append]
theorem bef_size : ∀ n (l : List Oper), l.length = n → (bef l).size = n := by
  intro n
  induction n with
  | zero => intro l h; have := List.length_eq_zero_iff.1 h; subst this; rfl
  | succ n ih =>
    intro l h
    have hne : l ≠ [] := by intro e; subst e; simp at h
    rw [← List.dropLast_concat_getLast hne, bef_snoc, Array.size_push, ih _ (by simp [h])]
theorem bef_spec : ∀ n (l : List Oper), l.length = n → ∀ i p, ((bef l).getD i 0).testBit p = true →
    ∃ o, l[i]? = some o ∧ ∃ e ∈ o.after.toList, Region.binds .any e = true ∧ (e.on = p ∨ (e.on < i ∧ ((bef l).getD e.on 0).testBit p = true)) := by
  intro n
  induction n with
  | zero => intro l h i p hb; have := List.length_eq_zero_iff.1 h; subst this; simp [bef] at hb
  | succ n ih =>
    intro l h i p hb
    have hne : l ≠ [] := by intro e; subst e; simp at h
    obtain ⟨l', o, rfl⟩ : ∃ l' o, l = l' ++ [o] := ⟨_, _, (List.dropLast_concat_getLast hne).symm⟩
    have hl : l'.length = n := by simpa using h
    have hs := bef_size n l' hl
    rw [bef_snoc] at hb ⊢
    have old : ∀ j (x : Nat), j < n → ((bef l').push x).getD j 0 = (bef l').getD j 0 := fun j x hj => by
      simp [Array.getD_eq_getD_getElem?, Array.getElem?_push, hs, Nat.ne_of_lt hj]
    by_cases hi : i < n
    · rw [old i _ hi] at hb
      obtain ⟨o', ho', e, he, hbi, hor⟩ := ih l' hl i p hb
      refine ⟨o', by rw [List.getElem?_append_left (by omega)]; exact ho', e, he, hbi, ?_⟩
      rcases hor with hor | ⟨hlt, hor⟩
      · exact .inl hor
      · exact .inr ⟨hlt, by rw [old _ _ (by omega)]; exact hor⟩
    · by_cases hin : i = n
      · subst hin
        refine ⟨o, by simp [← hl], ?_⟩
        have hget : ((bef l').push (o.after.foldl (fun s e => if Region.binds .any e then s ||| 2 ^ e.on ||| (bef l').getD e.on 0 else s) 0)).getD i 0 =
            o.after.foldl (fun s e => if Region.binds .any e then s ||| 2 ^ e.on ||| (bef l').getD e.on 0 else s) 0 := by
          rw [Array.getD_eq_getD_getElem?, Array.getElem?_push, if_pos hs.symm]; rfl
        rw [hget, ← Array.foldl_toList] at hb
        rcases foldl_bits _ p _ 0 hb with h0 | ⟨e, he, hbi, hor⟩
        · simp at h0
        · refine ⟨e, he, hbi, ?_⟩
          rcases hor with hor | hor
          · exact .inl hor
          · have hlt : e.on < i := by
              rcases Nat.lt_or_ge e.on i with h' | h'
              · exact h'
              · simp [Array.getD_eq_getD_getElem?, Array.getElem?_eq_none (show (bef l').size ≤ e.on by omega)] at hor
            exact .inr ⟨hlt, by rw [old _ _ hlt]; exact hor⟩
      · simp [Array.getD_eq_getD_getElem?, Array.getElem?_push, hs, hin, Array.getElem?_eq_none (show (bef l').size ≤ i by omega)] at hb
def edgeTo (ops : Array Oper) (i j : Nat) : Bool :=
  match ops[i]? with
  | some o => o.after.toList.any fun e => Region.binds .any e && e.on == j
  | none => false
def pairOk (P : Program) (ops : Array Oper) (fl : List Nat) (B : Array Nat) (i j : Nat) : Bool := !edgeTo ops i j && ((B.getD j 0).testBit i || swapOk P ops fl i j)
def pairsOk (P : Program) (ops : Array Oper) (fl : List Nat) (B : Array Nat) : List Nat → Bool
  | [] => true
  | i :: is => is.all (pairOk P ops fl B i) && pairsOk P ops fl B is
def edgesIn (ops : Array Oper) : Bool := (List.range ops.size).all fun i =>
  match ops[i]? with
  | some o => o.after.toList.all fun e => !Region.binds .any e || (decide (e.on < ops.size) && !(e.on == i))
  | none => true
def isRead (P : Program) (ops : Array Oper) (i : Nat) : Bool :=
  match ops[i]? with
  | some o => ocls P o == 1
  | none => false
def isEff (P : Program) (ops : Array Oper) (i : Nat) : Bool :=
  match ops[i]? with
  | some o => ocls P o == 2
  | none => false
def demOk (P : Program) (ops : Array Oper) (fl : List Nat) (dem : Nat → List Nat) (B : Array Nat) : Bool :=
  (List.range ops.size).all fun j => !isEff P ops j || fl.all fun i => !isRead P ops i || (B.getD j 0).testBit i || (dem j).contains i
def schedOk (P : Program) (ops : Array Oper) (fl : List Nat) (dem : Nat → List Nat) (l : List Nat) : Bool :=
  l.length == ops.size && (List.range ops.size).all (fun i => l.contains i) && decide l.Nodup && l.all (fun i => decide (i < ops.size)) && edgesIn ops && pairsOk P ops fl (bef ops.toList) l && demOk P ops fl dem (bef ops.toList)
theorem sched_nil {dem dem' : Nat → List Nat} {l : List Nat} (h : schedOk P ops [] dem l = true) : schedOk P ops [] dem' l = true := by
  unfold schedOk demOk at *
  simpa using h
theorem pairsOk_pairwise {fl : List Nat} {B : Array Nat} : ∀ {l : List Nat}, pairsOk P ops fl B l = true → l.Pairwise fun i j => pairOk P ops fl B i j = true
  | [], _ => .nil
  | i :: is, h => by
    simp only [pairsOk, Bool.and_eq_true, List.all_eq_true] at h
    exact .cons h.1 (pairsOk_pairwise h.2)
def Closed (ops : Array Oper) (listed : Array Bool) : Prop :=
  ∀ i o, ops[i]? = some o → listed.getD i false = true → ∀ e ∈ o.after.toList, Region.binds .any e = true → listed.getD e.on false = true
theorem reach_listed {listed : Array Bool} (hc : Closed ops listed) (p : Nat) : ∀ n i, i < n → ((bef ops.toList).getD i 0).testBit p = true →
    (∀ o, ops[i]? = some o → ∀ e ∈ o.after.toList, Region.binds .any e = true → listed.getD e.on false = true) → listed.getD p false = true := by
  intro n
  induction n with
  | zero => intro i h; omega
  | succ n ih =>
    intro i hi hb hdir
    obtain ⟨o, ho, e, he, hbi, hor⟩ := bef_spec _ ops.toList rfl i p hb
    have ho' : ops[i]? = some o := by simpa using ho
    have hl := hdir o ho' e he hbi
    rcases hor with rfl | ⟨hlt, hor⟩
    · exact hl
    · exact ih e.on (by omega) hor fun o2 h2 e2 he2 hb2 => hc e.on o2 h2 hl e2 he2 hb2
theorem wpAny_of_denL {S : Nat → World → Prop} {fl : List Nat} {dem : Nat → List Nat} {n : Nat} {ρ0 : Env} {Q : Env → World → Prop} (hd : dstsOk n ops = true) (hin : edgesIn ops = true) (hfr : demOk P ops fl dem (bef ops.toList) = true) : ∀ (fuel : Nat) (l : List Nat) (listed : Array Bool) (a : Act) (w : World),
    l.length ≤ fuel → l.Nodup → (∀ i, i ∈ l ↔ i < ops.size ∧ listed.getD i true = false) → listed.size = ops.size → Closed ops listed →
    (l.Pairwise fun i j => pairOk P ops fl (bef ops.toList) i j = true) → Kept n (writesOps ops) ρ0 a → (∀ i ∈ l, fl.contains i = true → isRead P ops i = true → S i w) → denLS P ops S fl dem l Q (envOf a) w →
    wpAny P .any ops (after n (writesOps ops) ρ0 Q) fuel listed a w := by
  have ready_spec : ∀ (l : List Nat) (listed : Array Bool), (∀ i, i ∈ l ↔ i < ops.size ∧ listed.getD i true = false) → listed.size = ops.size →
      (l.Pairwise fun i j => pairOk P ops fl (bef ops.toList) i j = true) → ∀ h t, l = h :: t → h ∈ Region.ready .any ops listed := by
    intro l listed hmem hsz hp h t hl
    subst hl
    obtain ⟨hlt, hun⟩ := (hmem h).1 (by simp)
    refine mem_ready.2 ⟨hun, ops[h], Array.getElem?_eq_getElem hlt, fun e he hb => ?_⟩
    have hi := List.all_eq_true.1 hin h (List.mem_range.2 hlt)
    rw [Array.getElem?_eq_getElem hlt] at hi
    have hi2 := List.all_eq_true.1 hi e (Array.mem_toList_iff.2 he)
    simp only [hb, Bool.not_true, Bool.false_or, Bool.and_eq_true, decide_eq_true_eq, Bool.not_eq_true', beq_eq_false_iff_ne] at hi2
    have hnot : e.on ∉ t := fun ht => by
      have := (List.pairwise_cons.1 hp).1 e.on ht
      simp only [pairOk, Bool.and_eq_true, Bool.not_eq_true'] at this
      have h0 := this.1
      unfold edgeTo at h0
      rw [Array.getElem?_eq_getElem hlt] at h0
      have : (ops[h].after.toList.any fun e' => Region.binds .any e' && e'.on == e.on) = true :=
        List.any_eq_true.2 ⟨e, Array.mem_toList_iff.2 he, by simp [hb]⟩
      simp only [this] at h0
      cases h0
    have hnl : e.on ∉ h :: t := by simp [hi2.2, hnot]
    have : ¬ (e.on < ops.size ∧ listed.getD e.on true = false) := fun hh => hnl ((hmem _).2 hh)
    have hlt2 : e.on < listed.size := by rw [hsz]; exact hi2.1
    cases hv : listed.getD e.on true with
    | false => exact absurd ⟨hi2.1, hv⟩ this
    | true =>
      simp [Array.getD_eq_getD_getElem?, hlt2] at hv ⊢
      exact hv
  intro fuel
  induction fuel with
  | zero =>
    intro l listed a w hlen _ hmem hsz _ hp hk hSw h
    have : l = [] := List.length_eq_zero_iff.1 (by omega)
    subst this
    refine ⟨?_, hk, h⟩
    refine List.eq_nil_iff_forall_not_mem.2 fun i hi => ?_
    obtain ⟨hun, o, ho, _⟩ := mem_ready.1 hi
    exact absurd ((hmem i).2 ⟨(Array.getElem?_eq_some_iff.1 ho).1, hun⟩) (by simp)
  | succ fuel ih =>
    intro l listed a w hlen hnd hmem hsz hcl hp hk hSw h
    refine ⟨fun hnil => ?_, fun i hi => ?_⟩
    · cases l with
      | nil => exact ⟨hk, h⟩
      | cons x t =>
        have := ready_spec _ listed hmem hsz hp x t rfl
        rw [hnil] at this
        cases this
    · obtain ⟨hun, o, ho, hall⟩ := mem_ready.1 hi
      have hlt : i < ops.size := (Array.getElem?_eq_some_iff.1 ho).1
      have hil : i ∈ l := (hmem i).2 ⟨hlt, hun⟩
      obtain ⟨pre, post, rfl⟩ := List.append_of_mem hil
      have hsw : ∀ p ∈ pre, swapOk P ops fl p i = true := fun p hpp => by
        have h1 := (List.pairwise_append.1 hp).2.2 p hpp i (by simp)
        simp only [pairOk, Bool.and_eq_true, Bool.or_eq_true] at h1
        rcases h1.2 with hr | hs
        · have hpl := reach_listed hcl p (i + 1) i (by omega) hr (fun o2 h2 e he hb => by
            rw [ho] at h2; cases h2
            exact hall e (Array.mem_toList_iff.1 he) hb)
          obtain ⟨hplt, hpun⟩ := (hmem p).1 (by simp [hpp])
          have hplt2 : p < listed.size := by omega
          simp [Array.getD_eq_getD_getElem?, hplt2] at hpl hpun
          rw [hpl] at hpun
          cases hpun
        · exact hs
      have h2 := denL_front pre hsw h
      simp only [denLS, ho] at h2
      have hcls := osem_cls (P := P) (ops := ops) (envOf a) o
      refine wpOp_of_sem ho (fun v w' hv => ?_) (semKS_sem (osem_mono _ o) (fun hf hc => hSw i hil hf (by unfold isRead; rw [ho]; simp [← hcls, hc])) h2)
      have hnd2 : (pre ++ post).Nodup := hnd.sublist (List.Sublist.append_left (List.sublist_cons_self i post) pre)
      have hni : i ∉ pre ++ post := by
        have := (List.nodup_append.1 hnd)
        intro hmem'
        rcases List.mem_append.1 hmem' with h' | h'
        · exact this.2.2 i h' i (by simp) rfl
        · exact (List.nodup_cons.1 this.2.1).1 h'
      refine ih (pre ++ post) _ _ _ (by simp at hlen ⊢; omega) hnd2 (fun j => ?_) (by simp [hsz]) (fun j oj hj hjl e he hb => ?_)
        (hp.sublist (List.Sublist.append_left (List.sublist_cons_self i post) pre)) (hk.put ho hd v) (fun p hp hf hr => ?_) ?_
      · by_cases hji : i = j
        · subst hji
          have hlt2 : i < listed.size := by omega
          constructor
          · intro hh; exact absurd hh hni
          · rintro ⟨_, hh⟩; simp [hlt2] at hh
        · rw [getD_set_ne true hji]
          have := hmem j
          simp only [List.mem_append, List.mem_cons] at this ⊢
          constructor
          · intro hh; exact this.1 (hh.elim .inl (fun h => .inr (.inr h)))
          · intro hh
            rcases this.2 hh with h' | h' | h'
            · exact .inl h'
            · exact absurd h'.symm hji
            · exact .inr h'
      · by_cases hji : i = j
        · subst hji
          rw [ho] at hj; cases hj
          exact getD_set_true (hall e (Array.mem_toList_iff.1 he) hb)
        · rw [getD_set_ne false hji] at hjl
          exact getD_set_true (hcl j oj hj hjl e he hb)
      · have hpl : p ∈ pre ++ i :: post := by
          rcases List.mem_append.1 hp with h' | h'
          · exact List.mem_append_left _ h'
          · exact List.mem_append_right _ (List.mem_cons_of_mem _ h')
        by_cases hc2 : clsOf (osem P ops (envOf a) o) = 2
        · have hie : isEff P ops i = true := by unfold isEff; rw [ho]; simp [← hcls, hc2]
          have h3 := List.all_eq_true.1 hfr i (List.mem_range.2 hlt)
          simp only [hie, Bool.not_true, Bool.false_or] at h3
          have h4 := List.all_eq_true.1 h3 p (by simpa using hf)
          simp only [hr, Bool.not_true, Bool.false_or, Bool.or_eq_true] at h4
          rcases h4 with h4 | h4
          · -- i stands behind p: p is done
            have hpd := reach_listed hcl p (i + 1) i (by omega) h4 (fun o2 h2 e he hb => by
              rw [ho] at h2; cases h2
              exact hall e (Array.mem_toList_iff.1 he) hb)
            obtain ⟨hplt, hpun⟩ := (hmem p).1 hpl
            have hplt2 : p < listed.size := by omega
            simp [Array.getD_eq_getD_getElem?, hplt2] at hpd hpun
            rw [hpd] at hpun
            cases hpun
          · exact hv.1.2 hc2 p (by simpa using h4)
        · rw [hv.1.1 hc2]; exact hSw p hpl hf hr
      · rw [envOf_put a o.dst v (fun t ht => hk.size ▸ dstsOk_spec hd ho t ht)]
        exact hv.2
theorem wpAny_region {S : Nat → World → Prop} {fl : List Nat} {dem : Nat → List Nat} {n : Nat} {ρ0 : Env} {Q : Env → World → Prop} (hd : dstsOk n ops = true) {l : List Nat} (hs : schedOk P ops fl dem l = true) {a : Act} {w : World} (hk : Kept n (writesOps ops) ρ0 a)
    (hSw : ∀ i ∈ fl, S i w) (h : denLS P ops S fl dem l Q (envOf a) w) : wpAny P .any ops (after n (writesOps ops) ρ0 Q) ops.size (Array.replicate ops.size false) a w := by
  simp only [schedOk, Bool.and_eq_true, beq_iff_eq, decide_eq_true_eq, List.all_eq_true] at hs
  obtain ⟨⟨⟨⟨⟨⟨hlen, hall⟩, hnd⟩, hlt⟩, hin⟩, hp⟩, hfr⟩ := hs
  refine wpAny_of_denL hd hin hfr _ l _ a w (by omega) hnd (fun i => ⟨fun hi => ?_, fun hi => ?_⟩) (by simp) ?_ (pairsOk_pairwise hp) hk (fun i _ hf _ => hSw i (by simpa using hf)) h
  · have := hlt i hi
    simp [this]
  · have := hall i (List.mem_range.2 hi.1)
    simpa using this
  · intro i o hi hl
    have : i < ops.size := (Array.getElem?_eq_some_iff.1 hi).1
    simp [this] at hl
end
end Go.Den
end
section
namespace Go.Den
def ahead (c : Nat) : List Nat → List Nat
  | [] => []
  | p :: t => bif Nat.beq p c then [] else p :: ahead c t
theorem ahead_split {c : Nat} : ∀ {t : List Nat}, c ∈ t → ∃ post, t = ahead c t ++ c :: post ∧ t.erase c = ahead c t ++ post
  | p :: t, h => by
    by_cases hp : p = c
    · subst hp
      refine ⟨t, ?_, ?_⟩
      · simp [ahead]
      · simp [ahead]
    · obtain ⟨post, h1, h2⟩ := ahead_split (t := t) (by
        rcases List.mem_cons.1 h with h | h
        · exact absurd h.symm hp
        · exact h)
      refine ⟨post, ?_, ?_⟩
      · simp only [ahead, beq_no hp, cond_false, List.cons_append]
        rw [← h1]
      · rw [List.erase_cons_tail (by simpa using hp)]
        simp only [ahead, beq_no hp, cond_false, List.cons_append]
        rw [← h2]
def conjOk (o : Oper) : Bool :=
  match o.op with
  | .call c => match c.callee with
    | .builtin _ => true
    | _ => false
  | _ => true
def cOk (ops : Array Oper) (i : Nat) : Bool :=
  match ops[i]? with
  | some o => conjOk o
  | none => true
def OpSem.conj : OpSem → Prop
  | .eff f => ∀ (w : World) (T : List (List Nat)) (k : List Nat → Value → World → Prop), T ≠ [] → (∀ t ∈ T, f w (k t)) → f w (fun v w' => ∀ t ∈ T, k t v w')
  | _ => True
theorem BND_conj {α β : Type} {o : Option α} {T : List β} {k : β → α → Prop} (hT : T ≠ []) (h : ∀ t ∈ T, BND o (k t)) : BND o fun v => ∀ t ∈ T, k t v := by
  cases T with
  | nil => exact absurd rfl hT
  | cons t0 T =>
    obtain ⟨v, hv, _⟩ := BND_iff.1 (h t0 (by simp))
    refine BND_iff.2 ⟨v, hv, fun t ht => ?_⟩
    obtain ⟨u, hu, hk⟩ := BND_iff.1 (h t ht)
    rw [hv] at hu; cases hu
    exact hk
theorem NEW_conj {β : Type} {p : Value × World} {T : List β} {k : β → Value → World → Prop} (h : ∀ t ∈ T, NEW p (k t)) : NEW p fun v w => ∀ t ∈ T, k t v w := ⟨fun t ht => (h t ht).h⟩
theorem BNEW_conj {β : Type} {o : Option (Value × World)} {T : List β} {k : β → Value → World → Prop} (hT : T ≠ []) (h : ∀ t ∈ T, BND o fun p => NEW p (k t)) : BND o fun p => NEW p fun v w => ∀ t ∈ T, k t v w :=
  BND_mono (fun _ hp => NEW_conj hp) (BND_conj hT h)
theorem BW_conj {β : Type} {o : Option World} {T : List β} {k : β → Value → World → Prop} (hT : T ≠ []) (h : ∀ t ∈ T, BND o fun w => k t undef w) : BND o fun w => ∀ t ∈ T, k t undef w := BND_conj hT h
theorem APPEND_conj {β : Type} {E sz bytes : Nat} {zero s x : Value} {w : World} {T : List β} {k : β → Value → World → Prop} (hT : T ≠ []) (h : ∀ t ∈ T, APPEND E sz bytes zero s x w (k t)) :
    APPEND E sz bytes zero s x w fun v w => ∀ t ∈ T, k t v w := by
  have h : ∀ t ∈ T, APPENDS E sz bytes zero s x w (k t) := fun t ht => (h t ht).h
  obtain ⟨t0, h0⟩ : ∃ t, t ∈ T := List.exists_mem_of_ne_nil T hT
  refine ⟨?_⟩
  unfold APPENDS at *
  generalize cellsOfArg w sz x = cv at *
  cases s with
  | slice base len cap =>
    cases cv with
    | none => exact h t0 h0
    | some q =>
      obtain ⟨new, n⟩ := q
      dsimp only at h ⊢
      by_cases hle : len + n ≤ cap
      · simp only [if_pos hle] at h ⊢
        cases base with
        | none => exact h
        | some a => exact BND_conj hT h
      · simp only [if_neg hle] at h ⊢
        have e0 := h t0 h0
        exact ⟨e0.1, e0.2.1, BND_mono (fun old ho c w' h1 h2 h3 t ht => ho t ht c w' h1 h2 h3) (BND_conj hT fun t ht => (h t ht).2.2)⟩
  | _ => exact h t0 h0
theorem RUNES_conj {β : Type} {E : Nat} {x : Value} {w : World} {T : List β} {k : β → Value → World → Prop} (hT : T ≠ []) (h : ∀ t ∈ T, RUNES E x w (k t)) : RUNES E x w fun v w => ∀ t ∈ T, k t v w := by
  obtain ⟨t0, h0⟩ : ∃ t, t ∈ T := List.exists_mem_of_ne_nil T hT
  obtain ⟨s, hs, hn, _⟩ := (h t0 h0).h
  refine ⟨s, hs, hn, fun c w' h1 h2 h3 t ht => ?_⟩
  obtain ⟨s', hs', _, hk⟩ := (h t ht).h
  rw [hs] at hs'; cases hs'
  exact hk c w' h1 h2 h3
theorem BYTES_conj {β : Type} {E : Nat} {x : Value} {w : World} {T : List β} {k : β → Value → World → Prop} (hT : T ≠ []) (h : ∀ t ∈ T, BYTES E x w (k t)) : BYTES E x w fun v w => ∀ t ∈ T, k t v w := by
  obtain ⟨t0, h0⟩ : ∃ t, t ∈ T := List.exists_mem_of_ne_nil T hT
  obtain ⟨s, hs, _⟩ := (h t0 h0).h
  refine ⟨s, hs, fun c w' h1 h2 h3 t ht => ?_⟩
  obtain ⟨s', hs', hk⟩ := (h t ht).h
  rw [hs] at hs'; cases hs'
  exact hk c w' h1 h2 h3
theorem NEXTM_conj {β : Type} {it : Value} {w : World} {T : List β} {k : β → Value → World → Prop} (hT : T ≠ []) (h : ∀ t ∈ T, NEXTM it w (k t)) : NEXTM it w fun v w => ∀ t ∈ T, k t v w := by
  have h : ∀ t ∈ T, NEXTMS it w (k t) := fun t ht => (h t ht).h
  obtain ⟨t0, h0⟩ : ∃ t, t ∈ T := List.exists_mem_of_ne_nil T hT
  refine ⟨?_⟩
  unfold NEXTMS at *
  have e0 := h t0 h0
  split at e0
  · rename_i r g
    dsimp only at h ⊢
    split at e0
    · rename_i hr; simp only [hr] at h ⊢; exact h
    · rename_i m since seen last hr
      simp only [hr] at h ⊢
      split at e0
      · rename_i es clock hm
        simp only [hm] at h ⊢
        exact ⟨e0.1, e0.2.1, fun h1 t ht => (h t ht).2.2.1 h1, fun e he h1 w1 h2 h3 t ht => (h t ht).2.2.2 e he h1 w1 h2 h3⟩
      · exact e0.elim
    · exact e0.elim
  · exact e0.elim
section
variable {P : Program} {ops : Array Oper}
theorem ok_conj_bad : OpSem.bad.conj := fun _ T _ hT h => (h _ (List.exists_mem_of_ne_nil T hT).choose_spec).elim
theorem semBuiltin_conj (f : Operand → Value) (b : Builtin) (args : List Operand) (tys : List TypeId) : (semBuiltin P f b args tys).conj := by
  unfold semBuiltin
  repeat (first | exact ok_conj_bad | exact trivial | exact fun w T k hT h => APPEND_conj hT h | exact fun w T k hT h => BW_conj hT h | split)
theorem opSem_conj (f : Operand → Value) (o : Oper) (ho : conjOk o = true) : (opSem P f o.op).conj := by
  unfold conjOk at ho
  generalize o.op = op at *
  cases op
  case call c =>
    obtain ⟨callee, args, tys⟩ := c
    cases callee with
    | builtin b => exact semBuiltin_conj _ _ _ _
    | invoke r m => simp at ho
    | value fv => simp at ho
  case makeMap t r => cases r with
    | none => exact fun w T k hT h => NEW_conj h
    | some _ => exact ok_conj_bad
  case next it b => cases b with
    | true => exact fun w T k hT h => BNEW_conj hT h
    | false => exact fun w T k hT h => NEXTM_conj hT h
  case slice t x lo hi mx =>
    cases mx
    · simp only [opSem]; repeat (first | exact ok_conj_bad | exact trivial | split)
    · cases hi
      · exact ok_conj_bad
      · simp only [opSem]; repeat (first | exact ok_conj_bad | exact trivial | split)
  case binOp op t x y u => cases op <;> simp only [opSem] <;> (first | exact trivial | (split <;> first | exact trivial | (split <;> first | exact trivial | (split <;> exact trivial))))
  all_goals (simp only [opSem]; repeat (first | exact ok_conj_bad | exact trivial | exact fun w T k hT h => NEW_conj h | exact fun w T k hT h => BNEW_conj hT h | exact fun w T k hT h => BW_conj hT h | exact fun w T k hT h => RUNES_conj hT h | exact fun w T k hT h => BYTES_conj hT h | split))
theorem osem_conj (ρ : Env) (o : Oper) (ho : conjOk o = true) : (osem P ops ρ o).conj := by
  have h := opSem_conj (P := P) (ev ρ) o ho
  unfold osem
  split
  · exact h
  · rename_i j want _
    revert h
    generalize opSem P (ev ρ) o.op = s
    intro h
    cases s with
    | eff f =>
      intro w T k hT hh
      refine ⟨fun hc => h w T k hT fun t ht => (hh t ht).yes hc, fun hc t ht => (hh t ht).no hc⟩
    | _ => trivial
theorem semKS_conj {S : Nat → World → Prop} {i : Nat} {fl : Bool} {dem : List Nat} (hS : fl = true → ∃ w, S i w) {s : OpSem} (hs : s.mono) (hc : s.conj) {w : World} {T : List (List Nat)} {k : List Nat → Value → World → Prop} (hT : T ≠ [])
    (h : ∀ t ∈ T, semKS S i fl dem s w (k t)) : semKS S i fl dem s w fun v w' => ∀ t ∈ T, k t v w' := by
  obtain ⟨t0, h0⟩ : ∃ t, t ∈ T := List.exists_mem_of_ne_nil T hT
  cases s with
  | val v => exact h
  | pure o => exact BND_conj hT h
  | read f =>
    cases fl with
    | false => exact BND_conj hT h
    | true =>
      obtain ⟨w0, hw0⟩ := hS rfl
      obtain ⟨v, hv, _⟩ := h t0 h0
      refine ⟨v, hv, fun t ht => ?_⟩
      obtain ⟨u, hu, hk⟩ := h t ht
      have := (hv w0 hw0).symm.trans (hu w0 hw0)
      cases this
      exact hk
  | eff f =>
    refine hs w _ _ (fun v w' hh => ?_) (hc w T (fun t v w' => DEM S dem w' (k t v w')) hT h)
    exact DEM_iff.2 ⟨(DEM_iff.1 (hh t0 h0)).1, fun t ht => (DEM_iff.1 (hh t ht)).2⟩
theorem denLS_mono {S : Nat → World → Prop} {fl : List Nat} {dem : Nat → List Nat} : ∀ (is : List Nat) {Q Q' : Env → World → Prop} (_ : ∀ ρ w, Q ρ w → Q' ρ w) {ρ : Env} {w : World}, denLS P ops S fl dem is Q ρ w → denLS P ops S fl dem is Q' ρ w
  | [], _, _, h, _, _, hd => h _ _ hd
  | i :: is, Q, Q', h, ρ, w, hd => by
    simp only [denLS] at *
    cases ho : ops[i]? with
    | none => simp [ho] at hd
    | some o =>
      simp only [ho] at *
      exact semKS_mono (osem_mono ρ o) (fun v w => denLS_mono is h) hd
theorem denLS_append {S : Nat → World → Prop} {fl : List Nat} {dem : Nat → List Nat} {Q : Env → World → Prop} (js : List Nat) : ∀ (is : List Nat) {ρ : Env} {w : World},
    denLS P ops S fl dem (is ++ js) Q ρ w ↔ denLS P ops S fl dem is (fun ρ w => denLS P ops S fl dem js Q ρ w) ρ w
  | [], _, _ => Iff.rfl
  | i :: is, ρ, w => by
    simp only [List.cons_append, denLS]
    cases ho : ops[i]? with
    | none => exact Iff.rfl
    | some o =>
      exact ⟨semKS_mono (osem_mono ρ o) fun v w => (denLS_append js is).1, semKS_mono (osem_mono ρ o) fun v w => (denLS_append js is).2⟩
def pairOkC (P : Program) (ops : Array Oper) (fl : List Nat) (B : Array Nat) (C : List Nat) (i j : Nat) : Bool :=
  !edgeTo ops i j && ((B.getD j 0).testBit i || swapOk P ops fl i j || (C.contains i && C.contains j))
def pairsOkC (P : Program) (ops : Array Oper) (fl : List Nat) (B : Array Nat) (C : List Nat) : List Nat → Bool
  | [] => true
  | i :: is => is.all (pairOkC P ops fl B C i) && pairsOkC P ops fl B C is
theorem pairsOkC_pairwise {fl : List Nat} {B : Array Nat} {C : List Nat} : ∀ {l : List Nat}, pairsOkC P ops fl B C l = true → l.Pairwise fun i j => pairOkC P ops fl B C i j = true
  | [], _ => .nil
  | i :: is, h => by
    simp only [pairsOkC, Bool.and_eq_true, List.all_eq_true] at h
    exact .cons h.1 (pairsOkC_pairwise h.2)
def mvb (P : Program) (ops : Array Oper) (fl C : List Nat) (c : Nat) (t : List Nat) : Bool := (ahead c t).all fun p => !C.contains p || swapOk P ops fl p c
def cover (P : Program) (ops : Array Oper) (fl : List Nat) (B : Array Nat) (C0 : List Nat) : Nat → List Nat → List (List Nat) → Bool
  | 0, C, T => C.isEmpty && Nat.beq T.length 1
  | n + 1, C, T => bif C.isEmpty then Nat.beq T.length 1 else
      C.all fun c => (C.any fun p => (B.getD c 0).testBit p) ||
        (!(T.filter (mvb P ops fl C0 c)).isEmpty && (cOk ops c || Nat.beq (T.filter (mvb P ops fl C0 c)).length 1) && cover P ops fl B C0 n (C.erase c) ((T.filter (mvb P ops fl C0 c)).map (·.erase c)))
theorem mvb_erase {fl C : List Nat} {c i : Nat} (hi : C.contains i = false) (hci : c ≠ i) (t : List Nat) : mvb P ops fl C c (t.erase i) = mvb P ops fl C c t := by
  unfold mvb
  induction t with
  | nil => rfl
  | cons p t ih =>
    by_cases hpi : p = i
    · subst hpi
      simp only [List.erase_cons_head, ahead, beq_no (Ne.symm hci), cond_false, List.all_cons, hi]
      simp
    · rw [List.erase_cons_tail (by simpa using hpi)]
      by_cases hpc : p = c
      · subst hpc; simp [ahead]
      · simp only [ahead, beq_no hpc, cond_false, List.all_cons, ih]
theorem filter_erase {fl C : List Nat} {c i : Nat} (hi : C.contains i = false) (hci : c ≠ i) (T : List (List Nat)) : (T.map (·.erase i)).filter (mvb P ops fl C c) = (T.filter (mvb P ops fl C c)).map (·.erase i) := by
  induction T with
  | nil => rfl
  | cons t T ih =>
    simp only [List.map_cons, List.filter_cons, mvb_erase hi hci]
    split <;> simp [ih]
theorem cover_erase {fl : List Nat} {B : Array Nat} {C0 : List Nat} {i : Nat} (hi : C0.contains i = false) : ∀ (n : Nat) (C : List Nat) (T : List (List Nat)), (∀ c ∈ C, c ∈ C0) → cover P ops fl B C0 n C T = true → cover P ops fl B C0 n C (T.map (·.erase i)) = true
  | 0, C, T, _, h => by simpa [cover] using h
  | n + 1, C, T, hC, h => by
    simp only [cover] at h ⊢
    cases hE : C.isEmpty with
    | true => rw [hE] at h; simpa using h
    | false =>
      rw [hE] at h
      simp only [cond_false, List.all_eq_true, Bool.or_eq_true, Bool.and_eq_true] at h ⊢
      intro c hc
      rcases h c hc with h1 | ⟨⟨h1, h2⟩, h3⟩
      · exact .inl h1
      · have hci : c ≠ i := fun e => by
          subst e
          have := hC c hc
          simp [this] at hi
        have hf := filter_erase (P := P) (ops := ops) (fl := fl) hi hci T
        refine .inr ⟨⟨?_, ?_⟩, ?_⟩
        · rw [hf]; simpa using h1
        · rw [hf]; simpa using h2
        · rw [hf]
          have := cover_erase hi n (C.erase c) _ (fun x hx => hC x (List.mem_of_mem_erase hx)) h3
          have he : ∀ l : List (List Nat), (l.map (·.erase i)).map (·.erase c) = (l.map (·.erase c)).map (·.erase i) := fun l => by
            simp only [List.map_map]
            exact List.map_congr_left fun x _ => List.erase_comm _ _
          rw [he]
          exact this
theorem cover_empty {fl : List Nat} {B : Array Nat} {C0 : List Nat} : ∀ {n : Nat} {T : List (List Nat)}, cover P ops fl B C0 n [] T = true → T.length = 1
  | 0, T, h => by simpa [cover] using h
  | n + 1, T, h => by simpa [cover] using h
def altOk (P : Program) (ops : Array Oper) (fl : List Nat) (dem : Nat → List Nat) (C pre : List Nat) (T : List (List Nat)) : Bool :=
  edgesIn ops && demOk P ops fl dem (bef ops.toList) && pre.all (fun i => !C.contains i) && decide C.Nodup && !T.isEmpty && cover P ops fl (bef ops.toList) C C.length C T &&
  T.all (fun t => (pre ++ t).length == ops.size && (List.range ops.size).all (fun i => (pre ++ t).contains i) && decide (pre ++ t).Nodup && (pre ++ t).all (fun i => decide (i < ops.size)) && pairsOkC P ops fl (bef ops.toList) C (pre ++ t) &&
    C.all (fun c => t.contains c) && t.all (fun i => C.contains i || cOk ops i || C.all fun c => ((bef ops.toList).getD i 0).testBit c))
theorem wpAny_of_alts {S : Nat → World → Prop} {fl : List Nat} {dem : Nat → List Nat} {n : Nat} {ρ0 : Env} {Q : Env → World → Prop} {C0 : List Nat} (hd : dstsOk n ops = true) (hin : edgesIn ops = true) (hfr : demOk P ops fl dem (bef ops.toList) = true)
    (hS0 : ∀ i, fl.contains i = true → ∃ w, S i w) : ∀ (fuel : Nat) (l : List Nat) (T : List (List Nat)) (C : List Nat) (m : Nat) (listed : Array Bool) (a : Act) (w : World),
    T ≠ [] → (∀ t ∈ T, (l ++ t).length ≤ fuel) → (∀ t ∈ T, (l ++ t).Nodup) → (∀ t ∈ T, ∀ i, i ∈ l ++ t ↔ i < ops.size ∧ listed.getD i true = false) → listed.size = ops.size → Closed ops listed →
    (∀ t ∈ T, (l ++ t).Pairwise fun i j => pairOkC P ops fl (bef ops.toList) C0 i j = true) → (∀ i ∈ l, C0.contains i = false) → C.Nodup → (∀ c, c ∈ C ↔ c ∈ C0 ∧ c < ops.size ∧ listed.getD c true = false) →
    (∀ t ∈ T, ∀ i ∈ t, C0.contains i = false → cOk ops i = true ∨ ∀ c ∈ C0, ((bef ops.toList).getD i 0).testBit c = true) → cover P ops fl (bef ops.toList) C0 m C T = true →
    Kept n (writesOps ops) ρ0 a → (∀ i, i < ops.size → listed.getD i true = false → fl.contains i = true → isRead P ops i = true → S i w) → denLS P ops S fl dem l (fun ρ w => ∀ t ∈ T, denLS P ops S fl dem t Q ρ w) (envOf a) w →
    wpAny P .any ops (after n (writesOps ops) ρ0 Q) fuel listed a w := by
  have ready_spec : ∀ (l : List Nat) (listed : Array Bool), (∀ i, i ∈ l ↔ i < ops.size ∧ listed.getD i true = false) → listed.size = ops.size →
      (l.Pairwise fun i j => pairOkC P ops fl (bef ops.toList) C0 i j = true) → ∀ h t, l = h :: t → h ∈ Region.ready .any ops listed := by
    intro l listed hmem hsz hp h t hl
    subst hl
    obtain ⟨hlt, hun⟩ := (hmem h).1 (by simp)
    refine mem_ready.2 ⟨hun, ops[h], Array.getElem?_eq_getElem hlt, fun e he hb => ?_⟩
    have hi := List.all_eq_true.1 hin h (List.mem_range.2 hlt)
    rw [Array.getElem?_eq_getElem hlt] at hi
    have hi2 := List.all_eq_true.1 hi e (Array.mem_toList_iff.2 he)
    simp only [hb, Bool.not_true, Bool.false_or, Bool.and_eq_true, decide_eq_true_eq, Bool.not_eq_true', beq_eq_false_iff_ne] at hi2
    have hnot : e.on ∉ t := fun ht => by
      have := (List.pairwise_cons.1 hp).1 e.on ht
      simp only [pairOkC, Bool.and_eq_true, Bool.not_eq_true'] at this
      have h0 := this.1
      unfold edgeTo at h0
      rw [Array.getElem?_eq_getElem hlt] at h0
      have : (ops[h].after.toList.any fun e' => Region.binds .any e' && e'.on == e.on) = true :=
        List.any_eq_true.2 ⟨e, Array.mem_toList_iff.2 he, by simp [hb]⟩
      simp only [this] at h0
      cases h0
    have hnl : e.on ∉ h :: t := by simp [hi2.2, hnot]
    have : ¬ (e.on < ops.size ∧ listed.getD e.on true = false) := fun hh => hnl ((hmem _).2 hh)
    have hlt2 : e.on < listed.size := by rw [hsz]; exact hi2.1
    cases hv : listed.getD e.on true with
    | false => exact absurd ⟨hi2.1, hv⟩ this
    | true =>
      simp [Array.getD_eq_getD_getElem?, hlt2] at hv ⊢
      exact hv
  intro fuel
  induction fuel with
  | zero =>
    intro l T C m listed a w hT hlen _ hmem hsz _ hp _ _ _ _ _ hk hSw h
    obtain ⟨t0, h0⟩ : ∃ t, t ∈ T := List.exists_mem_of_ne_nil T hT
    have hl0 : l ++ t0 = [] := List.length_eq_zero_iff.1 (by have := hlen t0 h0; omega)
    obtain ⟨rfl, rfl⟩ := List.append_eq_nil_iff.1 hl0
    refine ⟨?_, hk, h _ h0⟩
    refine List.eq_nil_iff_forall_not_mem.2 fun i hi => ?_
    obtain ⟨hun, o, ho, _⟩ := mem_ready.1 hi
    exact absurd ((hmem _ h0 i).2 ⟨(Array.getElem?_eq_some_iff.1 ho).1, hun⟩) (by simp)
  | succ fuel ih =>
    intro l T C m listed a w hT hlen hnd hmem hsz hcl hp hlC hCnd hCm hcj hcov hk hSw h
    obtain ⟨t0, h0⟩ : ∃ t, t ∈ T := List.exists_mem_of_ne_nil T hT
    refine ⟨fun hnil => ?_, fun i hi => ?_⟩
    · cases hl0 : l ++ t0 with
      | nil =>
        obtain ⟨rfl, rfl⟩ := List.append_eq_nil_iff.1 hl0
        exact ⟨hk, h _ h0⟩
      | cons x t =>
        have := ready_spec _ listed (hmem t0 h0) hsz (hp t0 h0) x t hl0
        rw [hnil] at this
        cases this
    · obtain ⟨hun, o, ho, hall⟩ := mem_ready.1 hi
      have hlt : i < ops.size := (Array.getElem?_eq_some_iff.1 ho).1
      -- what stands ahead by a ground isn't there any more
      have hanc : ∀ p, ((bef ops.toList).getD i 0).testBit p = true → p < ops.size → listed.getD p true = false → False := fun p hr hplt hpun => by
        have hpl := reach_listed hcl p (i + 1) i (by omega) hr (fun o2 h2 e he hb => by
          rw [ho] at h2; cases h2
          exact hall e (Array.mem_toList_iff.1 he) hb)
        have hplt2 : p < listed.size := by omega
        simp [Array.getD_eq_getD_getElem?, hplt2] at hpl hpun
        rw [hpl] at hpun
        cases hpun
      -- the end, alike for all ways
      have fin : ∀ (l' : List Nat) (T' : List (List Nat)) (C' : List Nat) (m' : Nat), T' ≠ [] → (∀ t ∈ T', (l' ++ t).length ≤ fuel) → (∀ t ∈ T', (l' ++ t).Nodup) → (∀ t ∈ T', ∀ j, j ∈ l' ++ t ↔ j ≠ i ∧ j < ops.size ∧ listed.getD j true = false) →
          (∀ t ∈ T', (l' ++ t).Pairwise fun i j => pairOkC P ops fl (bef ops.toList) C0 i j = true) → (∀ i ∈ l', C0.contains i = false) → C'.Nodup → (∀ c, c ∈ C' ↔ c ≠ i ∧ c ∈ C) →
          (∀ t ∈ T', ∀ i ∈ t, C0.contains i = false → cOk ops i = true ∨ ∀ c ∈ C0, ((bef ops.toList).getD i 0).testBit c = true) → cover P ops fl (bef ops.toList) C0 m' C' T' = true →
          denLS P ops S fl dem (i :: l') (fun ρ w => ∀ t ∈ T', denLS P ops S fl dem t Q ρ w) (envOf a) w → wpOp P ops (after n (writesOps ops) ρ0 Q) i (fun a' w' => wpAny P .any ops (after n (writesOps ops) ρ0 Q) fuel (listed.setIfInBounds i true) a' w') a w := by
        intro l' T' C' m' hT' hlen' hnd' hmem' hp' hlC' hCnd' hCm' hcj' hcov' h2
        simp only [denLS, ho] at h2
        have hcls := osem_cls (P := P) (ops := ops) (envOf a) o
        refine wpOp_of_sem ho (fun v w' hv => ?_) (semKS_sem (osem_mono _ o) (fun hf hc => hSw i hlt hun hf (by unfold isRead; rw [ho]; simp [← hcls, hc])) h2)
        have hset : ∀ j, (listed.setIfInBounds i true).getD j true = false ↔ j ≠ i ∧ listed.getD j true = false := fun j => by
          by_cases hji : i = j
          · subst hji
            have hlt2 : i < listed.size := by omega
            simp [hlt2]
          · rw [getD_set_ne true hji]
            exact ⟨fun hh => ⟨Ne.symm hji, hh⟩, fun hh => hh.2⟩
        refine ih l' T' C' m' _ _ _ hT' hlen' hnd' (fun t ht j => ?_) (by simp [hsz]) (fun j oj hj hjl e he hb => ?_) hp' hlC' hCnd' (fun c => ?_) hcj' hcov' (hk.put ho hd v) (fun p hplt hpun' hf hr => ?_) ?_
        · rw [hmem' t ht j, hset j]
          exact ⟨fun ⟨x, y, z⟩ => ⟨y, x, z⟩, fun ⟨y, x, z⟩ => ⟨x, y, z⟩⟩
        · by_cases hji : i = j
          · subst hji
            rw [ho] at hj; cases hj
            exact getD_set_true (hall e (Array.mem_toList_iff.1 he) hb)
          · rw [getD_set_ne false hji] at hjl
            exact getD_set_true (hcl j oj hj hjl e he hb)
        · rw [hCm' c, hCm c, hset c]
          exact ⟨fun ⟨x, y, z, u⟩ => ⟨y, z, x, u⟩, fun ⟨y, z, x, u⟩ => ⟨x, y, z, u⟩⟩
        · have hpun := ((hset p).1 hpun').2
          by_cases hc2 : clsOf (osem P ops (envOf a) o) = 2
          · have hie : isEff P ops i = true := by unfold isEff; rw [ho]; simp [← hcls, hc2]
            have h3 := List.all_eq_true.1 hfr i (List.mem_range.2 hlt)
            simp only [hie, Bool.not_true, Bool.false_or] at h3
            have h4 := List.all_eq_true.1 h3 p (by simpa using hf)
            simp only [hr, Bool.not_true, Bool.false_or, Bool.or_eq_true] at h4
            rcases h4 with h4 | h4
            · exact (hanc p h4 hplt hpun).elim
            · exact hv.1.2 hc2 p (by simpa using h4)
          · rw [hv.1.1 hc2]; exact hSw p hplt hpun hf hr
        · rw [envOf_put a o.dst v (fun t ht => hk.size ▸ dstsOk_spec hd ho t ht)]
          exact hv.2
      by_cases hil : i ∈ l
      · obtain ⟨pre, post, rfl⟩ := List.append_of_mem hil
        have hiC : C0.contains i = false := hlC i hil
        have hsw : ∀ p ∈ pre, swapOk P ops fl p i = true := fun p hpp => by
          have h1 := (List.pairwise_append.1 (List.pairwise_append.1 (hp t0 h0)).1).2.2 p hpp i (by simp)
          simp only [pairOkC, Bool.and_eq_true, Bool.or_eq_true, hiC] at h1
          rcases h1.2 with (hr | hs) | hc
          · obtain ⟨hplt, hpun⟩ := (hmem t0 h0 p).1 (by simp [hpp])
            exact (hanc p hr hplt hpun).elim
          · exact hs
          · simp at hc
        have hsub : ∀ t, List.Sublist ((pre ++ post) ++ t) ((pre ++ i :: post) ++ t) := fun t => List.Sublist.append_right (List.Sublist.append_left (List.sublist_cons_self i post) pre) t
        refine fin (pre ++ post) T C m hT (fun t ht => by have := hlen t ht; simp at this ⊢; omega) (fun t ht => (hnd t ht).sublist (hsub t)) (fun t ht j => ?_) (fun t ht => (hp t ht).sublist (hsub t)) (fun j hj => hlC j ?_) hCnd (fun c => ?_) hcj hcov (denL_front pre hsw h)
        · have hm := hmem t ht j
          have hn := hnd t ht
          rw [← hm]
          constructor
          · intro hj
            refine ⟨fun e => ?_, (hsub t).subset hj⟩
            subst e
            rw [List.append_assoc, List.cons_append] at hn
            have hn2 := (List.perm_middle.nodup_iff.1 hn)
            rw [← List.append_assoc] at hn2
            exact (List.nodup_cons.1 hn2).1 hj
          · rintro ⟨hne, hj⟩
            simp only [List.mem_append, List.mem_cons] at hj ⊢
            rcases hj with (hj | hj | hj) | hj
            · exact .inl (.inl hj)
            · exact absurd hj hne
            · exact .inl (.inr hj)
            · exact .inr hj
        · simp only [List.mem_append, List.mem_cons] at hj ⊢
          exact hj.elim .inl (fun h => .inr (.inr h))
        · exact ⟨fun hc => ⟨fun e => by
            subst e
            have := ((hCm c).1 hc).1
            simp [this] at hiC, hc⟩, fun hc => hc.2⟩
      · have hit : ∀ t ∈ T, i ∈ t := fun t ht => by
          have := (hmem t ht i).2 ⟨hlt, hun⟩
          rcases List.mem_append.1 this with h' | h'
          · exact absurd h' hil
          · exact h'
        -- the orders in which i may go first
        obtain ⟨T1, hT1, hsubT, hmv, hcv, hconj⟩ : ∃ T1 : List (List Nat), T1 ≠ [] ∧ (∀ t ∈ T1, t ∈ T) ∧ (∀ t ∈ T1, ∀ p ∈ l ++ ahead i t, swapOk P ops fl p i = true) ∧ (∃ m' , cover P ops fl (bef ops.toList) C0 m' (C.erase i) (T1.map (·.erase i)) = true) ∧ (cOk ops i = true ∨ T1.length = 1) := by
          have gen : ∀ t ∈ T, ∀ p ∈ l ++ ahead i t, (C0.contains p = true → C0.contains i = true → swapOk P ops fl p i = true) → swapOk P ops fl p i = true := fun t ht p hpp hc => by
            obtain ⟨post, e1, _⟩ := ahead_split (hit t ht)
            have hpw := hp t ht
            rw [e1, ← List.append_assoc] at hpw
            have h1 := (List.pairwise_append.1 hpw).2.2 p hpp i (by simp)
            simp only [pairOkC, Bool.and_eq_true, Bool.or_eq_true] at h1
            rcases h1.2 with (hr | hs) | hcc
            · have hpm : p ∈ l ++ t := by
                rw [e1, ← List.append_assoc]; exact List.mem_append_left _ hpp
              obtain ⟨hplt, hpun⟩ := (hmem t ht p).1 hpm
              exact (hanc p hr hplt hpun).elim
            · exact hs
            · exact hc hcc.1 hcc.2
          by_cases hiC : C0.contains i = true
          · have hiCm : i ∈ C := (hCm i).2 ⟨by simpa using hiC, hlt, hun⟩
            have hne : C.isEmpty = false := by
              cases C with
              | nil => simp at hiCm
              | cons x y => rfl
            cases m with
            | zero => simp [cover, hne] at hcov
            | succ m =>
              simp only [cover, hne, cond_false, List.all_eq_true, Bool.or_eq_true, Bool.and_eq_true] at hcov
              rcases hcov i hiCm with h1 | ⟨⟨h1, h2⟩, h3⟩
              · obtain ⟨p, hpC, hr⟩ := List.any_eq_true.1 h1
                obtain ⟨_, hplt, hpun⟩ := (hCm p).1 hpC
                exact (hanc p hr hplt hpun).elim
              · refine ⟨T.filter (mvb P ops fl C0 i), ?_, fun t ht => (List.mem_filter.1 ht).1, fun t ht p hpp => ?_, ⟨m, h3⟩, ?_⟩
                · intro e; rw [e] at h1; simp at h1
                · obtain ⟨ht1, ht2⟩ := List.mem_filter.1 ht
                  refine gen t ht1 p hpp fun hpC _ => ?_
                  rcases List.mem_append.1 hpp with hpl | hpa
                  · rw [hlC p hpl] at hpC; cases hpC
                  · have := List.all_eq_true.1 ht2 p hpa
                    rw [hpC] at this
                    simpa using this
                · exact h2.elim .inl fun h2 => .inr (Nat.eq_of_beq_eq_true h2)
          · have hiCf : C0.contains i = false := by simpa using hiC
            have hiCn : i ∉ C := fun hc => hiC (by simpa using ((hCm i).1 hc).1)
            refine ⟨T, hT, fun t ht => ht, fun t ht p hpp => gen t ht p hpp fun _ hc => absurd hc hiC, ⟨m, ?_⟩, ?_⟩
            · rw [List.erase_of_not_mem hiCn]
              exact cover_erase hiCf m C T (fun c hc => ((hCm c).1 hc).1) hcov
            · rcases hcj t0 h0 i (hit t0 h0) hiCf with hc | hc
              · exact .inl hc
              · refine .inr ?_
                have hCe : C = [] := List.eq_nil_iff_forall_not_mem.2 fun c hcc => by
                  obtain ⟨hc0, hclt, hcun⟩ := (hCm c).1 hcc
                  exact hanc c (hc c hc0) hclt hcun
                subst hCe
                exact cover_empty hcov
        obtain ⟨m', hcv⟩ := hcv
        have hperm : ∀ t ∈ T1, ∀ j, j ∈ l ++ t.erase i ↔ j ≠ i ∧ j ∈ l ++ t := fun t ht j => by
          have hn := (List.nodup_append.1 (hnd t (hsubT t ht))).2.1
          simp only [List.mem_append, hn.mem_erase_iff]
          constructor
          · rintro (hj | hj)
            · exact ⟨fun e => hil (e ▸ hj), .inl hj⟩
            · exact ⟨hj.1, .inr hj.2⟩
          · rintro ⟨hne, hj | hj⟩
            · exact .inl hj
            · exact .inr ⟨hne, hj⟩
        have hsub : ∀ t, List.Sublist (l ++ t.erase i) (l ++ t) := fun t => List.Sublist.append_left List.erase_sublist l
        have hfront : denLS P ops S fl dem (i :: l) (fun ρ w => ∀ t ∈ T1.map (·.erase i), denLS P ops S fl dem t Q ρ w) (envOf a) w := by
          have h1 : denLS P ops S fl dem l (fun ρ w => denLS P ops S fl dem [i] (fun ρ w => ∀ t ∈ T1.map (·.erase i), denLS P ops S fl dem t Q ρ w) ρ w) (envOf a) w := by
            refine denLS_mono l (fun ρ w hh => ?_) h
            have hh2 : ∀ t ∈ T1, denLS P ops S fl dem (i :: t.erase i) Q ρ w := fun t ht => by
              obtain ⟨post, e1, e2⟩ := ahead_split (hit t (hsubT t ht))
              rw [e2]
              refine denL_front _ (fun p hpp => hmv t ht p (List.mem_append_right _ hpp)) ?_
              rw [← e1]
              exact hh t (hsubT t ht)
            simp only [denLS, ho] at hh2 ⊢
            have hres : semKS S i (fl.contains i) (dem i) (osem P ops ρ o) w (fun v w' => ∀ t ∈ T1, denLS P ops S fl dem (t.erase i) Q (updO ρ o.dst v) w') := by
              rcases hconj with hc | hc
              · refine semKS_conj (hS0 i) (osem_mono ρ o) (osem_conj ρ o ?_) hT1 hh2
                simpa [cOk, ho] using hc
              · match T1, hc, hh2 with
                | [t1], _, hh2 => exact semKS_mono (osem_mono ρ o) (fun v w' hx t ht => by
                    have : t = t1 := by simpa using ht
                    subst this; exact hx) (hh2 t1 (by simp))
            refine semKS_mono (osem_mono ρ o) (fun v w' hx t ht => ?_) hres
            obtain ⟨t', ht', rfl⟩ := List.mem_map.1 ht
            exact hx t' ht'
          have h2 := (denLS_append [i] l).2 h1
          have h3 := denL_front (i := i) (post := []) l (fun p hpp => by
            obtain ⟨t1, ht1⟩ := List.exists_mem_of_ne_nil T1 hT1
            exact hmv t1 ht1 p (List.mem_append_left _ hpp)) h2
          rwa [List.append_nil] at h3
        refine fin l (T1.map (·.erase i)) (C.erase i) m' (by simpa using hT1) ?_ ?_ ?_ ?_ hlC (hCnd.erase i) (fun c => by rw [hCnd.mem_erase_iff]) ?_ hcv hfront
        · intro t ht
          obtain ⟨t', ht', rfl⟩ := List.mem_map.1 ht
          have h1 := hlen t' (hsubT t' ht')
          have h2 := List.length_erase_of_mem (hit t' (hsubT t' ht'))
          have h3 := List.length_pos_of_mem (hit t' (hsubT t' ht'))
          simp only [List.length_append] at h1 ⊢
          omega
        · intro t ht
          obtain ⟨t', ht', rfl⟩ := List.mem_map.1 ht
          exact (hnd t' (hsubT t' ht')).sublist (hsub t')
        · intro t ht j
          obtain ⟨t', ht', rfl⟩ := List.mem_map.1 ht
          rw [hperm t' ht' j, hmem t' (hsubT t' ht') j]
        · intro t ht
          obtain ⟨t', ht', rfl⟩ := List.mem_map.1 ht
          exact (hp t' (hsubT t' ht')).sublist (hsub t')
        · intro t ht j hj
          obtain ⟨t', ht', rfl⟩ := List.mem_map.1 ht
          exact hcj t' (hsubT t' ht') j (List.mem_of_mem_erase hj)
theorem wpAny_alts {S : Nat → World → Prop} {fl : List Nat} {dem : Nat → List Nat} {n : Nat} {ρ0 : Env} {Q : Env → World → Prop} (hd : dstsOk n ops = true) {C pre : List Nat} {T : List (List Nat)} (hs : altOk P ops fl dem C pre T = true) {a : Act} {w : World} (hk : Kept n (writesOps ops) ρ0 a)
    (hSw : ∀ i ∈ fl, S i w) (h : denLS P ops S fl dem pre (fun ρ w => ∀ t ∈ T, denLS P ops S fl dem t Q ρ w) (envOf a) w) : wpAny P .any ops (after n (writesOps ops) ρ0 Q) ops.size (Array.replicate ops.size false) a w := by
  simp only [altOk, Bool.and_eq_true, beq_iff_eq, decide_eq_true_eq, List.all_eq_true] at hs
  obtain ⟨⟨⟨⟨⟨⟨hin, hfr⟩, hpre⟩, hCnd⟩, hT⟩, hcov⟩, hall⟩ := hs
  have hT' : T ≠ [] := by intro e; rw [e] at hT; simp at hT
  obtain ⟨t0, h0⟩ : ∃ t, t ∈ T := List.exists_mem_of_ne_nil T hT'
  have hm : ∀ t ∈ T, ∀ i, i ∈ pre ++ t ↔ i < ops.size ∧ (Array.replicate ops.size false).getD i true = false := fun t ht i => by
    obtain ⟨⟨⟨⟨⟨⟨hlen, hal⟩, hnd⟩, hlt⟩, hp⟩, hC⟩, hcj⟩ := hall t ht
    refine ⟨fun hi => ?_, fun hi => ?_⟩
    · have := hlt i hi
      simp [this]
    · have := hal i (List.mem_range.2 hi.1)
      simpa using this
  refine wpAny_of_alts hd hin hfr (fun i hi => ⟨w, hSw i (by simpa using hi)⟩) _ pre T C C.length _ a w hT' (fun t ht => by have := (hall t ht).1.1.1.1.1.1; omega) (fun t ht => (hall t ht).1.1.1.1.2) hm (by simp) ?_
    (fun t ht => pairsOkC_pairwise (hall t ht).1.1.2) (fun i hi => by have := hpre i hi; simpa using this) hCnd (fun c => ?_) (fun t ht i hi hc => ?_) hcov hk (fun i _ _ hf _ => hSw i (by simpa using hf)) h
  · intro i o hi hl
    have : i < ops.size := (Array.getElem?_eq_some_iff.1 hi).1
    simp [this] at hl
  · constructor
    · intro hc
      have h1 := (hall t0 h0).1.2 c hc
      have h2 := (hm t0 h0 c).1 (by simp at h1; simp [h1])
      exact ⟨hc, h2⟩
    · exact fun hc => hc.1
  · have h1 := (hall t ht).2 i hi
    simp only [Bool.or_eq_true, hc, List.all_eq_true] at h1
    rcases h1 with (h1 | h1) | h1
    · cases h1
    · exact .inl h1
    · exact .inr h1
end
end Go.Den
end
section
namespace Go.Den
def CONJN : List Nat → (Nat → Prop) → Prop
  | [], _ => True
  | [c], f => f c
  | c :: C, f => f c ∧ CONJN C f
theorem CONJN_mem {f : Nat → Prop} : ∀ {C : List Nat}, CONJN C f → ∀ c ∈ C, f c
  | [], _, c, hc => by simp at hc
  | [t], h, c, hc => by simp at hc; subst hc; exact h
  | t :: u :: C, h, c, hc => by
    rcases List.mem_cons.1 hc with rfl | hc
    · exact h.1
    · exact CONJN_mem (C := u :: C) h.2 c hc
def firsts (B : Array Nat) (C : List Nat) : List Nat := C.filter fun c => C.all fun p => !(B.getD c 0).testBit p
def denF (P : Program) (ops : Array Oper) (B : Array Nat) (S : Nat → World → Prop) (fl : List Nat) (dem : Nat → List Nat) : Nat → List Nat → (Env → World → Prop) → Env → World → Prop
  | 0, _, Q, ρ, w => Q ρ w
  | n + 1, C, Q, ρ, w => CONJN (firsts B C) fun c => denLS P ops S fl dem [c] (fun ρ w => denF P ops B S fl dem n (C.erase c) Q ρ w) ρ w
def topo (ops : Array Oper) : List Nat → Bool
  | [] => true
  | c :: C => C.all (fun d => !edgeTo ops c d) && topo ops C
def freeOk (P : Program) (ops : Array Oper) (fl : List Nat) (dem : Nat → List Nat) (C pre suf : List Nat) : Bool :=
  (pre ++ (C ++ suf)).length == ops.size && (List.range ops.size).all (fun i => (pre ++ (C ++ suf)).contains i) && decide (pre ++ (C ++ suf)).Nodup && (pre ++ (C ++ suf)).all (fun i => decide (i < ops.size)) && edgesIn ops &&
  demOk P ops fl dem (bef ops.toList) && pairsOk P ops fl (bef ops.toList) (pre ++ suf) && topo ops C &&
  pre.all (fun p => C.all fun c => pairOk P ops fl (bef ops.toList) p c) && suf.all (fun s => C.all fun c => ((bef ops.toList).getD s 0).testBit c && !edgeTo ops c s)
section
variable {P : Program} {ops : Array Oper}
theorem topo_sub : ∀ {C D : List Nat}, List.Sublist D C → topo ops C = true → topo ops D = true := by
  intro C D h
  induction h with
  | slnil => exact id
  | cons a _ ih => intro hc; simp only [topo, Bool.and_eq_true] at hc; exact ih hc.2
  | cons_cons a hs ih =>
    intro hc
    simp only [topo, Bool.and_eq_true, List.all_eq_true] at hc ⊢
    exact ⟨fun d hd => hc.1 d (hs.subset hd), ih hc.2⟩
theorem wpAny_of_free {S : Nat → World → Prop} {fl : List Nat} {dem : Nat → List Nat} {n : Nat} {ρ0 : Env} {Q : Env → World → Prop} {suf : List Nat} (hd : dstsOk n ops = true) (hin : edgesIn ops = true) (hfr : demOk P ops fl dem (bef ops.toList) = true) :
    ∀ (fuel : Nat) (l C : List Nat) (listed : Array Bool) (a : Act) (w : World),
    (l ++ (C ++ suf)).length ≤ fuel → (l ++ (C ++ suf)).Nodup → (∀ i, i ∈ l ++ (C ++ suf) ↔ i < ops.size ∧ listed.getD i true = false) → listed.size = ops.size → Closed ops listed →
    ((l ++ suf).Pairwise fun i j => pairOk P ops fl (bef ops.toList) i j = true) → topo ops C = true → (∀ p ∈ l, ∀ c ∈ C, pairOk P ops fl (bef ops.toList) p c = true) → (∀ s ∈ suf, ∀ c ∈ C, ((bef ops.toList).getD s 0).testBit c = true ∧ edgeTo ops c s = false) →
    Kept n (writesOps ops) ρ0 a → (∀ i, i < ops.size → listed.getD i true = false → fl.contains i = true → isRead P ops i = true → S i w) →
    denLS P ops S fl dem l (fun ρ w => denF P ops (bef ops.toList) S fl dem C.length C (fun ρ w => denLS P ops S fl dem suf Q ρ w) ρ w) (envOf a) w →
    wpAny P .any ops (after n (writesOps ops) ρ0 Q) fuel listed a w := by
  intro fuel
  induction fuel with
  | zero =>
    intro l C listed a w hlen hnd hmem hsz hcl hp hto hpc hsc hk hSw h
    have h0 : l ++ (C ++ suf) = [] := List.length_eq_zero_iff.1 (by omega)
    simp only [List.append_eq_nil_iff] at h0
    obtain ⟨rfl, rfl, rfl⟩ := h0
    exact wpAny_of_denL hd hin hfr 0 [] listed a w (by simp) (by simp) (by simpa using hmem) hsz hcl .nil hk (by simp) h
  | succ fuel ih =>
    intro l C listed a w hlen hnd hmem hsz hcl hp hto hpc hsc hk hSw h
    cases hC0 : C with
    | nil =>
      subst hC0
      simp only [List.nil_append] at hlen hnd hmem
      refine wpAny_of_denL hd hin hfr _ (l ++ suf) listed a w hlen hnd hmem hsz hcl hp hk (fun i hi hf hr => ?_) ((denLS_append suf l).2 h)
      obtain ⟨h1, h2⟩ := (hmem i).1 hi
      exact hSw i h1 h2 hf hr
    | cons c0 C0 =>
      have hc0 : c0 ∈ C := by rw [hC0]; simp
      -- what is ready
      have rdy : ∀ x, x ∈ l ++ (C ++ suf) → (∀ y ∈ l ++ (C ++ suf), y ≠ x → edgeTo ops x y = false) → x ∈ Region.ready .any ops listed := by
        intro x hx hno
        obtain ⟨hlt, hun⟩ := (hmem x).1 hx
        refine mem_ready.2 ⟨hun, ops[x], Array.getElem?_eq_getElem hlt, fun e he hb => ?_⟩
        have hi := List.all_eq_true.1 hin x (List.mem_range.2 hlt)
        rw [Array.getElem?_eq_getElem hlt] at hi
        have hi2 := List.all_eq_true.1 hi e (Array.mem_toList_iff.2 he)
        simp only [hb, Bool.not_true, Bool.false_or, Bool.and_eq_true, decide_eq_true_eq, Bool.not_eq_true', beq_eq_false_iff_ne] at hi2
        have hlt2 : e.on < listed.size := by rw [hsz]; exact hi2.1
        cases hv : listed.getD e.on true with
        | false =>
          have hm := (hmem e.on).2 ⟨hi2.1, hv⟩
          have h0 := hno e.on hm hi2.2
          unfold edgeTo at h0
          rw [Array.getElem?_eq_getElem hlt] at h0
          have : (ops[x].after.toList.any fun e' => Region.binds .any e' && e'.on == e.on) = true := List.any_eq_true.2 ⟨e, Array.mem_toList_iff.2 he, by simp [hb]⟩
          simp only [this] at h0
          cases h0
        | true =>
          simp [Array.getD_eq_getD_getElem?, hlt2] at hv ⊢
          exact hv
      have po : ∀ {i j : Nat}, pairOk P ops fl (bef ops.toList) i j = true → edgeTo ops i j = false := fun h => by
        simp only [pairOk, Bool.and_eq_true, Bool.not_eq_true'] at h; exact h.1
      refine ⟨fun hnil => ?_, fun i hi => ?_⟩
      · cases l with
        | nil =>
          have := rdy c0 (by simp [hc0]) fun y hy hne => by
            simp only [List.nil_append, List.mem_append] at hy
            rcases hy with hy | hy
            · rw [hC0] at hy hto
              rcases List.mem_cons.1 hy with rfl | hy
              · exact absurd rfl hne
              · simp only [topo, Bool.and_eq_true, List.all_eq_true] at hto
                simpa using hto.1 y hy
            · exact (hsc y hy c0 hc0).2
          rw [hnil] at this; cases this
        | cons x t =>
          have := rdy x (by simp) fun y hy hne => by
            simp only [List.cons_append, List.mem_cons, List.mem_append] at hy
            have hp1 := (List.pairwise_cons.1 hp).1
            rcases hy with rfl | hy | hy | hy
            · exact absurd rfl hne
            · exact po (hp1 y (by simp [hy]))
            · exact po (hpc x (by simp) y hy)
            · exact po (hp1 y (by simp [hy]))
          rw [hnil] at this; cases this
      · obtain ⟨hun, o, ho, hall⟩ := mem_ready.1 hi
        have hlt : i < ops.size := (Array.getElem?_eq_some_iff.1 ho).1
        have hanc : ∀ p, ((bef ops.toList).getD i 0).testBit p = true → p < ops.size → listed.getD p true = false → False := fun p hr hplt hpun => by
          have hpl := reach_listed hcl p (i + 1) i (by omega) hr (fun o2 h2 e he hb => by
            rw [ho] at h2; cases h2
            exact hall e (Array.mem_toList_iff.1 he) hb)
          have hplt2 : p < listed.size := by omega
          simp [Array.getD_eq_getD_getElem?, hplt2] at hpl hpun
          rw [hpl] at hpun
          cases hpun
        have hancm : ∀ p ∈ l ++ (C ++ suf), ((bef ops.toList).getD i 0).testBit p = true → False := fun p hp hr => by
          obtain ⟨h1, h2⟩ := (hmem p).1 hp
          exact hanc p hr h1 h2
        have swp : ∀ p ∈ l ++ (C ++ suf), pairOk P ops fl (bef ops.toList) p i = true → swapOk P ops fl p i = true := fun p hpm h => by
          simp only [pairOk, Bool.and_eq_true, Bool.or_eq_true] at h
          exact h.2.resolve_left fun hr => hancm p hpm hr
        have fin : ∀ (l' C' : List Nat), (∀ j, j ∈ l' ++ (C' ++ suf) ↔ j ≠ i ∧ j ∈ l ++ (C ++ suf)) → (l' ++ (C' ++ suf)).length ≤ fuel → (l' ++ (C' ++ suf)).Nodup → ((l' ++ suf).Pairwise fun i j => pairOk P ops fl (bef ops.toList) i j = true) → topo ops C' = true →
            (∀ p ∈ l', p ∈ l) → (∀ c ∈ C', c ∈ C) →
            denLS P ops S fl dem (i :: l') (fun ρ w => denF P ops (bef ops.toList) S fl dem C'.length C' (fun ρ w => denLS P ops S fl dem suf Q ρ w) ρ w) (envOf a) w →
            wpOp P ops (after n (writesOps ops) ρ0 Q) i (fun a' w' => wpAny P .any ops (after n (writesOps ops) ρ0 Q) fuel (listed.setIfInBounds i true) a' w') a w := by
          intro l' C' hm' hlen' hnd' hp' hto' hl' hC' h2
          simp only [denLS, ho] at h2
          have hcls := osem_cls (P := P) (ops := ops) (envOf a) o
          refine wpOp_of_sem ho (fun v w' hv => ?_) (semKS_sem (osem_mono _ o) (fun hf hc => hSw i hlt hun hf (by unfold isRead; rw [ho]; simp [← hcls, hc])) h2)
          have hset : ∀ j, (listed.setIfInBounds i true).getD j true = false ↔ j ≠ i ∧ listed.getD j true = false := fun j => by
            by_cases hji : i = j
            · subst hji
              have hlt2 : i < listed.size := by omega
              simp [hlt2]
            · rw [getD_set_ne true hji]
              exact ⟨fun hh => ⟨Ne.symm hji, hh⟩, fun hh => hh.2⟩
          refine ih l' C' _ _ _ hlen' hnd' (fun j => ?_) (by simp [hsz]) (fun j oj hj hjl e he hb => ?_) hp' hto' (fun p hp c hc => hpc p (hl' p hp) c (hC' c hc)) (fun s hs c hc => hsc s hs c (hC' c hc)) (hk.put ho hd v) (fun p hplt hpun' hf hr => ?_) ?_
          · rw [hm' j, hset j, hmem j]
            exact ⟨fun ⟨x, y, z⟩ => ⟨y, x, z⟩, fun ⟨y, x, z⟩ => ⟨x, y, z⟩⟩
          · by_cases hji : i = j
            · subst hji
              rw [ho] at hj; cases hj
              exact getD_set_true (hall e (Array.mem_toList_iff.1 he) hb)
            · rw [getD_set_ne false hji] at hjl
              exact getD_set_true (hcl j oj hj hjl e he hb)
          · have hpun := ((hset p).1 hpun').2
            by_cases hc2 : clsOf (osem P ops (envOf a) o) = 2
            · have hie : isEff P ops i = true := by unfold isEff; rw [ho]; simp [← hcls, hc2]
              have h3 := List.all_eq_true.1 hfr i (List.mem_range.2 hlt)
              simp only [hie, Bool.not_true, Bool.false_or] at h3
              have h4 := List.all_eq_true.1 h3 p (by simpa using hf)
              simp only [hr, Bool.not_true, Bool.false_or, Bool.or_eq_true] at h4
              rcases h4 with h4 | h4
              · exact (hanc p h4 hplt hpun).elim
              · exact hv.1.2 hc2 p (by simpa using h4)
            · rw [hv.1.1 hc2]; exact hSw p hplt hpun hf hr
          · rw [envOf_put a o.dst v (fun t ht => hk.size ▸ dstsOk_spec hd ho t ht)]
            exact hv.2
        have hiM := (hmem i).2 ⟨hlt, hun⟩
        by_cases hil : i ∈ l
        · obtain ⟨pre, post, rfl⟩ := List.append_of_mem hil
          have hsw : ∀ p ∈ pre, swapOk P ops fl p i = true := fun p hpp => by
            refine swp p (by simp [hpp]) ?_
            rw [List.append_assoc] at hp
            exact (List.pairwise_append.1 hp).2.2 p hpp i (by simp)
          have hsub : ∀ t, List.Sublist ((pre ++ post) ++ t) ((pre ++ i :: post) ++ t) := fun t => List.Sublist.append_right (List.Sublist.append_left (List.sublist_cons_self i post) pre) t
          refine fin (pre ++ post) C (fun j => ?_) (by simp at hlen ⊢; omega) (hnd.sublist (hsub _)) (hp.sublist (hsub _)) hto (fun p hp => ?_) (fun c hc => hc) (denL_front pre hsw h)
          · have hn2 : (i :: (pre ++ (post ++ (C ++ suf)))).Nodup := by
              rw [List.append_assoc, List.cons_append] at hnd
              exact List.perm_middle.nodup_iff.1 hnd
            have hni := (List.nodup_cons.1 hn2).1
            simp only [List.append_assoc, List.cons_append, List.mem_append, List.mem_cons] at hni ⊢
            constructor
            · intro hj
              refine ⟨fun e => hni (e ▸ hj), ?_⟩
              rcases hj with hj | hj | hj | hj
              · exact .inl hj
              · exact .inr (.inr (.inl hj))
              · exact .inr (.inr (.inr (.inl hj)))
              · exact .inr (.inr (.inr (.inr hj)))
            · rintro ⟨hne, hj | hj | hj | hj | hj⟩
              · exact .inl hj
              · exact absurd hj hne
              · exact .inr (.inl hj)
              · exact .inr (.inr (.inl hj))
              · exact .inr (.inr (.inr hj))
          · simp only [List.mem_append, List.mem_cons] at hp ⊢
            exact hp.elim .inl (fun h => .inr (.inr h))
        · by_cases hiC : i ∈ C
          · have hf : i ∈ firsts (bef ops.toList) C := by
              unfold firsts
              refine List.mem_filter.2 ⟨hiC, List.all_eq_true.2 fun p hp => ?_⟩
              cases hb : ((bef ops.toList).getD i 0).testBit p with
              | false => rfl
              | true => exact (hancm p (by simp [hp]) hb).elim
            have hCl : C.length = (C.erase i).length + 1 := by
              have := List.length_erase_of_mem hiC
              have := List.length_pos_of_mem hiC
              omega
            have hCnd : C.Nodup := (List.nodup_append.1 (List.nodup_append.1 hnd).2.1).1
            have h1 : denLS P ops S fl dem l (fun ρ w => denLS P ops S fl dem [i] (fun ρ w => denF P ops (bef ops.toList) S fl dem (C.erase i).length (C.erase i) (fun ρ w => denLS P ops S fl dem suf Q ρ w) ρ w) ρ w) (envOf a) w := by
              refine denLS_mono l (fun ρ w hh => ?_) h
              rw [hCl] at hh
              exact CONJN_mem hh i hf
            have h2 := (denLS_append [i] l).2 h1
            have h3 := denL_front (i := i) (post := []) l (fun p hpp => swp p (by simp [hpp]) (hpc p hpp i hiC)) h2
            rw [List.append_nil] at h3
            have hsub : List.Sublist (l ++ (C.erase i ++ suf)) (l ++ (C ++ suf)) := List.Sublist.append_left (List.Sublist.append_right List.erase_sublist suf) l
            refine fin l (C.erase i) (fun j => ?_) ?_ (hnd.sublist hsub) hp (topo_sub List.erase_sublist hto) (fun p hp => hp) (fun c hc => List.mem_of_mem_erase hc) h3
            · have hns : i ∉ suf := fun hs => (List.nodup_append.1 (List.nodup_append.1 hnd).2.1).2.2 i hiC i hs rfl
              simp only [List.mem_append, hCnd.mem_erase_iff]
              constructor
              · rintro (hj | ⟨h1, h2⟩ | hj)
                · exact ⟨fun e => hil (e ▸ hj), .inl hj⟩
                · exact ⟨h1, .inr (.inl h2)⟩
                · exact ⟨fun e => hns (e ▸ hj), .inr (.inr hj)⟩
              · rintro ⟨hne, hj | hj | hj⟩
                · exact .inl hj
                · exact .inr (.inl ⟨hne, hj⟩)
                · exact .inr (.inr hj)
            · simp only [List.length_append] at hlen ⊢; omega
          · have his : i ∈ suf := by
              simp only [List.mem_append] at hiM
              exact (hiM.resolve_left hil).resolve_left hiC
            exact (hancm c0 (by simp [hc0]) (hsc i his c0 hc0).1).elim
theorem wpAny_free {S : Nat → World → Prop} {fl : List Nat} {dem : Nat → List Nat} {n : Nat} {ρ0 : Env} {Q : Env → World → Prop} {C pre suf : List Nat} (hd : dstsOk n ops = true) (hs : freeOk P ops fl dem C pre suf = true) {a : Act} {w : World} (hk : Kept n (writesOps ops) ρ0 a)
    (hSw : ∀ i ∈ fl, S i w) (h : denLS P ops S fl dem pre (fun ρ w => denF P ops (bef ops.toList) S fl dem C.length C (fun ρ w => denLS P ops S fl dem suf Q ρ w) ρ w) (envOf a) w) :
    wpAny P .any ops (after n (writesOps ops) ρ0 Q) ops.size (Array.replicate ops.size false) a w := by
  simp only [freeOk, Bool.and_eq_true, beq_iff_eq, decide_eq_true_eq, List.all_eq_true] at hs
  obtain ⟨⟨⟨⟨⟨⟨⟨⟨⟨hlen, hall⟩, hnd⟩, hlt⟩, hin⟩, hfr⟩, hp⟩, hto⟩, hpc⟩, hsc⟩ := hs
  refine wpAny_of_free hd hin hfr _ pre C _ a w (by omega) hnd (fun i => ⟨fun hi => ?_, fun hi => ?_⟩) (by simp) ?_ (pairsOk_pairwise hp) hto hpc (fun s hs c hc => ?_) hk (fun i _ _ hf _ => hSw i (by simpa using hf)) h
  · have := hlt i hi
    simp [this]
  · have := hall i (List.mem_range.2 hi.1)
    simpa using this
  · intro i o hi hl
    have : i < ops.size := (Array.getElem?_eq_some_iff.1 hi).1
    simp [this] at hl
  · have := hsc s hs c hc
    simpa using this
end
end Go.Den
end
section
namespace Go.Den
inductive Ex where
  | nrm
  | ext (id : Nat)
  | ret
  | jmp (l : Nat)
def VF : Nat → Type
  | 0 => World → Prop
  | n + 1 => Value → VF n
def VM : Nat → Type
  | 0 => World → Nat
  | n + 1 => Value → VM n
def VF.ap : (n : Nat) → VF n → List Value → World → Prop
  | 0, J, _, w => J w
  | n + 1, J, x :: xs, w => VF.ap n (J x) xs w
  | _ + 1, _, [], _ => False
def VM.ap : (n : Nat) → VM n → List Value → World → Nat
  | 0, J, _, w => J w
  | n + 1, J, x :: xs, w => VM.ap n (J x) xs w
  | _ + 1, _, [], _ => 0
def AllN : Nat → (List Value → Prop) → Prop
  | 0, f => f []
  | n + 1, f => ∀ x : Value, AllN n fun xs => f (x :: xs)
theorem AllN_spec : ∀ (xs : List Value) (f : List Value → Prop), AllN xs.length f → f xs
  | [], _, h => h
  | x :: xs, f, h => AllN_spec xs (fun xs => f (x :: xs)) (h x)
def fill : List Nat → List Value → List Nat → Env → Env → Env
  | l :: L, x :: xs, W, d, ρ => fun i => bif Nat.beq i l then x else fill L xs W d ρ i
  | _, _, W, d, ρ => fun i => bif W.contains i then d i else ρ i
def writes : Code → List Nat
  | .region _ ops _ => writesOps ops
  | .seq a b => writes a ++ writes b
  | .cond _ a b => writes a ++ writes b
  | .block _ b => writes b
  | .loop b => writes b
  | .scope b => writes b
  | _ => []
def firstReg : Code → Nat
  | .region id _ _ => id
  | .seq a _ => firstReg a
  | .block _ b => firstReg b
  | .loop b => firstReg b + 100000
  | .scope b => firstReg b
  | _ => 0
def seqQ (k : Env → World → Prop) (Q : Ex → Env → World → Prop) : Ex → Env → World → Prop
  | .nrm => k
  | .ext i => Q (.ext i)
  | .ret => Q .ret
  | .jmp l => Q (.jmp l)
def blockQ (id : Nat) (Q : Ex → Env → World → Prop) : Ex → Env → World → Prop
  | .nrm => Q .nrm
  | .ext i => bif Nat.beq i id then Q .nrm else Q (.ext i)
  | .ret => Q .ret
  | .jmp l => Q (.jmp l)
def noJmp (Q : Ex → Env → World → Prop) : Ex → Env → World → Prop
  | .nrm => Q .nrm
  | .ext i => Q (.ext i)
  | .ret => Q .ret
  | .jmp _ => fun _ _ => False
def scopeQ (rec : Code → (Ex → Env → World → Prop) → Env → World → Prop) (b : Code) (Q : Ex → Env → World → Prop) : Ex → Env → World → Prop
  | .nrm => Q .nrm
  | .ext i => Q (.ext i)
  | .ret => Q .ret
  | .jmp l =>
    match findLabel b l with
    | some rest => rec rest (noJmp Q)
    | none => fun _ _ => False
def note (ann : List (Nat × List Nat)) (i : Nat) : List Nat :=
  match ann with
  | [] => []
  | (j, l) :: r => bif Nat.beq i j then l else note r i
def splitA : List Nat → List (List Nat)
  | [] => [[]]
  | x :: r => bif Nat.beq x 9999 then [] :: splitA r else
    match splitA r with
    | [] => [[x]]
    | t :: T => (x :: t) :: T
def CONJ : List (List Nat) → (List Nat → Prop) → Prop
  | [], _ => True
  | [t], f => f t
  | t :: T, f => f t ∧ CONJ T f
theorem CONJ_iff {f : List Nat → Prop} : ∀ {T : List (List Nat)}, CONJ T f ↔ ∀ t ∈ T, f t
  | [] => by simp [CONJ]
  | [t] => by simp [CONJ]
  | t :: u :: T => by simp only [CONJ, CONJ_iff (T := u :: T), List.forall_mem_cons]
def denK (P : Program) (ann : List (Nat × List Nat)) (rec : Code → (Ex → Env → World → Prop) → Env → World → Prop) : Code → (Ex → Env → World → Prop) → Env → World → Prop
  | .skip, Q, ρ, w => Q .nrm ρ w
  | .region id ops true, Q, ρ, w =>
    match note ann (id + 4000000) with
    | [] =>
      match note ann (id + 6000000) with
      | [] =>
        match note ann (id + 2000000) with
        | [] => denL P ops (note ann id) (Q .nrm) ρ w.drew
        | i :: fl => ∃ S : Nat → World → Prop, DEM S (i :: fl) w.drew (denLS P ops S (i :: fl) (fun j => note ann (id * 1000 + j + 3000000)) (note ann id) (Q .nrm) ρ w.drew)
      | c :: C => ∃ S : Nat → World → Prop, DEM S (note ann (id + 2000000)) w.drew (denLS P ops S (note ann (id + 2000000)) (fun j => note ann (id * 1000 + j + 3000000)) (note ann id)
        (fun ρ w => denF P ops (bef ops.toList) S (note ann (id + 2000000)) (fun j => note ann (id * 1000 + j + 3000000)) (c :: C).length (c :: C)
          (fun ρ w => denLS P ops S (note ann (id + 2000000)) (fun j => note ann (id * 1000 + j + 3000000)) (note ann (id + 7000000)) (Q .nrm) ρ w) ρ w) ρ w.drew)
    | _ :: _ => ∃ S : Nat → World → Prop, DEM S (note ann (id + 2000000)) w.drew (denLS P ops S (note ann (id + 2000000)) (fun j => note ann (id * 1000 + j + 3000000)) (note ann id)
        (fun ρ w => CONJ (splitA (note ann (id + 5000000))) fun t => denLS P ops S (note ann (id + 2000000)) (fun j => note ann (id * 1000 + j + 3000000)) t (Q .nrm) ρ w) ρ w.drew)
  | .region _ ops false, Q, ρ, w => denL P ops (List.range ops.size) (Q .nrm) ρ w
  | .seq a b, Q, ρ, w => denK P ann rec a (seqQ (denK P ann rec b Q) Q) ρ w
  | .cond c a b, Q, ρ, w => COND (ev ρ c) (denK P ann rec a Q ρ w) (denK P ann rec b Q ρ w)
  | .block id b, Q, ρ, w => denK P ann rec b (blockQ id Q) ρ w
  | .loop b, Q, ρ, w =>
    let L := note ann (firstReg b + 1000000)
    let W := writes b
    ∃ (J : VF L.length) (m : VM L.length), VF.ap L.length J (L.map ρ) w ∧ ∀ d : Env, AllN L.length fun xs => ∀ w1 : World, VF.ap L.length J xs w1 →
      denK P ann rec b (seqQ (fun ρ' w' => VF.ap L.length J (L.map ρ') w' ∧ VM.ap L.length m (L.map ρ') w' < VM.ap L.length m xs w1) Q) (fill L xs W d ρ) w1
  | .exit id, Q, ρ, w => Q (.ext id) ρ w
  | .scope b, Q, ρ, w => denK P ann rec b (scopeQ rec b Q) ρ w
  | .label _, Q, ρ, w => Q .nrm ρ w
  | .ret, Q, ρ, w => Q .ret ρ w
  | .goto l, Q, ρ, w => Q (.jmp l) ρ w
  | _, _, _, _ => False
def den0 (P : Program) (ann : List (Nat × List Nat)) : Code → (Ex → Env → World → Prop) → Env → World → Prop := denK P ann fun _ _ _ _ => False
def den (P : Program) (ann : List (Nat × List Nat)) : Code → (Ex → Env → World → Prop) → Env → World → Prop := denK P ann (den0 P ann)
def chk (P : Program) (ann : List (Nat × List Nat)) (n : Nat) : Code → Bool
  | .region id ops d => dstsOk n ops && (!d || (P.follows .mixedOrders && match note ann (id + 4000000) with
    | [] => (match note ann (id + 6000000) with
      | [] => schedOk P ops (note ann (id + 2000000)) (fun j => note ann (id * 1000 + j + 3000000)) (note ann id)
      | c :: C => freeOk P ops (note ann (id + 2000000)) (fun j => note ann (id * 1000 + j + 3000000)) (c :: C) (note ann id) (note ann (id + 7000000)))
    | c :: C => altOk P ops (note ann (id + 2000000)) (fun j => note ann (id * 1000 + j + 3000000)) (c :: C) (note ann id) (splitA (note ann (id + 5000000)))))
  | .seq a b => chk P ann n a && chk P ann n b
  | .cond _ a b => chk P ann n a && chk P ann n b
  | .block _ b => chk P ann n b
  | .loop b => chk P ann n b
  | .scope b => chk P ann n b
  | _ => true
def lift (n : Nat) (W : List Nat) (ρ0 : Env) (Q : Ex → Env → World → Prop) : Exit → Act → World → Prop
  | .normal, a, w => Kept n W ρ0 a ∧ Q .nrm (envOf a) w
  | .exit id, a, w => Kept n W ρ0 a ∧ Q (.ext id) (envOf a) w
  | .ret, a, w => Kept n W ρ0 a ∧ Q .ret (envOf a) w
  | .goto l, a, w => Kept n W ρ0 a ∧ Q (.jmp l) (envOf a) w
  | _, _, _ => False
section
variable {P : Program}
theorem Kept.trans {n : Nat} {W V : List Nat} {ρ0 : Env} {a b : Act} (h : Kept n W ρ0 a) (h' : Kept n V (envOf a) b) : Kept n (W ++ V) ρ0 b :=
  ⟨h'.size, h'.defers, fun i hi => by
    simp only [List.mem_append, not_or] at hi
    rw [h'.same i hi.2, h.same i hi.1]⟩
theorem Kept.wider {n : Nat} {W V : List Nat} {ρ0 : Env} {a : Act} (h : Kept n W ρ0 a) (hs : ∀ i, i ∈ W → i ∈ V) : Kept n V ρ0 a :=
  ⟨h.size, h.defers, fun i hi => h.same i fun hw => hi (hs i hw)⟩
theorem Kept.refl {n : Nat} {W : List Nat} {a : Act} (h1 : a.tmps.size = n) (h2 : a.defers = []) : Kept n W (envOf a) a := ⟨h1, h2, fun _ _ => rfl⟩
theorem fill_self (a : Env) : ∀ (L : List Nat) (W : List Nat) (ρ : Env), (∀ i, i ∉ W → a i = ρ i) → fill L (L.map a) W a ρ = a
  | [], W, ρ, h => by
    funext i
    simp only [fill]
    cases hc : W.contains i with
    | true => rfl
    | false => exact (h i (by simpa using hc)).symm
  | l :: L, W, ρ, h => by
    funext i
    simp only [List.map_cons, fill]
    cases hb : Nat.beq i l with
    | true => rw [Nat.eq_of_beq_eq_true hb]; rfl
    | false => exact congrFun (fill_self a L W ρ h) i
theorem chk_find {ann : List (Nat × List Nat)} {n l : Nat} : ∀ {c r : Code}, findLabel c l = some r → chk P ann n c = true → chk P ann n r = true ∧ ∀ i, i ∈ writes r → i ∈ writes c := by
  intro c
  induction c with
  | seq a b iha ihb =>
    intro r h hc
    simp only [chk, Bool.and_eq_true] at hc
    simp only [findLabel] at h
    cases ha : findLabel a l with
    | some x =>
      rw [ha] at h
      simp only [Option.some.injEq] at h
      subst h
      obtain ⟨q1, q2⟩ := iha ha hc.1
      refine ⟨by simp only [chk, q1, hc.2, Bool.and_self], fun i hi => ?_⟩
      simp only [writes, List.mem_append] at hi ⊢
      exact hi.imp (q2 i) id
    | none =>
      rw [ha] at h
      obtain ⟨q1, q2⟩ := ihb h hc.2
      exact ⟨q1, fun i hi => List.mem_append_right _ (q2 i hi)⟩
  | label m =>
    intro r h _
    simp only [findLabel] at h
    split at h
    · simp only [Option.some.injEq] at h; subst h; exact ⟨rfl, fun i hi => hi⟩
    · cases h
  | _ => intro r h; simp [findLabel] at h
theorem wp_scope_jump {c : Code} {Q : Exit → Act → World → Prop} {a : Act} {w : World} (h : c.wp P (fun e a w => match e with
    | .goto l => ∃ rest, findLabel c l = some rest ∧ rest.wp P (Exit.noGoto Q) a w
    | e => Q e a w) a w) : (Code.scope c).wp P Q a w := by
  intro b k cs
  obtain ⟨e, a₁, w₁, hq, harr⟩ := h b (.inScope c :: k) cs
  cases e with
  | normal => exact ⟨.normal, a₁, w₁, hq, .head step_scope (Steps.trans harr (.one step_inScope))⟩
  | exit id => exact ⟨.exit id, a₁, w₁, hq, fun k' hk => .head step_scope (harr k' (by simp [exitTo, hk]))⟩
  | goto l =>
    obtain ⟨rest, hf, hr⟩ := hq
    have st := harr (.code rest :: .inScope c :: k) (by simp [gotoIn, hf])
    obtain ⟨e2, a₂, w₂, hq2, harr2⟩ := hr b (.inScope c :: k) cs
    have st0 := Steps.trans (.one step_scope) st
    cases e2 with
    | normal => exact ⟨.normal, a₂, w₂, hq2, Steps.trans st0 (Steps.trans harr2 (.one step_inScope))⟩
    | exit id => exact ⟨.exit id, a₂, w₂, hq2, fun k' hk => Steps.trans st0 (harr2 k' (by simp [exitTo, hk]))⟩
    | goto l => exact hq2.elim
    | ret => exact ⟨_, a₂, w₂, hq2, .of_steps st0 harr2⟩
    | panic ch => exact ⟨_, a₂, w₂, hq2, .of_steps st0 harr2⟩
    | outgrown => exact ⟨_, a₂, w₂, hq2, .of_steps st0 harr2⟩
  | ret => exact ⟨_, a₁, w₁, hq, .of_steps (.one step_scope) harr⟩
  | panic ch => exact ⟨_, a₁, w₁, hq, .of_steps (.one step_scope) harr⟩
  | outgrown => exact ⟨_, a₁, w₁, hq, .of_steps (.one step_scope) harr⟩
theorem denK_sound {ann : List (Nat × List Nat)} {n : Nat} {rec : Code → (Ex → Env → World → Prop) → Env → World → Prop}
    (hrec : ∀ (c : Code), chk P ann n c = true → ∀ (Q : Ex → Env → World → Prop) (a : Act) (w : World), a.tmps.size = n → a.defers = [] → rec c Q (envOf a) w → c.wp P (lift n (writes c) (envOf a) Q) a w) : ∀ (c : Code), chk P ann n c = true → ∀ (Q : Ex → Env → World → Prop) (a : Act) (w : World), a.tmps.size = n → a.defers = [] →
    denK P ann rec c Q (envOf a) w → c.wp P (lift n (writes c) (envOf a) Q) a w := by
  intro c
  induction c with
  | skip => intro _ Q a w h1 h2 h; exact wp_skip ⟨Kept.refl h1 h2, h⟩
  | region id ops d =>
    intro hc Q a w h1 h2 h
    simp only [chk, Bool.and_eq_true, Bool.or_eq_true, Bool.not_eq_true'] at hc
    have hmono : ∀ e a' w', after n (writesOps ops) (envOf a) (Q .nrm) e a' w' → lift n (writesOps ops) (envOf a) Q e a' w' := fun e a' w' h => by
      cases e <;> first | exact h | exact h.elim
    cases d with
    | false => exact Code.wp_mono hmono (wp_region (wpOps_of_denL hc.1 _ _ _ (Kept.refl h1 h2) h))
    | true =>
      have hc2 := hc.2.resolve_left (by simp)
      simp only [denK] at h
      cases hal : note ann (id + 4000000) with
      | nil =>
        rw [hal] at hc2
        simp only [hal] at h
        cases hfr : note ann (id + 6000000) with
        | nil =>
          rw [hfr] at hc2
          simp only [hfr] at h
          split at h
          · rename_i hfl
            rw [hfl] at hc2
            exact Code.wp_mono hmono (wp_region_any hc2.1 (wpAny_region (S := fun _ _ => True) (fl := []) (dem := fun _ => []) hc.1 (sched_nil hc2.2) (Kept.refl h1 h2) (fun _ _ => trivial) (denLS_of_denL _ h)))
          · rename_i i fl hfl
            rw [hfl] at hc2
            obtain ⟨S, h⟩ := h
            obtain ⟨hS, h⟩ := DEM_iff.1 h
            exact Code.wp_mono hmono (wp_region_any hc2.1 (wpAny_region hc.1 hc2.2 (Kept.refl h1 h2) hS h))
        | cons c C =>
          rw [hfr] at hc2
          simp only [hfr] at h
          obtain ⟨S, h⟩ := h
          obtain ⟨hS, h⟩ := DEM_iff.1 h
          exact Code.wp_mono hmono (wp_region_any hc2.1 (wpAny_free hc.1 hc2.2 (Kept.refl h1 h2) hS h))
      | cons c C =>
        rw [hal] at hc2
        simp only [hal] at h
        obtain ⟨S, h⟩ := h
        obtain ⟨hS, h⟩ := DEM_iff.1 h
        exact Code.wp_mono hmono (wp_region_any hc2.1 (wpAny_alts hc.1 hc2.2 (Kept.refl h1 h2) hS (denLS_mono _ (fun _ _ hh => CONJ_iff.1 hh) h)))
  | seq x y ihx ihy =>
    intro hc Q a w h1 h2 h
    simp only [chk, Bool.and_eq_true] at hc
    refine wp_seq (Code.wp_mono ?_ (ihx hc.1 _ a w h1 h2 h))
    intro e a' w' he
    cases e with
    | normal =>
      obtain ⟨hk, hd⟩ := he
      refine Code.wp_mono ?_ (ihy hc.2 Q a' w' hk.size hk.defers hd)
      intro e b w2 hb
      cases e with
      | normal => exact ⟨hk.trans hb.1, hb.2⟩
      | exit id => exact ⟨hk.trans hb.1, hb.2⟩
      | goto l => exact ⟨hk.trans hb.1, hb.2⟩
      | ret => exact ⟨hk.trans hb.1, hb.2⟩
      | _ => exact hb
    | exit id => exact ⟨he.1.wider fun i hi => List.mem_append_left _ hi, he.2⟩
    | goto l => exact ⟨he.1.wider fun i hi => List.mem_append_left _ hi, he.2⟩
    | ret => exact ⟨he.1.wider fun i hi => List.mem_append_left _ hi, he.2⟩
    | _ => exact he
  | cond t x y ihx ihy =>
    intro hc Q a w h1 h2 h
    simp only [chk, Bool.and_eq_true] at hc
    simp only [denK] at h
    have hev : a.eval t = ev (envOf a) t := by rw [eval_envOf]
    generalize hv : ev (envOf a) t = v at h hev
    have hl : ∀ e b w2, lift n (writes x) (envOf a) Q e b w2 → lift n (writes (.cond t x y)) (envOf a) Q e b w2 := fun e b w2 hb => by
      cases e with
      | normal => exact ⟨hb.1.wider fun i hi => List.mem_append_left _ hi, hb.2⟩
      | exit id => exact ⟨hb.1.wider fun i hi => List.mem_append_left _ hi, hb.2⟩
      | goto l => exact ⟨hb.1.wider fun i hi => List.mem_append_left _ hi, hb.2⟩
      | ret => exact ⟨hb.1.wider fun i hi => List.mem_append_left _ hi, hb.2⟩
      | _ => exact hb
    have hr : ∀ e b w2, lift n (writes y) (envOf a) Q e b w2 → lift n (writes (.cond t x y)) (envOf a) Q e b w2 := fun e b w2 hb => by
      cases e with
      | normal => exact ⟨hb.1.wider fun i hi => List.mem_append_right _ hi, hb.2⟩
      | exit id => exact ⟨hb.1.wider fun i hi => List.mem_append_right _ hi, hb.2⟩
      | goto l => exact ⟨hb.1.wider fun i hi => List.mem_append_right _ hi, hb.2⟩
      | ret => exact ⟨hb.1.wider fun i hi => List.mem_append_right _ hi, hb.2⟩
      | _ => exact hb
    cases h with
    | yes hv h => subst hv; exact wp_cond_true hev (Code.wp_mono hl (ihx hc.1 Q a w h1 h2 h))
    | no hv h => subst hv; exact wp_cond_false hev (Code.wp_mono hr (ihy hc.2 Q a w h1 h2 h))
  | block id b ih =>
    intro hc Q a w h1 h2 h
    refine wp_block (Code.wp_mono ?_ (ih hc _ a w h1 h2 h))
    intro e a' w' he
    cases e with
    | normal => exact he
    | exit j =>
      obtain ⟨hk, hq⟩ := he
      simp only [Exit.inBlock]
      simp only [blockQ] at hq
      by_cases hj : j = id
      · subst hj
        simp at hq
        rw [if_pos rfl]
        exact ⟨hk, hq⟩
      · rw [beq_no hj] at hq
        rw [if_neg hj]
        exact ⟨hk, hq⟩
    | _ => exact he
  | loop b ih =>
    intro hc Q a w h1 h2 h
    simp only [denK] at h
    obtain ⟨J, m, h0, hr⟩ := h
    generalize hL : note ann (firstReg b + 1000000) = L at J m h0 hr
    refine wp_loop (fun a' w' => Kept n (writes b) (envOf a) a' ∧ VF.ap L.length J (L.map (envOf a')) w') (fun a' w' => VM.ap L.length m (L.map (envOf a')) w') ⟨Kept.refl h1 h2, h0⟩ ?_
    rintro a' w' ⟨hk, hJ⟩
    have hall := hr (envOf a')
    rw [show AllN L.length = AllN (L.map (envOf a')).length by rw [List.length_map]] at hall
    have hx := AllN_spec (L.map (envOf a')) _ hall w' hJ
    rw [fill_self (envOf a') L (writes b) (envOf a) hk.same] at hx
    refine Code.wp_mono ?_ (ih hc _ a' w' hk.size hk.defers hx)
    intro e a2 w2 he
    have hw : ∀ i, i ∈ writes b ++ writes b → i ∈ writes b := fun i hi => (List.mem_append.1 hi).elim id id
    cases e with
    | normal => exact ⟨⟨(hk.trans he.1).wider hw, he.2.1⟩, he.2.2⟩
    | exit id => exact ⟨(hk.trans he.1).wider hw, he.2⟩
    | goto l => exact ⟨(hk.trans he.1).wider hw, he.2⟩
    | ret => exact ⟨(hk.trans he.1).wider hw, he.2⟩
    | _ => exact he
  | exit id => intro _ Q a w h1 h2 h; exact wp_exit ⟨Kept.refl h1 h2, h⟩
  | ret => intro _ Q a w h1 h2 h; exact wp_ret ⟨Kept.refl h1 h2, h⟩
  | rangeFunc f p x y _ _ => intro _ Q a w _ _ h; exact h.elim
  | scope b ih =>
    intro hc Q a w h1 h2 h
    refine wp_scope_jump (Code.wp_mono ?_ (ih hc _ a w h1 h2 h))
    intro e a' w' he
    cases e with
    | goto l =>
      obtain ⟨hk, hq⟩ := he
      simp only [scopeQ] at hq
      cases hf : findLabel b l with
      | none => rw [hf] at hq; exact hq.elim
      | some rest =>
        rw [hf] at hq
        obtain ⟨q1, q2⟩ := chk_find hf hc
        refine ⟨rest, hf, Code.wp_mono ?_ (hrec rest q1 _ a' w' hk.size hk.defers hq)⟩
        have hw : ∀ i, i ∈ writes b ++ writes rest → i ∈ writes b := fun i hi => (List.mem_append.1 hi).elim id (q2 i)
        intro e b2 w2 hb
        cases e with
        | normal => exact ⟨(hk.trans hb.1).wider hw, hb.2⟩
        | exit id => exact ⟨(hk.trans hb.1).wider hw, hb.2⟩
        | ret => exact ⟨(hk.trans hb.1).wider hw, hb.2⟩
        | goto l => exact hb.2.elim
        | _ => exact hb
    | _ => exact he
  | label l => intro _ Q a w h1 h2 h; exact wp_label ⟨Kept.refl h1 h2, h⟩
  | goto l => intro _ Q a w h1 h2 h; exact wp_goto ⟨Kept.refl h1 h2, h⟩
  | refuse s => intro _ Q a w _ _ h; exact h.elim
theorem den_sound {ann : List (Nat × List Nat)} {n : Nat} (c : Code) (hc : chk P ann n c = true) (Q : Ex → Env → World → Prop) (a : Act) (w : World) (h1 : a.tmps.size = n) (h2 : a.defers = []) (h : den P ann c Q (envOf a) w) : c.wp P (lift n (writes c) (envOf a) Q) a w :=
  denK_sound (rec := den0 P ann) (fun c hc Q a w h1 h2 h => denK_sound (rec := fun _ _ _ _ => False) (fun _ _ _ _ _ _ _ h => h.elim) c hc Q a w h1 h2 h) c hc Q a w h1 h2 h
def tup : List Value → Value
  | [v] => v
  | vs => .tuple vs.toArray
def RESK (P : Program) : List ResultVar → List Value → (Value → World → Prop) → Env → World → Prop
  | [], acc, R, _, w => R (tup acc.reverse) w
  | .tmp t :: rs, acc, R, ρ, w => RESK P rs (ρ t :: acc) R ρ w
  | .cell a t :: rs, acc, R, ρ, w =>
    match aggT P t, sizeT P t with
    | some true, some n => BND (loadn n w (ρ a)) fun v => RESK P rs (v :: acc) R ρ w
    | some false, _ => BND (load1 w (ρ a)) fun v => RESK P rs (v :: acc) R ρ w
    | _, _ => False
def retQ (P : Program) (rs : List ResultVar) (R : Value → World → Prop) : Ex → Env → World → Prop
  | .nrm => RESK P rs [] R
  | .ret => RESK P rs [] R
  | .ext _ => fun _ _ => False
  | .jmp _ => fun _ _ => False
def env0 (args : List Value) : Env := fun i => args.getD i undef
def resOne (a : Act) : ResultVar → Sem Value
  | .tmp t => pure (a.tmps.getD t undef)
  | .cell x t => do loadVar t (← asAddr (a.tmps.getD x undef))
theorem RESK_spec {R : Value → World → Prop} {a : Act} {w : World} : ∀ (rs : List ResultVar) (acc : List Value), RESK P rs acc R (envOf a) w →
    ∃ vs : List Value, (rs.mapM (resOne a)).run P w = .ok vs w ∧ R (tup (acc.reverse ++ vs)) w
  | [], acc, h => ⟨[], by simp, by simpa [RESK] using h⟩
  | .tmp t :: rs, acc, h => by
    obtain ⟨vs, h1, h2⟩ := RESK_spec rs _ (show RESK P rs (envOf a t :: acc) R (envOf a) w from h)
    refine ⟨envOf a t :: vs, ?_, by simpa using h2⟩
    rw [List.mapM_cons, Sem.run_bind, show (resOne a (.tmp t)).run P w = .ok (envOf a t) w from rfl]
    simp only [Result.andThen_ok, Sem.run_bind, h1, Sem.run_pure]
  | .cell x t :: rs, acc, h => by
    have fin : ∀ v, (Instr.loadAt t (envOf a x)).run P w = .ok v w → RESK P rs (v :: acc) R (envOf a) w → ∃ vs : List Value, ((ResultVar.cell x t :: rs).mapM (resOne a)).run P w = .ok vs w ∧ R (tup (acc.reverse ++ vs)) w := fun v hv hk => by
      obtain ⟨vs, h1, h2⟩ := RESK_spec rs _ hk
      refine ⟨v :: vs, ?_, by simpa using h2⟩
      have hload : (do loadVar t (← asAddr (a.tmps.getD x undef)) : Sem Value).run P w = .ok v w := by
        have he : envOf a x = a.tmps.getD x undef := rfl
        rw [he] at hv
        unfold Instr.loadAt Instr.sureAddr at hv
        unfold asAddr
        cases hp : a.tmps.getD x undef <;> rw [hp] at hv <;> simp at hv ⊢
        rename_i o
        cases o <;> simp at hv ⊢
        exact hv
      rw [List.mapM_cons, Sem.run_bind]
      rw [show (resOne a (.cell x t)).run P w = .ok v w from hload]
      simp only [Result.andThen_ok, Sem.run_bind, h1, Sem.run_pure]
    simp only [RESK] at h
    split at h
    · rename_i n hg hn
      obtain ⟨v, hv, hk⟩ := BND_iff.1 h
      exact fin v (run_loadAtn hg hn hv) hk
    · rename_i hg
      obtain ⟨v, hv, hk⟩ := BND_iff.1 h
      exact fin v (run_loadAt1 hg hv) hk
    · exact h.elim
theorem results_of_RESK {R : Value → World → Prop} {a : Act} {w : World} {fn : Func} (h : RESK P fn.results.toList [] R (envOf a) w) :
    ∃ v, (results fn a.tmps).run P w = .ok v w ∧ R v w := by
  obtain ⟨vs, h1, h2⟩ := RESK_spec _ _ h
  refine ⟨tup vs, ?_, by simpa using h2⟩
  unfold results
  have hfun : ∀ g : ResultVar → Sem Value, (∀ x, g x = resOne a x) → fn.results.mapM g = fn.results.mapM (resOne a) := fun g hg => by rw [funext hg]
  rw [hfun _ (fun x => by cases x <;> rfl), Sem.run_bind, ← Array.toArray_toList (xs := fn.results), List.mapM_toArray, Sem.run_map]
  rw [h1]
  simp only [Result.andThen_ok, Sem.run_pure]
  congr 1
  unfold tup
  match vs with
  | [] => rfl
  | [v] => rfl
  | u :: v :: vs => rfl
theorem call_of_den {f : Nat} {fn : Func} {c : Code} (ann : List (Nat × List Nat)) {args : List Value} {w : World} {R : Value → World → Prop} (hf : P.funcs[f]? = some fn) (hb : fn.body = some c)
    (hc : chk P ann fn.ntmps c = true) (hn : args.length ≤ fn.ntmps) (h : den P ann c (retQ P fn.results.toList R) (env0 args) w) : CALL P f args w R := by
  refine ⟨calls_of_wp hf hb ?_⟩
  have henv : envOf { tmps := args.toArray ++ Array.replicate (fn.ntmps - args.toArray.size) undef, defers := [] } = env0 args := by
    funext i
    simp only [envOf, env0, Array.getD_eq_getD_getElem?, List.getD_eq_getElem?_getD]
    rw [Array.getElem?_append]
    split
    · rename_i hi; simp
    · rename_i hi
      have : args.length ≤ i := by simpa using hi
      rw [List.getElem?_eq_none this]
      simp only [Array.getElem?_replicate]
      split <;> rfl
  refine Code.wp_mono ?_ (den_sound (n := fn.ntmps) c hc _ _ w (by simp; omega) rfl (by rw [henv]; exact h))
  intro e a' w' he
  cases e with
  | normal =>
    obtain ⟨hk, hr⟩ := he
    obtain ⟨v, h1, h2⟩ := results_of_RESK (fn := fn) hr
    exact ⟨hk.defers, v, h1, v, rfl, h2⟩
  | ret =>
    obtain ⟨hk, hr⟩ := he
    obtain ⟨v, h1, h2⟩ := results_of_RESK (fn := fn) hr
    exact ⟨hk.defers, v, h1, v, rfl, h2⟩
  | exit id => exact he.2.elim
  | goto l => exact he.2.elim
  | _ => exact he.elim
def bodyOf (fn : Func) : Code := fn.body.getD .skip
theorem call_of_den2 {f : Nat} {fn : Func} (ann : List (Nat × List Nat)) {args : List Value} {w : World} {R : Value → World → Prop} (hf : P.funcs[f]? = some fn) (hb : fn.body.isSome = true)
    (hc : chk P ann fn.ntmps (bodyOf fn) = true) (hn : Nat.ble args.length fn.ntmps = true) (h : den P ann (bodyOf fn) (retQ P fn.results.toList R) (env0 args) w) : CALL P f args w R := by
  have hb2 : fn.body = some (bodyOf fn) := by
    unfold bodyOf
    cases hh : fn.body with
    | none => simp [hh] at hb
    | some c => rfl
  exact call_of_den ann hf hb2 hc (Nat.le_of_ble_eq_true hn) h
end
end Go.Den
end
