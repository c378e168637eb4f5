/- Every operation that 'den' takes is the model's. No condition. -/
import Derived.Test.YthlmkjkjebcpfaaDenOps
namespace Go.Den
section
variable {P : Program}

/-! ## All operations -/
theorem ok_pureI {s : Sem Value} {o : Option Value} (h : ∀ v, o = some v → ∀ w, s.run P w = .ok v w) : (OpSem.pure o).ok P (do pure (.value (← s))) := ok_pure h

theorem run_min2v {x y v : Value} (hv : min2v x y = some v) (ts : Array TypeId) (t : TypeId) (w : World) : (Builtin.min_ ts t #[x, y]).run P w = .ok v w := by
  unfold min2v at hv
  split at hv
  · simp at hv; subst hv; simp [Builtin.min_, Builtin.min2]
  · simp at hv
theorem run_max2v {x y v : Value} (hv : max2v x y = some v) (ts : Array TypeId) (t : TypeId) (w : World) : (Builtin.max_ ts t #[x, y]).run P w = .ok v w := by
  unfold max2v at hv
  split at hv
  · simp at hv; subst hv; simp [Builtin.max_, Builtin.max2]
  · simp at hv

theorem run_max4v {x y z u v : Value} (hv : ((max2v x y).bind fun a => (max2v a z).bind fun b => max2v b u) = some v) (ts : Array TypeId) (t : TypeId) (w : World) : (Builtin.max_ ts t #[x, y, z, u]).run P w = .ok v w := by
  have one : ∀ {x y v : Value}, max2v x y = some v → (Builtin.max2 x y).run P w = .ok v w := by
    intro x y v hv
    unfold max2v at hv
    split at hv
    · simp at hv; subst hv; simp [Builtin.max2]
    · simp at hv
  cases h1 : max2v x y with
  | none => simp [h1] at hv
  | some a =>
    cases h2 : max2v a z with
    | none => simp [h1, h2] at hv
    | some b =>
      simp [h1, h2] at hv
      simp [Builtin.max_, List.foldlM, one h1, one h2, one hv]

theorem okCallee_spec {g : Nat} (h : okCallee P g = true) (args : Array Value) (w : World) : (callFunc g args).run P w = .ok (.enter g args) w := by
  unfold okCallee at h
  cases hg : P.funcs[g]? with
  | none => simp [hg] at h
  | some fn =>
    simp [hg] at h
    have h1 : ¬ (fn.name = "runtime.NumGoroutine") := h.2
    simp [callFunc, hg, h1]
    intro hb; simp [hb] at h

theorem upon_enter {k : Value → World → Prop} {f : Nat} {args : List Value} {w : World} (h : CALL P f args w k) : Upon P k (.ok (.enter f args.toArray) w) := h.calls

theorem CALL_mono {f : Nat} {args : List Value} {w : World} {k k' : Value → World → Prop} (hk : ∀ v w, k v w → k' v w) (h : CALL P f args w k) : CALL P f args w k' :=
  ⟨Calls.mono h.calls fun _ _ ⟨v, he, hv⟩ => ⟨v, he, hk _ _ hv⟩⟩
theorem CALLV_mono {fv : Value} {args : List Value} {w : World} {k k' : Value → World → Prop} (hk : ∀ v w, k v w → k' v w) (h : CALLV P fv args w k) : CALLV P fv args w k' := by
  obtain ⟨f, a, b, h1, h2, h3⟩ := h
  exact ⟨f, a, b, h1, h2, CALL_mono hk h3⟩

theorem call_ok (f : Operand → Value) (hf : ∀ g, f (.func g) = .func (.func g) #[] #[]) (c : Call) (ty : TypeId) :
    (semCall P f c).ok P (do let d ← resolve f c ty; invoke d.target d.args) := by
  obtain ⟨callee, args, tys⟩ := c
  have hargs : args.map f = (args.toList.map f).toArray := by
    rw [← Array.toArray_toList (xs := args), List.map_toArray]
  unfold semCall
  split
  · rename_i b hc
    simp only at hc; subst hc
    simp only [resolve, pure_bind, invoke]
    generalize hl : args.toList = l
    generalize ht : tys.toList = tl
    have ha : args = l.toArray := by rw [← hl]
    have hty : tys = tl.toArray := by rw [← ht]
    subst ha; subst hty
    unfold semBuiltin
    split
    · rename_i x t
      simp only [builtin, List.map_toArray, List.map_cons, List.map_nil]
      split
      · rename_i hu
        exact ok_pure fun v hv w => run_lens hu hv w
      · rename_i hu
        exact ok_pure fun v hv w => run_lenl hu hv w
      · rename_i hu
        exact ok_read fun w v hv => run_mlenv hu hv
      · exact ok_bad _
    · rename_i x t
      simp only [builtin, List.map_toArray, List.map_cons, List.map_nil]
      split
      · rename_i hu
        exact ok_pure fun v hv w => run_capl hu hv w
      · exact ok_bad _
    · rename_i s x t u
      simp only [builtin, List.map_toArray, List.map_cons, List.map_nil]
      cases hu : P.underlying t with
      | none => exact ok_bad _
      | some d =>
        cases d with
        | slice e =>
          simp only
          cases hi : P.info? e with
          | none => exact ok_bad _
          | some i =>
            simp only
            cases hz : i.zero with
            | none => exact ok_bad _
            | some z =>
              simp only
              split
              · rename_i hv
                refine ⟨fun w k hk => ?_, fun w k k' hkk hk => APPEND_mono hkk hk⟩
                obtain ⟨v, w', hr, hk⟩ := run_append (ty := ty) hu (.inl ⟨_, hv⟩) hi hz hk
                simp only [Sem.run_bind, hr, Result.andThen_ok, Sem.run_pure, Upon]
                exact hk
              · rename_i hv
                refine ⟨fun w k hk => ?_, fun w k k' hkk hk => APPEND_mono hkk hk⟩
                obtain ⟨v, w', hr, hk⟩ := run_append (ty := ty) hu (.inr hv) hi hz hk
                simp only [Sem.run_bind, hr, Result.andThen_ok, Sem.run_pure, Upon]
                exact hk
              · exact ok_bad _
        | _ => exact ok_bad _
    · rename_i m x t u
      simp only [builtin, List.map_toArray, List.map_cons, List.map_nil]
      split
      · rename_i kt e hu
        split
        · rename_i kd hkd
          refine ⟨fun w k hk => ?_, fun w k k' hkk hk => BND_mono (fun w' h => hkk _ _ h) hk⟩
          obtain ⟨w', hw, hk⟩ := BND_iff.1 hk
          simp only [Sem.run_bind, run_mdel (u := u) (ty := ty) hu hkd hw, Result.andThen_ok, Sem.run_pure, Upon]
          exact hk
        · exact ok_bad _
      · exact ok_bad _
    · rename_i x t
      simp only [builtin, List.map_toArray, List.map_cons, List.map_nil]
      split
      · rename_i e hu
        split
        · rename_i z hz
          refine ⟨fun w k hk => ?_, fun w k k' hkk hk => BND_mono (fun w' h => hkk _ _ h) hk⟩
          obtain ⟨w', hw, hk⟩ := BND_iff.1 hk
          simp only [Sem.run_bind, run_clearv (ty := ty) hu hz hw, Result.andThen_ok, Sem.run_pure, Upon]
          exact hk
        · exact ok_bad _
      · exact ok_bad _
    · simp only [builtin, List.map_toArray, List.map_cons, List.map_nil]
      exact ok_pure fun v hv w => run_min2v hv _ _ w
    · simp only [builtin, List.map_toArray, List.map_cons, List.map_nil]
      exact ok_pure fun v hv w => run_max2v hv _ _ w
    · simp only [builtin, List.map_toArray, List.map_cons, List.map_nil]
      exact ok_pure fun v hv w => run_max4v hv _ _ w
    · exact ok_bad _
  · rename_i g hc
    simp only at hc; subst hc
    split
    · rename_i hg
      refine ⟨fun w k hk => ?_, fun w k k' hkk hk => CALL_mono hkk hk⟩
      simp only [resolve, hf, Deferred.ofValue, pure_bind, invoke, Array.append_empty, Array.empty_append, okCallee_spec hg, hargs]
      exact upon_enter hk
    · exact ok_bad _
  · rename_i fv _ hc
    simp only at hc; subst hc
    refine ⟨fun w k hk => ?_, fun w k k' hkk hk => CALLV_mono hkk hk⟩
    obtain ⟨g, first, captured, hv, hok, hc⟩ := hk
    simp only [resolve, hv, Deferred.ofValue, pure_bind, invoke, okCallee_spec hok, hargs]
    have : first ++ (args.toList.map f).toArray ++ captured = (first.toList ++ args.toList.map f ++ captured.toList).toArray := by
      apply Array.ext'; simp
    rw [this]
    exact upon_enter hc
  · exact ok_bad _

theorem ok_some {s : Sem Value} {g : World → (Value → World → Prop) → Prop} (h : ∀ w k, g w k → ∃ v w', s.run P w = .ok v w' ∧ k v w') (hm : ∀ w k k', (∀ v w, k v w → k' v w) → g w k → g w k') :
    (OpSem.eff g).ok P (do pure (.value (← s))) := by
  refine ⟨fun w k hk => ?_, hm⟩
  obtain ⟨v, w', hr, hv⟩ := h w k hk
  simp only [Sem.run_bind, hr, Result.andThen_ok, Sem.run_pure, Upon]
  exact hv
theorem ok_bnew {s : Sem Value} {g : World → Option (Value × World)} (h : ∀ w p, g w = some p → s.run P w = .ok p.1 p.2) : (OpSem.eff fun w k => BND (g w) fun p => NEW p k).ok P (do pure (.value (← s))) :=
  ok_some (fun w k hk => by obtain ⟨p, hp, hk⟩ := BND_iff.1 hk; exact ⟨_, _, h w p hp, hk.h⟩) fun w k k' hk h => BND_mono (fun p hp => ⟨hk _ _ hp.h⟩) h
theorem op_ok (f : Operand → Value) (hf : ∀ g, f (.func g) = .func (.func g) #[] #[]) (o : Oper) : (opSem P f o.op).ok P (execOp f o) := by
  obtain ⟨dst, op, ty, pos, after, guard⟩ := o
  have hparts : ∀ parts : Array (Nat × Operand), (parts.map fun x => (x.1, f x.2)) = (parts.toList.map fun x => (x.1, f x.2)).toArray := fun parts => by
    rw [← Array.toArray_toList (xs := parts), List.map_toArray]
  have hmap : ∀ xs : Array Operand, xs.map f = (xs.toList.map f).toArray := fun xs => by
    rw [← Array.toArray_toList (xs := xs), List.map_toArray]
  cases op
  case move x =>
    dsimp only [execOp, opSem]
    exact ok_move _
  case assign x =>
    dsimp only [execOp, opSem]
    exact ok_move _
  case pick c a b =>
    dsimp only [execOp, opSem]
    exact ok_pick _ _ _
  case alloc T =>
    dsimp only [execOp, opSem]
    split
    · rename_i hz; exact ok_new fun w => run_alloc hz w
    · exact ok_bad _
  case box T x =>
    dsimp only [execOp, opSem]
    exact ok_new fun w => run_box _ _ w
  case build t parts =>
    dsimp only [execOp, opSem]
    split
    · rename_i z ps hz hall hp
      refine ok_pure fun v hv w => ?_
      have := run_build hz hall hp hv w
      rw [hparts]; exact this
    · exact ok_bad _
  case buildSlice t len parts =>
    dsimp only [execOp, opSem]
    split
    · rename_i e hu
      split
      · rename_i i hi
        split
        · rename_i z ps hz hp
          split
          · rename_i hlen
            refine ⟨fun w k hk => ?_, fun w k k' hkk hk => BND_mono (fun p h => ⟨hkk _ _ h.h⟩) hk⟩
            obtain ⟨p, hn, hk⟩ := BND_iff.1 hk
            have hs : sizeT P e = some i.size := by simp [sizeT, hi]
            have hzz : zeroOf P e = some z := by simp [zeroOf, hi, hz]
            have hr : (Instr.buildSlice t len (parts.map fun x => (x.1, f x.2))).run P w = .ok p.1 p.2 := by
              unfold newslice at hn
              split at hn
              · rename_i cells hfill
                simp at hn; subst hn
                have hlen' : ¬ (16777216 < len * i.size) := by simpa using hlen
                have hf' : Instr.fill (fun j => some (j * i.size, i.size)) ((Array.range (len * i.size)).map (z.cells[· % z.cells.size]!)) (parts.toList.map fun x => (x.1, f x.2)) = some cells := by
                  rw [← hfill]
                  exact fill_eq _ _ _ _ fun j => by rw [← partsOf_spec hp j]
                simp only [Instr.buildSlice, Sem.run_bind, run_underlying hu, run_sizeOf hs, Result.andThen_ok]
                rw [if_neg (by simpa using hlen)]
                by_cases h0 : len * i.size = 0
                · have h00 : ∀ g : Nat → Value, (Array.range (len * i.size)).map g = #[] := fun g => by rw [h0]; simp
                  rw [h00] at hf'
                  rw [if_pos h0]
                  simp only [Sem.run_bind, Sem.run_pure, Result.andThen_ok, h00, Array.toList_map, hf', newRow, run_newObj, World.alloc_eq]
                · rw [if_neg h0]
                  simp [run_zeroValue hzz, hf', newRow]
              · simp at hn
            simp only [Sem.run_bind, hr, Result.andThen_ok, Sem.run_pure, Upon]
            exact hk.h
          · exact ok_bad _
        · exact ok_bad _
      · exact ok_bad _
    · exact ok_bad _
  case load t a =>
    dsimp only [execOp, opSem]
    split
    · rename_i n h1 h2; exact ok_read fun w v hv => run_loadAtn h1 h2 hv
    · rename_i h1; exact ok_read fun w v hv => run_loadAt1 h1 hv
    · exact ok_bad _
  case store t a x =>
    dsimp only [execOp, opSem]
    split
    · rename_i n hn; exact ok_eff0 fun w w' h => run_storeAt hn h
    · exact ok_bad _
  case nilCheck x =>
    dsimp only [execOp, opSem]
    exact ok_nilchk _
  case binOp op t x y yt =>
    dsimp only [execOp, opSem]
    split
    · exact ok_pure fun v hv w => run_shiftv (.inl rfl) hv w
    · exact ok_pure fun v hv w => run_shiftv (.inr rfl) hv w
    · split
      · rename_i hk; exact ok_pure fun v hv w => run_eqaggv hk hv w
      · split
        · rename_i hpc; exact ok_read fun w v hv => run_ptrv hpc hv
        · exact ok_pure fun v hv w => run_binv hv w
  case unOp op t x =>
    dsimp only [execOp, opSem]
    exact ok_pure fun v hv w => run_unv hv w
  case convert src dst x =>
    dsimp only [execOp, opSem]
    split
    · rename_i h1 h2; exact ok_pure fun v hv w => run_convi h1 h2 hv w
    · rename_i e h1 h2
      split
      · rename_i h3
        exact ok_some (fun w k h => run_RUNES h1 h2 h3 h) fun w k k' hk h => ⟨by obtain ⟨s, hs, hn, hh⟩ := h.h; exact ⟨s, hs, hn, fun c w' h1 h2 h3 => hk _ _ (hh c w' h1 h2 h3)⟩⟩
      · rename_i h3
        exact ok_some (fun w k h => run_BYTES h1 h2 h3 h) fun w k k' hk h => ⟨by obtain ⟨s, hs, hh⟩ := h.h; exact ⟨s, hs, fun c w' h1 h2 h3 => hk _ _ (hh c w' h1 h2 h3)⟩⟩
      · exact ok_bad _
    · rename_i e h1 h2
      split
      · rename_i h3; exact ok_read fun w v hv => run_textRunes h1 h3 h2 hv
      · rename_i h3; exact ok_read fun w v hv => run_textBytes h1 h3 h2 hv
      · exact ok_bad _
    · exact ok_bad _
  case range t x =>
    dsimp only [execOp, opSem]
    split
    · rename_i hu; exact ok_bnew fun w p h => run_rangev hu h
    · rename_i hu; exact ok_bnew fun w p h => run_rangemv hu h
    · exact ok_bad _
  case next it b =>
    cases b with
    | true =>
      dsimp only [execOp, opSem]
      exact ok_bnew fun w p h => run_nexts h
    | false =>
      dsimp only [execOp, opSem]
      refine ok_some (fun w k h => run_NEXTM h) fun w k k' hk h => ⟨?_⟩
      have h := h.h
      unfold NEXTMS at *
      split at h
      · split at h
        · exact hk _ _ h
        · split at h
          · exact ⟨h.1, h.2.1, fun h0 => hk _ _ (h.2.2.1 h0), fun e he h0 w1 h1 h2 => hk _ _ (h.2.2.2 e he h0 w1 h1 h2)⟩
          · exact h
        · exact h
      · exact h
  case entry it =>
    dsimp only [execOp, opSem]
    exact ok_read fun w v hv => run_entryv hv
  case makeSlice t l c =>
    dsimp only [execOp, opSem]
    split
    · rename_i e hu
      split
      · rename_i i hi
        split
        · rename_i z hz; exact ok_bnew fun w p h => run_mkslice hu hi hz h
        · exact ok_bad _
      · exact ok_bad _
    · exact ok_bad _
  case makeInterface t x =>
    dsimp only [execOp, opSem]
    split
    · exact ok_bad _
    · rename_i d hne hu
      intro w
      cases d <;> simp_all [Instr.makeInterface, run_underlying hu]
    · exact ok_bad _
  case makeFunc fn first captured =>
    dsimp only [execOp, opSem]
    intro w
    simp only [Instr.makeFunc, hmap, Sem.run_bind, Sem.run_pure, Result.andThen_ok]
  case makeMap t r =>
    cases r with
    | some _ => exact ok_bad _
    | none =>
      dsimp only [execOp, opSem]
      refine ok_new fun w => ?_
      simp [Instr.makeMap, newmap]
  case slice t x lo hi mx =>
    cases mx with
    | some mx =>
      cases hi with
      | none => exact ok_bad _
      | some hi =>
        dsimp only [execOp, opSem]
        split
        · rename_i e hu
          split
          · rename_i n hn; exact ok_pure fun v hv w => run_slicev3 hu hn hv w
          · exact ok_bad _
        · rename_i len e hu
          split
          · rename_i n hn; exact ok_pure fun v hv w => run_slicea hu hn (by simp) hv w
          · exact ok_bad _
        · exact ok_bad _
    | none =>
      dsimp only [execOp, opSem]
      split
      · rename_i hu; exact ok_pure fun v hv w => run_slices hu hv w
      · rename_i e hu
        split
        · rename_i n hn; exact ok_pure fun v hv w => run_slicev hu hn hv w
        · exact ok_bad _
      · rename_i len e hu
        split
        · rename_i n hn; exact ok_pure fun v hv w => run_slicea hu hn (by simp) hv w
        · exact ok_bad _
      · exact ok_bad _
  case fieldAddr s x i =>
    dsimp only [execOp, opSem]
    split
    · rename_i fs hu
      split
      · rename_i fd hfd
        split
        · rename_i hn; exact ok_pure fun v hv w => run_faddr hu hfd hn hv w
        · exact ok_bad _
      · exact ok_bad _
    · exact ok_bad _
  case field s x i =>
    dsimp only [execOp, opSem]
    split
    · rename_i fs hu
      split
      · rename_i fd hfd
        split
        · rename_i n h1 h2; exact ok_pure fun v hv w => run_field hu hfd h1 (.inr ⟨rfl, n, h2, hv⟩) w
        · rename_i h1; exact ok_pure fun v hv w => run_field hu hfd h1 (.inl ⟨rfl, hv⟩) w
        · exact ok_bad _
      · exact ok_bad _
    · exact ok_bad _
  case indexAddr t x i =>
    dsimp only [execOp, opSem]
    split
    · rename_i e hu
      split
      · rename_i n hn; exact ok_pure fun v hv w => run_iaddr hu hn hv w
      · exact ok_bad _
    · rename_i len e hu
      split
      · rename_i n hn; exact ok_pure fun v hv w => run_iaddra hu hn hv w
      · exact ok_bad _
    · exact ok_bad _
  case index t x i =>
    dsimp only [execOp, opSem]
    split
    · rename_i hu; exact ok_pure fun v hv w => run_indexs hu hv w
    · rename_i hu
      split
      · rename_i h2 h3; exact ok_pure fun v hv w => run_indexav hu h2 h3 hv w
      · exact ok_bad _
    · exact ok_bad _
  case lookup t m x ok =>
    dsimp only [execOp, opSem]
    split
    · rename_i kt e hu
      split
      · rename_i kd z h1 h2; exact ok_read fun w v hv => run_lookv hu h1 h2 hv
      · exact ok_bad _
    · exact ok_bad _
  case mapUpdate t m x v =>
    dsimp only [execOp, opSem]
    split
    · rename_i kt e hu
      split
      · rename_i kd h1; exact ok_eff0 fun w w' h => run_mupd hu h1 h
      · exact ok_bad _
    · exact ok_bad _
  case mapEntry t m x =>
    dsimp only [execOp, opSem]
    split
    · rename_i kt e hu
      split
      · rename_i kd z h1 h2; exact ok_bnew fun w p h => run_mentry hu h1 h2 h
      · exact ok_bad _
    · exact ok_bad _
  case entryStore t m s v =>
    dsimp only [execOp, opSem]
    exact ok_eff0 fun w w' h => run_mestore h
  case extract t i =>
    dsimp only [execOp, opSem]
    exact ok_pure fun v hv w => run_extractv hv w
  case call c =>
    dsimp only [execOp, opSem]
    exact call_ok f hf _ _
  all_goals exact ok_bad _

end
end Go.Den
