/- A region whose order Go leaves open, read in several orders at once: each order that Go may take is one of them, but for what may be moved. No condition. -/
import Derived.Test.YthlmkjkjebcpfaaDenDraw
namespace Go.Den

/-- what stands ahead of c. -/
def ahead (c : Nat) : List Nat → List Nat
  | [] => []
  | p :: t => bif Nat.beq p c then [] else p :: ahead c t
theorem ahead_split {c : Nat} : ∀ {t : List Nat}, c ∈ t → ∃ post, t = ahead c t ++ c :: post ∧ t.erase c = ahead c t ++ post
  | p :: t, h => by
    by_cases hp : p = c
    · subst hp
      refine ⟨t, ?_, ?_⟩
      · simp [ahead]
      · simp [ahead]
    · obtain ⟨post, h1, h2⟩ := ahead_split (t := t) (by
        rcases List.mem_cons.1 h with h | h
        · exact absurd h.symm hp
        · exact h)
      refine ⟨post, ?_, ?_⟩
      · simp only [ahead, beq_no hp, cond_false, List.cons_append]
        rw [← h1]
      · rw [List.erase_cons_tail (by simpa using hp)]
        simp only [ahead, beq_no hp, cond_false, List.cons_append]
        rw [← h2]

/-- a word that, if it leaves each of some conditions, leaves all of them. -/
def conjOk (o : Oper) : Bool :=
  match o.op with
  | .call c => match c.callee with
    | .builtin _ => true
    | _ => false
  | _ => true
def cOk (ops : Array Oper) (i : Nat) : Bool :=
  match ops[i]? with
  | some o => conjOk o
  | none => true

def OpSem.conj : OpSem → Prop
  | .eff f => ∀ (w : World) (T : List (List Nat)) (k : List Nat → Value → World → Prop), T ≠ [] → (∀ t ∈ T, f w (k t)) → f w (fun v w' => ∀ t ∈ T, k t v w')
  | _ => True
theorem BND_conj {α β : Type} {o : Option α} {T : List β} {k : β → α → Prop} (hT : T ≠ []) (h : ∀ t ∈ T, BND o (k t)) : BND o fun v => ∀ t ∈ T, k t v := by
  cases T with
  | nil => exact absurd rfl hT
  | cons t0 T =>
    obtain ⟨v, hv, _⟩ := BND_iff.1 (h t0 (by simp))
    refine BND_iff.2 ⟨v, hv, fun t ht => ?_⟩
    obtain ⟨u, hu, hk⟩ := BND_iff.1 (h t ht)
    rw [hv] at hu; cases hu
    exact hk
theorem NEW_conj {β : Type} {p : Value × World} {T : List β} {k : β → Value → World → Prop} (h : ∀ t ∈ T, NEW p (k t)) : NEW p fun v w => ∀ t ∈ T, k t v w := ⟨fun t ht => (h t ht).h⟩
theorem BNEW_conj {β : Type} {o : Option (Value × World)} {T : List β} {k : β → Value → World → Prop} (hT : T ≠ []) (h : ∀ t ∈ T, BND o fun p => NEW p (k t)) : BND o fun p => NEW p fun v w => ∀ t ∈ T, k t v w :=
  BND_mono (fun _ hp => NEW_conj hp) (BND_conj hT h)
theorem BW_conj {β : Type} {o : Option World} {T : List β} {k : β → Value → World → Prop} (hT : T ≠ []) (h : ∀ t ∈ T, BND o fun w => k t undef w) : BND o fun w => ∀ t ∈ T, k t undef w := BND_conj hT h
theorem APPEND_conj {β : Type} {E sz bytes : Nat} {zero s x : Value} {w : World} {T : List β} {k : β → Value → World → Prop} (hT : T ≠ []) (h : ∀ t ∈ T, APPEND E sz bytes zero s x w (k t)) :
    APPEND E sz bytes zero s x w fun v w => ∀ t ∈ T, k t v w := by
  have h : ∀ t ∈ T, APPENDS E sz bytes zero s x w (k t) := fun t ht => (h t ht).h
  obtain ⟨t0, h0⟩ : ∃ t, t ∈ T := List.exists_mem_of_ne_nil T hT
  refine ⟨?_⟩
  unfold APPENDS at *
  generalize cellsOfArg w sz x = cv at *
  cases s with
  | slice base len cap =>
    cases cv with
    | none => exact h t0 h0
    | some q =>
      obtain ⟨new, n⟩ := q
      dsimp only at h ⊢
      by_cases hle : len + n ≤ cap
      · simp only [if_pos hle] at h ⊢
        cases base with
        | none => exact h
        | some a => exact BND_conj hT h
      · simp only [if_neg hle] at h ⊢
        have e0 := h t0 h0
        exact ⟨e0.1, e0.2.1, BND_mono (fun old ho c w' h1 h2 h3 t ht => ho t ht c w' h1 h2 h3) (BND_conj hT fun t ht => (h t ht).2.2)⟩
  | _ => exact h t0 h0
theorem RUNES_conj {β : Type} {E : Nat} {x : Value} {w : World} {T : List β} {k : β → Value → World → Prop} (hT : T ≠ []) (h : ∀ t ∈ T, RUNES E x w (k t)) : RUNES E x w fun v w => ∀ t ∈ T, k t v w := by
  obtain ⟨t0, h0⟩ : ∃ t, t ∈ T := List.exists_mem_of_ne_nil T hT
  obtain ⟨s, hs, hn, _⟩ := (h t0 h0).h
  refine ⟨s, hs, hn, fun c w' h1 h2 h3 t ht => ?_⟩
  obtain ⟨s', hs', _, hk⟩ := (h t ht).h
  rw [hs] at hs'; cases hs'
  exact hk c w' h1 h2 h3
theorem BYTES_conj {β : Type} {E : Nat} {x : Value} {w : World} {T : List β} {k : β → Value → World → Prop} (hT : T ≠ []) (h : ∀ t ∈ T, BYTES E x w (k t)) : BYTES E x w fun v w => ∀ t ∈ T, k t v w := by
  obtain ⟨t0, h0⟩ : ∃ t, t ∈ T := List.exists_mem_of_ne_nil T hT
  obtain ⟨s, hs, _⟩ := (h t0 h0).h
  refine ⟨s, hs, fun c w' h1 h2 h3 t ht => ?_⟩
  obtain ⟨s', hs', hk⟩ := (h t ht).h
  rw [hs] at hs'; cases hs'
  exact hk c w' h1 h2 h3

theorem NEXTM_conj {β : Type} {it : Value} {w : World} {T : List β} {k : β → Value → World → Prop} (hT : T ≠ []) (h : ∀ t ∈ T, NEXTM it w (k t)) : NEXTM it w fun v w => ∀ t ∈ T, k t v w := by
  have h : ∀ t ∈ T, NEXTMS it w (k t) := fun t ht => (h t ht).h
  obtain ⟨t0, h0⟩ : ∃ t, t ∈ T := List.exists_mem_of_ne_nil T hT
  refine ⟨?_⟩
  unfold NEXTMS at *
  have e0 := h t0 h0
  split at e0
  · rename_i r g
    dsimp only at h ⊢
    split at e0
    · rename_i hr; simp only [hr] at h ⊢; exact h
    · rename_i m since seen last hr
      simp only [hr] at h ⊢
      split at e0
      · rename_i es clock hm
        simp only [hm] at h ⊢
        exact ⟨e0.1, e0.2.1, fun h1 t ht => (h t ht).2.2.1 h1, fun e he h1 w1 h2 h3 t ht => (h t ht).2.2.2 e he h1 w1 h2 h3⟩
      · exact e0.elim
    · exact e0.elim
  · exact e0.elim

section
variable {P : Program} {ops : Array Oper}

theorem ok_conj_bad : OpSem.bad.conj := fun _ T _ hT h => (h _ (List.exists_mem_of_ne_nil T hT).choose_spec).elim
theorem semBuiltin_conj (f : Operand → Value) (b : Builtin) (args : List Operand) (tys : List TypeId) : (semBuiltin P f b args tys).conj := by
  unfold semBuiltin
  repeat (first | exact ok_conj_bad | exact trivial | exact fun w T k hT h => APPEND_conj hT h | exact fun w T k hT h => BW_conj hT h | split)
theorem opSem_conj (f : Operand → Value) (o : Oper) (ho : conjOk o = true) : (opSem P f o.op).conj := by
  unfold conjOk at ho
  generalize o.op = op at *
  cases op
  case call c =>
    obtain ⟨callee, args, tys⟩ := c
    cases callee with
    | builtin b => exact semBuiltin_conj _ _ _ _
    | invoke r m => simp at ho
    | value fv => simp at ho
  case makeMap t r => cases r with
    | none => exact fun w T k hT h => NEW_conj h
    | some _ => exact ok_conj_bad
  case next it b => cases b with
    | true => exact fun w T k hT h => BNEW_conj hT h
    | false => exact fun w T k hT h => NEXTM_conj hT h
  case slice t x lo hi mx =>
    cases mx
    · simp only [opSem]; repeat (first | exact ok_conj_bad | exact trivial | split)
    · cases hi
      · exact ok_conj_bad
      · simp only [opSem]; repeat (first | exact ok_conj_bad | exact trivial | split)
  case binOp op t x y u => cases op <;> simp only [opSem] <;> (first | exact trivial | (split <;> first | exact trivial | (split <;> exact trivial)))
  all_goals (simp only [opSem]; repeat (first | exact ok_conj_bad | exact trivial | exact fun w T k hT h => NEW_conj h | exact fun w T k hT h => BNEW_conj hT h | exact fun w T k hT h => BW_conj hT h | exact fun w T k hT h => RUNES_conj hT h | exact fun w T k hT h => BYTES_conj hT h | split))
theorem osem_conj (ρ : Env) (o : Oper) (ho : conjOk o = true) : (osem P ops ρ o).conj := by
  have h := opSem_conj (P := P) (ev ρ) o ho
  unfold osem
  split
  · exact h
  · rename_i j want _
    revert h
    generalize opSem P (ev ρ) o.op = s
    intro h
    cases s with
    | eff f =>
      intro w T k hT hh
      refine ⟨fun hc => h w T k hT fun t ht => (hh t ht).yes hc, fun hc t ht => (hh t ht).no hc⟩
    | _ => trivial
theorem semKS_conj {S : Nat → World → Prop} {i : Nat} {fl : Bool} {dem : List Nat} (hS : fl = true → ∃ w, S i w) {s : OpSem} (hs : s.mono) (hc : s.conj) {w : World} {T : List (List Nat)} {k : List Nat → Value → World → Prop} (hT : T ≠ [])
    (h : ∀ t ∈ T, semKS S i fl dem s w (k t)) : semKS S i fl dem s w fun v w' => ∀ t ∈ T, k t v w' := by
  obtain ⟨t0, h0⟩ : ∃ t, t ∈ T := List.exists_mem_of_ne_nil T hT
  cases s with
  | val v => exact h
  | pure o => exact BND_conj hT h
  | read f =>
    cases fl with
    | false => exact BND_conj hT h
    | true =>
      obtain ⟨w0, hw0⟩ := hS rfl
      obtain ⟨v, hv, _⟩ := h t0 h0
      refine ⟨v, hv, fun t ht => ?_⟩
      obtain ⟨u, hu, hk⟩ := h t ht
      have := (hv w0 hw0).symm.trans (hu w0 hw0)
      cases this
      exact hk
  | eff f =>
    refine hs w _ _ (fun v w' hh => ?_) (hc w T (fun t v w' => DEM S dem w' (k t v w')) hT h)
    exact DEM_iff.2 ⟨(DEM_iff.1 (hh t0 h0)).1, fun t ht => (DEM_iff.1 (hh t ht)).2⟩

theorem denLS_mono {S : Nat → World → Prop} {fl : List Nat} {dem : Nat → List Nat} : ∀ (is : List Nat) {Q Q' : Env → World → Prop} (_ : ∀ ρ w, Q ρ w → Q' ρ w) {ρ : Env} {w : World}, denLS P ops S fl dem is Q ρ w → denLS P ops S fl dem is Q' ρ w
  | [], _, _, h, _, _, hd => h _ _ hd
  | i :: is, Q, Q', h, ρ, w, hd => by
    simp only [denLS] at *
    cases ho : ops[i]? with
    | none => simp [ho] at hd
    | some o =>
      simp only [ho] at *
      exact semKS_mono (osem_mono ρ o) (fun v w => denLS_mono is h) hd
theorem denLS_append {S : Nat → World → Prop} {fl : List Nat} {dem : Nat → List Nat} {Q : Env → World → Prop} (js : List Nat) : ∀ (is : List Nat) {ρ : Env} {w : World},
    denLS P ops S fl dem (is ++ js) Q ρ w ↔ denLS P ops S fl dem is (fun ρ w => denLS P ops S fl dem js Q ρ w) ρ w
  | [], _, _ => Iff.rfl
  | i :: is, ρ, w => by
    simp only [List.cons_append, denLS]
    cases ho : ops[i]? with
    | none => exact Iff.rfl
    | some o =>
      exact ⟨semKS_mono (osem_mono ρ o) fun v w => (denLS_append js is).1, semKS_mono (osem_mono ρ o) fun v w => (denLS_append js is).2⟩

def pairOkC (P : Program) (ops : Array Oper) (fl : List Nat) (B : Array Nat) (C : List Nat) (i j : Nat) : Bool :=
  !edgeTo ops i j && ((B.getD j 0).testBit i || swapOk P ops fl i j || (C.contains i && C.contains j))
def pairsOkC (P : Program) (ops : Array Oper) (fl : List Nat) (B : Array Nat) (C : List Nat) : List Nat → Bool
  | [] => true
  | i :: is => is.all (pairOkC P ops fl B C i) && pairsOkC P ops fl B C is
theorem pairsOkC_pairwise {fl : List Nat} {B : Array Nat} {C : List Nat} : ∀ {l : List Nat}, pairsOkC P ops fl B C l = true → l.Pairwise fun i j => pairOkC P ops fl B C i j = true
  | [], _ => .nil
  | i :: is, h => by
    simp only [pairsOkC, Bool.and_eq_true, List.all_eq_true] at h
    exact .cons h.1 (pairsOkC_pairwise h.2)
/-- c may be moved to the front of an order: as far as those go whose order matters. -/
def mvb (P : Program) (ops : Array Oper) (fl C : List Nat) (c : Nat) (t : List Nat) : Bool := (ahead c t).all fun p => !C.contains p || swapOk P ops fl p c
/-- whichever of C's goes first, an order is left in which it may; and so on. -/
def cover (P : Program) (ops : Array Oper) (fl : List Nat) (B : Array Nat) (C0 : List Nat) : Nat → List Nat → List (List Nat) → Bool
  | 0, C, T => C.isEmpty && Nat.beq T.length 1
  | n + 1, C, T => bif C.isEmpty then Nat.beq T.length 1 else
      C.all fun c => (C.any fun p => (B.getD c 0).testBit p) ||
        (!(T.filter (mvb P ops fl C0 c)).isEmpty && (cOk ops c || Nat.beq (T.filter (mvb P ops fl C0 c)).length 1) && cover P ops fl B C0 n (C.erase c) ((T.filter (mvb P ops fl C0 c)).map (·.erase c)))

theorem mvb_erase {fl C : List Nat} {c i : Nat} (hi : C.contains i = false) (hci : c ≠ i) (t : List Nat) : mvb P ops fl C c (t.erase i) = mvb P ops fl C c t := by
  unfold mvb
  induction t with
  | nil => rfl
  | cons p t ih =>
    by_cases hpi : p = i
    · subst hpi
      simp only [List.erase_cons_head, ahead, beq_no (Ne.symm hci), cond_false, List.all_cons, hi]
      simp
    · rw [List.erase_cons_tail (by simpa using hpi)]
      by_cases hpc : p = c
      · subst hpc; simp [ahead]
      · simp only [ahead, beq_no hpc, cond_false, List.all_cons, ih]
theorem filter_erase {fl C : List Nat} {c i : Nat} (hi : C.contains i = false) (hci : c ≠ i) (T : List (List Nat)) : (T.map (·.erase i)).filter (mvb P ops fl C c) = (T.filter (mvb P ops fl C c)).map (·.erase i) := by
  induction T with
  | nil => rfl
  | cons t T ih =>
    simp only [List.map_cons, List.filter_cons, mvb_erase hi hci]
    split <;> simp [ih]
theorem cover_erase {fl : List Nat} {B : Array Nat} {C0 : List Nat} {i : Nat} (hi : C0.contains i = false) : ∀ (n : Nat) (C : List Nat) (T : List (List Nat)), (∀ c ∈ C, c ∈ C0) → cover P ops fl B C0 n C T = true → cover P ops fl B C0 n C (T.map (·.erase i)) = true
  | 0, C, T, _, h => by simpa [cover] using h
  | n + 1, C, T, hC, h => by
    simp only [cover] at h ⊢
    cases hE : C.isEmpty with
    | true => rw [hE] at h; simpa using h
    | false =>
      rw [hE] at h
      simp only [cond_false, List.all_eq_true, Bool.or_eq_true, Bool.and_eq_true] at h ⊢
      intro c hc
      rcases h c hc with h1 | ⟨⟨h1, h2⟩, h3⟩
      · exact .inl h1
      · have hci : c ≠ i := fun e => by
          subst e
          have := hC c hc
          simp [this] at hi
        have hf := filter_erase (P := P) (ops := ops) (fl := fl) hi hci T
        refine .inr ⟨⟨?_, ?_⟩, ?_⟩
        · rw [hf]; simpa using h1
        · rw [hf]; simpa using h2
        · rw [hf]
          have := cover_erase hi n (C.erase c) _ (fun x hx => hC x (List.mem_of_mem_erase hx)) h3
          have he : ∀ l : List (List Nat), (l.map (·.erase i)).map (·.erase c) = (l.map (·.erase c)).map (·.erase i) := fun l => by
            simp only [List.map_map]
            exact List.map_congr_left fun x _ => List.erase_comm _ _
          rw [he]
          exact this
theorem cover_empty {fl : List Nat} {B : Array Nat} {C0 : List Nat} : ∀ {n : Nat} {T : List (List Nat)}, cover P ops fl B C0 n [] T = true → T.length = 1
  | 0, T, h => by simpa [cover] using h
  | n + 1, T, h => by simpa [cover] using h

def altOk (P : Program) (ops : Array Oper) (fl : List Nat) (dem : Nat → List Nat) (C pre : List Nat) (T : List (List Nat)) : Bool :=
  edgesIn ops && demOk P ops fl dem (bef ops.toList) && pre.all (fun i => !C.contains i) && decide C.Nodup && !T.isEmpty && cover P ops fl (bef ops.toList) C C.length C T &&
  T.all (fun t => (pre ++ t).length == ops.size && (List.range ops.size).all (fun i => (pre ++ t).contains i) && decide (pre ++ t).Nodup && (pre ++ t).all (fun i => decide (i < ops.size)) && pairsOkC P ops fl (bef ops.toList) C (pre ++ t) &&
    C.all (fun c => t.contains c) && t.all (fun i => C.contains i || cOk ops i || C.all fun c => ((bef ops.toList).getD i 0).testBit c))

theorem wpAny_of_alts {S : Nat → World → Prop} {fl : List Nat} {dem : Nat → List Nat} {n : Nat} {ρ0 : Env} {Q : Env → World → Prop} {C0 : List Nat} (hd : dstsOk n ops = true) (hin : edgesIn ops = true) (hfr : demOk P ops fl dem (bef ops.toList) = true)
    (hS0 : ∀ i, fl.contains i = true → ∃ w, S i w) : ∀ (fuel : Nat) (l : List Nat) (T : List (List Nat)) (C : List Nat) (m : Nat) (listed : Array Bool) (a : Act) (w : World),
    T ≠ [] → (∀ t ∈ T, (l ++ t).length ≤ fuel) → (∀ t ∈ T, (l ++ t).Nodup) → (∀ t ∈ T, ∀ i, i ∈ l ++ t ↔ i < ops.size ∧ listed.getD i true = false) → listed.size = ops.size → Closed ops listed →
    (∀ t ∈ T, (l ++ t).Pairwise fun i j => pairOkC P ops fl (bef ops.toList) C0 i j = true) → (∀ i ∈ l, C0.contains i = false) → C.Nodup → (∀ c, c ∈ C ↔ c ∈ C0 ∧ c < ops.size ∧ listed.getD c true = false) →
    (∀ t ∈ T, ∀ i ∈ t, C0.contains i = false → cOk ops i = true ∨ ∀ c ∈ C0, ((bef ops.toList).getD i 0).testBit c = true) → cover P ops fl (bef ops.toList) C0 m C T = true →
    Kept n (writesOps ops) ρ0 a → (∀ i, i < ops.size → listed.getD i true = false → fl.contains i = true → isRead P ops i = true → S i w) → denLS P ops S fl dem l (fun ρ w => ∀ t ∈ T, denLS P ops S fl dem t Q ρ w) (envOf a) w →
    wpAny P .any ops (after n (writesOps ops) ρ0 Q) fuel listed a w := by
  have ready_spec : ∀ (l : List Nat) (listed : Array Bool), (∀ i, i ∈ l ↔ i < ops.size ∧ listed.getD i true = false) → listed.size = ops.size →
      (l.Pairwise fun i j => pairOkC P ops fl (bef ops.toList) C0 i j = true) → ∀ h t, l = h :: t → h ∈ Region.ready .any ops listed := by
    intro l listed hmem hsz hp h t hl
    subst hl
    obtain ⟨hlt, hun⟩ := (hmem h).1 (by simp)
    refine mem_ready.2 ⟨hun, ops[h], Array.getElem?_eq_getElem hlt, fun e he hb => ?_⟩
    have hi := List.all_eq_true.1 hin h (List.mem_range.2 hlt)
    rw [Array.getElem?_eq_getElem hlt] at hi
    have hi2 := List.all_eq_true.1 hi e (Array.mem_toList_iff.2 he)
    simp only [hb, Bool.not_true, Bool.false_or, Bool.and_eq_true, decide_eq_true_eq, Bool.not_eq_true', beq_eq_false_iff_ne] at hi2
    have hnot : e.on ∉ t := fun ht => by
      have := (List.pairwise_cons.1 hp).1 e.on ht
      simp only [pairOkC, Bool.and_eq_true, Bool.not_eq_true'] at this
      have h0 := this.1
      unfold edgeTo at h0
      rw [Array.getElem?_eq_getElem hlt] at h0
      have : (ops[h].after.toList.any fun e' => Region.binds .any e' && e'.on == e.on) = true :=
        List.any_eq_true.2 ⟨e, Array.mem_toList_iff.2 he, by simp [hb]⟩
      simp only [this] at h0
      cases h0
    have hnl : e.on ∉ h :: t := by simp [hi2.2, hnot]
    have : ¬ (e.on < ops.size ∧ listed.getD e.on true = false) := fun hh => hnl ((hmem _).2 hh)
    have hlt2 : e.on < listed.size := by rw [hsz]; exact hi2.1
    cases hv : listed.getD e.on true with
    | false => exact absurd ⟨hi2.1, hv⟩ this
    | true =>
      simp [Array.getD_eq_getD_getElem?, hlt2] at hv ⊢
      exact hv
  intro fuel
  induction fuel with
  | zero =>
    intro l T C m listed a w hT hlen _ hmem hsz _ hp _ _ _ _ _ hk hSw h
    obtain ⟨t0, h0⟩ : ∃ t, t ∈ T := List.exists_mem_of_ne_nil T hT
    have hl0 : l ++ t0 = [] := List.length_eq_zero_iff.1 (by have := hlen t0 h0; omega)
    obtain ⟨rfl, rfl⟩ := List.append_eq_nil_iff.1 hl0
    refine ⟨?_, hk, h _ h0⟩
    refine List.eq_nil_iff_forall_not_mem.2 fun i hi => ?_
    obtain ⟨hun, o, ho, _⟩ := mem_ready.1 hi
    exact absurd ((hmem _ h0 i).2 ⟨(Array.getElem?_eq_some_iff.1 ho).1, hun⟩) (by simp)
  | succ fuel ih =>
    intro l T C m listed a w hT hlen hnd hmem hsz hcl hp hlC hCnd hCm hcj hcov hk hSw h
    obtain ⟨t0, h0⟩ : ∃ t, t ∈ T := List.exists_mem_of_ne_nil T hT
    refine ⟨fun hnil => ?_, fun i hi => ?_⟩
    · cases hl0 : l ++ t0 with
      | nil =>
        obtain ⟨rfl, rfl⟩ := List.append_eq_nil_iff.1 hl0
        exact ⟨hk, h _ h0⟩
      | cons x t =>
        have := ready_spec _ listed (hmem t0 h0) hsz (hp t0 h0) x t hl0
        rw [hnil] at this
        cases this
    · obtain ⟨hun, o, ho, hall⟩ := mem_ready.1 hi
      have hlt : i < ops.size := (Array.getElem?_eq_some_iff.1 ho).1
      -- what stands ahead by a ground isn't there any more
      have hanc : ∀ p, ((bef ops.toList).getD i 0).testBit p = true → p < ops.size → listed.getD p true = false → False := fun p hr hplt hpun => by
        have hpl := reach_listed hcl p (i + 1) i (by omega) hr (fun o2 h2 e he hb => by
          rw [ho] at h2; cases h2
          exact hall e (Array.mem_toList_iff.1 he) hb)
        have hplt2 : p < listed.size := by omega
        simp [Array.getD_eq_getD_getElem?, hplt2] at hpl hpun
        rw [hpl] at hpun
        cases hpun
      -- the end, alike for all ways
      have fin : ∀ (l' : List Nat) (T' : List (List Nat)) (C' : List Nat) (m' : Nat), T' ≠ [] → (∀ t ∈ T', (l' ++ t).length ≤ fuel) → (∀ t ∈ T', (l' ++ t).Nodup) → (∀ t ∈ T', ∀ j, j ∈ l' ++ t ↔ j ≠ i ∧ j < ops.size ∧ listed.getD j true = false) →
          (∀ t ∈ T', (l' ++ t).Pairwise fun i j => pairOkC P ops fl (bef ops.toList) C0 i j = true) → (∀ i ∈ l', C0.contains i = false) → C'.Nodup → (∀ c, c ∈ C' ↔ c ≠ i ∧ c ∈ C) →
          (∀ t ∈ T', ∀ i ∈ t, C0.contains i = false → cOk ops i = true ∨ ∀ c ∈ C0, ((bef ops.toList).getD i 0).testBit c = true) → cover P ops fl (bef ops.toList) C0 m' C' T' = true →
          denLS P ops S fl dem (i :: l') (fun ρ w => ∀ t ∈ T', denLS P ops S fl dem t Q ρ w) (envOf a) w → wpOp P ops (after n (writesOps ops) ρ0 Q) i (fun a' w' => wpAny P .any ops (after n (writesOps ops) ρ0 Q) fuel (listed.setIfInBounds i true) a' w') a w := by
        intro l' T' C' m' hT' hlen' hnd' hmem' hp' hlC' hCnd' hCm' hcj' hcov' h2
        simp only [denLS, ho] at h2
        have hcls := osem_cls (P := P) (ops := ops) (envOf a) o
        refine wpOp_of_sem ho (fun v w' hv => ?_) (semKS_sem (osem_mono _ o) (fun hf hc => hSw i hlt hun hf (by unfold isRead; rw [ho]; simp [← hcls, hc])) h2)
        have hset : ∀ j, (listed.setIfInBounds i true).getD j true = false ↔ j ≠ i ∧ listed.getD j true = false := fun j => by
          by_cases hji : i = j
          · subst hji
            have hlt2 : i < listed.size := by omega
            simp [hlt2]
          · rw [getD_set_ne true hji]
            exact ⟨fun hh => ⟨Ne.symm hji, hh⟩, fun hh => hh.2⟩
        refine ih l' T' C' m' _ _ _ hT' hlen' hnd' (fun t ht j => ?_) (by simp [hsz]) (fun j oj hj hjl e he hb => ?_) hp' hlC' hCnd' (fun c => ?_) hcj' hcov' (hk.put ho hd v) (fun p hplt hpun' hf hr => ?_) ?_
        · rw [hmem' t ht j, hset j]
          exact ⟨fun ⟨x, y, z⟩ => ⟨y, x, z⟩, fun ⟨y, x, z⟩ => ⟨x, y, z⟩⟩
        · by_cases hji : i = j
          · subst hji
            rw [ho] at hj; cases hj
            exact getD_set_true (hall e (Array.mem_toList_iff.1 he) hb)
          · rw [getD_set_ne false hji] at hjl
            exact getD_set_true (hcl j oj hj hjl e he hb)
        · rw [hCm' c, hCm c, hset c]
          exact ⟨fun ⟨x, y, z, u⟩ => ⟨y, z, x, u⟩, fun ⟨y, z, x, u⟩ => ⟨x, y, z, u⟩⟩
        · have hpun := ((hset p).1 hpun').2
          by_cases hc2 : clsOf (osem P ops (envOf a) o) = 2
          · have hie : isEff P ops i = true := by unfold isEff; rw [ho]; simp [← hcls, hc2]
            have h3 := List.all_eq_true.1 hfr i (List.mem_range.2 hlt)
            simp only [hie, Bool.not_true, Bool.false_or] at h3
            have h4 := List.all_eq_true.1 h3 p (by simpa using hf)
            simp only [hr, Bool.not_true, Bool.false_or, Bool.or_eq_true] at h4
            rcases h4 with h4 | h4
            · exact (hanc p h4 hplt hpun).elim
            · exact hv.1.2 hc2 p (by simpa using h4)
          · rw [hv.1.1 hc2]; exact hSw p hplt hpun hf hr
        · rw [envOf_put a o.dst v (fun t ht => hk.size ▸ dstsOk_spec hd ho t ht)]
          exact hv.2
      by_cases hil : i ∈ l
      · obtain ⟨pre, post, rfl⟩ := List.append_of_mem hil
        have hiC : C0.contains i = false := hlC i hil
        have hsw : ∀ p ∈ pre, swapOk P ops fl p i = true := fun p hpp => by
          have h1 := (List.pairwise_append.1 (List.pairwise_append.1 (hp t0 h0)).1).2.2 p hpp i (by simp)
          simp only [pairOkC, Bool.and_eq_true, Bool.or_eq_true, hiC] at h1
          rcases h1.2 with (hr | hs) | hc
          · obtain ⟨hplt, hpun⟩ := (hmem t0 h0 p).1 (by simp [hpp])
            exact (hanc p hr hplt hpun).elim
          · exact hs
          · simp at hc
        have hsub : ∀ t, List.Sublist ((pre ++ post) ++ t) ((pre ++ i :: post) ++ t) := fun t => List.Sublist.append_right (List.Sublist.append_left (List.sublist_cons_self i post) pre) t
        refine fin (pre ++ post) T C m hT (fun t ht => by have := hlen t ht; simp at this ⊢; omega) (fun t ht => (hnd t ht).sublist (hsub t)) (fun t ht j => ?_) (fun t ht => (hp t ht).sublist (hsub t)) (fun j hj => hlC j ?_) hCnd (fun c => ?_) hcj hcov (denL_front pre hsw h)
        · have hm := hmem t ht j
          have hn := hnd t ht
          rw [← hm]
          constructor
          · intro hj
            refine ⟨fun e => ?_, (hsub t).subset hj⟩
            subst e
            rw [List.append_assoc, List.cons_append] at hn
            have hn2 := (List.perm_middle.nodup_iff.1 hn)
            rw [← List.append_assoc] at hn2
            exact (List.nodup_cons.1 hn2).1 hj
          · rintro ⟨hne, hj⟩
            simp only [List.mem_append, List.mem_cons] at hj ⊢
            rcases hj with (hj | hj | hj) | hj
            · exact .inl (.inl hj)
            · exact absurd hj hne
            · exact .inl (.inr hj)
            · exact .inr hj
        · simp only [List.mem_append, List.mem_cons] at hj ⊢
          exact hj.elim .inl (fun h => .inr (.inr h))
        · exact ⟨fun hc => ⟨fun e => by
            subst e
            have := ((hCm c).1 hc).1
            simp [this] at hiC, hc⟩, fun hc => hc.2⟩
      · have hit : ∀ t ∈ T, i ∈ t := fun t ht => by
          have := (hmem t ht i).2 ⟨hlt, hun⟩
          rcases List.mem_append.1 this with h' | h'
          · exact absurd h' hil
          · exact h'
        -- the orders in which i may go first
        obtain ⟨T1, hT1, hsubT, hmv, hcv, hconj⟩ : ∃ T1 : List (List Nat), T1 ≠ [] ∧ (∀ t ∈ T1, t ∈ T) ∧ (∀ t ∈ T1, ∀ p ∈ l ++ ahead i t, swapOk P ops fl p i = true) ∧ (∃ m' , cover P ops fl (bef ops.toList) C0 m' (C.erase i) (T1.map (·.erase i)) = true) ∧ (cOk ops i = true ∨ T1.length = 1) := by
          have gen : ∀ t ∈ T, ∀ p ∈ l ++ ahead i t, (C0.contains p = true → C0.contains i = true → swapOk P ops fl p i = true) → swapOk P ops fl p i = true := fun t ht p hpp hc => by
            obtain ⟨post, e1, _⟩ := ahead_split (hit t ht)
            have hpw := hp t ht
            rw [e1, ← List.append_assoc] at hpw
            have h1 := (List.pairwise_append.1 hpw).2.2 p hpp i (by simp)
            simp only [pairOkC, Bool.and_eq_true, Bool.or_eq_true] at h1
            rcases h1.2 with (hr | hs) | hcc
            · have hpm : p ∈ l ++ t := by
                rw [e1, ← List.append_assoc]; exact List.mem_append_left _ hpp
              obtain ⟨hplt, hpun⟩ := (hmem t ht p).1 hpm
              exact (hanc p hr hplt hpun).elim
            · exact hs
            · exact hc hcc.1 hcc.2
          by_cases hiC : C0.contains i = true
          · have hiCm : i ∈ C := (hCm i).2 ⟨by simpa using hiC, hlt, hun⟩
            have hne : C.isEmpty = false := by
              cases C with
              | nil => simp at hiCm
              | cons x y => rfl
            cases m with
            | zero => simp [cover, hne] at hcov
            | succ m =>
              simp only [cover, hne, cond_false, List.all_eq_true, Bool.or_eq_true, Bool.and_eq_true] at hcov
              rcases hcov i hiCm with h1 | ⟨⟨h1, h2⟩, h3⟩
              · obtain ⟨p, hpC, hr⟩ := List.any_eq_true.1 h1
                obtain ⟨_, hplt, hpun⟩ := (hCm p).1 hpC
                exact (hanc p hr hplt hpun).elim
              · refine ⟨T.filter (mvb P ops fl C0 i), ?_, fun t ht => (List.mem_filter.1 ht).1, fun t ht p hpp => ?_, ⟨m, h3⟩, ?_⟩
                · intro e; rw [e] at h1; simp at h1
                · obtain ⟨ht1, ht2⟩ := List.mem_filter.1 ht
                  refine gen t ht1 p hpp fun hpC _ => ?_
                  rcases List.mem_append.1 hpp with hpl | hpa
                  · rw [hlC p hpl] at hpC; cases hpC
                  · have := List.all_eq_true.1 ht2 p hpa
                    rw [hpC] at this
                    simpa using this
                · exact h2.elim .inl fun h2 => .inr (Nat.eq_of_beq_eq_true h2)
          · have hiCf : C0.contains i = false := by simpa using hiC
            have hiCn : i ∉ C := fun hc => hiC (by simpa using ((hCm i).1 hc).1)
            refine ⟨T, hT, fun t ht => ht, fun t ht p hpp => gen t ht p hpp fun _ hc => absurd hc hiC, ⟨m, ?_⟩, ?_⟩
            · rw [List.erase_of_not_mem hiCn]
              exact cover_erase hiCf m C T (fun c hc => ((hCm c).1 hc).1) hcov
            · rcases hcj t0 h0 i (hit t0 h0) hiCf with hc | hc
              · exact .inl hc
              · refine .inr ?_
                have hCe : C = [] := List.eq_nil_iff_forall_not_mem.2 fun c hcc => by
                  obtain ⟨hc0, hclt, hcun⟩ := (hCm c).1 hcc
                  exact hanc c (hc c hc0) hclt hcun
                subst hCe
                exact cover_empty hcov
        obtain ⟨m', hcv⟩ := hcv
        have hperm : ∀ t ∈ T1, ∀ j, j ∈ l ++ t.erase i ↔ j ≠ i ∧ j ∈ l ++ t := fun t ht j => by
          have hn := (List.nodup_append.1 (hnd t (hsubT t ht))).2.1
          simp only [List.mem_append, hn.mem_erase_iff]
          constructor
          · rintro (hj | hj)
            · exact ⟨fun e => hil (e ▸ hj), .inl hj⟩
            · exact ⟨hj.1, .inr hj.2⟩
          · rintro ⟨hne, hj | hj⟩
            · exact .inl hj
            · exact .inr ⟨hne, hj⟩
        have hsub : ∀ t, List.Sublist (l ++ t.erase i) (l ++ t) := fun t => List.Sublist.append_left List.erase_sublist l
        have hfront : denLS P ops S fl dem (i :: l) (fun ρ w => ∀ t ∈ T1.map (·.erase i), denLS P ops S fl dem t Q ρ w) (envOf a) w := by
          have h1 : denLS P ops S fl dem l (fun ρ w => denLS P ops S fl dem [i] (fun ρ w => ∀ t ∈ T1.map (·.erase i), denLS P ops S fl dem t Q ρ w) ρ w) (envOf a) w := by
            refine denLS_mono l (fun ρ w hh => ?_) h
            have hh2 : ∀ t ∈ T1, denLS P ops S fl dem (i :: t.erase i) Q ρ w := fun t ht => by
              obtain ⟨post, e1, e2⟩ := ahead_split (hit t (hsubT t ht))
              rw [e2]
              refine denL_front _ (fun p hpp => hmv t ht p (List.mem_append_right _ hpp)) ?_
              rw [← e1]
              exact hh t (hsubT t ht)
            simp only [denLS, ho] at hh2 ⊢
            have hres : semKS S i (fl.contains i) (dem i) (osem P ops ρ o) w (fun v w' => ∀ t ∈ T1, denLS P ops S fl dem (t.erase i) Q (updO ρ o.dst v) w') := by
              rcases hconj with hc | hc
              · refine semKS_conj (hS0 i) (osem_mono ρ o) (osem_conj ρ o ?_) hT1 hh2
                simpa [cOk, ho] using hc
              · match T1, hc, hh2 with
                | [t1], _, hh2 => exact semKS_mono (osem_mono ρ o) (fun v w' hx t ht => by
                    have : t = t1 := by simpa using ht
                    subst this; exact hx) (hh2 t1 (by simp))
            refine semKS_mono (osem_mono ρ o) (fun v w' hx t ht => ?_) hres
            obtain ⟨t', ht', rfl⟩ := List.mem_map.1 ht
            exact hx t' ht'
          have h2 := (denLS_append [i] l).2 h1
          have h3 := denL_front (i := i) (post := []) l (fun p hpp => by
            obtain ⟨t1, ht1⟩ := List.exists_mem_of_ne_nil T1 hT1
            exact hmv t1 ht1 p (List.mem_append_left _ hpp)) h2
          rwa [List.append_nil] at h3
        refine fin l (T1.map (·.erase i)) (C.erase i) m' (by simpa using hT1) ?_ ?_ ?_ ?_ hlC (hCnd.erase i) (fun c => by rw [hCnd.mem_erase_iff]) ?_ hcv hfront
        · intro t ht
          obtain ⟨t', ht', rfl⟩ := List.mem_map.1 ht
          have h1 := hlen t' (hsubT t' ht')
          have h2 := List.length_erase_of_mem (hit t' (hsubT t' ht'))
          have h3 := List.length_pos_of_mem (hit t' (hsubT t' ht'))
          simp only [List.length_append] at h1 ⊢
          omega
        · intro t ht
          obtain ⟨t', ht', rfl⟩ := List.mem_map.1 ht
          exact (hnd t' (hsubT t' ht')).sublist (hsub t')
        · intro t ht j
          obtain ⟨t', ht', rfl⟩ := List.mem_map.1 ht
          rw [hperm t' ht' j, hmem t' (hsubT t' ht') j]
        · intro t ht
          obtain ⟨t', ht', rfl⟩ := List.mem_map.1 ht
          exact (hp t' (hsubT t' ht')).sublist (hsub t')
        · intro t ht j hj
          obtain ⟨t', ht', rfl⟩ := List.mem_map.1 ht
          exact hcj t' (hsubT t' ht') j (List.mem_of_mem_erase hj)

theorem wpAny_alts {S : Nat → World → Prop} {fl : List Nat} {dem : Nat → List Nat} {n : Nat} {ρ0 : Env} {Q : Env → World → Prop} (hd : dstsOk n ops = true) {C pre : List Nat} {T : List (List Nat)} (hs : altOk P ops fl dem C pre T = true) {a : Act} {w : World} (hk : Kept n (writesOps ops) ρ0 a)
    (hSw : ∀ i ∈ fl, S i w) (h : denLS P ops S fl dem pre (fun ρ w => ∀ t ∈ T, denLS P ops S fl dem t Q ρ w) (envOf a) w) : wpAny P .any ops (after n (writesOps ops) ρ0 Q) ops.size (Array.replicate ops.size false) a w := by
  simp only [altOk, Bool.and_eq_true, beq_iff_eq, decide_eq_true_eq, List.all_eq_true] at hs
  obtain ⟨⟨⟨⟨⟨⟨hin, hfr⟩, hpre⟩, hCnd⟩, hT⟩, hcov⟩, hall⟩ := hs
  have hT' : T ≠ [] := by intro e; rw [e] at hT; simp at hT
  obtain ⟨t0, h0⟩ : ∃ t, t ∈ T := List.exists_mem_of_ne_nil T hT'
  have hm : ∀ t ∈ T, ∀ i, i ∈ pre ++ t ↔ i < ops.size ∧ (Array.replicate ops.size false).getD i true = false := fun t ht i => by
    obtain ⟨⟨⟨⟨⟨⟨hlen, hal⟩, hnd⟩, hlt⟩, hp⟩, hC⟩, hcj⟩ := hall t ht
    refine ⟨fun hi => ?_, fun hi => ?_⟩
    · have := hlt i hi
      simp [this]
    · have := hal i (List.mem_range.2 hi.1)
      simpa using this
  refine wpAny_of_alts hd hin hfr (fun i hi => ⟨w, hSw i (by simpa using hi)⟩) _ pre T C C.length _ a w hT' (fun t ht => by have := (hall t ht).1.1.1.1.1.1; omega) (fun t ht => (hall t ht).1.1.1.1.2) hm (by simp) ?_
    (fun t ht => pairsOkC_pairwise (hall t ht).1.1.2) (fun i hi => by have := hpre i hi; simpa using this) hCnd (fun c => ?_) (fun t ht i hi hc => ?_) hcov hk (fun i _ _ hf _ => hSw i (by simpa using hf)) h
  · intro i o hi hl
    have : i < ops.size := (Array.getElem?_eq_some_iff.1 hi).1
    simp [this] at hl
  · constructor
    · intro hc
      have h1 := (hall t0 h0).1.2 c hc
      have h2 := (hm t0 h0 c).1 (by simp at h1; simp [h1])
      exact ⟨hc, h2⟩
    · exact fun hc => hc.1
  · have h1 := (hall t ht).2 i hi
    simp only [Bool.or_eq_true, hc, List.all_eq_true] at h1
    rcases h1 with (h1 | h1) | h1
    · cases h1
    · exact .inl h1
    · exact .inr h1
end
end Go.Den
