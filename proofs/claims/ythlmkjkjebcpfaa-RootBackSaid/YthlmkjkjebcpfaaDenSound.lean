/- 'den' of a function's body, and that it may be leant on: whatever order Go takes where it leaves the order open. No condition. -/
import Derived.Test.YthlmkjkjebcpfaaDenAll
namespace Go.Den

/-! ## One operation, guarded; a list of them -/
def gsem (c : Bool) : OpSem → OpSem
  | .val v => .pure (grd c (some v))
  | .pure o => .pure (grd c o)
  | .read f => .read fun w => grd c (f w)
  | .eff f => .eff fun w k => GEF c (f w) w k
def slotOf (ops : Array Oper) (j : Nat) : Option Nat := (ops[j]?).bind (·.dst)
def gval (ops : Array Oper) (ρ : Env) (j : Nat) (want : Bool) : Bool :=
  match slotOf ops j with
  | some t => isB (ρ t) want
  | none => false
def osem (P : Program) (ops : Array Oper) (ρ : Env) (o : Oper) : OpSem :=
  match o.guard with
  | none => opSem P (ev ρ) o.op
  | some (j, want) => gsem (gval ops ρ j want) (opSem P (ev ρ) o.op)
def semK : OpSem → World → (Value → World → Prop) → Prop
  | .val v, w, k => k v w
  | .pure o, w, k => BND o fun v => k v w
  | .read f, w, k => BND (f w) fun v => k v w
  | .eff f, w, k => f w k
def denL (P : Program) (ops : Array Oper) : List Nat → (Env → World → Prop) → Env → World → Prop
  | [], Q, ρ, w => Q ρ w
  | i :: is, Q, ρ, w =>
    match ops[i]? with
    | none => False
    | some o => semK (osem P ops ρ o) w fun v w' => denL P ops is Q (updO ρ o.dst v) w'

def clsOf : OpSem → Nat
  | .val _ => 0
  | .pure _ => 0
  | .read _ => 1
  | .eff _ => 2
/-- worlds of the kinds that are asked. -/
def DEM (S : Nat → World → Prop) : List Nat → World → Prop → Prop
  | [], _, k => k
  | p :: r, w, k => S p w ∧ DEM S r w k
theorem DEM_iff {S : Nat → World → Prop} {w : World} {k : Prop} : ∀ {l : List Nat}, DEM S l w k ↔ (∀ p ∈ l, S p w) ∧ k
  | [] => by simp [DEM]
  | p :: r => by simp [DEM, DEM_iff (l := r), and_assoc]
/-- the same where some reads float: S p is a kind of worlds that read p reads the same in; a write stays in the kinds of the reads that may float behind it ('dem'). -/
def semKS (S : Nat → World → Prop) (i : Nat) (fl : Bool) (dem : List Nat) : OpSem → World → (Value → World → Prop) → Prop
  | .val v, w, k => k v w
  | .pure o, w, k => BND o fun v => k v w
  | .read f, w, k => bif fl then FLT (S i) f fun v => k v w else BND (f w) fun v => k v w
  | .eff f, w, k => f w fun v w' => DEM S dem w' (k v w')
def denLS (P : Program) (ops : Array Oper) (S : Nat → World → Prop) (fl : List Nat) (dem : Nat → List Nat) : List Nat → (Env → World → Prop) → Env → World → Prop
  | [], Q, ρ, w => Q ρ w
  | i :: is, Q, ρ, w =>
    match ops[i]? with
    | none => False
    | some o => semKS S i (fl.contains i) (dem i) (osem P ops ρ o) w fun v w' => denLS P ops S fl dem is Q (updO ρ o.dst v) w'

section
variable {P : Program} {ops : Array Oper}

def OpSem.mono : OpSem → Prop
  | .eff f => ∀ w k k', (∀ v w, k v w → k' v w) → f w k → f w k'
  | _ => True
theorem opSem_mono (f : Operand → Value) (hf : ∀ g, f (.func g) = .func (.func g) #[] #[]) (o : Oper) : (opSem P f o.op).mono := by
  have := op_ok (P := P) f hf o
  cases h : opSem P f o.op with
  | eff g => rw [h] at this; exact this.2
  | _ => trivial
theorem gsem_mono {c : Bool} {s : OpSem} (h : s.mono) : (gsem c s).mono := by
  cases s with
  | eff f => exact fun w k k' hk hg => ⟨fun hc => h w k k' hk (hg.yes hc), fun hc => hk _ _ (hg.no hc)⟩
  | _ => trivial
theorem osem_mono (ρ : Env) (o : Oper) : (osem P ops ρ o).mono := by
  unfold osem
  split
  · exact opSem_mono _ (fun _ => rfl) o
  · exact gsem_mono (opSem_mono _ (fun _ => rfl) o)
theorem semK_mono {s : OpSem} (hs : s.mono) {w : World} {k k' : Value → World → Prop} (h : ∀ v w, k v w → k' v w) (hk : semK s w k) : semK s w k' := by
  cases s with
  | val v => exact h v w hk
  | pure o => exact BND_mono (fun v => h v w) hk
  | read f => exact BND_mono (fun v => h v w) hk
  | eff f => exact hs w k k' h hk
theorem denL_mono : ∀ (is : List Nat) {Q Q' : Env → World → Prop} (_ : ∀ ρ w, Q ρ w → Q' ρ w) {ρ : Env} {w : World}, denL P ops is Q ρ w → denL P ops is Q' ρ w
  | [], _, _, h, _, _, hd => h _ _ hd
  | i :: is, Q, Q', h, ρ, w, hd => by
    simp only [denL] at *
    cases ho : ops[i]? with
    | none => simp [ho] at hd
    | some o =>
      simp only [ho] at *
      exact semK_mono (osem_mono ρ o) (fun v w => denL_mono is h) hd

theorem beq_no {i j : Nat} (h : i ≠ j) : Nat.beq i j = false := by
  cases hb : Nat.beq i j with
  | false => rfl
  | true => exact absurd (Nat.eq_of_beq_eq_true hb) h

theorem semKS_mono {S : Nat → World → Prop} {i : Nat} {fl : Bool} {dem : List Nat} {s : OpSem} (hs : s.mono) {w : World} {k k' : Value → World → Prop} (h : ∀ v w, k v w → k' v w) (hk : semKS S i fl dem s w k) : semKS S i fl dem s w k' := by
  cases s with
  | val v => exact h v w hk
  | pure o => exact BND_mono (fun v => h v w) hk
  | read f =>
    cases fl with
    | true => obtain ⟨v, hv, hk⟩ := hk; exact ⟨v, hv, h v w hk⟩
    | false => exact BND_mono (fun v => h v w) hk
  | eff f => exact hs w _ _ (fun v w' hh => DEM_iff.2 ⟨(DEM_iff.1 hh).1, h v w' (DEM_iff.1 hh).2⟩) hk
theorem semKS_sem {S : Nat → World → Prop} {i : Nat} {fl : Bool} {dem : List Nat} {s : OpSem} (hs : s.mono) {w : World} (hS : fl = true → clsOf s = 1 → S i w) {k : Value → World → Prop} (h : semKS S i fl dem s w k) :
    semK s w fun v w' => ((clsOf s ≠ 2 → w' = w) ∧ (clsOf s = 2 → ∀ p ∈ dem, S p w')) ∧ k v w' := by
  cases s with
  | val v => exact ⟨⟨fun _ => rfl, fun hc => by cases hc⟩, h⟩
  | pure o => exact BND_mono (fun v hh => ⟨⟨fun _ => rfl, fun hc => by cases hc⟩, hh⟩) h
  | read f =>
    cases fl with
    | true => obtain ⟨v, hv, hk⟩ := h; exact BND_iff.2 ⟨v, hv w (hS rfl rfl), ⟨⟨fun _ => rfl, fun hc => by cases hc⟩, hk⟩⟩
    | false => exact BND_mono (fun v hh => ⟨⟨fun _ => rfl, fun hc => by cases hc⟩, hh⟩) h
  | eff f => exact hs w _ _ (fun v w' hh => ⟨⟨fun hc => absurd rfl hc, fun _ => (DEM_iff.1 hh).1⟩, (DEM_iff.1 hh).2⟩) h
theorem denLS_of_denL : ∀ (is : List Nat) {Q : Env → World → Prop} {ρ : Env} {w : World}, denL P ops is Q ρ w → denLS P ops (fun _ _ => True) [] (fun _ => []) is Q ρ w
  | [], _, _, _, h => h
  | i :: is, Q, ρ, w, h => by
    simp only [denL, denLS] at *
    cases ho : ops[i]? with
    | none => simp [ho] at h
    | some o =>
      simp only [ho] at *
      have h2 := semK_mono (osem_mono ρ o) (fun v w' hh => denLS_of_denL is hh) h
      generalize osem P ops ρ o = s at *
      cases s with
      | val v => exact h2
      | pure o => exact h2
      | read f => exact h2
      | eff f => exact h2

/-! ## Frames -/
def envOf (a : Act) : Env := fun i => a.tmps.getD i undef
theorem eval_envOf (a : Act) : a.eval = ev (envOf a) := by
  funext x; cases x <;> rfl
theorem envOf_put (a : Act) (d : Option Nat) (v : Value) (h : ∀ t, d = some t → t < a.tmps.size) : envOf (a.put d v) = updO (envOf a) d v := by
  cases d with
  | none => rfl
  | some t =>
    have ht := h t rfl
    funext i
    simp only [envOf, Act.put, updO, upd, Array.getD_eq_getD_getElem?]
    by_cases hi : i = t
    · subst hi; simp [ht]
    · rw [Array.getElem?_setIfInBounds_ne (Ne.symm hi)]
      have : Nat.beq i t = false := beq_no hi
      rw [this]; rfl
theorem size_put (a : Act) (d : Option Nat) (v : Value) : (a.put d v).tmps.size = a.tmps.size := by
  cases d <;> simp [Act.put]
theorem defers_put (a : Act) (d : Option Nat) (v : Value) : (a.put d v).defers = a.defers := by
  cases d <;> rfl

theorem wanted_gval {o : Oper} {a : Act} {j : Nat} {want : Bool} (hg : o.guard = some (j, want)) : Region.wanted o (yielded ops a.tmps) = gval ops (envOf a) j want := by
  unfold Region.wanted
  rw [hg]
  simp only [yielded, gval, slotOf]
  cases (ops[j]?).bind (·.dst) with
  | none => rfl
  | some t =>
    simp only [Option.bind_some, envOf, Array.getD_eq_getD_getElem?]
    cases a.tmps[t]? with
    | none => rfl
    | some v => cases v <;> simp [isB]

/-- one operation of the model, out of 'semK'. -/
theorem wpOp_of_sem {Q : Exit → Act → World → Prop} {i : Nat} {o : Oper} (hi : ops[i]? = some o) {a : Act} {w : World} {K : Act → World → Prop} {k : Value → World → Prop}
    (hk : ∀ v w', k v w' → K (a.put o.dst v) w') (h : semK (osem P ops (envOf a) o) w k) : wpOp P ops Q i K a w := by
  unfold wpOp
  simp only [hi]
  have hok := op_ok (P := P) (ev (envOf a)) (fun _ => rfl) o
  have main : ∀ kk : Value → World → Prop, (∀ v w', kk v w' → K (a.put o.dst v) w') → semK (opSem P (ev (envOf a)) o.op) w kk → o.wp P a w K Q := by
    intro kk hkk hs
    unfold Oper.wp
    rw [eval_envOf]
    cases hop : opSem P (ev (envOf a)) o.op with
    | val v =>
      rw [hop] at hok hs
      rw [hok w]
      exact hkk v w hs
    | pure ov =>
      rw [hop] at hok hs
      obtain ⟨v, hv, hs⟩ := BND_iff.1 hs
      rw [hok v hv w]
      exact hkk v w hs
    | read f =>
      rw [hop] at hok hs
      obtain ⟨v, hv, hs⟩ := BND_iff.1 hs
      rw [hok w v hv]
      exact hkk v w hs
    | eff f =>
      rw [hop] at hok hs
      have hu := hok.1 w kk hs
      generalize (execOp (ev (envOf a)) o).run P w = r at hu ⊢
      unfold Upon at hu
      split at hu
      · exact hkk _ _ hu
      · exact hkk _ _ hu
      · refine Calls.mono hu ?_
        rintro e w'' ⟨v, rfl, hv⟩
        exact hkk _ _ hv
      · exact hu.elim
  cases hg : o.guard with
  | none =>
    have hw : Region.wanted o (yielded ops a.tmps) = true := by simp [Region.wanted, hg]
    rw [if_pos hw]
    refine .inl (main k hk ?_)
    simpa [osem, hg] using h
  | some g =>
    obtain ⟨j, want⟩ := g
    have hw := wanted_gval (ops := ops) (a := a) hg
    have h' : semK (gsem (gval ops (envOf a) j want) (opSem P (ev (envOf a)) o.op)) w k := by simpa [osem, hg] using h
    cases hc : gval ops (envOf a) j want with
    | true =>
      rw [if_pos (by rw [hw, hc])]
      refine .inl (main k hk ?_)
      rw [hc] at h'
      cases hop : opSem P (ev (envOf a)) o.op with
      | val v => rw [hop] at h'; exact (BND_some v fun v => k v w).1 h'
      | pure ov => rw [hop] at h'; exact h'
      | read f => rw [hop] at h'; exact h'
      | eff f => rw [hop] at h'; exact h'.yes rfl
    | false =>
      rw [if_neg (by rw [hw, hc]; simp)]
      rw [hc] at h'
      refine hk undef w ?_
      cases hop : opSem P (ev (envOf a)) o.op with
      | val v => rw [hop] at h'; exact (BND_some undef fun v => k v w).1 h'
      | pure ov => rw [hop] at h'; exact (BND_some undef fun v => k v w).1 h'
      | read f => rw [hop] at h'; exact (BND_some undef fun v => k v w).1 h'
      | eff f => rw [hop] at h'; exact h'.no rfl

def dstsOk (n : Nat) (ops : Array Oper) : Bool := ops.all fun o => match o.dst with | some d => decide (d < n) | none => true
theorem dstsOk_spec {n : Nat} (h : dstsOk n ops = true) {i : Nat} {o : Oper} (hi : ops[i]? = some o) : ∀ t, o.dst = some t → t < n := by
  intro t ht
  have := Array.all_eq_true_iff_forall_mem.1 h o (Array.mem_of_getElem? hi)
  simpa [ht] using this

def writesOps (ops : Array Oper) : List Nat := ops.toList.filterMap (·.dst)
theorem mem_writesOps {i : Nat} {o : Oper} (hi : ops[i]? = some o) {t : Nat} (ht : o.dst = some t) : t ∈ writesOps ops :=
  List.mem_filterMap.2 ⟨o, Array.mem_toList_iff.2 (Array.mem_of_getElem? hi), ht⟩

/-- what a walk keeps of the frame it began with: its length, no defers, all that is not written. -/
structure Kept (n : Nat) (W : List Nat) (ρ0 : Env) (a : Act) : Prop where
  size : a.tmps.size = n
  defers : a.defers = []
  same : ∀ i, i ∉ W → envOf a i = ρ0 i
theorem Kept.put {n : Nat} {ρ0 : Env} {a : Act} (h : Kept n (writesOps ops) ρ0 a) {i : Nat} {o : Oper} (hi : ops[i]? = some o) (hd : dstsOk n ops = true) (v : Value) :
    Kept n (writesOps ops) ρ0 (a.put o.dst v) := by
  have hb := dstsOk_spec hd hi
  refine ⟨by rw [size_put, h.size], by rw [defers_put, h.defers], fun j hj => ?_⟩
  rw [envOf_put a o.dst v (fun t ht => h.size ▸ hb t ht)]
  cases hdst : o.dst with
  | none => exact h.same j hj
  | some t =>
    have hne : j ≠ t := fun e => hj (e ▸ mem_writesOps hi hdst)
    have : Nat.beq j t = false := beq_no hne
    simp only [updO, upd, this]
    exact h.same j hj

def after (n : Nat) (W : List Nat) (ρ0 : Env) (Q : Env → World → Prop) : Exit → Act → World → Prop
  | .normal, a, w => Kept n W ρ0 a ∧ Q (envOf a) w
  | _, _, _ => False

theorem wpOps_of_denL {n : Nat} {ρ0 : Env} {Q : Env → World → Prop} (hd : dstsOk n ops = true) : ∀ (is : List Nat) (a : Act) (w : World), Kept n (writesOps ops) ρ0 a →
    denL P ops is Q (envOf a) w → wpOps P ops (after n (writesOps ops) ρ0 Q) is a w
  | [], a, w, hk, h => ⟨hk, h⟩
  | i :: is, a, w, hk, h => by
    rw [wpOps_cons]
    simp only [denL] at h
    cases ho : ops[i]? with
    | none => simp [ho] at h
    | some o =>
      simp only [ho] at h
      refine wpOp_of_sem ho (fun v w' hv => ?_) h
      refine wpOps_of_denL hd is _ _ (hk.put ho hd v) ?_
      rw [envOf_put a o.dst v (fun t ht => hk.size ▸ dstsOk_spec hd ho t ht)]
      exact hv
end
end Go.Den
