/- 'den' of code, and of a function; that it may be leant on. No condition. -/
import Derived.Test.YthlmkjkjebcpfaaDenAlt
import Derived.Scope
namespace Go.Den

inductive Ex where
  | nrm
  | ext (id : Nat)
  | ret

def VF : Nat → Type
  | 0 => World → Prop
  | n + 1 => Value → VF n
def VM : Nat → Type
  | 0 => World → Nat
  | n + 1 => Value → VM n
def VF.ap : (n : Nat) → VF n → List Value → World → Prop
  | 0, J, _, w => J w
  | n + 1, J, x :: xs, w => VF.ap n (J x) xs w
  | _ + 1, _, [], _ => False
def VM.ap : (n : Nat) → VM n → List Value → World → Nat
  | 0, J, _, w => J w
  | n + 1, J, x :: xs, w => VM.ap n (J x) xs w
  | _ + 1, _, [], _ => 0
def AllN : Nat → (List Value → Prop) → Prop
  | 0, f => f []
  | n + 1, f => ∀ x : Value, AllN n fun xs => f (x :: xs)
theorem AllN_spec : ∀ (xs : List Value) (f : List Value → Prop), AllN xs.length f → f xs
  | [], _, h => h
  | x :: xs, f, h => AllN_spec xs (fun xs => f (x :: xs)) (h x)
def fill : List Nat → List Value → List Nat → Env → Env → Env
  | l :: L, x :: xs, W, d, ρ => fun i => bif Nat.beq i l then x else fill L xs W d ρ i
  | _, _, W, d, ρ => fun i => bif W.contains i then d i else ρ i

def writes : Code → List Nat
  | .region _ ops _ => writesOps ops
  | .seq a b => writes a ++ writes b
  | .cond _ a b => writes a ++ writes b
  | .block _ b => writes b
  | .loop b => writes b
  | .scope b => writes b
  | _ => []

/-- the number of the first region in a piece of code: a loop's name among the notes. -/
def firstReg : Code → Nat
  | .region id _ _ => id
  | .seq a _ => firstReg a
  | .block _ b => firstReg b
  | .loop b => firstReg b + 100000
  | .scope b => firstReg b
  | _ => 0

def seqQ (k : Env → World → Prop) (Q : Ex → Env → World → Prop) : Ex → Env → World → Prop
  | .nrm => k
  | .ext i => Q (.ext i)
  | .ret => Q .ret
def blockQ (id : Nat) (Q : Ex → Env → World → Prop) : Ex → Env → World → Prop
  | .nrm => Q .nrm
  | .ext i => bif Nat.beq i id then Q .nrm else Q (.ext i)
  | .ret => Q .ret
def note (ann : List (Nat × List Nat)) (i : Nat) : List Nat :=
  match ann with
  | [] => []
  | (j, l) :: r => bif Nat.beq i j then l else note r i

/-- orders, one behind the other, with 9999 between. -/
def splitA : List Nat → List (List Nat)
  | [] => [[]]
  | x :: r => bif Nat.beq x 9999 then [] :: splitA r else
    match splitA r with
    | [] => [[x]]
    | t :: T => (x :: t) :: T
def CONJ : List (List Nat) → (List Nat → Prop) → Prop
  | [], _ => True
  | [t], f => f t
  | t :: T, f => f t ∧ CONJ T f
theorem CONJ_iff {f : List Nat → Prop} : ∀ {T : List (List Nat)}, CONJ T f ↔ ∀ t ∈ T, f t
  | [] => by simp [CONJ]
  | [t] => by simp [CONJ]
  | t :: u :: T => by simp only [CONJ, CONJ_iff (T := u :: T), List.forall_mem_cons]
/-- 'ann': of a region that draws, the order to read it in, and (its number plus 2000000) which of its reads float; of a loop (by its first region's number plus 1000000), the slots that a round hands on. -/
def den (P : Program) (ann : List (Nat × List Nat)) : Code → (Ex → Env → World → Prop) → Env → World → Prop
  | .skip, Q, ρ, w => Q .nrm ρ w
  | .region id ops true, Q, ρ, w =>
    match note ann (id + 4000000) with
    | [] =>
      match note ann (id + 2000000) with
      | [] => denL P ops (note ann id) (Q .nrm) ρ w.drew
      | i :: fl => ∃ S : Nat → World → Prop, DEM S (i :: fl) w.drew (denLS P ops S (i :: fl) (fun j => note ann (id * 1000 + j + 3000000)) (note ann id) (Q .nrm) ρ w.drew)
    | _ :: _ => ∃ S : Nat → World → Prop, DEM S (note ann (id + 2000000)) w.drew (denLS P ops S (note ann (id + 2000000)) (fun j => note ann (id * 1000 + j + 3000000)) (note ann id)
        (fun ρ w => CONJ (splitA (note ann (id + 5000000))) fun t => denLS P ops S (note ann (id + 2000000)) (fun j => note ann (id * 1000 + j + 3000000)) t (Q .nrm) ρ w) ρ w.drew)
  | .region _ ops false, Q, ρ, w => denL P ops (List.range ops.size) (Q .nrm) ρ w
  | .seq a b, Q, ρ, w => den P ann a (seqQ (den P ann b Q) Q) ρ w
  | .cond c a b, Q, ρ, w => COND (ev ρ c) (den P ann a Q ρ w) (den P ann b Q ρ w)
  | .block id b, Q, ρ, w => den P ann b (blockQ id Q) ρ w
  | .loop b, Q, ρ, w =>
    let L := note ann (firstReg b + 1000000)
    let W := writes b
    ∃ (J : VF L.length) (m : VM L.length), VF.ap L.length J (L.map ρ) w ∧ ∀ d : Env, AllN L.length fun xs => ∀ w1 : World, VF.ap L.length J xs w1 →
      den P ann b (seqQ (fun ρ' w' => VF.ap L.length J (L.map ρ') w' ∧ VM.ap L.length m (L.map ρ') w' < VM.ap L.length m xs w1) Q) (fill L xs W d ρ) w1
  | .exit id, Q, ρ, w => Q (.ext id) ρ w
  | .scope b, Q, ρ, w => den P ann b Q ρ w
  | .label _, Q, ρ, w => Q .nrm ρ w
  | .ret, Q, ρ, w => Q .ret ρ w
  | _, _, _, _ => False

def chk (P : Program) (ann : List (Nat × List Nat)) (n : Nat) : Code → Bool
  | .region id ops d => dstsOk n ops && (!d || (P.follows .mixedOrders && match note ann (id + 4000000) with
    | [] => schedOk P ops (note ann (id + 2000000)) (fun j => note ann (id * 1000 + j + 3000000)) (note ann id)
    | c :: C => altOk P ops (note ann (id + 2000000)) (fun j => note ann (id * 1000 + j + 3000000)) (c :: C) (note ann id) (splitA (note ann (id + 5000000)))))
  | .seq a b => chk P ann n a && chk P ann n b
  | .cond _ a b => chk P ann n a && chk P ann n b
  | .block _ b => chk P ann n b
  | .loop b => chk P ann n b
  | .scope b => chk P ann n b
  | _ => true

def lift (n : Nat) (W : List Nat) (ρ0 : Env) (Q : Ex → Env → World → Prop) : Exit → Act → World → Prop
  | .normal, a, w => Kept n W ρ0 a ∧ Q .nrm (envOf a) w
  | .exit id, a, w => Kept n W ρ0 a ∧ Q (.ext id) (envOf a) w
  | .ret, a, w => Kept n W ρ0 a ∧ Q .ret (envOf a) w
  | _, _, _ => False

section
variable {P : Program}

theorem Kept.trans {n : Nat} {W V : List Nat} {ρ0 : Env} {a b : Act} (h : Kept n W ρ0 a) (h' : Kept n V (envOf a) b) : Kept n (W ++ V) ρ0 b :=
  ⟨h'.size, h'.defers, fun i hi => by
    simp only [List.mem_append, not_or] at hi
    rw [h'.same i hi.2, h.same i hi.1]⟩
theorem Kept.wider {n : Nat} {W V : List Nat} {ρ0 : Env} {a : Act} (h : Kept n W ρ0 a) (hs : ∀ i, i ∈ W → i ∈ V) : Kept n V ρ0 a :=
  ⟨h.size, h.defers, fun i hi => h.same i fun hw => hi (hs i hw)⟩
theorem Kept.refl {n : Nat} {W : List Nat} {a : Act} (h1 : a.tmps.size = n) (h2 : a.defers = []) : Kept n W (envOf a) a := ⟨h1, h2, fun _ _ => rfl⟩

theorem fill_self (a : Env) : ∀ (L : List Nat) (W : List Nat) (ρ : Env), (∀ i, i ∉ W → a i = ρ i) → fill L (L.map a) W a ρ = a
  | [], W, ρ, h => by
    funext i
    simp only [fill]
    cases hc : W.contains i with
    | true => rfl
    | false => exact (h i (by simpa using hc)).symm
  | l :: L, W, ρ, h => by
    funext i
    simp only [List.map_cons, fill]
    cases hb : Nat.beq i l with
    | true => rw [Nat.eq_of_beq_eq_true hb]; rfl
    | false => exact congrFun (fill_self a L W ρ h) i

theorem den_sound {ann : List (Nat × List Nat)} {n : Nat} : ∀ (c : Code), chk P ann n c = true → ∀ (Q : Ex → Env → World → Prop) (a : Act) (w : World), a.tmps.size = n → a.defers = [] →
    den P ann c Q (envOf a) w → c.wp P (lift n (writes c) (envOf a) Q) a w := by
  intro c
  induction c with
  | skip => intro _ Q a w h1 h2 h; exact wp_skip ⟨Kept.refl h1 h2, h⟩
  | region id ops d =>
    intro hc Q a w h1 h2 h
    simp only [chk, Bool.and_eq_true, Bool.or_eq_true, Bool.not_eq_true'] at hc
    have hmono : ∀ e a' w', after n (writesOps ops) (envOf a) (Q .nrm) e a' w' → lift n (writesOps ops) (envOf a) Q e a' w' := fun e a' w' h => by
      cases e <;> first | exact h | exact h.elim
    cases d with
    | false => exact Code.wp_mono hmono (wp_region (wpOps_of_denL hc.1 _ _ _ (Kept.refl h1 h2) h))
    | true =>
      have hc2 := hc.2.resolve_left (by simp)
      simp only [den] at h
      cases hal : note ann (id + 4000000) with
      | nil =>
        rw [hal] at hc2
        simp only [hal] at h
        split at h
        · rename_i hfl
          rw [hfl] at hc2
          exact Code.wp_mono hmono (wp_region_any hc2.1 (wpAny_region (S := fun _ _ => True) (fl := []) (dem := fun _ => []) hc.1 (sched_nil hc2.2) (Kept.refl h1 h2) (fun _ _ => trivial) (denLS_of_denL _ h)))
        · rename_i i fl hfl
          rw [hfl] at hc2
          obtain ⟨S, h⟩ := h
          obtain ⟨hS, h⟩ := DEM_iff.1 h
          exact Code.wp_mono hmono (wp_region_any hc2.1 (wpAny_region hc.1 hc2.2 (Kept.refl h1 h2) hS h))
      | cons c C =>
        rw [hal] at hc2
        simp only [hal] at h
        obtain ⟨S, h⟩ := h
        obtain ⟨hS, h⟩ := DEM_iff.1 h
        exact Code.wp_mono hmono (wp_region_any hc2.1 (wpAny_alts hc.1 hc2.2 (Kept.refl h1 h2) hS (denLS_mono _ (fun _ _ hh => CONJ_iff.1 hh) h)))
  | seq x y ihx ihy =>
    intro hc Q a w h1 h2 h
    simp only [chk, Bool.and_eq_true] at hc
    refine wp_seq (Code.wp_mono ?_ (ihx hc.1 _ a w h1 h2 h))
    intro e a' w' he
    cases e with
    | normal =>
      obtain ⟨hk, hd⟩ := he
      refine Code.wp_mono ?_ (ihy hc.2 Q a' w' hk.size hk.defers hd)
      intro e b w2 hb
      cases e with
      | normal => exact ⟨hk.trans hb.1, hb.2⟩
      | exit id => exact ⟨hk.trans hb.1, hb.2⟩
      | ret => exact ⟨hk.trans hb.1, hb.2⟩
      | _ => exact hb
    | exit id => exact ⟨he.1.wider fun i hi => List.mem_append_left _ hi, he.2⟩
    | ret => exact ⟨he.1.wider fun i hi => List.mem_append_left _ hi, he.2⟩
    | _ => exact he
  | cond t x y ihx ihy =>
    intro hc Q a w h1 h2 h
    simp only [chk, Bool.and_eq_true] at hc
    simp only [den] at h
    have hev : a.eval t = ev (envOf a) t := by rw [eval_envOf]
    generalize hv : ev (envOf a) t = v at h hev
    have hl : ∀ e b w2, lift n (writes x) (envOf a) Q e b w2 → lift n (writes (.cond t x y)) (envOf a) Q e b w2 := fun e b w2 hb => by
      cases e with
      | normal => exact ⟨hb.1.wider fun i hi => List.mem_append_left _ hi, hb.2⟩
      | exit id => exact ⟨hb.1.wider fun i hi => List.mem_append_left _ hi, hb.2⟩
      | ret => exact ⟨hb.1.wider fun i hi => List.mem_append_left _ hi, hb.2⟩
      | _ => exact hb
    have hr : ∀ e b w2, lift n (writes y) (envOf a) Q e b w2 → lift n (writes (.cond t x y)) (envOf a) Q e b w2 := fun e b w2 hb => by
      cases e with
      | normal => exact ⟨hb.1.wider fun i hi => List.mem_append_right _ hi, hb.2⟩
      | exit id => exact ⟨hb.1.wider fun i hi => List.mem_append_right _ hi, hb.2⟩
      | ret => exact ⟨hb.1.wider fun i hi => List.mem_append_right _ hi, hb.2⟩
      | _ => exact hb
    cases h with
    | yes hv h => subst hv; exact wp_cond_true hev (Code.wp_mono hl (ihx hc.1 Q a w h1 h2 h))
    | no hv h => subst hv; exact wp_cond_false hev (Code.wp_mono hr (ihy hc.2 Q a w h1 h2 h))
  | block id b ih =>
    intro hc Q a w h1 h2 h
    refine wp_block (Code.wp_mono ?_ (ih hc _ a w h1 h2 h))
    intro e a' w' he
    cases e with
    | normal => exact he
    | exit j =>
      obtain ⟨hk, hq⟩ := he
      simp only [Exit.inBlock]
      simp only [blockQ] at hq
      by_cases hj : j = id
      · subst hj
        simp at hq
        rw [if_pos rfl]
        exact ⟨hk, hq⟩
      · rw [beq_no hj] at hq
        rw [if_neg hj]
        exact ⟨hk, hq⟩
    | _ => exact he
  | loop b ih =>
    intro hc Q a w h1 h2 h
    simp only [den] at h
    obtain ⟨J, m, h0, hr⟩ := h
    generalize hL : note ann (firstReg b + 1000000) = L at J m h0 hr
    refine wp_loop (fun a' w' => Kept n (writes b) (envOf a) a' ∧ VF.ap L.length J (L.map (envOf a')) w') (fun a' w' => VM.ap L.length m (L.map (envOf a')) w') ⟨Kept.refl h1 h2, h0⟩ ?_
    rintro a' w' ⟨hk, hJ⟩
    have hall := hr (envOf a')
    rw [show AllN L.length = AllN (L.map (envOf a')).length by rw [List.length_map]] at hall
    have hx := AllN_spec (L.map (envOf a')) _ hall w' hJ
    rw [fill_self (envOf a') L (writes b) (envOf a) hk.same] at hx
    refine Code.wp_mono ?_ (ih hc _ a' w' hk.size hk.defers hx)
    intro e a2 w2 he
    have hw : ∀ i, i ∈ writes b ++ writes b → i ∈ writes b := fun i hi => (List.mem_append.1 hi).elim id id
    cases e with
    | normal => exact ⟨⟨(hk.trans he.1).wider hw, he.2.1⟩, he.2.2⟩
    | exit id => exact ⟨(hk.trans he.1).wider hw, he.2⟩
    | ret => exact ⟨(hk.trans he.1).wider hw, he.2⟩
    | _ => exact he
  | exit id => intro _ Q a w h1 h2 h; exact wp_exit ⟨Kept.refl h1 h2, h⟩
  | ret => intro _ Q a w h1 h2 h; exact wp_ret ⟨Kept.refl h1 h2, h⟩
  | rangeFunc f p x y _ _ => intro _ Q a w _ _ h; exact h.elim
  | scope b ih =>
    intro hc Q a w h1 h2 h
    refine wp_scope_straight (Code.wp_mono ?_ (ih hc Q a w h1 h2 h))
    intro e a' w' he
    cases e <;> exact he
  | label l => intro _ Q a w h1 h2 h; exact wp_label ⟨Kept.refl h1 h2, h⟩
  | goto l => intro _ Q a w _ _ h; exact h.elim
  | refuse s => intro _ Q a w _ _ h; exact h.elim

/-! ## A function -/
def tup : List Value → Value
  | [v] => v
  | vs => .tuple vs.toArray
def RESK (P : Program) : List ResultVar → List Value → (Value → World → Prop) → Env → World → Prop
  | [], acc, R, _, w => R (tup acc.reverse) w
  | .tmp t :: rs, acc, R, ρ, w => RESK P rs (ρ t :: acc) R ρ w
  | .cell a t :: rs, acc, R, ρ, w =>
    match aggT P t, sizeT P t with
    | some true, some n => BND (loadn n w (ρ a)) fun v => RESK P rs (v :: acc) R ρ w
    | some false, _ => BND (load1 w (ρ a)) fun v => RESK P rs (v :: acc) R ρ w
    | _, _ => False
def retQ (P : Program) (rs : List ResultVar) (R : Value → World → Prop) : Ex → Env → World → Prop
  | .nrm => RESK P rs [] R
  | .ret => RESK P rs [] R
  | .ext _ => fun _ _ => False
def env0 (args : List Value) : Env := fun i => args.getD i undef

def resOne (a : Act) : ResultVar → Sem Value
  | .tmp t => pure (a.tmps.getD t undef)
  | .cell x t => do loadVar t (← asAddr (a.tmps.getD x undef))
theorem RESK_spec {R : Value → World → Prop} {a : Act} {w : World} : ∀ (rs : List ResultVar) (acc : List Value), RESK P rs acc R (envOf a) w →
    ∃ vs : List Value, (rs.mapM (resOne a)).run P w = .ok vs w ∧ R (tup (acc.reverse ++ vs)) w
  | [], acc, h => ⟨[], by simp, by simpa [RESK] using h⟩
  | .tmp t :: rs, acc, h => by
    obtain ⟨vs, h1, h2⟩ := RESK_spec rs _ (show RESK P rs (envOf a t :: acc) R (envOf a) w from h)
    refine ⟨envOf a t :: vs, ?_, by simpa using h2⟩
    rw [List.mapM_cons, Sem.run_bind, show (resOne a (.tmp t)).run P w = .ok (envOf a t) w from rfl]
    simp only [Result.andThen_ok, Sem.run_bind, h1, Sem.run_pure]
  | .cell x t :: rs, acc, h => by
    have fin : ∀ v, (Instr.loadAt t (envOf a x)).run P w = .ok v w → RESK P rs (v :: acc) R (envOf a) w → ∃ vs : List Value, ((ResultVar.cell x t :: rs).mapM (resOne a)).run P w = .ok vs w ∧ R (tup (acc.reverse ++ vs)) w := fun v hv hk => by
      obtain ⟨vs, h1, h2⟩ := RESK_spec rs _ hk
      refine ⟨v :: vs, ?_, by simpa using h2⟩
      have hload : (do loadVar t (← asAddr (a.tmps.getD x undef)) : Sem Value).run P w = .ok v w := by
        have he : envOf a x = a.tmps.getD x undef := rfl
        rw [he] at hv
        unfold Instr.loadAt Instr.sureAddr at hv
        unfold asAddr
        cases hp : a.tmps.getD x undef <;> rw [hp] at hv <;> simp at hv ⊢
        rename_i o
        cases o <;> simp at hv ⊢
        exact hv
      rw [List.mapM_cons, Sem.run_bind]
      rw [show (resOne a (.cell x t)).run P w = .ok v w from hload]
      simp only [Result.andThen_ok, Sem.run_bind, h1, Sem.run_pure]
    simp only [RESK] at h
    split at h
    · rename_i n hg hn
      obtain ⟨v, hv, hk⟩ := BND_iff.1 h
      exact fin v (run_loadAtn hg hn hv) hk
    · rename_i hg
      obtain ⟨v, hv, hk⟩ := BND_iff.1 h
      exact fin v (run_loadAt1 hg hv) hk
    · exact h.elim

theorem results_of_RESK {R : Value → World → Prop} {a : Act} {w : World} {fn : Func} (h : RESK P fn.results.toList [] R (envOf a) w) :
    ∃ v, (results fn a.tmps).run P w = .ok v w ∧ R v w := by
  obtain ⟨vs, h1, h2⟩ := RESK_spec _ _ h
  refine ⟨tup vs, ?_, by simpa using h2⟩
  unfold results
  have hfun : ∀ g : ResultVar → Sem Value, (∀ x, g x = resOne a x) → fn.results.mapM g = fn.results.mapM (resOne a) := fun g hg => by rw [funext hg]
  rw [hfun _ (fun x => by cases x <;> rfl), Sem.run_bind, ← Array.toArray_toList (xs := fn.results), List.mapM_toArray, Sem.run_map]
  rw [h1]
  simp only [Result.andThen_ok, Sem.run_pure]
  congr 1
  unfold tup
  match vs with
  | [] => rfl
  | [v] => rfl
  | u :: v :: vs => rfl

theorem call_of_den {f : Nat} {fn : Func} {c : Code} (ann : List (Nat × List Nat)) {args : List Value} {w : World} {R : Value → World → Prop} (hf : P.funcs[f]? = some fn) (hb : fn.body = some c)
    (hc : chk P ann fn.ntmps c = true) (hn : args.length ≤ fn.ntmps) (h : den P ann c (retQ P fn.results.toList R) (env0 args) w) : CALL P f args w R := by
  refine ⟨calls_of_wp hf hb ?_⟩
  have henv : envOf { tmps := args.toArray ++ Array.replicate (fn.ntmps - args.toArray.size) undef, defers := [] } = env0 args := by
    funext i
    simp only [envOf, env0, Array.getD_eq_getD_getElem?, List.getD_eq_getElem?_getD]
    rw [Array.getElem?_append]
    split
    · rename_i hi; simp
    · rename_i hi
      have : args.length ≤ i := by simpa using hi
      rw [List.getElem?_eq_none this]
      simp only [Array.getElem?_replicate]
      split <;> rfl
  refine Code.wp_mono ?_ (den_sound (n := fn.ntmps) c hc _ _ w (by simp; omega) rfl (by rw [henv]; exact h))
  intro e a' w' he
  cases e with
  | normal =>
    obtain ⟨hk, hr⟩ := he
    obtain ⟨v, h1, h2⟩ := results_of_RESK (fn := fn) hr
    exact ⟨hk.defers, v, h1, v, rfl, h2⟩
  | ret =>
    obtain ⟨hk, hr⟩ := he
    obtain ⟨v, h1, h2⟩ := results_of_RESK (fn := fn) hr
    exact ⟨hk.defers, v, h1, v, rfl, h2⟩
  | exit id => exact he.2.elim
  | _ => exact he.elim
def bodyOf (fn : Func) : Code := fn.body.getD .skip
theorem call_of_den2 {f : Nat} {fn : Func} (ann : List (Nat × List Nat)) {args : List Value} {w : World} {R : Value → World → Prop} (hf : P.funcs[f]? = some fn) (hb : fn.body.isSome = true)
    (hc : chk P ann fn.ntmps (bodyOf fn) = true) (hn : Nat.ble args.length fn.ntmps = true) (h : den P ann (bodyOf fn) (retQ P fn.results.toList R) (env0 args) w) : CALL P f args w R := by
  have hb2 : fn.body = some (bodyOf fn) := by
    unfold bodyOf
    cases hh : fn.body with
    | none => simp [hh] at hb
    | some c => rfl
  exact call_of_den ann hf hb2 hc (Nat.le_of_ble_eq_true hn) h
end
end Go.Den
