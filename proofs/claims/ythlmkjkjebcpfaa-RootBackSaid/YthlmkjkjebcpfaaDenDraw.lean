/- A region whose order Go leaves open: one order that 'den' reads in stands for all of them. No condition. -/
import Derived.Test.YthlmkjkjebcpfaaDenSound
namespace Go.Den

def ocls (P : Program) (o : Oper) : Nat := clsOf (opSem P (fun _ => undef) o.op)

section
variable {P : Program} {ops : Array Oper}

theorem partsOf_same {pl : Nat → Option (Nat × Nat)} {f g : Operand → Value} : ∀ l : List (Nat × Operand), (partsOf pl f l).isSome = (partsOf pl g l).isSome
  | [] => rfl
  | (i, x) :: l => by
    have := partsOf_same (pl := pl) (f := f) (g := g) l
    simp only [partsOf]
    cases pl i <;> cases hf : partsOf pl f l <;> cases hg : partsOf pl g l <;> simp_all
theorem partsOf_congr {pl : Nat → Option (Nat × Nat)} {f g : Operand → Value} : ∀ l : List (Nat × Operand), (∀ x ∈ l.map (·.2), f x = g x) → partsOf pl f l = partsOf pl g l
  | [], _ => rfl
  | (i, x) :: l, h => by
    simp only [partsOf, partsOf_congr l (fun y hy => h y (by simp at hy ⊢; exact .inr hy)), h x (by simp)]

theorem semBuiltin_cls (f g : Operand → Value) (b : Builtin) (args : List Operand) (tys : List TypeId) : clsOf (semBuiltin P f b args tys) = clsOf (semBuiltin P g b args tys) := by
  unfold semBuiltin
  split
  · split <;> rfl
  · split <;> rfl
  · split
    · split
      · split
        · split <;> rfl
        · rfl
      · rfl
    · rfl
  · split
    · split <;> rfl
    · rfl
  · split
    · split <;> rfl
    · rfl
  · rfl
  · rfl
  · rfl
  · rfl
theorem opSem_cls (f g : Operand → Value) (op : Op) : clsOf (opSem P f op) = clsOf (opSem P g op) := by
  cases op
  case build t parts =>
    have := partsOf_same (pl := placeOf P t) (f := f) (g := g) parts.toList
    simp only [opSem]
    cases zeroOf P t <;> cases placesAll P t <;> cases hf : partsOf (placeOf P t) f parts.toList <;> cases hg : partsOf (placeOf P t) g parts.toList <;> simp_all [clsOf]
  case buildSlice t len parts =>
    simp only [opSem]
    split
    · split
      · rename_i i _
        have := partsOf_same (pl := fun j => some (j * i.size, i.size)) (f := f) (g := g) parts.toList
        cases i.zero <;> cases hf : partsOf (fun j => some (j * i.size, i.size)) f parts.toList <;> cases hg : partsOf (fun j => some (j * i.size, i.size)) g parts.toList <;> simp_all [clsOf]
        by_cases hl : len * i.size ≤ 16777216 <;> simp [hl, OpSem.bad]
      · rfl
    · rfl
  case call c =>
    simp only [opSem, semCall]
    split
    · exact semBuiltin_cls _ _ _ _ _
    · split <;> rfl
    · rfl
    · rfl
  case slice t x lo hi mx =>
    cases mx
    · simp only [opSem]
      repeat (first | rfl | split)
    · cases hi
      · rfl
      · simp only [opSem]
        repeat (first | rfl | split)
  case makeMap t r => cases r <;> rfl
  case next it b => cases b <;> rfl
  case binOp op t x y u => cases op <;> simp only [opSem] <;> (first | rfl | (split <;> first | rfl | (split <;> rfl)))
  all_goals (simp only [opSem]; repeat (first | rfl | split))

theorem semBuiltin_congr {f g : Operand → Value} {args : List Operand} (h : ∀ x ∈ args, f x = g x) (b : Builtin) (tys : List TypeId) : semBuiltin P f b args tys = semBuiltin P g b args tys := by
  unfold semBuiltin
  split
  · rename_i x t; simp only [h x (by simp)]
  · rename_i x t; simp only [h x (by simp)]
  · rename_i x y t u; simp only [h x (by simp), h y (by simp)]
  · rename_i x y t u; simp only [h x (by simp), h y (by simp)]
  · rename_i x t; simp only [h x (by simp)]
  · rename_i x y; simp only [h x (by simp), h y (by simp)]
  · rename_i x y; simp only [h x (by simp), h y (by simp)]
  · rename_i x y z u; simp only [h x (by simp), h y (by simp), h z (by simp), h u (by simp)]
  · rfl
theorem opSem_congr {f g : Operand → Value} (op : Op) (h : ∀ x ∈ op.operands, f x = g x) : opSem P f op = opSem P g op := by
  have lst : ∀ xs : Array Operand, (∀ x ∈ xs, f x = g x) → xs.toList.map f = xs.toList.map g := fun xs hx => List.map_congr_left fun x hm => hx x (Array.mem_toList_iff.1 hm)
  cases op
  case build t parts =>
    have : partsOf (placeOf P t) f parts.toList = partsOf (placeOf P t) g parts.toList := partsOf_congr _ fun x hx => h x (by simpa [Op.operands] using hx)
    simp only [opSem, this]
  case buildSlice t len parts =>
    have : ∀ pl, partsOf pl f parts.toList = partsOf pl g parts.toList := fun pl => partsOf_congr _ fun x hx => h x (by simpa [Op.operands] using hx)
    simp only [opSem, this]
  case makeFunc fn first captured =>
    simp only [opSem, lst first (fun x hx => h x (by simp [Op.operands, hx])), lst captured (fun x hx => h x (by simp [Op.operands, hx]))]
  case call c =>
    obtain ⟨callee, args, tys⟩ := c
    have ha : ∀ x ∈ args, f x = g x := fun x hx => h x (by simp [Op.operands, Call.operands, hx])
    simp only [opSem, semCall, lst args ha]
    cases callee with
    | builtin b => exact semBuiltin_congr (fun x hx => ha x (Array.mem_toList_iff.1 hx)) b _
    | invoke r m => rfl
    | value fv =>
      have hv : f fv = g fv := h fv (by simp [Op.operands, Call.operands])
      cases fv <;> simp only [hv]
  case slice t x lo hi mx =>
    have hx : f x = g x := h x (by simp [Op.operands])
    have hl : lo.map f = lo.map g := by cases lo with
      | none => rfl
      | some y => simp [h y (by simp [Op.operands])]
    have hh : hi.map f = hi.map g := by cases hi with
      | none => rfl
      | some y => simp [h y (by simp [Op.operands])]
    cases mx with
    | none => simp only [opSem, hx, hl, hh]
    | some m =>
      have hm : f m = g m := h m (by simp [Op.operands])
      cases hi with
      | none => rfl
      | some y =>
        have hy : f y = g y := h y (by simp [Op.operands])
        simp only [opSem, hx, hl, hy, hm]
  case mapEntry t x y => simp only [opSem, h x (by simp [Op.operands]), h y (by simp [Op.operands])]
  case entryStore t x y z => simp only [opSem, h x (by simp [Op.operands]), h y (by simp [Op.operands]), h z (by simp [Op.operands])]
  case makeMap t r => cases r <;> rfl
  case next it b => cases b with
    | true => simp only [opSem, h it (by simp [Op.operands])]
    | false => simp only [opSem, h it (by simp [Op.operands])]
  case entry x => simp only [opSem, h x (by simp [Op.operands])]
  case makeSlice t x y => simp only [opSem, h x (by simp [Op.operands]), h y (by simp [Op.operands])]
  case range t x => simp only [opSem, h x (by simp [Op.operands])]
  case move x => simp only [opSem, h x (by simp [Op.operands])]
  case assign x => simp only [opSem, h x (by simp [Op.operands])]
  case pick c a b => simp only [opSem, h c (by simp [Op.operands]), h a (by simp [Op.operands]), h b (by simp [Op.operands])]
  case box t x => simp only [opSem, h x (by simp [Op.operands])]
  case load t x => simp only [opSem, h x (by simp [Op.operands])]
  case store t x y => simp only [opSem, h x (by simp [Op.operands]), h y (by simp [Op.operands])]
  case nilCheck x => simp only [opSem, h x (by simp [Op.operands])]
  case binOp op t x y u => simp only [opSem, h x (by simp [Op.operands]), h y (by simp [Op.operands])]
  case unOp op t x => simp only [opSem, h x (by simp [Op.operands])]
  case convert t u x => simp only [opSem, h x (by simp [Op.operands])]
  case makeInterface t x => simp only [opSem, h x (by simp [Op.operands])]
  case fieldAddr t x i => simp only [opSem, h x (by simp [Op.operands])]
  case field t x i => simp only [opSem, h x (by simp [Op.operands])]
  case indexAddr t x y => simp only [opSem, h x (by simp [Op.operands]), h y (by simp [Op.operands])]
  case index t x y => simp only [opSem, h x (by simp [Op.operands]), h y (by simp [Op.operands])]
  case lookup t x y ok => simp only [opSem, h x (by simp [Op.operands]), h y (by simp [Op.operands])]
  case mapUpdate t m x y => simp only [opSem, h m (by simp [Op.operands]), h x (by simp [Op.operands]), h y (by simp [Op.operands])]
  case extract t i => simp only [opSem, h t (by simp [Op.operands])]
  all_goals rfl

theorem upd_other {ρ : Env} {d i : Nat} {v : Value} (h : i ≠ d) : upd ρ d v i = ρ i := by
  simp [upd, beq_no h]
theorem osem_upd {ρ : Env} {d : Option Nat} {v : Value} {o : Oper} (h : ∀ t, d = some t → t ∉ o.looksAt ops) : osem P ops (updO ρ d v) o = osem P ops ρ o := by
  cases d with
  | none => rfl
  | some t =>
    have ht := h t rfl
    have h1 : opSem P (ev (updO ρ (some t) v)) o.op = opSem P (ev ρ) o.op := by
      refine opSem_congr _ fun x hx => ?_
      cases x with
      | tmp u =>
        have hne : u ≠ t := fun e => ht (by
          subst e
          exact List.mem_append_left _ (List.mem_filterMap.2 ⟨.tmp u, by simpa using hx, rfl⟩))
        exact upd_other hne
      | _ => rfl
    have h2 : ∀ j want, o.guard = some (j, want) → gval ops (updO ρ (some t) v) j want = gval ops ρ j want := fun j want hg => by
      unfold gval slotOf
      cases hs : (ops[j]?).bind (·.dst) with
      | none => rfl
      | some u =>
        have hne : u ≠ t := fun e => ht (by
          subst e
          exact List.mem_append_right _ (by simp [hg, hs]))
        simp only [updO, upd_other hne]
    unfold osem
    split
    · exact h1
    · rename_i j want hg; rw [h1, h2 j want hg]
theorem upd_comm {ρ : Env} {x y : Option Nat} {v u : Value} (h : ∀ d, x = some d → y ≠ some d) : updO (updO ρ x v) y u = updO (updO ρ y u) x v := by
  cases x with
  | none => rfl
  | some d =>
    cases y with
    | none => rfl
    | some e =>
      have hne : d ≠ e := fun he => h d rfl (he ▸ rfl)
      funext i
      simp only [updO, upd]
      by_cases h1 : i = d
      · subst h1; simp [beq_no hne]
      · simp [beq_no h1]

theorem osem_cls (ρ : Env) (o : Oper) : clsOf (osem P ops ρ o) = ocls P o := by
  have : ∀ c s, clsOf (gsem c s) = clsOf s := fun c s => by cases s <;> rfl
  unfold osem ocls
  split
  · exact opSem_cls _ _ _
  · rw [this]; exact opSem_cls _ _ _

def fcls (P : Program) (fl : List Nat) (i : Nat) (o : Oper) : Nat := bif fl.contains i && ocls P o == 1 then 0 else ocls P o
theorem denL_swap {S : Nat → World → Prop} {fl : List Nat} {dem : Nat → List Nat} {i j : Nat} {oi oj : Oper} {is : List Nat} {Q : Env → World → Prop} {ρ : Env} {w : World} (hi : ops[i]? = some oi) (hj : ops[j]? = some oj) (hap : oi.apart ops oj = true)
    (hc : fcls P fl i oi = 0 ∨ (fcls P fl i oi = 1 ∧ fcls P fl j oj ≤ 1)) (h : denLS P ops S fl dem (i :: j :: is) Q ρ w) : denLS P ops S fl dem (j :: i :: is) Q ρ w := by
  obtain ⟨h1, h2, h3⟩ := Oper.apart_spec hap
  simp only [denLS, hi, hj] at *
  have eij : ∀ v, osem P ops (updO ρ oi.dst v) oj = osem P ops ρ oj := fun v => osem_upd h1
  have eji : ∀ v, osem P ops (updO ρ oj.dst v) oi = osem P ops ρ oi := fun v => osem_upd h3
  have hm := osem_mono (P := P) (ops := ops) ρ oj
  have c1 := osem_cls (P := P) (ops := ops) ρ oi
  have c2 := osem_cls (P := P) (ops := ops) ρ oj
  simp only [eij] at h
  simp only [eji]
  have hcomm : ∀ v u, updO (updO ρ oi.dst v) oj.dst u = updO (updO ρ oj.dst u) oi.dst v := fun v u => upd_comm h2
  simp only [hcomm] at h
  unfold fcls at hc
  rw [← c1, ← c2] at hc
  clear c1 c2 eij eji hcomm h1 h2 h3
  generalize osem P ops ρ oi = si at *
  generalize osem P ops ρ oj = sj at *
  generalize fl.contains i = fi at *
  generalize fl.contains j = fj at *
  generalize dem i = di at *
  generalize dem j = dj at *
  cases si with
  | val v => exact semKS_mono hm (fun u w' hh => hh) h
  | pure ov =>
    obtain ⟨v, hv, h⟩ := BND_iff.1 h
    refine semKS_mono hm (fun u w' hh => ?_) h
    exact BND_iff.2 ⟨v, hv, hh⟩
  | read f =>
    cases fi with
    | true =>
      obtain ⟨v, hv, h⟩ := h
      exact semKS_mono hm (fun u w' hh => ⟨v, hv, hh⟩) h
    | false =>
      obtain ⟨v, hv, h⟩ := BND_iff.1 h
      simp [clsOf] at hc
      cases sj with
      | val u => exact BND_iff.2 ⟨v, hv, h⟩
      | pure ou =>
        obtain ⟨u, hu, h⟩ := BND_iff.1 h
        exact BND_iff.2 ⟨u, hu, BND_iff.2 ⟨v, hv, h⟩⟩
      | read g =>
        cases fj with
        | true =>
          obtain ⟨u, hu, h⟩ := h
          exact ⟨u, hu, BND_iff.2 ⟨v, hv, h⟩⟩
        | false =>
          obtain ⟨u, hu, h⟩ := BND_iff.1 h
          exact BND_iff.2 ⟨u, hu, BND_iff.2 ⟨v, hv, h⟩⟩
      | eff g => simp at hc
  | eff f => simp [clsOf] at hc

def swapOk (P : Program) (ops : Array Oper) (fl : List Nat) (i j : Nat) : Bool :=
  match ops[i]?, ops[j]? with
  | some oi, some oj => oi.apart ops oj && (fcls P fl i oi == 0 || (fcls P fl i oi == 1 && decide (fcls P fl j oj ≤ 1)))
  | _, _ => false
theorem denL_swapOk {S : Nat → World → Prop} {fl : List Nat} {dem : Nat → List Nat} {i j : Nat} {is : List Nat} {Q : Env → World → Prop} {ρ : Env} {w : World} (hs : swapOk P ops fl i j = true) (h : denLS P ops S fl dem (i :: j :: is) Q ρ w) :
    denLS P ops S fl dem (j :: i :: is) Q ρ w := by
  unfold swapOk at hs
  split at hs
  · rename_i oi oj hi hj
    simp only [Bool.and_eq_true, Bool.or_eq_true, beq_iff_eq, decide_eq_true_eq] at hs
    exact denL_swap hi hj hs.1 hs.2 h
  · simp at hs
theorem denL_front {S : Nat → World → Prop} {fl : List Nat} {dem : Nat → List Nat} {i : Nat} {post : List Nat} {Q : Env → World → Prop} : ∀ (pre : List Nat), (∀ p ∈ pre, swapOk P ops fl p i = true) → ∀ {ρ : Env} {w : World},
    denLS P ops S fl dem (pre ++ i :: post) Q ρ w → denLS P ops S fl dem (i :: (pre ++ post)) Q ρ w
  | [], _, _, _, h => h
  | p :: pre, hp, ρ, w, h => by
    refine denL_swapOk (hp p (by simp)) ?_
    simp only [List.cons_append, denLS] at h ⊢
    cases ho : ops[p]? with
    | none => simp [ho] at h
    | some o =>
      simp only [ho] at h ⊢
      refine semKS_mono (osem_mono ρ o) (fun v w' hh => ?_) h
      have := denL_front pre (fun q hq => hp q (by simp [hq])) hh
      exact this

/-! ## What must stand ahead -/
theorem foldl_bits (acc : Array Nat) (p : Nat) : ∀ (es : List Edge) (s : Nat),
    (es.foldl (fun s e => if Region.binds .any e then s ||| 2 ^ e.on ||| acc.getD e.on 0 else s) s).testBit p = true →
    s.testBit p = true ∨ ∃ e ∈ es, Region.binds .any e = true ∧ (e.on = p ∨ (acc.getD e.on 0).testBit p = true)
  | [], s, h => .inl h
  | e :: es, s, h => by
    rcases foldl_bits acc p es _ h with h | ⟨e', he', hh⟩
    · simp only at h
      split at h
      · rename_i hb
        simp only [Nat.testBit_or, Bool.or_eq_true] at h
        rcases h with (h | h) | h
        · exact .inl h
        · rw [Nat.testBit_two_pow] at h
          exact .inr ⟨e, by simp, hb, .inl (by simpa using h)⟩
        · exact .inr ⟨e, by simp, hb, .inr h⟩
      · exact .inl h
    · exact .inr ⟨e', by simp [he'], hh⟩
def bef (l : List Oper) : Array Nat :=
  l.foldl (fun acc o => acc.push (o.after.foldl (fun s e => if Region.binds .any e then s ||| 2 ^ e.on ||| acc.getD e.on 0 else s) 0)) #[]
theorem bef_snoc (l : List Oper) (o : Oper) : bef (l ++ [o]) = (bef l).push (o.after.foldl (fun s e => if Region.binds .any e then s ||| 2 ^ e.on ||| (bef l).getD e.on 0 else s) 0) := by
  simp [bef, List.foldl_append]
theorem bef_size : ∀ n (l : List Oper), l.length = n → (bef l).size = n := by
  intro n
  induction n with
  | zero => intro l h; have := List.length_eq_zero_iff.1 h; subst this; rfl
  | succ n ih =>
    intro l h
    have hne : l ≠ [] := by intro e; subst e; simp at h
    rw [← List.dropLast_concat_getLast hne, bef_snoc, Array.size_push, ih _ (by simp [h])]
theorem bef_spec : ∀ n (l : List Oper), l.length = n → ∀ i p, ((bef l).getD i 0).testBit p = true →
    ∃ o, l[i]? = some o ∧ ∃ e ∈ o.after.toList, Region.binds .any e = true ∧ (e.on = p ∨ (e.on < i ∧ ((bef l).getD e.on 0).testBit p = true)) := by
  intro n
  induction n with
  | zero => intro l h i p hb; have := List.length_eq_zero_iff.1 h; subst this; simp [bef] at hb
  | succ n ih =>
    intro l h i p hb
    have hne : l ≠ [] := by intro e; subst e; simp at h
    obtain ⟨l', o, rfl⟩ : ∃ l' o, l = l' ++ [o] := ⟨_, _, (List.dropLast_concat_getLast hne).symm⟩
    have hl : l'.length = n := by simpa using h
    have hs := bef_size n l' hl
    rw [bef_snoc] at hb ⊢
    have old : ∀ j (x : Nat), j < n → ((bef l').push x).getD j 0 = (bef l').getD j 0 := fun j x hj => by
      simp [Array.getD_eq_getD_getElem?, Array.getElem?_push, hs, Nat.ne_of_lt hj]
    by_cases hi : i < n
    · rw [old i _ hi] at hb
      obtain ⟨o', ho', e, he, hbi, hor⟩ := ih l' hl i p hb
      refine ⟨o', by rw [List.getElem?_append_left (by omega)]; exact ho', e, he, hbi, ?_⟩
      rcases hor with hor | ⟨hlt, hor⟩
      · exact .inl hor
      · exact .inr ⟨hlt, by rw [old _ _ (by omega)]; exact hor⟩
    · by_cases hin : i = n
      · subst hin
        refine ⟨o, by simp [← hl], ?_⟩
        have hget : ((bef l').push (o.after.foldl (fun s e => if Region.binds .any e then s ||| 2 ^ e.on ||| (bef l').getD e.on 0 else s) 0)).getD i 0 =
            o.after.foldl (fun s e => if Region.binds .any e then s ||| 2 ^ e.on ||| (bef l').getD e.on 0 else s) 0 := by
          rw [Array.getD_eq_getD_getElem?, Array.getElem?_push, if_pos hs.symm]; rfl
        rw [hget, ← Array.foldl_toList] at hb
        rcases foldl_bits _ p _ 0 hb with h0 | ⟨e, he, hbi, hor⟩
        · simp at h0
        · refine ⟨e, he, hbi, ?_⟩
          rcases hor with hor | hor
          · exact .inl hor
          · have hlt : e.on < i := by
              rcases Nat.lt_or_ge e.on i with h' | h'
              · exact h'
              · simp [Array.getD_eq_getD_getElem?, Array.getElem?_eq_none (show (bef l').size ≤ e.on by omega)] at hor
            exact .inr ⟨hlt, by rw [old _ _ hlt]; exact hor⟩
      · simp [Array.getD_eq_getD_getElem?, Array.getElem?_push, hs, hin, Array.getElem?_eq_none (show (bef l').size ≤ i by omega)] at hb

def edgeTo (ops : Array Oper) (i j : Nat) : Bool :=
  match ops[i]? with
  | some o => o.after.toList.any fun e => Region.binds .any e && e.on == j
  | none => false
def pairOk (P : Program) (ops : Array Oper) (fl : List Nat) (B : Array Nat) (i j : Nat) : Bool := !edgeTo ops i j && ((B.getD j 0).testBit i || swapOk P ops fl i j)
def pairsOk (P : Program) (ops : Array Oper) (fl : List Nat) (B : Array Nat) : List Nat → Bool
  | [] => true
  | i :: is => is.all (pairOk P ops fl B i) && pairsOk P ops fl B is
def edgesIn (ops : Array Oper) : Bool := (List.range ops.size).all fun i =>
  match ops[i]? with
  | some o => o.after.toList.all fun e => !Region.binds .any e || (decide (e.on < ops.size) && !(e.on == i))
  | none => true
def isRead (P : Program) (ops : Array Oper) (i : Nat) : Bool :=
  match ops[i]? with
  | some o => ocls P o == 1
  | none => false
def isEff (P : Program) (ops : Array Oper) (i : Nat) : Bool :=
  match ops[i]? with
  | some o => ocls P o == 2
  | none => false
/-- a write is asked the kinds of all floating reads that don't stand ahead of it. -/
def demOk (P : Program) (ops : Array Oper) (fl : List Nat) (dem : Nat → List Nat) (B : Array Nat) : Bool :=
  (List.range ops.size).all fun j => !isEff P ops j || fl.all fun i => !isRead P ops i || (B.getD j 0).testBit i || (dem j).contains i
def schedOk (P : Program) (ops : Array Oper) (fl : List Nat) (dem : Nat → List Nat) (l : List Nat) : Bool :=
  l.length == ops.size && (List.range ops.size).all (fun i => l.contains i) && decide l.Nodup && l.all (fun i => decide (i < ops.size)) && edgesIn ops && pairsOk P ops fl (bef ops.toList) l && demOk P ops fl dem (bef ops.toList)

theorem sched_nil {dem dem' : Nat → List Nat} {l : List Nat} (h : schedOk P ops [] dem l = true) : schedOk P ops [] dem' l = true := by
  unfold schedOk demOk at *
  simpa using h
theorem pairsOk_pairwise {fl : List Nat} {B : Array Nat} : ∀ {l : List Nat}, pairsOk P ops fl B l = true → l.Pairwise fun i j => pairOk P ops fl B i j = true
  | [], _ => .nil
  | i :: is, h => by
    simp only [pairsOk, Bool.and_eq_true, List.all_eq_true] at h
    exact .cons h.1 (pairsOk_pairwise h.2)

def Closed (ops : Array Oper) (listed : Array Bool) : Prop :=
  ∀ i o, ops[i]? = some o → listed.getD i false = true → ∀ e ∈ o.after.toList, Region.binds .any e = true → listed.getD e.on false = true
theorem reach_listed {listed : Array Bool} (hc : Closed ops listed) (p : Nat) : ∀ n i, i < n → ((bef ops.toList).getD i 0).testBit p = true →
    (∀ o, ops[i]? = some o → ∀ e ∈ o.after.toList, Region.binds .any e = true → listed.getD e.on false = true) → listed.getD p false = true := by
  intro n
  induction n with
  | zero => intro i h; omega
  | succ n ih =>
    intro i hi hb hdir
    obtain ⟨o, ho, e, he, hbi, hor⟩ := bef_spec _ ops.toList rfl i p hb
    have ho' : ops[i]? = some o := by simpa using ho
    have hl := hdir o ho' e he hbi
    rcases hor with rfl | ⟨hlt, hor⟩
    · exact hl
    · exact ih e.on (by omega) hor fun o2 h2 e2 he2 hb2 => hc e.on o2 h2 hl e2 he2 hb2

theorem wpAny_of_denL {S : Nat → World → Prop} {fl : List Nat} {dem : Nat → List Nat} {n : Nat} {ρ0 : Env} {Q : Env → World → Prop} (hd : dstsOk n ops = true) (hin : edgesIn ops = true) (hfr : demOk P ops fl dem (bef ops.toList) = true) : ∀ (fuel : Nat) (l : List Nat) (listed : Array Bool) (a : Act) (w : World),
    l.length ≤ fuel → l.Nodup → (∀ i, i ∈ l ↔ i < ops.size ∧ listed.getD i true = false) → listed.size = ops.size → Closed ops listed →
    (l.Pairwise fun i j => pairOk P ops fl (bef ops.toList) i j = true) → Kept n (writesOps ops) ρ0 a → (∀ i ∈ l, fl.contains i = true → isRead P ops i = true → S i w) → denLS P ops S fl dem l Q (envOf a) w →
    wpAny P .any ops (after n (writesOps ops) ρ0 Q) fuel listed a w := by
  have ready_spec : ∀ (l : List Nat) (listed : Array Bool), (∀ i, i ∈ l ↔ i < ops.size ∧ listed.getD i true = false) → listed.size = ops.size →
      (l.Pairwise fun i j => pairOk P ops fl (bef ops.toList) i j = true) → ∀ h t, l = h :: t → h ∈ Region.ready .any ops listed := by
    intro l listed hmem hsz hp h t hl
    subst hl
    obtain ⟨hlt, hun⟩ := (hmem h).1 (by simp)
    refine mem_ready.2 ⟨hun, ops[h], Array.getElem?_eq_getElem hlt, fun e he hb => ?_⟩
    have hi := List.all_eq_true.1 hin h (List.mem_range.2 hlt)
    rw [Array.getElem?_eq_getElem hlt] at hi
    have hi2 := List.all_eq_true.1 hi e (Array.mem_toList_iff.2 he)
    simp only [hb, Bool.not_true, Bool.false_or, Bool.and_eq_true, decide_eq_true_eq, Bool.not_eq_true', beq_eq_false_iff_ne] at hi2
    have hnot : e.on ∉ t := fun ht => by
      have := (List.pairwise_cons.1 hp).1 e.on ht
      simp only [pairOk, Bool.and_eq_true, Bool.not_eq_true'] at this
      have h0 := this.1
      unfold edgeTo at h0
      rw [Array.getElem?_eq_getElem hlt] at h0
      have : (ops[h].after.toList.any fun e' => Region.binds .any e' && e'.on == e.on) = true :=
        List.any_eq_true.2 ⟨e, Array.mem_toList_iff.2 he, by simp [hb]⟩
      simp only [this] at h0
      cases h0
    have hnl : e.on ∉ h :: t := by simp [hi2.2, hnot]
    have : ¬ (e.on < ops.size ∧ listed.getD e.on true = false) := fun hh => hnl ((hmem _).2 hh)
    have hlt2 : e.on < listed.size := by rw [hsz]; exact hi2.1
    cases hv : listed.getD e.on true with
    | false => exact absurd ⟨hi2.1, hv⟩ this
    | true =>
      simp [Array.getD_eq_getD_getElem?, hlt2] at hv ⊢
      exact hv
  intro fuel
  induction fuel with
  | zero =>
    intro l listed a w hlen _ hmem hsz _ hp hk hSw h
    have : l = [] := List.length_eq_zero_iff.1 (by omega)
    subst this
    refine ⟨?_, hk, h⟩
    refine List.eq_nil_iff_forall_not_mem.2 fun i hi => ?_
    obtain ⟨hun, o, ho, _⟩ := mem_ready.1 hi
    exact absurd ((hmem i).2 ⟨(Array.getElem?_eq_some_iff.1 ho).1, hun⟩) (by simp)
  | succ fuel ih =>
    intro l listed a w hlen hnd hmem hsz hcl hp hk hSw h
    refine ⟨fun hnil => ?_, fun i hi => ?_⟩
    · cases l with
      | nil => exact ⟨hk, h⟩
      | cons x t =>
        have := ready_spec _ listed hmem hsz hp x t rfl
        rw [hnil] at this
        cases this
    · obtain ⟨hun, o, ho, hall⟩ := mem_ready.1 hi
      have hlt : i < ops.size := (Array.getElem?_eq_some_iff.1 ho).1
      have hil : i ∈ l := (hmem i).2 ⟨hlt, hun⟩
      obtain ⟨pre, post, rfl⟩ := List.append_of_mem hil
      have hsw : ∀ p ∈ pre, swapOk P ops fl p i = true := fun p hpp => by
        have h1 := (List.pairwise_append.1 hp).2.2 p hpp i (by simp)
        simp only [pairOk, Bool.and_eq_true, Bool.or_eq_true] at h1
        rcases h1.2 with hr | hs
        · have hpl := reach_listed hcl p (i + 1) i (by omega) hr (fun o2 h2 e he hb => by
            rw [ho] at h2; cases h2
            exact hall e (Array.mem_toList_iff.1 he) hb)
          obtain ⟨hplt, hpun⟩ := (hmem p).1 (by simp [hpp])
          have hplt2 : p < listed.size := by omega
          simp [Array.getD_eq_getD_getElem?, hplt2] at hpl hpun
          rw [hpl] at hpun
          cases hpun
        · exact hs
      have h2 := denL_front pre hsw h
      simp only [denLS, ho] at h2
      have hcls := osem_cls (P := P) (ops := ops) (envOf a) o
      refine wpOp_of_sem ho (fun v w' hv => ?_) (semKS_sem (osem_mono _ o) (fun hf hc => hSw i hil hf (by unfold isRead; rw [ho]; simp [← hcls, hc])) h2)
      have hnd2 : (pre ++ post).Nodup := hnd.sublist (List.Sublist.append_left (List.sublist_cons_self i post) pre)
      have hni : i ∉ pre ++ post := by
        have := (List.nodup_append.1 hnd)
        intro hmem'
        rcases List.mem_append.1 hmem' with h' | h'
        · exact this.2.2 i h' i (by simp) rfl
        · exact (List.nodup_cons.1 this.2.1).1 h'
      refine ih (pre ++ post) _ _ _ (by simp at hlen ⊢; omega) hnd2 (fun j => ?_) (by simp [hsz]) (fun j oj hj hjl e he hb => ?_)
        (hp.sublist (List.Sublist.append_left (List.sublist_cons_self i post) pre)) (hk.put ho hd v) (fun p hp hf hr => ?_) ?_
      · by_cases hji : i = j
        · subst hji
          have hlt2 : i < listed.size := by omega
          constructor
          · intro hh; exact absurd hh hni
          · rintro ⟨_, hh⟩; simp [hlt2] at hh
        · rw [getD_set_ne true hji]
          have := hmem j
          simp only [List.mem_append, List.mem_cons] at this ⊢
          constructor
          · intro hh; exact this.1 (hh.elim .inl (fun h => .inr (.inr h)))
          · intro hh
            rcases this.2 hh with h' | h' | h'
            · exact .inl h'
            · exact absurd h'.symm hji
            · exact .inr h'
      · by_cases hji : i = j
        · subst hji
          rw [ho] at hj; cases hj
          exact getD_set_true (hall e (Array.mem_toList_iff.1 he) hb)
        · rw [getD_set_ne false hji] at hjl
          exact getD_set_true (hcl j oj hj hjl e he hb)
      · have hpl : p ∈ pre ++ i :: post := by
          rcases List.mem_append.1 hp with h' | h'
          · exact List.mem_append_left _ h'
          · exact List.mem_append_right _ (List.mem_cons_of_mem _ h')
        by_cases hc2 : clsOf (osem P ops (envOf a) o) = 2
        · have hie : isEff P ops i = true := by unfold isEff; rw [ho]; simp [← hcls, hc2]
          have h3 := List.all_eq_true.1 hfr i (List.mem_range.2 hlt)
          simp only [hie, Bool.not_true, Bool.false_or] at h3
          have h4 := List.all_eq_true.1 h3 p (by simpa using hf)
          simp only [hr, Bool.not_true, Bool.false_or, Bool.or_eq_true] at h4
          rcases h4 with h4 | h4
          · -- i stands behind p: p is done
            have hpd := reach_listed hcl p (i + 1) i (by omega) h4 (fun o2 h2 e he hb => by
              rw [ho] at h2; cases h2
              exact hall e (Array.mem_toList_iff.1 he) hb)
            obtain ⟨hplt, hpun⟩ := (hmem p).1 hpl
            have hplt2 : p < listed.size := by omega
            simp [Array.getD_eq_getD_getElem?, hplt2] at hpd hpun
            rw [hpd] at hpun
            cases hpun
          · exact hv.1.2 hc2 p (by simpa using h4)
        · rw [hv.1.1 hc2]; exact hSw p hpl hf hr
      · rw [envOf_put a o.dst v (fun t ht => hk.size ▸ dstsOk_spec hd ho t ht)]
        exact hv.2

theorem wpAny_region {S : Nat → World → Prop} {fl : List Nat} {dem : Nat → List Nat} {n : Nat} {ρ0 : Env} {Q : Env → World → Prop} (hd : dstsOk n ops = true) {l : List Nat} (hs : schedOk P ops fl dem l = true) {a : Act} {w : World} (hk : Kept n (writesOps ops) ρ0 a)
    (hSw : ∀ i ∈ fl, S i w) (h : denLS P ops S fl dem l Q (envOf a) w) : wpAny P .any ops (after n (writesOps ops) ρ0 Q) ops.size (Array.replicate ops.size false) a w := by
  simp only [schedOk, Bool.and_eq_true, beq_iff_eq, decide_eq_true_eq, List.all_eq_true] at hs
  obtain ⟨⟨⟨⟨⟨⟨hlen, hall⟩, hnd⟩, hlt⟩, hin⟩, hp⟩, hfr⟩ := hs
  refine wpAny_of_denL hd hin hfr _ l _ a w (by omega) hnd (fun i => ⟨fun hi => ?_, fun hi => ?_⟩) (by simp) ?_ (pairsOk_pairwise hp) hk (fun i _ hf _ => hSw i (by simpa using hf)) h
  · have := hlt i hi
    simp [this]
  · have := hall i (List.mem_range.2 hi.1)
    simpa using this
  · intro i o hi hl
    have : i < ops.size := (Array.getElem?_eq_some_iff.1 hi).1
    simp [this] at hl
end
end Go.Den
