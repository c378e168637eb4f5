/- What all laws of layer 10 use: Same, large, do, awake. No condition but sizes. -/
import Derived.Test.YthcbcolnahbihaaDeadFrom
import Derived.Test.YthcbcolnahbihaaMa
namespace Go.Proofs.Ythcbcolnahbihaa
open Go.Den

theorem slc_cells {α : Type} {enc : α → List Value} {sz : Nat} (hl : ∀ x, (enc x).length = sz) {w : World} {b T : Nat} {xs : List α} (hb : blk w b = some (.cells (flat enc xs).toArray T (0, 0))) :
    Slc enc sz w (.slice (some ⟨b, 0, none⟩) xs.length xs.length) xs [b] :=
  .inr ⟨b, xs.length, _, T, rfl, hb, Nat.le_refl _, by simp [flat_len hl], rfl, fun i x hx j hj => by
    have := flat_get hl xs i x j hx hj
    simpa using this⟩
theorem newlist_step {α : Type} {enc : α → List Value} {sz : Nat} (hl : ∀ x, (enc x).length = sz) (xs : List α) {E n : Nat} {zero : Array Value} {ps : List (Nat × Nat × Value)} {w : World} {k : Value → World → Prop}
    (he : newslice E zero sz n ps w = some (.slice (some ⟨hsz w, 0, none⟩) xs.length xs.length, w.alloc (.cells (flat enc xs).toArray E)))
    (h : ∀ t w1, Slc enc sz w1 t xs [hsz w] → Fr [] w w1 → k t w1) : BND (newslice E zero sz n ps w) fun p => NEW p k :=
  BND_step he <| (NEW_pair _ _ _).2 <| h _ _ (slc_cells hl (blk_alloc_new _ _)) (Fr.alloc _ _ _)

theorem newslice_two (E : Nat) (zero : Array Value) (a b : Value) (ha : a.cells = #[a]) (hb : b.cells = #[b]) (w : World) :
    newslice E zero 1 2 [(0, 1, a), (1, 1, b)] w = some (.slice (some ⟨hsz w, 0, none⟩) 2 2, w.alloc (.cells #[a, b] E)) := by
  unfold newslice
  have hs : ((Array.range (2 * 1)).map (zero[· % zero.size]!)).size = 2 := by simp
  generalize (Array.range (2 * 1)).map (zero[· % zero.size]!) = cs at hs
  obtain ⟨x, y, rfl⟩ : ∃ x y, cs = #[x, y] := by
    obtain ⟨l⟩ := cs
    match l, hs with
    | [x, y], _ => exact ⟨x, y, rfl⟩
  have h1 : fillv #[x, y] [(0, 1, a), (1, 1, b)] = some #[a, b] := by
    simp [fillv, ha, hb]
  rw [h1]
  rfl

section
variable {w : World} {R : Value → World → Prop}
theorem r2_Same {a b : Value} {xs ys : List Int} (ha : Arr encU 1 w a xs) (hb : Arr encU 1 w b ys) (hn : xs.length < 1000000000) (hR : ∀ w', Fr [] w w' → R (.bool (decide (xs = ys))) w') : CALL PR F_tumbrelref02_Same [a, b] w R := by
  refine C_tumbrelref02_Same ?_
  unfold M_tumbrelref02_Same
  refine BND_step ha.len <| BND_step hb.len <| BND_step (binv_neq _ _ _ _) ?_
  by_cases hl : xs.length = ys.length
  · rw [show (!decide ((xs.length : Int) = (ys.length : Int))) = false by simp [hl]]
    refine (COND_false _ _).2 ?_
    refine ⟨fun t w' => ∃ i : Nat, t = .int .i64 i ∧ Fr [] w w' ∧ i ≤ xs.length ∧ ∀ (j : Nat), j < i → xs[j]? = ys[j]?, fun t _ => match t with | .int _ n => xs.length - n.toNat | _ => 0,
      ⟨0, rfl, Fr.refl _ _, by omega, fun j hj => by omega⟩, ?_⟩
    rintro _ _ w1 ⟨i, rfl, f1, hi, heq⟩
    have a1 := ha.fr f1 (by simp)
    refine BND_step a1.len <| BND_step (binv_lss _ _ _ _) ?_
    by_cases hlt : i < xs.length
    · refine COND_dec_true (by omega) ?_
      have hx := List.getElem?_eq_getElem hlt
      have hy := List.getElem?_eq_getElem (l := ys) (i := i) (by omega)
      generalize xs[i] = x at hx
      generalize ys[i] = y at hy
      have fd : Fr [] w w1.drew := f1.trans' (Fr.drew _ _)
      obtain ⟨p, ep, _, lp⟩ := (ha.fr fd (by simp)).at hx rfl .i64
      obtain ⟨q, eq, _, lq⟩ := (hb.fr fd (by simp)).at hy rfl .i64
      obtain ⟨p', ep', lp'⟩ := lp 0 (by omega)
      obtain ⟨q', eq', lq'⟩ := lq 0 (by omega)
      have hp0 : p' = p := by
        unfold faddr at ep'
        split at ep'
        · simp at ep'; exact ep'.symm
        · cases ep'
      have hq0 : q' = q := by
        unfold faddr at eq'
        split at eq'
        · simp at eq'; exact eq'.symm
        · cases eq'
      subst hp0; subst hq0
      refine BND_step ep <| BND_step eq <| BND_step (v := .int .u64 x) (lp'.trans rfl) <| BND_step (v := .int .u64 y) (lq'.trans rfl) <| BND_step (binv_neq _ _ _ _) ?_
      by_cases hxy : x = y
      · rw [show (!decide (x = y)) = false by simp [hxy]]
        refine (COND_false _ _).2 <| BND_step (add1 (by omega)) ⟨⟨i + 1, rfl, fd, hlt, fun j hj => ?_⟩, by simp; omega⟩
        by_cases hji : j = i
        · subst hji; rw [hx, hy, hxy]
        · exact heq j (by omega)
      · rw [show (!decide (x = y)) = true by simp [hxy]]
        refine (COND_true _ _).2 ?_
        have := hR _ fd
        rw [decide_eq_false (fun e => hxy (by subst e; rw [hx] at hy; cases hy; rfl))] at this
        exact this
    · refine COND_dec_false (by omega) ?_
      have he : xs = ys := List.ext_getElem? fun j => by
        by_cases hj : j < i
        · exact heq j hj
        · rw [List.getElem?_eq_none (by omega), List.getElem?_eq_none (by omega)]
      have := hR _ f1
      rw [decide_eq_true he] at this
      exact this
  · rw [show (!decide ((xs.length : Int) = (ys.length : Int))) = true by simp; omega]
    refine (COND_true _ _).2 ?_
    have := hR w (Fr.refl _ _)
    rw [decide_eq_false (fun e => hl (by rw [e]))] at this
    exact this

/-! ## Acts -/
abbrev Act := Int × Int × ByteArray × Int
def encA (x : Act) : List Value := [.int .i64 x.1, .int .u64 x.2.1, .string x.2.2.1, .int .i64 x.2.2.2]
theorem encA_len (x : Act) : (encA x).length = 4 := rfl
theorem encA_one (x : Act) : ∀ u ∈ encA x, u.oneCell' = true := by intro u hu; simp [encA] at hu; rcases hu with rfl | rfl | rfl | rfl <;> rfl
theorem lw_large {v : Value} {xs : List Act} (hv : Arr encA 4 w v xs) (hbig : ∀ w', Fr [] w w' → R (.bool true) w')
    (hok : ∀ w', Fr [] w w' → xs.length ≤ 200 → (∀ x ∈ xs, x.2.2.1.size ≤ 100) → R (.bool false) w') : CALL PR F_tumbrellaw10_large [v] w R := by
  refine C_tumbrellaw10_large ?_
  unfold M_tumbrellaw10_large
  refine BND_step hv.len <| BND_step (binv_gtr _ _ _ _) ?_
  by_cases hl : (200 : Int) < xs.length
  · exact COND_dec_true hl (hbig w (Fr.refl _ _))
  refine COND_dec_false hl <| BND_step hv.len ?_
  refine ⟨fun t w' => ∃ i : Nat, t = .int .i64 i ∧ Fr [] w w' ∧ i ≤ xs.length ∧ ∀ (j : Nat) x, j < i → xs[j]? = some x → x.2.2.1.size ≤ 100, fun t _ => match t with | .int _ n => xs.length - n.toNat | _ => 0,
    ⟨0, rfl, Fr.refl _ _, by omega, fun j x hj => by omega⟩, ?_⟩
  rintro _ _ w1 ⟨i, rfl, f1, hi, hb⟩
  refine BND_step (binv_lss _ _ _ _) ?_
  by_cases hlt : i < xs.length
  · refine COND_dec_true (by omega) ?_
    have hx := List.getElem?_eq_getElem hlt
    generalize xs[i] = x at hx
    obtain ⟨p, ep, lp, _⟩ := (hv.fr f1 (by simp)).at hx rfl .i64
    refine BND_step ep <| BND_step lp <| box_step (zs := [.int .i64 0, .int .u64 0, .string ByteArray.empty, .int .i64 0]) (vs := encA x) rfl rfl (encA_one x) (by simp [encA]) fun w2 b2 f2 z2 => ?_
    refine BND_step (faddr_ptr _ _ _) <| BND_step (v := .string x.2.2.1) (load1_blk b2) <| BND_step (lens_string _) <| BND_step (binv_gtr _ _ _ _) ?_
    by_cases hs : (100 : Int) < x.2.2.1.size
    · exact COND_dec_true hs (hbig _ (f1.trans' f2))
    · refine COND_dec_false hs <| BND_step (add1 (by omega)) ⟨⟨i + 1, rfl, f1.trans' f2, hlt, fun j y hj hy => ?_⟩, by simp; omega⟩
      by_cases hji : j = i
      · subst hji; rw [hx] at hy; cases hy; omega
      · exact hb j y (by omega) hy
  · refine COND_dec_false (by omega) (hok w1 f1 (by omega) fun x hx => ?_)
    obtain ⟨j, hj, rfl⟩ := List.getElem_of_mem hx
    exact hb j _ (by omega) (List.getElem?_eq_getElem hj)

structure St where
  rows : List Row
  last : Int
  seen : Seen
structure Ans where
  out : List Int
  err : Int
  is : Bool
def doS (s : St) (x : Act) : St × Ans :=
  if x.1 = 0 then (⟨addR s.rows s.last x.2.1, addL s.rows s.last x.2.1, s.seen⟩, ⟨[], 0, !(hasI s.rows x.2.1)⟩)
  else if x.1 = 1 then (⟨dropR s.rows x.2.1, s.last, s.seen⟩, ⟨[], 0, hasI s.rows x.2.1⟩)
  else if x.1 = 2 then (⟨s.rows, s.last, (nextA s.rows s.seen x.2.2.1 x.2.2.2).seen⟩, ⟨(nextA s.rows s.seen x.2.2.1 x.2.2.2).out, (nextA s.rows s.seen x.2.2.1 x.2.2.2).err, false⟩)
  else (s, ⟨[], 0, hasI s.rows x.2.1⟩)

theorem lw_do {d : Nat} {s : St} {F : List Nat} (h : DeadOwn w d s.rows s.last s.seen F) (hn : s.rows.length < 1000000) (h0 : 0 ≤ s.last) (h1 : s.last < 18446744073709551615) (x : Act) (hx : x.2.2.1.size ≤ 100)
    (hR : ∀ w' v F' G, DeadOwn w' d (doS s x).1.rows (doS s x).1.last (doS s x).1.seen F' → Slc encU 1 w' v (doS s x).2.out G → (∀ b ∈ F', b ∈ F ∨ hsz w ≤ b) → (∀ b ∈ G, hsz w ≤ b) → Fr F w w' →
      R (.tuple #[v, .int .i64 (doS s x).2.err, .bool (doS s x).2.is]) w') :
    CALL PR F_tumbrellaw10_do [.pointer (some ⟨d, 0, none⟩), .agg (encA x).toArray] w R := by
  refine C_tumbrellaw10_do ?_
  unfold M_tumbrellaw10_do
  refine NEW_intro fun w1 b1 f1 z1 => ?_
  have g1 := h.fr0 f1
  have hz := f1.grow
  refine BND_step (faddr_ptr _ _ _) <| BND_step (v := .int .i64 x.1) (load1_blk b1) <| BND_step (binv_eql _ _ _ _) ?_
  by_cases e0 : x.1 = 0
  · have hd : doS s x = (⟨addR s.rows s.last x.2.1, addL s.rows s.last x.2.1, s.seen⟩, ⟨[], 0, !(hasI s.rows x.2.1)⟩) := by unfold doS; rw [if_pos e0]
    rw [hd] at hR
    refine COND_dec_true e0 <| BND_step (faddr_ptr _ _ _) <| BND_step (v := .int .u64 x.2.1) (load1_blk b1) <| dd_Add g1 (by omega) h0 h1 x.2.1 fun w2 F' o2 sub f2 => ?_
    exact hR w2 _ F' [] o2 (Slc.nil _ _ _) (fun b hb => (sub b hb).imp_right fun h => by omega) (by simp) (f1.nil.trans' f2)
  refine COND_dec_false e0 <| BND_step (binv_eql _ _ _ _) ?_
  by_cases e1 : x.1 = 1
  · have hd : doS s x = (⟨dropR s.rows x.2.1, s.last, s.seen⟩, ⟨[], 0, hasI s.rows x.2.1⟩) := by unfold doS; rw [if_neg e0, if_pos e1]
    rw [hd] at hR
    refine COND_dec_true e1 <| BND_step (faddr_ptr _ _ _) <| BND_step (v := .int .u64 x.2.1) (load1_blk b1) <| dd_Drop g1 (by omega) x.2.1 fun w2 o2 f2 => ?_
    exact hR w2 _ F [] o2 (Slc.nil _ _ _) (fun b hb => .inl hb) (by simp) (f1.nil.trans' f2)
  refine COND_dec_false e1 <| BND_step (binv_eql _ _ _ _) ?_
  by_cases e2 : x.1 = 2
  · have hd : doS s x = (⟨s.rows, s.last, (nextA s.rows s.seen x.2.2.1 x.2.2.2).seen⟩, ⟨(nextA s.rows s.seen x.2.2.1 x.2.2.2).out, (nextA s.rows s.seen x.2.2.1 x.2.2.2).err, false⟩) := by unfold doS; rw [if_neg e0, if_neg e1, if_pos e2]
    rw [hd] at hR
    refine COND_dec_true e2 <| BND_step (faddr_ptr _ _ _) <| BND_step (v := .string x.2.2.1) (load1_blk b1) <| BND_step (faddr_ptr _ _ _) <| BND_step (v := .int .i64 x.2.2.2) (load1_blk b1) <| dd_Next g1 hn (by omega) x.2.2.2 fun w2 v G o2 s2 hG f2 => ?_
    exact BND_step (v := v) rfl <| BND_step (v := .int .i64 (nextA s.rows s.seen x.2.2.1 x.2.2.2).err) rfl <| hR w2 v F G o2 s2 (fun b hb => .inl hb) (fun b hb => by have := hG b hb; omega) (f1.nil.trans' f2)
  · have hd : doS s x = (s, ⟨[], 0, hasI s.rows x.2.1⟩) := by unfold doS; rw [if_neg e0, if_neg e1, if_neg e2]
    rw [hd] at hR
    refine COND_dec_false e2 <| BND_step (faddr_ptr _ _ _) <| BND_step (v := .int .u64 x.2.1) (load1_blk b1) <| dd_Has g1 (by omega) x.2.1 fun w2 f2 => ?_
    exact hR w2 _ F [] (g1.fr0 f2) (Slc.nil _ _ _) (fun b hb => .inl hb) (by simp) (f1.trans' f2).nil

/-! ## awake -/
theorem lw_awake (hR : ∀ w', Fr [] w w' → R (.bool true) w') : CALL PR F_tumbrellaw10_awake [] w R := by
  refine C_tumbrellaw10_awake ?_
  unfold M_tumbrellaw10_awake
  refine dd_New fun w1 d F1 o1 hF1 f1 => BND_step (binv_ptr_nil _) <| (COND_false _ _).2 ?_
  have low : ∀ {wa wb : World} {Fa Fb : List Nat}, Fr [] w wa → (∀ b ∈ Fa, hsz w ≤ b) → (∀ b ∈ Fb, b ∈ Fa ∨ hsz wa ≤ b) → Fr Fa wa wb → (∀ b ∈ Fb, hsz w ≤ b) ∧ Fr [] w wb := by
    intro wa wb Fa Fb fa ha sub fb
    have := fa.grow
    exact ⟨fun b hb => by rcases sub b hb with h | h
                          · exact ha b h
                          · omega, fa.trans fb fun b hb => .inr (ha b hb)⟩
  refine dd_Add o1 (by simp) (by omega) (by omega) 5 fun w2 F2 o2 sub2 f2 => ?_
  obtain ⟨h2, k2⟩ := low f1 hF1 sub2 f2
  replace o2 : DeadOwn w2 d [(5, 1)] 1 [] F2 := o2
  refine dd_Add o2 (by simp) (by omega) (by omega) 3 fun w3 F3 o3 sub3 f3 => ?_
  obtain ⟨h3, k3⟩ := low k2 h2 sub3 f3
  replace o3 : DeadOwn w3 d [(5, 1), (3, 2)] 2 [] F3 := o3
  refine dd_Add o3 (by simp) (by omega) (by omega) 5 fun w4 F4 o4 sub4 f4 => ?_
  obtain ⟨h4, k4⟩ := low k3 h3 sub4 f4
  replace o4 : DeadOwn w4 d [(5, 1), (3, 2)] 2 [] F4 := o4
  refine dd_Add o4 (by simp) (by omega) (by omega) 9 fun w5 F5 o5 sub5 f5 => ?_
  obtain ⟨h5, k5⟩ := low k4 h4 sub5 f5
  replace o5 : DeadOwn w5 d [(5, 1), (3, 2), (9, 3)] 3 [] F5 := o5
  have n1 : nextA [(5, 1), (3, 2), (9, 3)] [] ⟨#[65]⟩ 2 = ⟨[5, 3], 0, [(txt [97], 2)]⟩ := by
    have e1 : foldB (ByteArray.mk #[65]).data.toList = [97] := by decide +kernel
    have e2 : rightB [97] = true := by decide +kernel
    unfold nextA
    simp only [e1, e2, atI]
    rfl
  refine dd_Next o5 (by simp) (by decide) 2 fun w6 v6 G6 o6 s6 hG6 f6 => ?_
  rw [n1] at o6 s6 ⊢
  obtain ⟨h6, k6⟩ := low k5 h5 (fun b hb => .inl hb) f6
  refine BND_step (v := v6) rfl <| BND_step (v := .int .i64 0) rfl ?_
  have n2 : nextA [(5, 1), (3, 2), (9, 3)] [(txt [97], 2)] ⟨#[97]⟩ 2 = ⟨[9], 0, [(txt [97], 3)]⟩ := by
    have e1 : foldB (ByteArray.mk #[97]).data.toList = [97] := by decide +kernel
    have e2 : rightB [97] = true := by decide +kernel
    unfold nextA
    simp only [e1, e2, atI, putI]
    rfl
  refine dd_Next o6 (by simp) (by decide) 2 fun w7 v7 G7 o7 s7 hG7 f7 => ?_
  rw [n2] at o7 s7 ⊢
  obtain ⟨h7, k7⟩ := low k6 h6 (fun b hb => .inl hb) f7
  refine BND_step (v := v7) rfl <| BND_step (v := .int .i64 0) rfl ?_
  have n3 : nextA [(5, 1), (3, 2), (9, 3)] [(txt [97], 3)] ⟨#[45]⟩ 2 = ⟨[], 1, [(txt [97], 3)]⟩ := by
    have e1 : foldB (ByteArray.mk #[45]).data.toList = [45] := by decide +kernel
    have e2 : rightB [45] = false := by decide +kernel
    unfold nextA
    simp only [e1, e2]
    rfl
  refine dd_Next o7 (by simp) (by decide) 2 fun w8 v8 G8 o8 s8 hG8 f8 => ?_
  rw [n3] at o8 s8 ⊢
  obtain ⟨h8, k8⟩ := low k7 h7 (fun b hb => .inl hb) f8
  refine BND_step (v := v8) rfl <| BND_step (v := .int .i64 1) rfl ?_
  refine dd_Last o8 <| dd_All o8 (by simp) fun w10 v10 G10 s10 hG10 f10 => ?_
  have o10 := o8.fr0 f10
  refine dd_Cursors o10 (by simp) (by intro p hp; simp at hp; subst hp; decide) fun w11 v11 cs G11 s11 pm11 _ hG11 f11 => ?_
  obtain rfl : cs = [(txt [97], 3)] := List.perm_singleton.1 pm11
  have o11 := o10.fr0 f11
  have hfrom : fromI 3 [(5, 1), (3, 2), (9, 3)] [(txt [97], 3)] = some [(txt [97], 3)] := by
    have e1 : rightB (txt [97]).data.toList = true := by decide +kernel
    have e2 : txt (foldB (txt [97]).data.toList) = txt [97] := by decide +kernel
    have e3 : lessZ (rz ⟨#[]⟩) (rz (txt [97])) = true := by decide +kernel
    have hb : ¬ badC 3 0 ⟨#[]⟩ (txt [97], 3) := by
      unfold badC
      rw [txt_list] at e1 e2
      simp [e1, e2, e3]
    unfold fromI fromC
    rw [if_neg hb]
    rfl
  have k11 := k8.trans' <| f10.trans' f11
  refine dd_From (rows := [(5, 1), (3, 2), (9, 3)]) (cs := [(txt [97], 3)]) ((s10.fr f11 (by simp)).arr) s11.arr (by simp) (by simp) (by intro c hc; simp at hc; subst hc; decide) (fun w12 _ hno => by rw [hfrom] at hno; cases hno) fun w12 d2 F12 seen2 f12 _ o12 hF12 => ?_
  refine BND_step (v := .pointer (some ⟨d2, 0, none⟩)) rfl <| BND_step (v := .int .i64 0) rfl <| BND_step (v := .agg (encRow (1, 1)).toArray) rfl <| newone_step encRow_len rfl fun t13 w13 s13 f13 z13 => ?_
  have hfrom2 : fromI 0 [(1, 1)] [] = none := rfl
  refine dd_From (rows := [(1, 1)]) (cs := []) s13.arr (Slc.nil encC 2 w13).arr (by simp) (by simp) (by simp) (fun w14 f14 _ => ?_) (fun w14 _ _ _ _ hyes => by rw [hfrom2] at hyes; cases hyes)
  have k14 := k11.trans' <| f12.trans' <| f13.trans' f14
  have f814 : Fr [] w8 w14 := f10.trans' <| f11.trans' <| f12.trans' <| f13.trans' f14
  have o14 := o8.fr0 f814
  refine BND_step (v := .pointer none) rfl <| BND_step (v := .int .i64 1) rfl ?_
  have i1 : (!(hasI ([(5, 1)] : List Row) 3)) = true := rfl
  have i2 : (!(hasI ([(5, 1), (3, 2)] : List Row) 5)) = false := rfl
  rw [i1, i2]
  simp only [isB_tt, grd_true, BND_some, unv_not, Bool.not_false, pickv_true, GEF_true]
  refine newlist_step encU_len [5, 3] (newslice_two _ _ _ _ rfl rfl _) fun t15 w15 s15 f15 => ?_
  have s6' : Slc encU 1 w15 v6 [5, 3] G6 := by
    have g6 : ∀ b ∈ G6, b ∉ F5 := fun b hb hb5 => by have := hG6 b hb; have := o5.lt b hb5; omega
    have g7 : ∀ b ∈ G6, b ∉ F5 := g6
    exact ((s6.fr f7 g7).fr f8 g7).fr (f814.trans' f15) (by simp)
  refine r2_Same s6'.arr s15.arr (by simp) fun w16 f16 => ?_
  simp only [decide_true, pickv_true, BND_some, isB_tt, grd_true, binv_eql, GEF_true]
  refine newone_step (enc := encU) (x := 9) encU_len rfl fun t17 w17 s17 f17 z17 => ?_
  have s7' : Slc encU 1 w17 v7 [9] G7 := by
    have g7 : ∀ b ∈ G7, b ∉ F5 := fun b hb hb5 => by have := hG7 b hb; have := o6.lt b hb5; omega
    exact (s7.fr f8 g7).fr (f814.trans' <| f15.trans' <| f16.trans' f17) (by simp)
  refine r2_Same s7'.arr s17.arr (by simp) fun w18 f18 => ?_
  simp only [decide_true, pickv_true, BND_some, isB_tt, grd_true, binv_eql, binv_ptr_nnil, GEF_true]
  have f1418 : Fr [] w14 w18 := f15.trans' <| f16.trans' <| f17.trans' f18
  have o18 := o14.fr0 f1418
  refine dd_Last o18 ?_
  simp only [decide_true, pickv_true, BND_some, isB_tt, grd_true, binv_eql, GEF_true]
  refine dd_Drop o18 (by simp) 3 fun w20 o20 f20 => ?_
  rw [show hasI ([(5, 1), (3, 2), (9, 3)] : List Row) 3 = true from rfl]
  simp only [pickv_true, BND_some, isB_tt, grd_true, GEF_true]
  refine dd_Has o20 (by decide) 3 fun w21 f21 => ?_
  rw [show hasI (dropR ([(5, 1), (3, 2), (9, 3)] : List Row) 3) 3 = false from rfl]
  simp only [BND_some, unv_not, Bool.not_false]
  have k18 := k14.trans' f1418
  exact hR _ ((k18.trans f20 fun b hb => .inr (h8 b hb)).trans' f21)
end
end Go.Proofs.Ythcbcolnahbihaa
