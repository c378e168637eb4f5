/- Short rows of texts, sorted by a comparison of runes (slices.SortFunc); a map's keys, collected (maps.Keys, slices.Collect). No condition but sizes. -/
import Derived.Test.YthcbcolnahbihaaDeadBase
import Derived.Test.YthcbcolnahbihaaMa
namespace Go.Proofs.Ythcbcolnahbihaa
open Go.Den Go.RowKit

def encS (s : ByteArray) : List Value := [.string s]
theorem encS_len (r : ByteArray) : (encS r).length = 1 := rfl
theorem encS_one (r : ByteArray) : ∀ u ∈ encS r, u.oneCell' = true := by intro u hu; simp [encS] at hu; subst hu; rfl
/-- a text's runes. -/
def rz (s : ByteArray) : List Int := runesB s.data.toList
/-- a text doesn't stand behind another one. -/
def LE (x y : ByteArray) : Prop := lessZ (rz y) (rz x) = false
theorem LE.refl (x : ByteArray) : LE x x := less_irr _
theorem LE.trans {x y z : ByteArray} (h : LE x y) (h' : LE y z) : LE x z := by
  unfold LE at *
  cases hzx : lessZ (rz z) (rz x) with
  | false => rfl
  | true =>
    by_cases e : rz x = rz y
    · rw [e] at hzx; rw [hzx] at h'; exact h'
    · rcases less_total _ _ e with h1 | h1
      · rw [less_trans _ _ _ hzx h1] at h'; exact h'
      · rw [h1] at h; cases h
theorem LE.of_less {x y : ByteArray} (h : lessZ (rz x) (rz y) = true) : LE x y := less_asym _ _ h

/-- all pairs of the first n rise, but those that end at j. -/
def Rises (ys : List ByteArray) (n j : Nat) : Prop := ∀ p q x y, p < q → q < n → q ≠ j → ys[p]? = some x → ys[q]? = some y → LE x y
theorem Rises.swap {ys : List ByteArray} {n j : Nat} {x y : ByteArray} (h : Rises ys n (j + 1)) (hx : ys[j]? = some x) (hy : ys[j + 1]? = some y) (hl : lessZ (rz y) (rz x) = true) (hn : j + 1 < n) :
    Rises ((ys.set (j + 1) x).set j y) n j := by
  have hj := (List.getElem?_eq_some_iff.1 hy).1
  have get : ∀ p, ((ys.set (j + 1) x).set j y)[p]? = if p = j then some y else if p = j + 1 then some x else ys[p]? := by
    intro p
    rw [List.getElem?_set, List.getElem?_set]
    simp only [List.length_set]
    by_cases h1 : j = p
    · subst h1; simp; omega
    · by_cases h2 : j + 1 = p
      · subst h2; simp [hj]
      · simp [h1, h2, Ne.symm h1, Ne.symm h2]
  intro p q a b hpq hqn hqj ha hb
  rw [get] at ha hb
  rw [if_neg hqj] at hb
  by_cases h1 : q = j + 1
  · rw [if_pos h1] at hb
    cases hb
    by_cases h2 : p = j
    · rw [if_pos h2] at ha; cases ha; exact LE.of_less hl
    · rw [if_neg h2, if_neg (by omega)] at ha
      exact h p j a x (by omega) (by omega) (by omega) ha hx
  · rw [if_neg h1] at hb
    by_cases h2 : p = j
    · rw [if_pos h2] at ha; cases ha
      exact h (j + 1) q y b (by omega) hqn h1 hy hb
    · rw [if_neg h2] at ha
      by_cases h3 : p = j + 1
      · rw [if_pos h3] at ha; cases ha
        exact h j q x b (by omega) hqn h1 hx hb
      · rw [if_neg h3] at ha
        exact h p q a b hpq hqn h1 ha hb

section
variable {w : World} {F : List Nat} {R : Value → World → Prop}
/-- what the sort is handed to compare by. -/
def CmpOk (cmp : Value) (w : World) : Prop := ∀ w1 (x y : ByteArray) (K : Value → World → Prop), hsz w ≤ hsz w1 → x.size < 1000000 → y.size < 1000000 → (∀ w2, Fr [] w1 w2 → K (.int .i64 (cmpZ (rz x) (rz y))) w2) → CALLV PR cmp [.string x, .string y] w1 K

theorem ds_insert {v cmp : Value} {xs : List ByteArray} (hv : Slc encS 1 w v xs F) (hc : CmpOk cmp w) (hn : xs.length < 1000000) (hsmall : ∀ x ∈ xs, x.size < 1000000)
    (hR : ∀ w' ys, Slc encS 1 w' v ys F → ys.Perm xs → Rises ys xs.length xs.length → Fr F w w' → R (.tuple #[]) w') :
    CALL PR F_slices_insertionSortCmpFunc_string [v, .int .i64 0, .int .i64 (xs.length : Int), cmp] w R := by
  refine C_slices_insertionSortCmpFunc_string ?_
  unfold M_slices_insertionSortCmpFunc_string
  refine BND_step (v := .int .i64 ((1 : Nat) : Int)) (by rw [binv_add]; rfl) ?_
  refine ⟨fun t w' => ∃ (i : Nat) (ys : List ByteArray), t = .int .i64 i ∧ Slc encS 1 w' v ys F ∧ ys.Perm xs ∧ Rises ys i i ∧ Fr F w w' ∧ 1 ≤ i ∧ (i = 1 ∨ i ≤ xs.length), fun t _ => match t with | .int _ n => xs.length - n.toNat | _ => 0,
    ⟨1, xs, rfl, hv, .refl _, fun p q x y h1 h2 => by omega, Fr.refl _ _, by omega, .inl rfl⟩, ?_⟩
  rintro _ _ w1 ⟨i, ys, rfl, s1, pm, rs, f1, hi1, hi⟩
  have hyl := pm.length_eq
  refine BND_step (binv_lss _ _ _ _) ?_
  by_cases hlt : i < xs.length
  · refine COND_dec_true (by omega) ?_
    refine ⟨fun t w' => ∃ (j : Nat) (zs : List ByteArray), t = .int .i64 j ∧ Slc encS 1 w' v zs F ∧ zs.Perm xs ∧ Rises zs (i + 1) j ∧ Fr F w w' ∧ j ≤ i, fun t _ => match t with | .int _ n => n.toNat | _ => 0,
      ⟨i, ys, rfl, s1, pm, fun p q x y h1 h2 h3 => rs p q x y h1 (by omega) (by omega), f1, Nat.le_refl _⟩, ?_⟩
    rintro _ _ w2 ⟨j, zs, rfl, s2, pm2, rs2, f2, hj⟩
    have hzl := pm2.length_eq
    have hend : ∀ w3, Fr F w w3 → Slc encS 1 w3 v zs F → Rises zs (i + 1) (i + 1) → BND (binv .int .add (.int .i64 (i : Int)) (.int .i64 1)) fun t16_107 =>
        ((∃ (i : Nat) (ys : List ByteArray), t16_107 = .int .i64 i ∧ Slc encS 1 w3 v ys F ∧ ys.Perm xs ∧ Rises ys i i ∧ Fr F w w3 ∧ 1 ≤ i ∧ (i = 1 ∨ i ≤ xs.length)) ∧
          (match t16_107 with | .int _ n => xs.length - n.toNat | _ => 0) < xs.length - (i : Int).toNat) := fun w3 f3 s3 r3 =>
      BND_step (add1 (by omega)) ⟨⟨i + 1, zs, rfl, s3, pm2, r3, f3, by omega, .inr hlt⟩, by simp; omega⟩
    refine BND_step (binv_gtr _ _ _ _) ?_
    by_cases hj0 : j = 0
    · rw [show decide ((0 : Int) < (j : Int)) = false by simp [hj0]]
      simp only [isB_ft, grd_false, GEF_false, BND_some, pickv_false, COND_false]
      refine hend _ (f2.trans' (Fr.drew _ _)) (s2.fr (Fr.drew [] w2) (by simp)) fun p q x y h1 h2 h3 => rs2 p q x y h1 h2 (by omega)
    · obtain ⟨k, rfl⟩ : ∃ k, j = k + 1 := ⟨j - 1, by omega⟩
      rw [show decide ((0 : Int) < ((k + 1 : Nat) : Int)) = true by simp]
      simp only [isB_tt, grd_true, GEF_true]
      have hx := List.getElem?_eq_getElem (l := zs) (i := k) (by omega)
      have hy := List.getElem?_eq_getElem (l := zs) (i := k + 1) (by omega)
      have hxs := hsmall _ (pm2.mem_iff.1 (List.mem_of_getElem? hx))
      have hys := hsmall _ (pm2.mem_iff.1 (List.mem_of_getElem? hy))
      generalize zs[k] = x at hx hxs
      generalize zs[k + 1] = y at hy hys
      obtain ⟨b, hF, ei⟩ := s2.iaddr (i := k + 1) (by omega) .i64
      obtain ⟨b', hF', ej⟩ := s2.iaddr (i := k) (by omega) .i64
      subst hF
      obtain rfl : b = b' := by simpa using hF'
      have sub1 : binv .int .sub (.int .i64 ((k + 1 : Nat) : Int)) (.int .i64 1) = some (.int .i64 (k : Int)) := by
        rw [binv_sub, wrap_i64 (by omega) (by omega)]; congr 2; omega
      have s3 := s2.fr (Fr.drew [] w2) (by simp)
      have f3 : Fr [b] w w2.drew := f2.trans' (Fr.drew _ _)
      generalize w2.drew = w3 at s3 f3
      refine BND_step rfl <| BND_step rfl <| BND_step rfl <| BND_step ei <| BND_step rfl <| BND_step rfl <| BND_step sub1 <| BND_step ej <| BND_step (s3.load1 (j := 0) hy (by omega)) <| BND_step (s3.load1 (j := 0) hx (by omega)) ?_
      refine hc w3 y x _ f3.grow hys hxs fun w4 f4 => ?_
      have s4 := s3.fr f4 (by simp)
      have f4' : Fr [b] w w4 := f3.trans' f4.nil
      refine BND_step (binv_lss _ _ _ _) <| BND_step (pickv_true _ _) ?_
      rw [cmpZ_less]
      cases hl : lessZ (rz y) (rz x) with
      | false =>
        refine (COND_false _ _).2 (hend w4 f4' s4 fun p q a c h1 h2 h3 ha hcc => ?_)
        by_cases hq : q = k + 1
        · subst hq
          rw [hy] at hcc; cases hcc
          by_cases hp : p = k
          · subst hp; rw [hx] at ha; cases ha; exact hl
          · exact (rs2 p k a x (by omega) (by omega) (by omega) ha hx).trans hl
        · exact rs2 p q a c h1 h2 hq ha hcc
      | true =>
        refine (COND_true _ _).2 ?_
        have s5 := s4.fr (Fr.drew [] w4) (by simp)
        have f5 : Fr [b] w w4.drew := f4'.trans' (Fr.drew _ _)
        generalize w4.drew = w5 at s5 f5
        refine BND_step sub1 <| BND_step sub1 <| BND_step ej <| BND_step ei <| BND_step (s5.load1 (j := 0) hx (by omega)) <| BND_step (s5.load1 (j := 0) hy (by omega)) <| BND_step ei ?_
        obtain ⟨w6, e6, s6, f6, _⟩ := s5.set1 (j := 0) (y := x) (u := .string x) hy (by omega) (fun m hm => by
          have hm0 : m = 0 := by omega
          subst hm0
          rfl) rfl rfl
        have hx6 : (zs.set (k + 1) x)[k]? = some x := by rw [List.getElem?_set, if_neg (by omega)]; exact hx
        obtain ⟨w7, e7, s7, f7, _⟩ := s6.set1 (j := 0) (y := y) (u := .string y) hx6 (by omega) (fun m hm => by
          have hm0 : m = 0 := by omega
          subst hm0
          rfl) rfl rfl
        refine BND_step e6 <| BND_step ej <| BND_step e7 <| BND_step sub1 ⟨⟨k, _, rfl, s7, ?_, rs2.swap hx hy hl (by omega), f5.trans' (f6.trans' f7), by omega⟩, by simp⟩
        have hp := @List.set_set_perm _ zs (k + 1) k (by omega) (by omega)
        obtain ⟨_, ex⟩ := List.getElem?_eq_some_iff.1 hx
        obtain ⟨_, ey⟩ := List.getElem?_eq_some_iff.1 hy
        rw [ex, ey] at hp
        exact hp.trans pm2
  · refine COND_dec_false (by omega) (hR w1 ys s1 pm (fun p q x y h1 h2 h3 => ?_) f1)
    exact rs p q x y h1 (by omega) (by omega)

theorem ds_SortFunc {v cmp : Value} {xs : List ByteArray} (hv : Slc encS 1 w v xs F) (hc : CmpOk cmp w) (hn : xs.length ≤ 12) (hsmall : ∀ x ∈ xs, x.size < 1000000)
    (hR : ∀ w' ys, Slc encS 1 w' v ys F → ys.Perm xs → Rises ys xs.length xs.length → Fr F w w' → R (.tuple #[]) w') :
    CALL PR F_slices_SortFunc_string_string [v, cmp] w R := by
  refine C_slices_SortFunc_string_string ?_
  unfold M_slices_SortFunc_string_string
  refine BND_step hv.len <| BND_step rfl ?_
  have hw : IntKind.u64.wrap (xs.length : Int) = xs.length := wrap_u64 (by omega) (by omega)
  refine ⟨?_⟩
  refine (Try.bits_Len _ w (by rw [hw]; omega) (by rw [hw]; omega)).mono ?_
  rintro e w' ⟨rfl, hw'⟩
  refine ⟨_, rfl, ?_⟩
  rw [hw']
  refine C_slices_pdqsortCmpFunc_string ?_
  unfold M_slices_pdqsortCmpFunc_string
  refine ⟨fun a b _ _ _ w' => a = .int .i64 0 ∧ b = .int .i64 (xs.length : Int) ∧ w' = w, fun _ _ _ _ _ _ => 0, ⟨rfl, rfl, rfl⟩, ?_⟩
  rintro _ _ _ _ _ _ w1 ⟨rfl, rfl, hw1⟩
  rw [hw1]
  refine BND_step (v := .int .i64 (xs.length : Int)) (by rw [binv_sub, wrap_i64 (by omega) (by omega)]; simp) <| BND_step (binv_leq _ _ _ _) <| COND_dec_true (by omega) ?_
  exact ds_insert hv hc (by omega) hsmall hR

theorem ds_cmp (w : World) : CmpOk (.func (.func F_dead_Dead_Cursors_1) #[] #[]) w := by
  intro w1 x y K _ hx hy hK
  rw [CALLV_func (by kernel_rfl)]
  refine C_dead_Dead_Cursors_1 ?_
  unfold M_dead_Dead_Cursors_1
  have hl := runesB_len x.data.toList
  rw [list_len] at hl
  refine RUNES_step (by omega) fun u w2 h2 f2 => RUNES_step (by omega) fun v w3 h3 f3 => ?_
  exact lb_Compare (h2.fr f3 (by simp)) h3 (by omega) (hK _ (f2.trans' f3))

/-! ## A map's keys -/
open Go.Maps Go.Sort Go.Shelf
abbrev noVal : Value → Option (DataW Unit × List MemPlace) := fun _ => some (.lit (.bool false), [])
def keyBytesOf : Value → List UInt8
  | .string s => s.data.toList
  | _ => []
set_option maxRecDepth 100000 in
theorem map_data {es : Array MapEntry} {ck : Nat} {seen : Seen} (h : MapB (fun s : ByteArray => Value.string s) es ck (toV seen)) (hs : seen.length < 1000000) (hsmall : ∀ p ∈ seen, p.1.size < 1000000)
    {w : World} {mb : Nat} (hb : blk w mb = some (.map es ck)) :
    ∃ D : DataW Unit, w.ownsMap Try.prog 9 noVal mb seen.length D ∧ (strKeys D).Perm (seen.map fun p => p.1.data.toList) ∧ Maps.size D = seen.length := by
  have hsz : es.size = seen.length := by rw [h.l.size]; simp [toV]
  have hents := h.l.ents
  have hkeys : es.toList.map (·.key) = seen.map fun p => Value.string p.1 := by
    have := congrArg (List.map Prod.fst) hents
    simpa [toV, List.map_map, Function.comp_def] using this
  have hread : ∀ x ∈ es.toList, ∃ s : ByteArray, x.key = .string s ∧ s.size < 1000000 := by
    intro x hx
    have : x.key ∈ es.toList.map (·.key) := List.mem_map.2 ⟨x, hx, rfl⟩
    rw [hkeys] at this
    obtain ⟨p, hp, e⟩ := List.mem_map.1 this
    exact ⟨p.1, e.symm, hsmall p hp⟩
  have hrd : ∀ x ∈ es.toList, ∀ s : ByteArray, x.key = .string s → s.size < 1000000 → WideElems.rd Try.prog 9 noVal x = some (.string s.data.toList, .lit (.bool false)) := by
    intro x hx s hk hss
    have hkey : keyOf Try.prog 9 x.key = some (.string s.data.toList) := by
      have hml : s.size ≤ maxLen := by unfold maxLen; omega
      simp [keyOf, Try.underlying9, mapKey, hk, hml]
    simp [WideElems.rd, hkey, noVal]
  refine ⟨.map ((es.toList.map (WideElems.rg Try.prog 9 noVal)).foldr DataW.insert []), ⟨es, ck, hb, ⟨by rw [hsz]; unfold maxLen; omega, ⟨h.lt, h.nd, ?_⟩, ?_⟩, by rw [hsz]; exact Nat.le_refl _, rfl⟩, ?_, ?_⟩
  · rw [hkeys]
    have := h.l.once
    simp only [toV, List.map_map, Function.comp_def] at this
    rw [List.nodup_iff_pairwise_ne, List.pairwise_map] at this ⊢
    exact this.imp fun h e => h (by injection e)
  · intro x hx
    obtain ⟨s, hk, hss⟩ := hread x hx
    exact ⟨_, hrd x hx s hk hss⟩
  · have hf : ∀ x ∈ es.toList, strOf (WideElems.rg Try.prog 9 noVal x).1 = keyBytesOf x.key := by
      intro x hx
      obtain ⟨s, hk, hss⟩ := hread x hx
      rw [WideElems.rg_of (hrd x hx s hk hss), hk]
      rfl
    have h1 : (strKeys (.map ((es.toList.map (WideElems.rg Try.prog 9 noVal)).foldr DataW.insert []))).Perm ((es.toList.map (WideElems.rg Try.prog 9 noVal)).map fun p => strOf p.1) := (WideShapes.sorted_perm _).map _
    refine h1.trans ?_
    rw [List.map_map, show es.toList.map ((fun p : Lit × DataW Unit => strOf p.1) ∘ WideElems.rg Try.prog 9 noVal) = es.toList.map (fun x => keyBytesOf x.key) from List.map_congr_left (fun x hx => hf x hx)]
    have h2 : es.toList.map (fun x => keyBytesOf x.key) = (es.toList.map (·.key)).map keyBytesOf := by rw [List.map_map]; rfl
    rw [h2, hkeys, List.map_map]
    exact .refl _
  · rw [Maps.size_eq, (WideShapes.sorted_perm _).length_eq, List.length_map, Array.length_toList, hsz]
end
end Go.Proofs.Ythcbcolnahbihaa
