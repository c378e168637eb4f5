/- From: the list of any rows and cursors, or that there is none. No condition but sizes. -/
import Derived.Test.YthcbcolnahbihaaDeadCur
import Derived.Test.YthcbcolnahbihaaDeadNext
import Derived.Test.YthcbcolnahbihaaMa
namespace Go.Proofs.Ythcbcolnahbihaa
open Go.Den

theorem str_eqd (a b : ByteArray) : binv .str .eql (.string a) (.string b) = some (.bool (decide (a = b))) := by
  rw [str_eql, ByteArray.toList_eq, ByteArray.toList_eq]
  congr 2
  by_cases h : a = b
  · subst h; simp
  · simp only [h, decide_false, beq_eq_false_iff_ne]
    exact fun e => h (ByteArray.ext (Array.ext' e))
theorem str_ned (a b : ByteArray) : binv .str .neq (.string a) (.string b) = some (.bool !decide (a = b)) := by
  have h := str_eqd a b
  rw [str_eql] at h
  rw [str_neq]
  simp only [Option.some.injEq, Value.bool.injEq] at h
  rw [h]

def fromR (last : Int) : List Row → List Row → Int → Bool
  | [], _, _ => true
  | r :: rs, acc, l => if r.2 ≤ l ∨ last < r.2 ∨ hasI acc r.1 = true then false else fromR last rs (acc ++ [r]) r.2
def badC (last : Int) (i : Nat) (a : ByteArray) (c : ByteArray × Int) : Prop :=
  i = 8 ∨ rightB c.1.data.toList = false ∨ txt (foldB c.1.data.toList) ≠ c.1 ∨ lessZ (rz a) (rz c.1) = false ∨ last < c.2
instance (last : Int) (i : Nat) (a : ByteArray) (c : ByteArray × Int) : Decidable (badC last i a c) := by unfold badC; exact inferInstance
def fromC (last : Int) : Seen → Nat → ByteArray → Seen → Option Seen
  | [], _, _, S => some S
  | c :: cs, i, a, S => if badC last i a c then none else fromC last cs (i + 1) c.1 (putI S c.1 c.2)
def fromI (last : Int) (rows : List Row) (cs : Seen) : Option Seen := if fromR last rows [] 0 = true then fromC last cs 0 ⟨#[]⟩ [] else none

section
variable {w : World} {rows : List Row} {last : Int} {cs : Seen} {ra ca : Value} {R : Value → World → Prop}
/-- d's first cell, or its second one, is stored to. -/
theorem DeadOwn.setLast {w : World} {d : Nat} {rows : List Row} {last l' : Int} {seen : Seen} {F : List Nat} (h : DeadOwn w d rows last seen F) :
    ∃ w', storev 1 w (.pointer (some ⟨d, 1, none⟩)) (.int .u64 l') = some w' ∧ DeadOwn w' d rows l' seen F ∧ Fr [d] w w' := by
  obtain ⟨sv, Fa, T, mb, es, ck, h1, h2, h3, h4, rfl, h5, h6, h7⟩ := h
  have f : Fr [d] w (setB w d (.cells (#[sv, .int .u64 last, .map (some mb)].setIfInBounds 1 (.int .u64 l')) T (0, 0))) := Fr.setB (.inl (by simp)) _
  exact ⟨_, storev1_blk h1 (by simp) rfl rfl, ⟨sv, Fa, T, mb, es, ck, blk_setB_same h1, h2.fr f (fun b hb => by simp; rintro rfl; exact h6 hb), f.some (by simp; exact fun e => h5 e.symm) h3, h4, rfl, h5, h6, h7⟩, f⟩

theorem dd_From (hra : Arr encRow 2 w ra rows) (hca : Arr encC 2 w ca cs) (hn : rows.length < 1000000) (hcn : cs.length < 1000000) (hsm : ∀ c ∈ cs, c.1.size < 100000)
    (hno : ∀ w', Fr [] w w' → fromI last rows cs = none → R (.tuple #[.pointer none, .int .i64 1]) w')
    (hyes : ∀ w' d F seen, Fr [] w w' → fromI last rows cs = some seen → DeadOwn w' d rows last seen F → (∀ b ∈ F, hsz w ≤ b) → R (.tuple #[.pointer (some ⟨d, 0, none⟩), .int .i64 0]) w') :
    CALL PR F_dead_From [.int .u64 last, ra, ca] w R := by
  refine C_dead_From ?_
  unfold M_dead_From
  refine dd_New fun w1 d F1 o1 hF1 f1 => BND_step hra.len ?_
  refine ⟨fun t w' => ∃ (i : Nat) (l : Int) (F : List Nat), t = .int .i64 i ∧ DeadOwn w' d (rows.take i) l [] F ∧ (∀ b ∈ F, hsz w ≤ b) ∧ Fr [] w w' ∧ i ≤ rows.length ∧ fromR last (rows.drop i) (rows.take i) l = fromR last rows [] 0,
    fun t _ => match t with | .int _ n => rows.length - n.toNat | _ => 0, ⟨0, 0, F1, rfl, by simpa using o1, hF1, f1, by omega, by simp⟩, ?_⟩
  rintro _ _ w2 ⟨i, l, F, rfl, o2, hF, f2, hi, hinv⟩
  refine BND_step (binv_lss _ _ _ _) ?_
  by_cases hlt : i < rows.length
  · refine COND_dec_true (by omega) ?_
    have hx := List.getElem?_eq_getElem hlt
    rw [drop_cons' hx] at hinv
    generalize rows[i] = r at hx hinv
    obtain ⟨p, ep, lp, _⟩ := (hra.fr f2 (by simp)).at hx rfl .i64
    refine BND_step ep <| BND_step lp <| box_step (zs := [.int .u64 0, .int .u64 0]) (vs := encRow r) rfl rfl (encRow_one r) (by simp [encRow]) fun w3 b3 f3 z3 => ?_
    have o3 := o2.fr0 f3
    have fd : Fr [] w3 w3.drew := Fr.drew _ _
    have b4 : blk w3.drew (hsz w2) = some (.cells (encRow r).toArray 48 (0, 0)) := b3
    have o4 := o3.fr0 fd
    have f4 : Fr [] w w3.drew := f2.trans' <| f3.trans' fd
    have hz4 : hsz w2 < hsz w3.drew := blk_lt b4
    generalize w3.drew = w4 at b4 o4 f4 hz4
    have hbF : hsz w2 ∉ F := fun hb => by have := o2.lt _ hb; omega
    have o4' := o4
    obtain ⟨sv, Fa, T, mb, es, ck, c1, c2, c3, c4, rfl, c5, c6, c7⟩ := o4
    refine BND_step (faddr_ptr _ _ _) <| BND_step (nilchk_ptr _) <| BND_step (faddr_ptr _ _ _) <| BND_step (v := .int .u64 r.2) (load1_blk b4) <| BND_step (v := .int .u64 l) (load1_blk c1) <| BND_step (binv_leq _ _ _ _) ?_
    have hnone : ∀ w', Fr [] w w' → (r.2 ≤ l ∨ last < r.2 ∨ hasI (rows.take i) r.1 = true) → R (.tuple #[.pointer none, .int .i64 1]) w' := by
      intro w' f' hbad
      refine hno w' f' ?_
      have : fromR last rows [] 0 = false := by rw [← hinv, fromR, if_pos hbad]
      unfold fromI
      rw [this]; rfl
    by_cases h1 : r.2 ≤ l
    · simp only [h1, decide_true, isB_tf, grd_false, BND_some, pickv_true, GEF_false, COND_true]
      exact hnone _ f4 (.inl h1)
    simp only [h1, decide_false, isB_ff, grd_true]
    refine BND_step (faddr_ptr _ _ _) <| BND_step rfl <| BND_step (v := .int .u64 r.2) (load1_blk b4) <| BND_step (binv_gtr _ _ _ _) <| BND_step (pickv_false _ _) ?_
    by_cases h2 : last < r.2
    · simp only [h2, decide_true, isB_tf, grd_false, BND_some, pickv_true, GEF_false, COND_true]
      exact hnone _ f4 (.inr (.inl h2))
    simp only [h2, decide_false, isB_ff, grd_true, GEF_true]
    refine BND_step rfl <| BND_step (faddr_ptr _ _ _) <| BND_step (v := .int .u64 r.1) (load1_blk b4) <| dd_Has o4' (by rw [List.length_take]; omega) r.1 fun w5 f5 => BND_step (pickv_false _ _) ?_
    cases hh : hasI (rows.take i) r.1 with
    | true => exact (COND_true _ _).2 (hnone _ (f4.trans' f5) (.inr (.inr hh)))
    | false =>
      refine (COND_false _ _).2 ?_
      have o5 := (o4'.fr0 f5).fr0 (Fr.drew [] w5)
      have b5 : blk w5.drew (hsz w2) = some (.cells (encRow r).toArray 48 (0, 0)) := f5.some (by simp) b4
      have f6 : Fr [] w w5.drew := f4.trans' <| f5.trans' (Fr.drew _ _)
      have hz5 : hsz w2 < hsz w5.drew := blk_lt b5
      generalize w5.drew = w6 at o5 b5 f6 hz5
      obtain ⟨sv, Fa', T, mb', es, ck, c1, c2, c3, c4, e1, c5, c6, c7⟩ := o5
      obtain ⟨rfl, rfl⟩ : mb = mb' ∧ Fa = Fa' := by simpa using e1
      refine ⟨fun k w' => if k = 5 then blk w' d = some (.cells #[sv, .int .u64 l, .map (some mb)] T (0, 0)) else blk w' (hsz w2) = some (.cells (encRow r).toArray 48 (0, 0)), by simpa using c1, by simpa using b5, ?_⟩
      simp only [if_true, Nat.reduceEqDiff, if_false]
      refine BND_step (nilchk_ptr _) <| BND_step (faddr_ptr _ _ _) <| FLT.mk sv (fun w' hw => load1_blk hw) <| BND_step (faddr_ptr _ _ _) <| FLT.mk (.int .u64 r.2) (fun w' hw => load1_blk hw) <|
        BND_step (v := .agg (encRow r).toArray) (loadn_blk b5 (by simp [encRow])) <| newone_step encRow_len rfl fun t w7 s7 f7 z7 => ⟨f7.some (by simp) c1, f7.some (by simp) b5, ?_⟩
      refine APPEND_slc (c2.fr f7 (by simp)) (s7.loads encRow_len) encRow_len encRow_one rfl (by simp; omega) (by simp; omega) fun sv' w8 Fa' s8 f8 sub => ?_
      have hbFa : hsz w2 ∉ Fa := fun hb => hbF (by simp [hb])
      have c18 := f8.some c6 (f7.some (by simp) c1)
      have b8 := f8.some hbFa (f7.some (by simp) b5)
      refine ⟨b8, BND_step (nilchk_ptr _) <| BND_step (faddr_ptr _ _ _) <| BND_step (storev1_blk c18 (by simp) s8.one.1 s8.one.2) ?_⟩
      have f9 : Fr [d] w8 (setB w8 d (.cells (#[sv, .int .u64 l, .map (some mb)].setIfInBounds (0 + 0) sv') T (0, 0))) := Fr.setB (.inl (by simp)) _
      have c19 := blk_setB_same (o := .cells (#[sv, .int .u64 l, .map (some mb)].setIfInBounds (0 + 0) sv') T (0, 0)) c18
      generalize setB w8 d (.cells (#[sv, .int .u64 l, .map (some mb)].setIfInBounds (0 + 0) sv') T (0, 0)) = w9 at f9 c19
      have hd6 : d < hsz w6 := blk_lt c1
      have hm6 : mb < hsz w6 := blk_lt c3
      have hg7 := f7.grow
      have hdF' : d ∉ Fa' := fun hb => by rcases sub d hb with h | h
                                          · exact c6 h
                                          · omega
      have hmF' : mb ∉ Fa' := fun hb => by rcases sub mb hb with h | h
                                           · exact c7 h
                                           · omega
      have hdz : hsz w ≤ d := hF d (by simp)
      have f69 : Fr (d :: Fa) w6 w9 := f7.nil.trans' ((f8.wider (fun b hb => by simp [hb])).trans' (f9.wider (by simp)))
      refine ⟨(f9.some (by simp; intro e; rw [e] at hbF; simp at hbF) b8), ?_⟩
      have o9 : DeadOwn w9 d (rows.take (i + 1)) l [] (d :: mb :: Fa') := by
        refine ⟨sv', Fa', T, mb, es, ck, c19, ?_, ?_, c4, rfl, c5, hdF', hmF'⟩
        · rw [List.take_add_one, hx]
          exact s8.fr f9 (fun b hb => by simp; rintro rfl; exact hdF' hb)
        · exact f9.some (by simp; exact fun e => c5 e.symm) (f8.some c7 (f7.some (by simp) c3))
      obtain ⟨w10, e10, o10, f10⟩ := o9.setLast (l' := r.2)
      refine BND_step (nilchk_ptr _) <| BND_step (faddr_ptr _ _ _) <| BND_step e10 <| BND_step (add1 (by omega)) ⟨⟨i + 1, r.2, _, rfl, o10, fun b hb => ?_, ?_, hlt, ?_⟩, by simp; omega⟩
      · have := f6.grow
        rcases List.mem_cons.1 hb with rfl | hb
        · exact hdz
        rcases List.mem_cons.1 hb with rfl | hb
        · exact hF _ (by simp)
        rcases sub b hb with h | h
        · exact hF b (by simp [h])
        · omega
      · refine (f6.trans f69 fun b hb => ?_).trans f10 fun b hb => .inr ?_
        · rcases List.mem_cons.1 hb with rfl | hb
          · exact .inr hdz
          · exact .inr (hF b (by simp [hb]))
        · simp at hb; subst hb; exact hdz
      · rw [← hinv, List.take_add_one, hx]
        conv => rhs; rw [fromR, if_neg (by simp [h1, h2, hh])]
        rfl
  · refine COND_dec_false (by omega) ?_
    rw [List.take_of_length_le (by omega)] at o2 hinv
    rw [List.drop_of_length_le (by omega)] at hinv
    have hR0 : fromR last rows [] 0 = true := by rw [← hinv]; rfl
    have hI : fromI last rows cs = fromC last cs 0 ⟨#[]⟩ [] := by unfold fromI; rw [if_pos hR0]
    obtain ⟨w3, e3, o3, f3⟩ := o2.setLast (l' := last)
    have hdz : hsz w ≤ d := by obtain ⟨sv, Fa, T, mb, es, ck, c1, c2, c3, c4, rfl, c5, c6, c7⟩ := o2; exact hF d (by simp)
    have f3' : Fr [] w w3 := f2.trans f3 fun b hb => by simp at hb; subst hb; exact .inr hdz
    refine BND_step (nilchk_ptr _) <| BND_step (faddr_ptr _ _ _) <| BND_step e3 <| BND_step hca.len ?_
    refine ⟨fun ta t w' => ∃ (k : Nat) (a : ByteArray) (seen : Seen), t = .int .i64 k ∧ ta = .string a ∧ a.size < 100000 ∧ DeadOwn w' d rows last seen F ∧ Fr [] w w' ∧ k ≤ cs.length ∧ fromC last (cs.drop k) k a seen = fromC last cs 0 ⟨#[]⟩ [],
      fun _ t _ => match t with | .int _ n => cs.length - n.toNat | _ => 0, ⟨0, ⟨#[]⟩, [], rfl, rfl, by decide, o3, f3', by omega, by simp⟩, ?_⟩
    rintro _ _ _ w4 ⟨k, a, seen, rfl, rfl, has, o4, f4, hk, hinvC⟩
    refine BND_step (binv_lss _ _ _ _) ?_
    by_cases hklt : k < cs.length
    · refine COND_dec_true (by omega) ?_
      have hx := List.getElem?_eq_getElem hklt
      rw [drop_cons' hx] at hinvC
      have hcsm := hsm _ (List.mem_of_getElem? hx)
      generalize cs[k] = c at hx hinvC hcsm
      obtain ⟨p, ep, lp, _⟩ := (hca.fr f4 (by simp)).at hx rfl .i64
      refine BND_step ep <| BND_step lp <| box_step (zs := [.string ByteArray.empty, .int .u64 0]) (vs := encC c) rfl rfl (encC_one c) (by simp [encC]) fun w5 b5 f5 z5 => ?_
      have b6 : blk w5.drew (hsz w4) = some (.cells (encC c).toArray 51 (0, 0)) := b5
      have o6 := (o4.fr0 f5).fr0 (Fr.drew [] w5)
      have f6 : Fr [] w w5.drew := f4.trans' <| f5.trans' (Fr.drew _ _)
      generalize w5.drew = w6 at b6 o6 f6
      have hnone : ∀ w', Fr [] w w' → badC last k a c → R (.tuple #[.pointer none, .int .i64 1]) w' := by
        intro w' f' hbad
        refine hno w' f' ?_
        rw [hI, ← hinvC, fromC, if_pos hbad]
      refine ⟨fun _ w' => blk w' (hsz w4) = some (.cells (encC c).toArray 51 (0, 0)), b6, ?_⟩
      refine BND_step (binv_eql _ _ _ _) ?_
      by_cases h8 : k = 8
      · have e8 : decide ((k : Int) = 8) = true := by simp [h8]
        rw [e8]
        simp only [isB_tf, grd_false, BND_some, GEF_false, pickv_true, COND_true]
        refine ⟨b6, FLT.mk _ (fun _ _ => rfl) ⟨b6, hnone _ f6 (.inl h8)⟩⟩
      have e8 : decide ((k : Int) = 8) = false := by simp; omega
      rw [e8]
      simp only [isB_ff, grd_true, GEF_true]
      refine BND_step (faddr_ptr _ _ _) <| BND_step (v := .string c.1) (load1_blk b6) <| lb_right (by omega) fun w7 f7 => ⟨f7.some (by simp) b6, BND_step (unv_not _) <| BND_step (pickv_false _ _) ?_⟩
      have b7 := f7.some (by simp) b6
      have f7' := f6.trans' f7
      cases hr : rightB c.1.data.toList with
      | false =>
        simp only [Bool.not_false, isB_tf, grd_false, BND_some, GEF_false, pickv_true, COND_true]
        exact FLT.mk _ (fun _ _ => rfl) ⟨b7, hnone _ f7' (.inr (.inl hr))⟩
      | true =>
        simp only [Bool.not_true, isB_ff, grd_true, GEF_true]
        refine BND_step (faddr_ptr _ _ _) <| BND_step (faddr_ptr _ _ _) <| FLT.mk (.string c.1) (fun w' hw => load1_blk hw) <| BND_step (v := .string c.1) (load1_blk b7) <| lb_Fold (by omega) fun w8 f8 => ⟨f8.some (by simp) b7, BND_step (str_ned _ _) <| BND_step (pickv_false _ _) ?_⟩
        have b8 := f8.some (by simp) b7
        have f8' := f7'.trans' f8
        by_cases hfo : txt (foldB c.1.data.toList) = c.1
        · rw [show (!decide (txt (foldB c.1.data.toList) = c.1)) = false by simp [hfo]]
          simp only [isB_ff, grd_true, GEF_true]
          refine BND_step rfl <| BND_step (faddr_ptr _ _ _) <| BND_step (v := .string c.1) (load1_blk b8) <| lb_Less (by omega) (by omega) fun w9 f9 => BND_step (unv_not _) <| BND_step (pickv_false _ _) ?_
          have b9 := f9.some (by simp) b8
          have f9' := f8'.trans' f9
          cases hl : lessZ (runesB a.data.toList) (runesB c.1.data.toList) with
          | false =>
            simp only [Bool.not_false, isB_tf, grd_false, BND_some, pickv_true, COND_true]
            exact hnone _ f9' (.inr (.inr (.inr (.inl hl))))
          | true =>
            simp only [Bool.not_true, isB_ff, grd_true]
            refine BND_step (faddr_ptr _ _ _) <| BND_step rfl <| BND_step (v := .int .u64 c.2) (load1_blk b9) <| BND_step (binv_gtr _ _ _ _) <| BND_step (pickv_false _ _) ?_
            by_cases hp : last < c.2
            · exact COND_dec_true hp (hnone _ f9' (.inr (.inr (.inr (.inr hp)))))
            refine COND_dec_false hp ?_
            have o10 := (o6.fr0 (f7.trans' <| f8.trans' f9)).fr0 (Fr.drew [] w9)
            have b10 : blk w9.drew (hsz w4) = some (.cells (encC c).toArray 51 (0, 0)) := b9
            have f10 : Fr [] w w9.drew := f9'.trans' (Fr.drew _ _)
            generalize w9.drew = w10 at o10 b10 f10
            have hbF : hsz w4 ∉ F := fun hb => by have := o4.lt _ hb; omega
            obtain ⟨sv, Fa, T, mb, es, ck, c1, c2, c3, c4, rfl, c5, c6, c7⟩ := o10
            obtain ⟨es1, ck1, u, n, es2, em, es', l'⟩ := entry_B keyStr (.int .u64 0) c3 c4 c.1 (.int .u64 c.2)
            have f11 : Fr [mb] w10 (setB w10 mb (.map es1 ck1)) := Fr.setB (.inl (by simp)) _
            have c31 := blk_setB_same (o := .map es1 ck1) c3
            have c11 := f11.some (by simp; exact c5) c1
            have c21 := c2.fr f11 (fun b hb => by simp; rintro rfl; exact c7 hb)
            have b11 := f11.some (by simp; intro e; rw [e] at hbF; simp at hbF) b10
            refine ⟨fun _ w' => blk w' (hsz w4) = some (.cells (encC c).toArray 51 (0, 0)), b10, ?_⟩
            refine BND_step (nilchk_ptr _) <| BND_step (faddr_ptr _ _ _) <| BND_step (faddr_ptr _ _ _) <| BND_step (faddr_ptr _ _ _) <| BND_step (faddr_ptr _ _ _) <| FLT.mk (.int .u64 c.2) (fun w' hw => load1_blk hw) <|
              BND_step (v := .map (some mb)) (load1_blk c1) <| BND_step (v := .string c.1) (load1_blk b10) <| BND_step (v := .string c.1) (load1_blk b10) <| BND_step em <| (NEW_pair _ _ _).2 ⟨b11, BND_step (v := .int .i64 n) rfl ?_⟩
            have f12 : Fr [mb] (setB w10 mb (.map es1 ck1)) (setB (setB w10 mb (.map es1 ck1)) mb (.map es2 ck1)) := Fr.setB (.inl (by simp)) _
            refine BND_step (es' _ c31) <| BND_step (add1 (by omega)) ⟨⟨k + 1, c.1, putI seen c.1 c.2, rfl, rfl, hcsm, ⟨sv, Fa, T, mb, es2, ck1, f12.some (by simp; exact c5) c11, c21.fr f12 (fun b hb => by simp; rintro rfl; exact c7 hb), blk_setB_same c31, ?_, rfl, c5, c6, c7⟩, ?_, hklt, ?_⟩, by simp; omega⟩
            · rw [← ins_toV]; exact l'
            · exact f10.trans (f11.trans' f12) fun b hb => by simp at hb; subst hb; exact .inr (hF _ (by simp))
            · rw [← hinvC]
              have hok : ¬ badC last k a c := by
                unfold badC
                simp only [not_or]
                refine ⟨h8, by simp [hr], fun h => h hfo, ?_, hp⟩
                show ¬ lessZ (runesB a.data.toList) (runesB c.1.data.toList) = false
                simp [hl]
              conv => rhs; rw [fromC, if_neg hok]
        · rw [show (!decide (txt (foldB c.1.data.toList) = c.1)) = true by simp [hfo]]
          simp only [isB_tf, grd_false, BND_some, GEF_false, pickv_true, COND_true]
          exact hnone _ f8' (.inr (.inr (.inl hfo)))
    · refine COND_dec_false (by omega) ?_
      rw [List.drop_of_length_le (by omega)] at hinvC
      exact hyes w4 d F seen f4 (by rw [hI, ← hinvC]; rfl) o4 hF
end
end Go.Proofs.Ythcbcolnahbihaa
