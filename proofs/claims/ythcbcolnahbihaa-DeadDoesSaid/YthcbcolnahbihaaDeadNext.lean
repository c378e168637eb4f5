/- Next of the list of the dead. No condition but sizes. -/
import Derived.Test.YthcbcolnahbihaaDeadOps
import Derived.Test.YthcbcolnahbihaaMa
namespace Go.Proofs.Ythcbcolnahbihaa
open Go.Den

/-- what a consumer is told, and how far it is then. -/
def takeI (n : Int) : List Row → Int → List Int → List Int × Int
  | [], p, out => (out, p)
  | r :: rs, p, out => if p < r.2 ∧ (out.length : Int) < n then takeI n rs r.2 (out ++ [r.1]) else takeI n rs p out
theorem takeI_len (n : Int) : ∀ (rs : List Row) (p : Int) (out : List Int), (takeI n rs p out).1.length ≤ out.length + rs.length
  | [], _, _ => by simp [takeI]
  | r :: rs, p, out => by
    unfold takeI
    split
    · have := takeI_len n rs r.2 (out ++ [r.1]); simp at *; omega
    · have := takeI_len n rs p out; simp at *; omega
structure NextA where
  out : List Int
  err : Int
  seen : Seen
def nextA (rows : List Row) (seen : Seen) (name : ByteArray) (n : Int) : NextA :=
  let nm := txt (foldB name.data.toList)
  if n < 1 ∨ rightB (foldB name.data.toList) = false then ⟨[], 1, seen⟩
  else if atI seen nm = none ∧ 8 ≤ seen.length then ⟨[], 4, seen⟩
  else let t := takeI n rows ((atI seen nm).getD 0) []; ⟨t.1, 0, putI seen nm t.2⟩

theorem drop_cons' {α : Type} {x : List α} {i : Nat} {a : α} (h : x[i]? = some a) : x.drop i = a :: x.drop (i + 1) := by
  obtain ⟨hi, rfl⟩ := List.getElem?_eq_some_iff.1 h
  exact List.drop_eq_getElem_cons hi

section
variable {w : World} {d : Nat} {rows : List Row} {last : Int} {seen : Seen} {F : List Nat} {R : Value → World → Prop}
theorem dd_Next (h : DeadOwn w d rows last seen F) (hn : rows.length < 1000000) {name : ByteArray} (hs : name.size < 100000) (n : Int)
    (hR : ∀ w' v G, DeadOwn w' d rows last (nextA rows seen name n).seen F → Slc encU 1 w' v (nextA rows seen name n).out G → (∀ b ∈ G, hsz w ≤ b) → Fr F w w' → R (.tuple #[v, .int .i64 (nextA rows seen name n).err]) w') :
    CALL PR F_dead_Dead_Next [.pointer (some ⟨d, 0, none⟩), .string name, .int .i64 n] w R := by
  refine C_dead_Dead_Next ?_
  unfold M_dead_Dead_Next
  have hfs : (txt (foldB name.data.toList)).size < 1000000 := by
    rw [txt_size]
    have := foldB_len name.data.toList
    rw [list_len] at this
    omega
  refine lb_Fold (by omega) fun w1 f1 => ?_
  have g1 := h.fr0 f1
  obtain ⟨sv, Fa, T, mb, es, ck, b1, b2, b3, b4, rfl, c1, c2, c3⟩ := g1
  have elk := lookv_L keyStr b3 b4.l (.int .u64 0) (txt (foldB name.data.toList))
  rw [lk_toV] at elk
  generalize hp0 : atI seen (txt (foldB name.data.toList)) = p0 at elk
  have hv0 : (Option.map (Value.int .u64 ·) p0).getD (.int .u64 0) = .int .u64 (p0.getD 0) := by cases p0 <;> rfl
  have hb0 : (Option.map (Value.int .u64 ·) p0).isSome = p0.isSome := by cases p0 <;> rfl
  rw [hv0, hb0] at elk
  refine BND_step (nilchk_ptr _) <| BND_step (faddr_ptr _ _ _) <| BND_step (v := .map (some mb)) (load1_blk b1) <| BND_step elk <| BND_step (v := .int .u64 (p0.getD 0)) rfl <| BND_step (v := .bool p0.isSome) rfl ?_
  have hA : nextA rows seen name n = if n < 1 ∨ rightB (foldB name.data.toList) = false then ⟨[], 1, seen⟩ else if p0 = none ∧ 8 ≤ seen.length then ⟨[], 4, seen⟩ else ⟨(takeI n rows (p0.getD 0) []).1, 0, putI seen (txt (foldB name.data.toList)) (takeI n rows (p0.getD 0) []).2⟩ := by
    unfold nextA; simp only [hp0]
  -- an error
  have hfail : ∀ w2 e, Fr [] w1 w2 → nextA rows seen name n = ⟨[], e, seen⟩ → R (.tuple #[.slice none 0 0, .int .i64 e]) w2 := by
    intro w2 e f2 he
    have := hR w2 (.slice none 0 0) []
    rw [he] at this
    exact this (h.fr0 (f1.trans' f2)) (Slc.nil _ _ _) (by simp) (f1.trans' f2).nil
  refine BND_step (binv_lss _ _ _ _) ?_
  by_cases hn1 : n < 1
  · have e1 : decide (n < 1) = true := by simpa using hn1
    rw [e1]
    simp only [isB_tf, grd_false, GEF_false, BND_some, pickv_true, COND_true]
    exact hfail w1 1 (Fr.refl _ _) (by rw [hA, if_pos (.inl hn1)])
  have e1 : decide (n < 1) = false := by simpa using hn1
  rw [e1]
  simp only [isB_ff, grd_true, GEF_true]
  refine BND_step rfl <| lb_right (by omega) fun w2 f2 => BND_step (unv_not _) <| BND_step (pickv_false _ _) ?_
  rw [txt_list]
  cases hr : rightB (foldB name.data.toList) with
  | false =>
    refine (COND_true _ _).2 ?_
    exact hfail w2 1 f2 (by rw [hA, if_pos (.inr hr)])
  | true =>
    refine (COND_false _ _).2 <| BND_step (unv_not _) ?_
    have hA2 : nextA rows seen name n = if p0 = none ∧ 8 ≤ seen.length then ⟨[], 4, seen⟩ else ⟨(takeI n rows (p0.getD 0) []).1, 0, putI seen (txt (foldB name.data.toList)) (takeI n rows (p0.getD 0) []).2⟩ := by
      rw [hA, if_neg (by simp [hn1, hr])]
    have b1' := f2.some (by simp) b1
    have b2' := b2.fr f2 (by simp)
    have b3' := f2.some (by simp) b3
    -- behind the last refusal
    have go : ¬ (p0 = none ∧ 8 ≤ seen.length) →
        BND (nilchk (.pointer (some ⟨d, 0, none⟩))) fun t44_21 => BND (faddr 0 t44_21) fun t45_22 => BND (load1 w2 t45_22) fun t46_23 => BND (lenl t46_23) fun t47_24 =>
        ∃ (J_25 : Value → Value → Value → World → Prop) (m_25 : Value → Value → Value → World → Nat), J_25 (Value.int .u64 (p0.getD 0)) (Value.slice none 0 0) (Value.int .i64 0) w2 ∧ ∀ (_d_25 : Env) (r_26 a_27 t48_29 : Value) (w3 : World), J_25 r_26 a_27 t48_29 w3 →
        (BND (binv .int .lss t48_29 t47_24) fun t49_51 =>
        COND t49_51
        (BND (iaddr 2 t46_23 t48_29) fun t50_52 =>
        BND (loadn 2 w3 t50_52) fun t51_53 =>
        NEW (newv 48 w3 (Value.agg #[(Value.int .u64 0), (Value.int .u64 0)])) fun t12_54 w4 =>
        BND (storev 2 w4 t12_54 t51_53) fun w5 =>
        BND (faddr 1 t12_54) fun t52_55 =>
        BND (load1 w5 t52_55) fun t53_56 =>
        BND (binv .int .gtr t53_56 r_26) fun t55_57 =>
        BND (grd (isB t55_57 true) (some a_27)) fun t57_58 =>
        BND (grd (isB t55_57 true) (lenl t57_58)) fun t58_59 =>
        BND (grd (isB t55_57 true) (some (.int .i64 n))) fun t59_60 =>
        BND (grd (isB t55_57 true) (binv .int .lss t58_59 t59_60)) fun t60_61 =>
        BND (pickv t55_57 t60_61 (Value.bool false)) fun t61_62 =>
        JOIN (α := Value → Value → World → Prop) (fun k_73 => COND t61_62
        (∃ S_74 : Nat → World → Prop, S_74 6 w5.drew ∧
        BND (faddr 0 t12_54) fun t63_75 =>
        BND (faddr 1 t12_54) fun t67_76 =>
        FLT (S_74 6) (fun w_ => load1 w_ t67_76) fun t68_77 =>
        BND (load1 w5.drew t63_75) fun t64_78 =>
        BND (newslice 29 #[(Value.int .u64 0)] 1 1 [(0, 1, t64_78)] w5.drew) fun p_ => NEW p_ fun t65_79 w7 =>
        S_74 6 w7 ∧
        APPEND 29 1 8 (Value.int .u64 0) a_27 t65_79 w7 fun t66_80 w8 =>
        S_74 6 w8 ∧
        k_73 t68_77 t66_80 w8)
        (k_73 r_26 a_27 w5))
        (fun r_63 a_64 w6 => BND (binv .int .add t48_29 (Value.int .i64 1)) fun t69_72 =>
        (J_25 r_63 a_64 t69_72 w6 ∧ m_25 r_63 a_64 t69_72 w6 < m_25 r_26 a_27 t48_29 w3)))
        (BND (nilchk (.pointer (some ⟨d, 0, none⟩))) fun t71_81 =>
        BND (faddr 2 t71_81) fun t72_82 =>
        BND (load1 w3 t72_82) fun t73_83 =>
        BND (mupd .string w3 t73_83 (.string (txt (foldB name.data.toList))) r_26) fun w9 =>
        R (.tuple #[a_27, (Value.int .i64 0)]) w9)) := by
      intro hok
      rw [if_neg hok] at hA2
      refine BND_step (nilchk_ptr _) <| BND_step (faddr_ptr _ _ _) <| BND_step (v := sv) (load1_blk b1') <| BND_step b2'.len ?_
      refine ⟨fun tr ta ti w' => ∃ (i : Nat) (p : Int) (out : List Int) (G : List Nat), ti = .int .i64 i ∧ tr = .int .u64 p ∧ Slc encU 1 w' ta out G ∧ (∀ b ∈ G, hsz w2 ≤ b) ∧ Fr [] w2 w' ∧ i ≤ rows.length ∧ out.length ≤ i ∧ takeI n (rows.drop i) p out = takeI n rows (p0.getD 0) [],
        fun _ _ t _ => match t with | .int _ k => rows.length - k.toNat | _ => 0, ⟨0, p0.getD 0, [], [], rfl, rfl, Slc.nil _ _ _, by simp, Fr.refl _ _, by omega, by simp, by simp⟩, ?_⟩
      rintro _ _ _ _ w3 ⟨i, p, out, G, rfl, rfl, hout, hG, f3, hi, hol, hinv⟩
      have b1'' := f3.some (by simp) b1'
      have b2'' := b2'.fr f3 (by simp)
      have b3'' := f3.some (by simp) b3'
      refine BND_step (binv_lss _ _ _ _) ?_
      by_cases hlt : i < rows.length
      · refine COND_dec_true (by omega) ?_
        have hx := List.getElem?_eq_getElem hlt
        obtain ⟨sb, e1, ei⟩ := b2''.iaddr hlt .i64
        subst e1
        rw [drop_cons' hx] at hinv
        generalize rows[i] = r at hx hinv
        refine BND_step ei <| BND_step (b2''.loadn hx rfl) <| box_step (zs := [.int .u64 0, .int .u64 0]) (vs := encRow r) rfl rfl (encRow_one r) (by simp [encRow]) fun w4 b4 f4 z4 => ?_
        refine BND_step (faddr_ptr _ _ _) <| BND_step (v := .int .u64 r.2) (load1_blk b4) <| BND_step (binv_gtr _ _ _ _) ?_
        have hout4 := hout.fr f4 (by simp)
        -- the round's end
        have fin : ∀ (p' : Int) (out' : List Int) (G' : List Nat) (ta : Value) (w6 : World), Slc encU 1 w6 ta out' G' → (∀ b ∈ G', hsz w2 ≤ b) → Fr [] w2 w6 → out'.length ≤ i + 1 → takeI n (rows.drop (i + 1)) p' out' = takeI n rows (p0.getD 0) [] →
            BND (binv .int .add (.int .i64 (i : Int)) (Value.int .i64 1)) fun t69_72 => ((∃ (i : Nat) (p : Int) (out : List Int) (G : List Nat), t69_72 = .int .i64 i ∧ (Value.int .u64 p') = .int .u64 p ∧ Slc encU 1 w6 ta out G ∧ (∀ b ∈ G, hsz w2 ≤ b) ∧ Fr [] w2 w6 ∧ i ≤ rows.length ∧ out.length ≤ i ∧ takeI n (rows.drop i) p out = takeI n rows (p0.getD 0) []) ∧
              (match t69_72 with | .int _ k => rows.length - k.toNat | _ => 0) < rows.length - (i : Int).toNat) := by
          intro p' out' G' ta w6 h1 h2 h3 h4 h5
          exact BND_step (add1 (by omega)) ⟨⟨i + 1, p', out', G', rfl, rfl, h1, h2, h3, hlt, h4, h5⟩, by simp; omega⟩
        by_cases hp : p < r.2
        · have e2 : decide (p < r.2) = true := by simpa using hp
          rw [e2]
          simp only [isB_tt, grd_true]
          refine BND_step rfl <| BND_step hout4.len <| BND_step rfl <| BND_step (binv_lss _ _ _ _) <| BND_step (pickv_true _ _) ?_
          by_cases hlen : (out.length : Int) < n
          · refine JOIN_elim fun K hK => COND_dec_true hlen ?_
            have f5 : Fr [] w4 w4.drew := Fr.drew _ _
            have b5 : blk w4.drew (hsz w3) = some (.cells (encRow r).toArray 48 (0, 0)) := b4
            have hout5 := hout4.fr f5 (by simp)
            generalize w4.drew = w5 at f5 b5 hout5
            refine ⟨fun _ w' => blk w' (hsz w3) = some (.cells (encRow r).toArray 48 (0, 0)), b5, ?_⟩
            refine BND_step (faddr_ptr _ _ _) <| BND_step (faddr_ptr _ _ _) <| FLT.mk (.int .u64 r.2) (fun w' hw => load1_blk hw) <| BND_step (v := .int .u64 r.1) (load1_blk b5) <|
              newone_step (enc := encU) (x := r.1) encU_len rfl fun t w7 s7 f7 z7 => ⟨f7.some (by simp) b5, ?_⟩
            refine APPEND_slc (hout5.fr f7 (by simp)) (s7.loads encU_len) encU_len encU_one rfl (by simp; omega) (by simp; omega) fun ta w8 G' s8 f8 sub => ⟨?_, ?_⟩
            · have hnb : hsz w3 ∉ G := fun hb => by have := hout.lt _ hb; omega
              exact f8.some hnb (f7.some (by simp) b5)
            subst hK
            have hg2 : hsz w2 ≤ hsz w7 := by have := f3.grow; have := f4.grow; have := f5.grow; have := f7.grow; omega
            refine fin r.2 (out ++ [r.1]) G' ta w8 s8 (fun b hb => ?_) ?_ (by simp; omega) ?_
            · rcases sub b hb with h | h
              · exact hG b h
              · omega
            · exact (f3.trans' <| f4.trans' <| f5.trans' f7).trans f8 fun b hb => .inr (hG b hb)
            · have e : takeI n (r :: rows.drop (i + 1)) p out = takeI n (rows.drop (i + 1)) r.2 (out ++ [r.1]) := by
                rw [takeI, if_pos ⟨hp, hlen⟩]
              rw [← e]; exact hinv
          · refine JOIN_elim fun K hK => COND_dec_false hlen ?_
            subst hK
            refine fin p out G _ w4 hout4 hG (f3.trans' f4) (by omega) ?_
            have e : takeI n (r :: rows.drop (i + 1)) p out = takeI n (rows.drop (i + 1)) p out := by
              rw [takeI, if_neg (fun h => hlen h.2)]
            rw [← e]; exact hinv
        · have e2 : decide (p < r.2) = false := by simpa using hp
          rw [e2]
          simp only [isB_ft, grd_false, BND_some, pickv_false]
          refine JOIN_elim fun K hK => (COND_false _ _).2 ?_
          subst hK
          refine fin p out G _ w4 hout4 hG (f3.trans' f4) (by omega) ?_
          have e : takeI n (r :: rows.drop (i + 1)) p out = takeI n (rows.drop (i + 1)) p out := by
            rw [takeI, if_neg (fun h => hp h.1)]
          rw [← e]; exact hinv
      · refine COND_dec_false (by omega) ?_
        have hfin : takeI n rows (p0.getD 0) [] = (out, p) := by
          rw [← hinv, List.drop_of_length_le (by omega : rows.length ≤ i)]; rfl
        obtain ⟨es', ck', eu, l'⟩ := mupd_B keyStr b3'' b4 (txt (foldB name.data.toList)) (.int .u64 p)
        refine BND_step (nilchk_ptr _) <| BND_step (faddr_ptr _ _ _) <| BND_step (v := .map (some mb)) (load1_blk b1'') <| BND_step eu ?_
        have f4 : Fr [mb] w3 (setB w3 mb (.map es' ck')) := Fr.setB (.inl (by simp)) _
        have hmG : mb ∉ G := fun hb => by have := hG _ hb; have h2 := blk_lt b3'; omega
        rw [hfin] at hA2
        have hz := f1.grow
        have hz2 := f2.grow
        have := hR (setB w3 mb (.map es' ck')) _ G ⟨sv, Fa, T, mb, es', ck', f4.some (by simp; exact c1) b1'', b2''.fr f4 (fun b hb => by simp; rintro rfl; exact c3 hb), blk_setB_same b3'', ?_, rfl, c1, c2, c3⟩
          (by rw [hA2]; exact hout.fr f4 (fun b hb => by simp; rintro rfl; exact hmG hb)) (fun b hb => by have := hG b hb; omega)
          ((f1.trans' <| f2.trans' f3).nil.trans' (f4.wider (by simp)))
        · rw [hA2] at this
          exact this
        · rw [hA2, ← ins_toV]; exact l'
    cases p0 with
    | some p =>
      simp only [Option.isSome_some, Bool.not_true, isB_ft, grd_false, BND_some, pickv_false, COND_false]
      exact go (by simp)
    | none =>
      simp only [Option.isSome_none, Bool.not_false, isB_tt, grd_true]
      refine BND_step rfl <| BND_step (nilchk_ptr _) <| BND_step (faddr_ptr _ _ _) <| BND_step (v := .map (some mb)) (load1_blk b1') <| BND_step (mlenv_L b3' b4.l) <| BND_step (binv_geq _ _ _ _) <| BND_step (pickv_true _ _) ?_
      have hlen : (toV seen).length = seen.length := by simp [toV]
      by_cases h8 : 8 ≤ seen.length
      · refine COND_dec_true (by omega) ?_
        exact hfail w2 4 f2 (by rw [hA2, if_pos ⟨rfl, h8⟩])
      · refine COND_dec_false (by omega) ?_
        exact go (by simp; omega)
end
end Go.Proofs.Ythcbcolnahbihaa
