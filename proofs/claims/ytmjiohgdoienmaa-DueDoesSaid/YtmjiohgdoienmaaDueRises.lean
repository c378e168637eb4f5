/- tumbrellaw07.DueRises: the walk. Condition: the list reads as acts whose numbers fit 64 bits. -/
import Derived.Test.YtmjiohgdoienmaaDueLawA
import Derived.Test.YtmjiohgdoienmaaM3
namespace Go.Proofs.Ytmjiohgdoienmaa
open Go.Den

theorem take_snoc {α : Type} {xs : List α} {i : Nat} {a : α} (h : xs[i]? = some a) : xs.take (i + 1) = xs.take i ++ [a] := by
  rw [List.take_add_one, h]; rfl
theorem add_one {i : Nat} (h : i < 1000000000) : IntKind.i64.wrap ((i : Int) + 1) = ((i + 1 : Nat) : Int) := by rw [wrap_i64 (by omega) (by omega)]; omega
theorem sorted_get {S : List E} (h : S.Pairwise ltEP) {i j : Nat} {a b : E} (hij : i < j) (ha : S[i]? = some a) (hb : S[j]? = some b) : ltEP a b := by
  obtain ⟨hi, rfl⟩ := List.getElem?_eq_some_iff.1 ha
  obtain ⟨hj, rfl⟩ := List.getElem?_eq_some_iff.1 hb
  exact List.pairwise_iff_getElem.1 h i j hi hj hij

theorem due_rises {w : World} {v : Value} {xs : List Act} (hA : Arr encA 3 w v xs) (hok : ∀ a ∈ xs, ActOk a) {R : Value → World → Prop} (hR : ∀ w', Fr [] w w' → R (.bool true) w') :
    CALL PR F_tumbrellaw07_DueRises [v] w R := by
  refine C_tumbrellaw07_DueRises ?_
  unfold M_tumbrellaw07_DueRises
  refine due_awake fun w1 f1 => ?_
  refine BND_step (unv_not _) <| (COND_false _ _).2 ?_
  have hA1 := hA.fr f1 (by simp)
  refine BND_step hA.len <| BND_step (binv_gtr _ _ _ _) ?_
  by_cases hlen : 200 < xs.length
  · exact COND_dec_true (by omega) (hR w1 f1)
  refine COND_dec_false (by omega) ?_
  refine due_New fun w2 hb F2 O2 f2 n2 => ?_
  have n2' : ∀ b ∈ F2, hsz w ≤ b := fun b hb' => Nat.le_trans f1.grow (n2 b hb')
  refine BND_step hA.len ?_
  refine ⟨fun u t w3 => ∃ (i : Nat) (F : List Nat), t = .int .i64 i ∧ i ≤ xs.length ∧ u = .int .i64 ((putAll (xs.take i)).length : Nat) ∧ DueOwn w3 hb (putAll (xs.take i)) F ∧ Fr [] w w3 ∧ (∀ b ∈ F, hsz w ≤ b),
    fun _ t _ => match t with | .int _ n => xs.length - n.toNat | _ => 0, ⟨0, F2, rfl, by omega, rfl, O2, f1.trans' f2, n2'⟩, ?_⟩
  rintro _ _ _ w3 ⟨i, F, rfl, hi, rfl, O3, f3, n3⟩
  have hSl := putAll_len (xs.take i)
  have hSl2 : (putAll (xs.take i)).length ≤ 200 := by simp at hSl; omega
  refine BND_step (binv_lss _ _ _ _) ?_
  by_cases hlt : i < xs.length
  · refine COND_dec_true (by omega) ?_
    have hx := List.getElem?_eq_getElem hlt
    generalize xs[i] = a at hx
    obtain ⟨p, hp1, hp2, _⟩ := (hA.fr f3 (by simp)).at hx rfl .i64
    refine BND_step hp1 <| BND_step hp2 ?_
    refine box_step (zs := [_, _, _]) (vs := encA a) rfl rfl (encA_one a) (by simp [encA]) fun w5 b5 f5 z5 => ?_
    refine BND_step (faddr_ptr _ _ _) <| BND_step (v := .int .u64 a.2.1) (by rw [load1_blk b5]; rfl) <| BND_step (faddr_ptr _ _ _) <| BND_step (v := .int .u64 a.2.2) (by rw [load1_blk b5]; rfl) ?_
    have O5 := O3.fr f5 (by simp)
    have f35 := f3.trans' f5
    refine due_Put O5 (by omega) a.2.1 a.2.2 (fun hin => ?_) (fun hni w6 F6 O6 f6 s6 => ?_)
    · unfold JOIN
      refine (COND_false _ _).2 <| BND_step (v := .int .i64 ((i + 1 : Nat) : Int)) (by rw [binv_add, add_one (by omega)]) ?_
      have hp : putAll (xs.take (i + 1)) = putAll (xs.take i) := by rw [take_snoc hx, putAll_snoc, put1, if_pos hin]
      exact ⟨⟨i + 1, F, rfl, hlt, by rw [hp], by rw [hp]; exact O5, f35, n3⟩, by simp; omega⟩
    · unfold JOIN
      refine (COND_true _ _).2 <| BND_step (v := .int .i64 (((putAll (xs.take i)).length + 1 : Nat) : Int)) (by rw [binv_add, add_one (by omega)]) <| BND_step (v := .int .i64 ((i + 1 : Nat) : Int)) (by rw [binv_add, add_one (by omega)]) ?_
      have hp : putAll (xs.take (i + 1)) = insS (putAll (xs.take i)) (a.2.2, a.2.1) := by rw [take_snoc hx, putAll_snoc, put1, if_neg hni]
      exact ⟨⟨i + 1, F6, rfl, hlt, by rw [hp, insS_len], by rw [hp]; exact O6, f35.trans f6 (fun b hb' => .inr (n3 b hb')),
        fun b hb' => (s6 b hb').elim (n3 b) (fun h => Nat.le_trans f35.grow h)⟩, by simp; omega⟩
  refine COND_dec_false (by omega) ?_
  have hi' : i = xs.length := by omega
  subst hi'
  rw [List.take_length] at *
  have hmax : ∀ e ∈ putAll xs, e.1 ≤ 18446744073709551615 := fun e he => by
    obtain ⟨j, a, h1, _, h3, _⟩ := putAll_mem.1 he
    have := (hok a (List.mem_of_getElem? h1)).at1
    omega
  have hsort := O3.sorted
  generalize hS : putAll xs = S at *
  clear hSl
  refine NEW_intro fun w8 b8 f8 z8 => ?_
  -- the second loop: what is taken
  refine ⟨fun t w9 => ∃ (i : Nat) (x : Value) (e : E), t = .int .i64 i ∧ i ≤ S.length ∧ DueOwn w9 hb (S.drop i) F ∧ Fr [] w w9 ∧ blk w9 (hsz w3) = some (.cells #[x, .int .u64 e.2, .int .u64 e.1] 28 (0, 0)) ∧
      (0 < i → S[i - 1]? = some e), fun t _ => match t with | .int _ n => S.length - n.toNat | _ => 0,
    ⟨0, _, (0, 0), rfl, by omega, by simpa using O3.fr f8 (by simp), f3.trans' f8, b8, fun h => by omega⟩, ?_⟩
  rintro _ _ w9 ⟨i, x, l, rfl, hi, O9, f9, b9, hl⟩
  have hAF : hsz w3 ∉ F := fun h => Nat.lt_irrefl _ (O3.lt _ h)
  have hAn : hsz w ≤ hsz w3 := f3.grow
  refine BND_step (binv_lss _ _ _ _) ?_
  by_cases hlt2 : i < S.length
  · refine COND_dec_true (by omega) ?_
    have hdrop : S.drop i = S[i] :: S.drop (i + 1) := List.drop_eq_getElem_cons hlt2
    have hSi := List.getElem?_eq_getElem hlt2
    have hmem : S[i] ∈ S := List.getElem_mem hlt2
    generalize S[i] = e at hdrop hSi hmem
    refine due_Take O9 (by simp; omega) _ (fun w10 hno _ _ => ?_) (fun e' r he _ w10 O10 f10 => ?_)
    · exfalso
      rcases hno with h | ⟨e', r, he, hlt⟩
      · rw [hdrop] at h; cases h
      · rw [hdrop] at he; cases he
        have := hmax e hmem; omega
    rw [hdrop] at he
    obtain ⟨rfl, rfl⟩ : e = e' ∧ S.drop (i + 1) = r := by simpa using he
    have b10 := f10.some hAF b9
    have f910 : Fr [] w w10 := f9.trans f10 (fun b hb' => .inr (n3 b hb'))
    refine BND_step (v := .int .u64 e.2) rfl <| BND_step (v := .int .u64 e.1) rfl <| BND_step (v := .bool true) rfl <| BND_step (unv_not _) ?_
    refine BND_step (v := .int .i64 i) rfl <| BND_step (v := .bool (decide (0 < (i : Int)))) (by rw [show isB (.bool !true) false = true from rfl, grd_true, binv_gtr]) <| BND_step (v := .bool (decide (0 < (i : Int)))) rfl ?_
    -- whatever came before is less: the test is false
    have rest : ∀ {k : Value → Prop}, k (.bool false) → BND (grd (isB (.bool (decide (0 < (i : Int)))) true) (some (.int .u64 e.1))) fun t55_114 =>
        BND (grd (isB (.bool (decide (0 < (i : Int)))) true) (faddr 2 (.pointer (some ⟨hsz w3, 0, none⟩)))) fun t56_115 =>
        BND (grd (isB (.bool (decide (0 < (i : Int)))) true) (load1 w10 t56_115)) fun t57_116 =>
        BND (grd (isB (.bool (decide (0 < (i : Int)))) true) (binv .int .lss t55_114 t57_116)) fun t58_117 =>
        BND (grd (isB (.bool (decide (0 < (i : Int)))) true) (some t58_117)) fun t59_118 =>
        BND (grd (isB t59_118 false) (some (.int .u64 e.1))) fun t60_119 =>
        BND (grd (isB t59_118 false) (faddr 2 (.pointer (some ⟨hsz w3, 0, none⟩)))) fun t61_120 =>
        BND (grd (isB t59_118 false) (load1 w10 t61_120)) fun t62_121 =>
        BND (grd (isB t59_118 false) (binv .int .eql t60_119 t62_121)) fun t63_122 =>
        BND (grd (isB t59_118 false) (some t63_122)) fun t64_123 =>
        BND (grd (isB t64_123 true) (some (.int .u64 e.2))) fun t65_124 =>
        BND (grd (isB t64_123 true) (faddr 1 (.pointer (some ⟨hsz w3, 0, none⟩)))) fun t66_125 =>
        BND (grd (isB t64_123 true) (load1 w10 t66_125)) fun t67_126 =>
        BND (grd (isB t64_123 true) (binv .int .leq t65_124 t67_126)) fun t68_127 =>
        BND (grd (isB t59_118 false) (pickv t64_123 t68_127 (Value.bool false))) fun t69_128 =>
        BND (grd (isB (.bool (decide (0 < (i : Int)))) true) (pickv t59_118 (Value.bool true) t69_128)) fun t70_129 =>
        BND (grd (isB (.bool !true) false) (pickv (.bool (decide (0 < (i : Int)))) t70_129 (Value.bool false))) fun t71_130 =>
        BND (pickv (.bool !true) (Value.bool true) t71_130) k := by
      intro k hk
      by_cases h0 : 0 < i
      · have hd : decide (0 < (i : Int)) = true := by simp; omega
        have hll : ltEP l e := sorted_get hsort (by omega) (hl h0) hSi
        unfold ltEP at hll
        rw [ltE_iff] at hll
        have d1 : decide (e.1 < l.1) = false := by simp; omega
        rw [hd]
        by_cases he : e.1 = l.1
        · have d2 : decide (e.1 = l.1) = true := by simp [he]
          have d3 : decide (e.2 ≤ l.2) = false := by simp; omega
          simp [load1_blk b10, d1, d2, d3, hk]
        · have d2 : decide (e.1 = l.1) = false := by simp [he]
          simp [load1_blk b10, d1, d2, hk]
      · have hd : decide (0 < (i : Int)) = false := by simp; omega
        rw [hd]
        simp [hk]
    refine rest ?_
    refine (COND_false _ _).2 <| BND_step hA.len ?_
    -- the third loop: the first act of that id
    obtain ⟨j0, a0, hj0, ha1, ha2, ha3⟩ := putAll_mem.1 (show e ∈ putAll xs by rw [hS]; exact hmem)
    refine ⟨fun u t w11 => ∃ (j : Nat) (b : Bool), t = .int .i64 j ∧ j ≤ xs.length ∧ u = .bool b ∧ (b = true ↔ j0 < j) ∧ Fr [] w10 w11, fun _ t _ => match t with | .int _ n => xs.length - n.toNat | _ => 0,
      ⟨0, false, rfl, by omega, rfl, by simp, Fr.refl _ _⟩, ?_⟩
    rintro _ _ _ w11 ⟨j, b, rfl, hj, rfl, hbj, f11⟩
    refine BND_step (binv_lss _ _ _ _) ?_
    by_cases hlt3 : j < xs.length
    · refine COND_dec_true (by omega) ?_
      have hx := List.getElem?_eq_getElem hlt3
      generalize xs[j] = a at hx
      obtain ⟨p, hp1, hp2, _⟩ := (hA.fr (f910.trans' f11) (by simp)).at hx rfl .i64
      refine BND_step hp1 <| BND_step hp2 ?_
      refine box_step (zs := [_, _, _]) (vs := encA a) rfl rfl (encA_one a) (by simp [encA]) fun w13 b13 f13 z13 => ?_
      have f1113 := f11.trans' f13
      refine BND_step (faddr_ptr _ _ _) <| BND_step (v := .int .u64 a.2.1) (by rw [load1_blk b13]; rfl) <| BND_step (binv_eql _ _ _ _) ?_
      have next : ∀ b', (b' = true ↔ j0 < j + 1) → (BND (binv .int .add (Value.int .i64 (j : Nat)) (Value.int .i64 1)) fun t91_170 =>
          ((∃ (j : Nat) (b : Bool), t91_170 = .int .i64 j ∧ j ≤ xs.length ∧ Value.bool b' = .bool b ∧ (b = true ↔ j0 < j) ∧ Fr [] w10 w13) ∧
            (match t91_170 with | .int _ n => xs.length - n.toNat | _ => 0) < xs.length - ((j : Nat) : Int).toNat)) := fun b' hb' =>
        BND_step (v := .int .i64 ((j + 1 : Nat) : Int)) (by rw [binv_add, add_one (by omega)]) ⟨⟨j + 1, b', rfl, hlt3, rfl, hb', f1113⟩, by simp; omega⟩
      by_cases hid : a.2.1 = e.2
      · have hd : decide (a.2.1 = e.2) = true := by simp [hid]
        rw [hd]
        have hj0j : j0 ≤ j := by
          rcases Nat.lt_or_ge j j0 with h | h
          · exact absurd hid (ha3 j a h hx)
          · exact h
        cases b with
        | true =>
          have : j0 < j := hbj.1 rfl
          refine BND_step rfl <| BND_step (v := .bool false) rfl <| BND_step rfl ?_
          unfold JOIN
          exact (COND_false _ _).2 (next true (by simp; omega))
        | false =>
          have hnlt : ¬ j0 < j := fun h => by simpa using hbj.2 h
          have hjj : j = j0 := by omega
          subst hjj
          rw [hj0] at hx
          obtain rfl : a0 = a := by simpa using hx
          refine BND_step rfl <| BND_step (v := .bool true) rfl <| BND_step rfl ?_
          unfold JOIN
          refine (COND_true _ _).2 <| BND_step (faddr_ptr _ _ _) <| BND_step (v := .int .u64 a0.2.2) (by rw [load1_blk b13]; rfl) <| BND_step (v := .bool false) (by rw [binv_neq]; simp [ha2]) <| (COND_false _ _).2 ?_
          exact next true (by simp)
      · have hd : decide (a.2.1 = e.2) = false := by simp [hid]
        rw [hd]
        refine BND_step rfl <| BND_step rfl <| BND_step rfl ?_
        unfold JOIN
        refine (COND_false _ _).2 (next b ?_)
        rw [hbj]
        have : j ≠ j0 := fun h => by subst h; rw [hj0] at hx; cases hx; exact hid ha1
        omega
    refine COND_dec_false (by omega) ?_
    have hj0l : j0 < xs.length := (List.getElem?_eq_some_iff.1 hj0).1
    obtain rfl : b = true := hbj.2 (by omega)
    have b11 := f11.some (by simp) b10
    refine BND_step (unv_not _) <| (COND_false _ _).2 <| BND_step (v := .agg [Value.int .i64 0, .int .u64 e.2, .int .u64 e.1].toArray) rfl ?_
    have hsp : splice #[x, .int .u64 l.2, .int .u64 l.1] 0 [Value.int .i64 0, .int .u64 e.2, .int .u64 e.1] = #[.int .i64 0, .int .u64 e.2, .int .u64 e.1] := splice_all _ _ rfl
    refine BND_step (storevn_blk (o := 0) (vs := [Value.int .i64 0, .int .u64 e.2, .int .u64 e.1]) b11 rfl (by simp) (by simp [Value.oneCell']) (by simp)) <|
      BND_step (v := .int .i64 ((i + 1 : Nat) : Int)) (by rw [binv_add, add_one (by omega)]) ?_
    have f15 : Fr [hsz w3] w11 (setB w11 (hsz w3) (.cells (splice #[x, .int .u64 l.2, .int .u64 l.1] 0 [Value.int .i64 0, .int .u64 e.2, .int .u64 e.1]) 28 (0, 0))) := Fr.setB (.inl (by simp)) _
    refine ⟨⟨i + 1, .int .i64 0, e, rfl, hlt2, (O10.fr f11 (by simp)).fr f15 (fun b hb' h => hAF (by simp at h; subst h; exact hb')), (f910.trans' f11).trans f15 (by simp; omega), ?_, fun _ => by simpa using hSi⟩, by simp; omega⟩
    rw [blk_setB_same b11, hsp]
  refine COND_dec_false (by omega) ?_
  have hdrop : S.drop i = [] := List.drop_eq_nil_of_le (by omega)
  rw [hdrop] at O9
  refine due_First O9 (fun _ => ?_) (fun e r h => by cases h)
  refine BND_step rfl <| BND_step rfl <| BND_step (v := .bool false) rfl <| BND_step (v := .bool true) rfl <| BND_step (v := .pointer (some ⟨hb, 0, none⟩)) rfl ?_
  refine (GEF_true _ _ _).2 ?_
  refine due_Len O9 ?_
  exact BND_step (v := .bool true) rfl <| BND_step rfl <| hR w9 f9

end Go.Proofs.Ytmjiohgdoienmaa
