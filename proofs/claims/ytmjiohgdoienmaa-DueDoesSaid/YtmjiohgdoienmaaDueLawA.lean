/- tumbrellaw07: awake; what is put into an empty heap, one by one. No condition. -/
import Derived.Test.YtmjiohgdoienmaaDueOps
import Derived.Test.YtmjiohgdoienmaaM6
namespace Go.Proofs.Ytmjiohgdoienmaa
open Go.Den

theorem due_awake {w : World} {R : Value → World → Prop} (hR : ∀ w', Fr [] w w' → R (.bool true) w') : CALL PR F_tumbrellaw07_awake [] w R := by
  refine C_tumbrellaw07_awake ?_
  unfold M_tumbrellaw07_awake
  refine due_New fun w1 hb F O1 f1 n1 => ?_
  refine BND_step (binv_ptr_nil _) <| (COND_false _ _).2 ?_
  have new : ∀ {F G : List Nat} {w w2 : World}, (∀ b ∈ G, b ∈ F ∨ hsz w2 ≤ b) → hsz w ≤ hsz w2 → (∀ b ∈ F, hsz w ≤ b) → ∀ b ∈ G, hsz w ≤ b := fun h h1 h2 b hb => (h b hb).elim (h2 b) (fun h => by omega)
  have tr : ∀ {F : List Nat} {w w1 w2 : World}, Fr [] w w1 → Fr F w1 w2 → (∀ b ∈ F, hsz w ≤ b) → Fr [] w w2 := fun h h' hs => h.trans h' fun b hb => .inr (hs b hb)
  refine due_Put O1 (by simp) 1 5 (fun h => absurd h (by simp)) fun _ w2 F2 O2 f2 s2 => ?_
  have n2 := new s2 f1.grow n1
  have t2 := tr f1 f2 n1
  refine due_Put O2 (by simp [insS]) 2 3 (fun h => absurd h (by simp [insS])) fun _ w3 F3 O3 f3 s3 => ?_
  have n3 := new s3 t2.grow n2
  have t3 := tr t2 f3 n2
  have e3 : insS (insS [] (5, 1)) (3, 2) = [(3, 2), (5, 1)] := by decide
  rw [e3] at O3
  refine due_Put O3 (by simp) 1 9 (fun _ => ?_) (fun h => absurd (by simp) h)
  refine due_Take O3 (by simp) 9 (fun w4 h _ _ => absurd h (by simp)) fun e r he _ w4 O4 f4 => ?_
  have t4 := tr t3 f4 n3
  simp only [List.cons.injEq] at he
  obtain ⟨rfl, rfl⟩ := he
  refine BND_step (v := .int .u64 2) rfl <| BND_step (v := .int .u64 3) rfl <| BND_step (v := .bool true) rfl ?_
  refine due_Move O4 (by simp) 1 7 (fun h => absurd (by simp) h) fun _ w5 O5 f5 => ?_
  have t5 := tr t4 f5 n3
  have e5 : insS (remS [(5, 1)] 1) (7, 1) = [(7, 1)] := by decide
  rw [e5] at O5
  refine due_Take O5 (by simp) 6 (fun w6 _ O6 f6 => ?_) (fun e r he hle w6 _ _ => by simp only [List.cons.injEq] at he; obtain ⟨rfl, _⟩ := he; simp at hle)
  have t6 := tr t5 f6 n3
  simp only [extractv_tuple, List.getElem?_toArray, List.getElem?_cons_zero, List.getElem?_cons_succ, BND_some, isB_tt, grd_true, pickv_true, unv_not, Bool.not_false, binv_eql, decide_true, GEF_true]
  refine due_Len O6 ?_
  simp only [List.length_cons, List.length_nil, isB_tt, grd_true, binv_eql, BND_some, pickv_true, Nat.zero_add, Int.cast_ofNat_Int, decide_true, GEF_true]
  refine due_Drop O6 (by simp) 1 (fun h => absurd (by simp) h) fun _ w7 O7 f7 => ?_
  have t7 := tr t6 f7 n3
  have e7 : remS [((7 : Int), (1 : Int))] 1 = [] := by decide
  rw [e7] at O7
  simp only [isB_tt, grd_true, BND_some, pickv_true, GEF_true]
  refine due_Len O7 ?_
  simp only [List.length_nil, binv_eql, BND_some, Int.cast_ofNat_Int, decide_true]
  exact hR w7 t7

/-- an act: what is done, an id, a time. -/
abbrev Act := Int × Int × Int
def encA (a : Act) : List Value := [.int .i64 a.1, .int .u64 a.2.1, .int .u64 a.2.2]
theorem encA_len (a : Act) : (encA a).length = 3 := rfl
theorem encA_one (a : Act) : ∀ u ∈ encA a, u.oneCell' = true := by
  intro u hu; simp [encA] at hu; rcases hu with rfl | rfl | rfl <;> rfl
structure ActOk (a : Act) : Prop where
  id0 : 0 ≤ a.2.1
  id1 : a.2.1 < 18446744073709551616
  at0 : 0 ≤ a.2.2
  at1 : a.2.2 < 18446744073709551616

/-- one put: nothing, of an id that is there. -/
def put1 (S : List E) (a : Act) : List E := if a.2.1 ∈ S.map (·.2) then S else insS S (a.2.2, a.2.1)
def putAll (xs : List Act) : List E := xs.foldl put1 []
theorem putAll_snoc (xs : List Act) (a : Act) : putAll (xs ++ [a]) = put1 (putAll xs) a := by simp [putAll]
theorem insS_mem {S : List E} {e x : E} : x ∈ insS S e ↔ x = e ∨ x ∈ S := by rw [(insS_perm S e).mem_iff]; simp
theorem insS_len (S : List E) (e : E) : (insS S e).length = S.length + 1 := by simp [(insS_perm S e).length_eq]
theorem putAll_len (xs : List Act) : (putAll xs).length ≤ xs.length := by
  induction xs using snoc_ind with
  | h0 => simp [putAll]
  | h1 xs a ih =>
    rw [putAll_snoc]; unfold put1
    split
    · simp; omega
    · rw [insS_len]; simp; omega
/-- who is there, and since which act. -/
theorem putAll_mem {xs : List Act} {e : E} : e ∈ putAll xs ↔ ∃ (j : Nat) (a : Act), xs[j]? = some a ∧ a.2.1 = e.2 ∧ a.2.2 = e.1 ∧ ∀ (k : Nat) (b : Act), k < j → xs[k]? = some b → b.2.1 ≠ e.2 := by
  induction xs using snoc_ind generalizing e with
  | h0 => simp [putAll]
  | h1 xs a ih =>
    have hids : ∀ id, id ∈ (putAll xs).map (·.2) ↔ ∃ (k : Nat) (b : Act), xs[k]? = some b ∧ b.2.1 = id := by
      intro id
      rw [List.mem_map]
      constructor
      · rintro ⟨e, he, rfl⟩
        obtain ⟨j, a, h1, h2, _⟩ := ih.1 he
        exact ⟨j, a, h1, h2⟩
      · rintro ⟨k, b, h1, h2⟩
        -- the first such one
        have : ∃ k : Nat, (∃ b : Act, xs[k]? = some b ∧ b.2.1 = id) ∧ ∀ m : Nat, m < k → ¬ ∃ b : Act, xs[m]? = some b ∧ b.2.1 = id := by
          induction k using Nat.strongRecOn generalizing b with
          | _ k ihk =>
            by_cases hm : ∃ m : Nat, m < k ∧ ∃ b : Act, xs[m]? = some b ∧ b.2.1 = id
            · obtain ⟨m, hm1, b2, hb2, hb3⟩ := hm
              exact ihk m hm1 b2 hb2 hb3
            · exact ⟨k, ⟨b, h1, h2⟩, fun m hm1 hm2 => hm ⟨m, hm1, hm2⟩⟩
        obtain ⟨k, ⟨b, h1, h2⟩, h3⟩ := this
        exact ⟨(b.2.2, id), ih.2 ⟨k, b, h1, h2, rfl, fun m c hm hc he => h3 m hm ⟨c, hc, he⟩⟩, rfl⟩
    rw [putAll_snoc]
    unfold put1
    split
    · rename_i hin
      obtain ⟨k, b, hk, hb⟩ := (hids _).1 hin
      have hkl : k < xs.length := (List.getElem?_eq_some_iff.1 hk).1
      rw [ih]
      constructor
      · rintro ⟨j, c, h1, h2, h3, h4⟩
        have hj : j < xs.length := (List.getElem?_eq_some_iff.1 h1).1
        exact ⟨j, c, by rw [List.getElem?_append_left hj]; exact h1, h2, h3, fun m d hm hd => h4 m d hm (by rwa [List.getElem?_append_left (by omega)] at hd)⟩
      · rintro ⟨j, c, h1, h2, h3, h4⟩
        by_cases hj : j < xs.length
        · exact ⟨j, c, by rwa [List.getElem?_append_left hj] at h1, h2, h3, fun m d hm hd => h4 m d hm (by rw [List.getElem?_append_left (by omega)]; exact hd)⟩
        · rw [List.getElem?_append_right (by omega)] at h1
          have : j = xs.length := by
            by_cases e : j - xs.length = 0
            · omega
            · simp [e] at h1
          subst this
          simp at h1; subst h1
          exact absurd (hb.trans h2) (h4 k b hkl (by rw [List.getElem?_append_left hkl]; exact hk))
    · rename_i hin
      rw [insS_mem, ih]
      constructor
      · rintro (rfl | ⟨j, c, h1, h2, h3, h4⟩)
        · refine ⟨xs.length, a, by simp, rfl, rfl, fun m d hm hd he => hin ((hids _).2 ⟨m, d, by rwa [List.getElem?_append_left hm] at hd, he⟩)⟩
        · have hj : j < xs.length := (List.getElem?_eq_some_iff.1 h1).1
          exact ⟨j, c, by rw [List.getElem?_append_left hj]; exact h1, h2, h3, fun m d hm hd => h4 m d hm (by rwa [List.getElem?_append_left (by omega)] at hd)⟩
      · rintro ⟨j, c, h1, h2, h3, h4⟩
        by_cases hj : j < xs.length
        · exact .inr ⟨j, c, by rwa [List.getElem?_append_left hj] at h1, h2, h3, fun m d hm hd => h4 m d hm (by rw [List.getElem?_append_left (by omega)]; exact hd)⟩
        · rw [List.getElem?_append_right (by omega)] at h1
          have : j = xs.length := by
            by_cases e : j - xs.length = 0
            · omega
            · simp [e] at h1
          subst this
          simp at h1; subst h1
          exact .inl (Prod.ext h3.symm h2.symm)

end Go.Proofs.Ytmjiohgdoienmaa
