/- Dead's memory; New, find, Has, Last, All. No condition but sizes. -/
import Derived.Test.YthcbcolnahbihaaLib4
import Derived.Test.YthcbcolnahbihaaLbRef
import Derived.Test.YthcbcolnahbihaaMa
namespace Go.Proofs.Ythcbcolnahbihaa
open Go.Den

abbrev Row := Int × Int
def encRow (r : Row) : List Value := [.int .u64 r.1, .int .u64 r.2]
def encC (c : ByteArray × Int) : List Value := [.string c.1, .int .u64 c.2]
def encU (n : Int) : List Value := [.int .u64 n]
theorem encRow_len (r : Row) : (encRow r).length = 2 := rfl
theorem encC_len (r : ByteArray × Int) : (encC r).length = 2 := rfl
theorem encU_len (r : Int) : (encU r).length = 1 := rfl
theorem encRow_one (r : Row) : ∀ u ∈ encRow r, u.oneCell' = true := by intro u hu; simp [encRow] at hu; rcases hu with rfl | rfl <;> rfl
theorem encC_one (r : ByteArray × Int) : ∀ u ∈ encC r, u.oneCell' = true := by intro u hu; simp [encC] at hu; rcases hu with rfl | rfl <;> rfl
theorem encU_one (r : Int) : ∀ u ∈ encU r, u.oneCell' = true := by intro u hu; simp [encU] at hu; subst hu; rfl

/-! ## Names and their places -/
abbrev Seen := List (ByteArray × Int)
def toV (S : Seen) : List (ByteArray × Value) := S.map fun p => (p.1, .int .u64 p.2)
def putI : Seen → ByteArray → Int → Seen
  | [], k, v => [(k, v)]
  | (k', v') :: r, k, v => if k = k' then (k, v) :: r else (k', v') :: putI r k v
def atI : Seen → ByteArray → Option Int
  | [], _ => none
  | (k', v') :: r, k => if k = k' then some v' else atI r k
theorem lk_toV (k : ByteArray) : ∀ S : Seen, lk (toV S) k = (atI S k).map (Value.int .u64 ·)
  | [] => rfl
  | (k', v') :: r => by
    have ih := lk_toV k r
    simp only [toV, List.map_cons, lk_cons, atI] at *
    split <;> simp [ih]
theorem ins_toV (k : ByteArray) (v : Int) : ∀ S : Seen, insL (toV S) k (.int .u64 v) = toV (putI S k v)
  | [] => rfl
  | (k', v') :: r => by
    have ih := ins_toV k v r
    simp only [toV, List.map_cons, insL, putI] at *
    split <;> simp [ih]

/-! ## Memory -/
def DeadOwn (w : World) (d : Nat) (rows : List Row) (last : Int) (seen : Seen) (F : List Nat) : Prop :=
  ∃ sv Fa T mb es ck, blk w d = some (.cells #[sv, .int .u64 last, .map (some mb)] T (0, 0)) ∧ Slc encRow 2 w sv rows Fa ∧ blk w mb = some (.map es ck) ∧ MapB (fun s : ByteArray => Value.string s) es ck (toV seen) ∧
    F = d :: mb :: Fa ∧ d ≠ mb ∧ d ∉ Fa ∧ mb ∉ Fa
section
variable {w w' : World} {d : Nat} {rows : List Row} {last : Int} {seen : Seen} {F G : List Nat}
theorem DeadOwn.fr (h : DeadOwn w d rows last seen F) (hf : Fr G w w') (hd : ∀ b ∈ F, b ∉ G) : DeadOwn w' d rows last seen F := by
  obtain ⟨sv, Fa, T, mb, es, ck, h1, h2, h3, h4, rfl, h5, h6, h7⟩ := h
  exact ⟨sv, Fa, T, mb, es, ck, hf.some (hd _ (by simp)) h1, h2.fr hf (fun b hb => hd b (by simp [hb])), hf.some (hd _ (by simp)) h3, h4, rfl, h5, h6, h7⟩
theorem DeadOwn.fr0 (h : DeadOwn w d rows last seen F) (hf : Fr [] w w') : DeadOwn w' d rows last seen F := h.fr hf (by simp)
theorem DeadOwn.lt (h : DeadOwn w d rows last seen F) : ∀ b ∈ F, b < hsz w := by
  obtain ⟨sv, Fa, T, mb, es, ck, h1, h2, h3, h4, rfl, h5, h6, h7⟩ := h
  intro b hb
  rcases List.mem_cons.1 hb with rfl | hb
  · exact blk_lt h1
  rcases List.mem_cons.1 hb with rfl | hb
  · exact blk_lt h3
  · exact h2.lt b hb
end
section
variable {w : World} {d : Nat} {rows : List Row} {last : Int} {seen : Seen} {F : List Nat} {R : Value → World → Prop}
theorem dd_New (hR : ∀ w' d F, DeadOwn w' d [] 0 [] F → (∀ b ∈ F, hsz w ≤ b) → Fr [] w w' → R (.pointer (some ⟨d, 0, none⟩)) w') : CALL PR F_dead_New [] w R := by
  refine C_dead_New ?_
  unfold M_dead_New
  refine NEWMAP_intro fun w1 b1 f1 z1 => BND_step (v := .agg #[.slice none 0 0, .int .u64 0, .map (some (hsz w))]) rfl ?_
  refine NEW_intro fun w2 b2 f2 z2 => ?_
  refine hR w2 (hsz w1) [hsz w1, hsz w] ⟨.slice none 0 0, [], _, hsz w, #[], 0, b2, Slc.nil _ _ _, f2.some (by simp) b1, MapB.nil _, rfl, by omega, by simp, by simp⟩ ?_ (f1.trans' f2)
  intro b hb
  simp at hb
  rcases hb with rfl | rfl <;> omega

theorem ix_rows {sv fv : Value} {Fa : List Nat} (p : Row → Bool) (hs : Slc encRow 2 w sv rows Fa) (hn : rows.length < 1000000000)
    (hf : ∀ w1 x (K : Value → World → Prop), Fr [] w w1 → (∀ w2, Fr [] w1 w2 → K (.bool (p x)) w2) → CALLV PR fv [.agg (encRow x).toArray] w1 K)
    (hno : ∀ w', Fr [] w w' → (∀ r ∈ rows, p r = false) → R (.int .i64 (-1)) w')
    (hyes : ∀ w' (k : Nat) r, Fr [] w w' → rows[k]? = some r → p r = true → (∀ j x, j < k → rows[j]? = some x → p x = false) → R (.int .i64 (k : Int)) w') :
    CALL PR F_slices_IndexFunc_dead_Row_dead_Row [sv, fv] w R := by
  refine C_slices_IndexFunc_dead_Row_dead_Row ?_
  unfold M_slices_IndexFunc_dead_Row_dead_Row
  refine BND_step hs.len ?_
  refine ⟨fun t w' => ∃ i : Nat, t = .int .i64 i ∧ Fr [] w w' ∧ i ≤ rows.length ∧ ∀ (j : Nat) (x : Row), j < i → rows[j]? = some x → p x = false, fun t _ => match t with | .int _ n => rows.length - n.toNat | _ => 0,
    ⟨0, rfl, Fr.refl _ _, by omega, fun j x hj => by omega⟩, ?_⟩
  rintro _ _ w1 ⟨i, rfl, f1, hi, hb⟩
  have g1 := hs.fr f1 (by simp)
  refine BND_step (binv_lss _ _ _ _) ?_
  by_cases hlt : i < rows.length
  · refine COND_dec_true (by omega) ?_
    obtain ⟨b, rfl, ei⟩ := g1.iaddr hlt .i64
    have hx := List.getElem?_eq_getElem hlt
    refine BND_step ei <| BND_step (g1.loadn hx rfl) <| hf w1 _ _ f1 fun w2 f2 => ?_
    cases hp : p rows[i] with
    | true => exact (COND_true _ _).2 (hyes w2 i _ (f1.trans' f2) hx hp hb)
    | false =>
      refine (COND_false _ _).2 <| BND_step (add1 (by omega)) ⟨⟨i + 1, rfl, f1.trans' f2, hlt, fun j x hj hjx => ?_⟩, by simp; omega⟩
      by_cases hji : j = i
      · subst hji; rw [hx] at hjx; cases hjx; exact hp
      · exact hb j x (by omega) hjx
  · refine COND_dec_false (by omega) (hno w1 f1 fun r hr => ?_)
    obtain ⟨j, hj, rfl⟩ := List.getElem_of_mem hr
    exact hb j _ (by omega) (List.getElem?_eq_getElem hj)

theorem dd_find (h : DeadOwn w d rows last seen F) (hn : rows.length < 1000000000) (id : Int)
    (hno : ∀ w', Fr [] w w' → (∀ r ∈ rows, r.1 ≠ id) → R (.int .i64 (-1)) w')
    (hyes : ∀ w' (k : Nat) r, Fr [] w w' → rows[k]? = some r → r.1 = id → (∀ j x, j < k → rows[j]? = some x → x.1 ≠ id) → R (.int .i64 (k : Int)) w') :
    CALL PR F_dead_Dead_find [.pointer (some ⟨d, 0, none⟩), .int .u64 id] w R := by
  refine C_dead_Dead_find ?_
  unfold M_dead_Dead_find
  refine NEW_intro fun w1 b1 f1 z1 => ?_
  obtain ⟨sv, Fa, T, mb, es, ck, h1, h2, h3, h4, rfl, h5, h6, h7⟩ := h.fr0 f1
  refine BND_step (nilchk_ptr _) <| BND_step (faddr_ptr _ _ _) <| BND_step (v := sv) (load1_blk h1) ?_
  refine ix_rows (fun r => decide (r.1 = id)) h2 hn ?_ ?_ ?_
  · intro w2 x K f2 hK
    rw [CALLV_func (by kernel_rfl)]
    refine C_dead_Dead_find_1 ?_
    unfold M_dead_Dead_find_1
    refine NEW_intro fun w3 b3 f3 z3 => ?_
    have b1' := f3.some (by simp) (f2.some (by simp) b1)
    refine BND_step (faddr_ptr _ _ _) <| BND_step (v := .int .u64 x.1) (load1_blk b3) <| BND_step (v := .int .u64 id) (load1_blk b1') <| BND_step (binv_eql _ _ _ _) ?_
    exact hK w3 f3
  · intro w2 f2 hall
    exact hno w2 (f1.trans' f2) fun r hr => by simpa using hall r hr
  · intro w2 k r f2 hk hr hb
    exact hyes w2 k r (f1.trans' f2) hk (by simpa using hr) fun j x hj hx => by simpa using hb j x hj hx

def hasI (rows : List Row) (id : Int) : Bool := rows.any fun r => decide (r.1 = id)
theorem dd_Has (h : DeadOwn w d rows last seen F) (hn : rows.length < 1000000000) (id : Int) (hR : ∀ w', Fr [] w w' → R (.bool (hasI rows id)) w') :
    CALL PR F_dead_Dead_Has [.pointer (some ⟨d, 0, none⟩), .int .u64 id] w R := by
  refine C_dead_Dead_Has ?_
  unfold M_dead_Dead_Has
  refine dd_find h hn id (fun w1 f1 hall => BND_step (binv_geq _ _ _ _) ?_) (fun w1 k r f1 hk hr _ => BND_step (binv_geq _ _ _ _) ?_)
  · have : hasI rows id = false := by
      unfold hasI
      rw [List.any_eq_false]
      intro r hr; simpa using hall r hr
    have h2 := hR w1 f1
    rw [this] at h2
    exact h2
  · have : hasI rows id = true := by
      unfold hasI
      rw [List.any_eq_true]
      exact ⟨r, List.mem_of_getElem? hk, by simpa using hr⟩
    have h2 := hR w1 f1
    rw [this] at h2
    rw [decide_eq_true (by omega : (0 : Int) ≤ k)]
    exact h2

theorem dd_Last (h : DeadOwn w d rows last seen F) (hR : R (.int .u64 last) w) : CALL PR F_dead_Dead_Last [.pointer (some ⟨d, 0, none⟩)] w R := by
  refine C_dead_Dead_Last ?_
  unfold M_dead_Dead_Last
  obtain ⟨sv, Fa, T, mb, es, ck, h1, h2, h3, h4, rfl, h5, h6, h7⟩ := h
  exact BND_step (nilchk_ptr _) <| BND_step (faddr_ptr _ _ _) <| BND_step (v := .int .u64 last) (load1_blk h1) hR

theorem dd_All (h : DeadOwn w d rows last seen F) (hn : rows.length < 1000000000) (hR : ∀ v w' G, Slc encRow 2 w' v rows G → (∀ b ∈ G, hsz w ≤ b) → Fr [] w w' → R v w') : CALL PR F_dead_Dead_All [.pointer (some ⟨d, 0, none⟩)] w R := by
  refine C_dead_Dead_All ?_
  unfold M_dead_Dead_All
  obtain ⟨sv, Fa, T, mb, es, ck, h1, h2, h3, h4, rfl, h5, h6, h7⟩ := h
  refine BND_step (nilchk_ptr _) <| BND_step (faddr_ptr _ _ _) <| BND_step (v := sv) (load1_blk h1) ?_
  refine C_slices_Clone_dead_Row_dead_Row ?_
  unfold M_slices_Clone_dead_Row_dead_Row
  have h2' := h2
  rcases h2 with ⟨rfl, rfl, rfl⟩ | ⟨b, cap, c, T', rfl, hb, hc, hs, rfl, hel⟩
  · refine BND_step rfl <| (COND_true _ _).2 (hR _ _ [] (Slc.nil _ _ _) (by simp) (Fr.refl _ _))
  · refine BND_step (v := .bool false) rfl <| (COND_false _ _).2 <| newnil_step encRow fun t w1 s1 f1 z1 => ?_
    refine APPEND_slc s1 ((h2'.fr f1 (by simp)).loads encRow_len) encRow_len encRow_one rfl (by simp; omega) (by simp; omega) fun v w2 G s2 f2 sub => ?_
    refine hR v w2 G (by simpa using s2) (fun b hb => ?_) (f1.trans f2 (by simp))
    rcases sub b hb with h | h
    · simp at h; omega
    · omega
end
end Go.Proofs.Ythcbcolnahbihaa
