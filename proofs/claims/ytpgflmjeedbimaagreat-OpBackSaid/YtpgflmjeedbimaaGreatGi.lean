/- Dead's memory; New, find, Has, Last, All. No condition but sizes. Add, Drop of the list of the dead. No condition but sizes. Next of the list of the dead. No condition but sizes. A queue, in plain words: its state, what each call makes of it. No condition. A queue as it lies in memory (who stands where), and that this is the plain one: a message at another life. No condition. Things that lie apart in memory: which blocks each has; one is changed, the others stay. No condition. A map ranged over: its iterator in memory, what a step does. No condition but sizes. Two things that lie apart: one is changed, then the other one. No condition. Lanes: ids in a ring of links; New, Put, Drop, Has, Len. No condition. What a message is at, walked. Conditions: numbers are of 64 bits. What a message is at, walked: leases, and what ends them. Conditions: numbers are of 64 bits. A disk, in plain words: what each call makes of it, and answers. No condition. A disk in memory; its directory, what may be done, names. No condition but sizes. A directory's names, sorted (slices.Sorted of maps.Keys); maps.Clone: by the kit's contracts. No condition but sizes. A disk's directory changed, its files changed: what the calls are made of. No condition but sizes. A disk's calls: change, named, Create, Delete, Rename, DirSync, Names, New. No condition but sizes. A disk's calls: Create, Delete, Rename, DirSync, Names, New. No condition but sizes. A disk's calls: Delete, Rename, DirSync, Names, New. No condition but sizes. A disk's calls: New, Read, Sync, Cut. No condition but sizes. A disk's bytes held: each file once. No condition but sizes. A disk's calls: Append. No condition but sizes. A disk's calls: Crash. No condition but sizes. Helps for walks upon disks. No condition. A queue in memory; a message leaves, stands, is at another life. No condition but sizes. A new queue. No condition. -/
import Derived.Test.YtpgflmjeedbimaaGreatGh
import Derived.Test.YtpgflmjeedbimaaGreatMa
import Derived.Test.YtpgflmjeedbimaaGreatMb
import Derived.Test.YtpgflmjeedbimaaGreatGd
import Derived.Lib.SmallJoins
set_option linter.unusedVariables false
set_option linter.unusedSimpArgs false
section
namespace Go.Proofs.YtpgflmjeedbimaaGreat
open Go.Den
abbrev RowD := Int × Int
def encRd (r : RowD) : List Value := [.int .u64 r.1, .int .u64 r.2]
def encCd (c : ByteArray × Int) : List Value := [.string c.1, .int .u64 c.2]
def encUd (n : Int) : List Value := [.int .u64 n]
theorem encRd_len (r : RowD) : (encRd r).length = 2 := rfl
theorem encUd_len (r : Int) : (encUd r).length = 1 := rfl
theorem encRd_one (r : RowD) : ∀ u ∈ encRd r, u.oneCell' = true := by intro u hu; simp [encRd] at hu; rcases hu with rfl | rfl <;> rfl
theorem encUd_one (r : Int) : ∀ u ∈ encUd r, u.oneCell' = true := by intro u hu; simp [encUd] at hu; subst hu; rfl
abbrev Seen := List (ByteArray × Int)
def toV (S : Seen) : List (ByteArray × Value) := S.map fun p => (p.1, .int .u64 p.2)
def putI : Seen → ByteArray → Int → Seen
  | [], k, v => [(k, v)]
  | (k', v') :: r, k, v => if k = k' then (k, v) :: r else (k', v') :: putI r k v
def atI : Seen → ByteArray → Option Int
  | [], _ => none
  | (k', v') :: r, k => if k = k' then some v' else atI r k
theorem lk_toV (k : ByteArray) : ∀ S : Seen, lk (toV S) k = (atI S k).map (Value.int .u64 ·)
  | [] => rfl
  | (k', v') :: r => by
    have ih := lk_toV k r
    simp only [toV, List.map_cons, lk_cons, atI] at *
    split <;> simp [ih]
theorem ins_toV (k : ByteArray) (v : Int) : ∀ S : Seen, insL (toV S) k (.int .u64 v) = toV (putI S k v)
  | [] => rfl
  | (k', v') :: r => by
    have ih := ins_toV k v r
    simp only [toV, List.map_cons, insL, putI] at *
    split <;> simp [ih]
def DeadOwn (w : World) (d : Nat) (rows : List RowD) (last : Int) (seen : Seen) (F : List Nat) : Prop :=
  ∃ sv Fa T mb es ck, blk w d = some (.cells #[sv, .int .u64 last, .map (some mb)] T (0, 0)) ∧ Slc encRd 2 w sv rows Fa ∧ blk w mb = some (.map es ck) ∧ MapB (fun s : ByteArray => Value.string s) es ck (toV seen) ∧
    F = d :: mb :: Fa ∧ d ≠ mb ∧ d ∉ Fa ∧ mb ∉ Fa
section
variable {w w' : World} {d : Nat} {rows : List RowD} {last : Int} {seen : Seen} {F G : List Nat}
theorem DeadOwn.fr (h : DeadOwn w d rows last seen F) (hf : Fr G w w') (hd : ∀ b ∈ F, b ∉ G) : DeadOwn w' d rows last seen F := by
  obtain ⟨sv, Fa, T, mb, es, ck, h1, h2, h3, h4, rfl, h5, h6, h7⟩ := h
  exact ⟨sv, Fa, T, mb, es, ck, hf.some (hd _ (by simp)) h1, h2.fr hf (fun b hb => hd b (by simp [hb])), hf.some (hd _ (by simp)) h3, h4, rfl, h5, h6, h7⟩
theorem DeadOwn.fr0 (h : DeadOwn w d rows last seen F) (hf : Fr [] w w') : DeadOwn w' d rows last seen F := h.fr hf (by simp)
theorem DeadOwn.lt (h : DeadOwn w d rows last seen F) : ∀ b ∈ F, b < hsz w := by
  obtain ⟨sv, Fa, T, mb, es, ck, h1, h2, h3, h4, rfl, h5, h6, h7⟩ := h
  intro b hb
  rcases List.mem_cons.1 hb with rfl | hb
  · exact blk_lt h1
  rcases List.mem_cons.1 hb with rfl | hb
  · exact blk_lt h3
  · exact h2.lt b hb
end
section
variable {w : World} {d : Nat} {rows : List RowD} {last : Int} {seen : Seen} {F : List Nat} {R : Value → World → Prop}
theorem dd_New (hR : ∀ w' d F, DeadOwn w' d [] 0 [] F → (∀ b ∈ F, hsz w ≤ b) → Fr [] w w' → R (.pointer (some ⟨d, 0, none⟩)) w') : CALL PR F_dead_New [] w R := by
  refine C_dead_New ?_
  unfold M_dead_New
  refine NEWMAP_intro fun w1 b1 f1 z1 => BND_step (v := .agg #[.slice none 0 0, .int .u64 0, .map (some (hsz w))]) rfl ?_
  refine NEW_intro fun w2 b2 f2 z2 => ?_
  refine hR w2 (hsz w1) [hsz w1, hsz w] ⟨.slice none 0 0, [], _, hsz w, #[], 0, b2, Slc.nil _ _ _, f2.some (by simp) b1, MapB.nil _, rfl, by omega, by simp, by simp⟩ ?_ (f1.trans' f2)
  intro b hb
  simp at hb
  rcases hb with rfl | rfl <;> omega
theorem ix_rows {sv fv : Value} {Fa : List Nat} (p : RowD → Bool) (hs : Slc encRd 2 w sv rows Fa) (hn : rows.length < 1000000000)
    (hf : ∀ w1 x (K : Value → World → Prop), Fr [] w w1 → (∀ w2, Fr [] w1 w2 → K (.bool (p x)) w2) → CALLV PR fv [.agg (encRd x).toArray] w1 K)
    (hno : ∀ w', Fr [] w w' → (∀ r ∈ rows, p r = false) → R (.int .i64 (-1)) w')
    (hyes : ∀ w' (k : Nat) r, Fr [] w w' → rows[k]? = some r → p r = true → (∀ j x, j < k → rows[j]? = some x → p x = false) → R (.int .i64 (k : Int)) w') :
    CALL PR F_slices_IndexFunc_dead_Row_dead_Row [sv, fv] w R := by
  refine C_slices_IndexFunc_dead_Row_dead_Row ?_
  unfold M_slices_IndexFunc_dead_Row_dead_Row
  refine BND_step hs.len ?_
  refine ⟨fun t w' => ∃ i : Nat, t = .int .i64 i ∧ Fr [] w w' ∧ i ≤ rows.length ∧ ∀ (j : Nat) (x : RowD), j < i → rows[j]? = some x → p x = false, fun t _ => match t with | .int _ n => rows.length - n.toNat | _ => 0,
    ⟨0, rfl, Fr.refl _ _, by omega, fun j x hj => by omega⟩, ?_⟩
  rintro _ _ w1 ⟨i, rfl, f1, hi, hb⟩
  have g1 := hs.fr f1 (by simp)
  refine BND_step (binv_lss _ _ _ _) ?_
  by_cases hlt : i < rows.length
  · refine COND_dec_true (by omega) ?_
    obtain ⟨b, rfl, ei⟩ := g1.iaddr hlt .i64
    have hx := List.getElem?_eq_getElem hlt
    refine BND_step ei <| BND_step (g1.loadn hx rfl) <| hf w1 _ _ f1 fun w2 f2 => ?_
    cases hp : p rows[i] with
    | true => exact (COND_true _ _).2 (hyes w2 i _ (f1.trans' f2) hx hp hb)
    | false =>
      refine (COND_false _ _).2 <| BND_step (add1 (by omega)) ⟨⟨i + 1, rfl, f1.trans' f2, hlt, fun j x hj hjx => ?_⟩, by simp; omega⟩
      by_cases hji : j = i
      · subst hji; rw [hx] at hjx; cases hjx; exact hp
      · exact hb j x (by omega) hjx
  · refine COND_dec_false (by omega) (hno w1 f1 fun r hr => ?_)
    obtain ⟨j, hj, rfl⟩ := List.getElem_of_mem hr
    exact hb j _ (by omega) (List.getElem?_eq_getElem hj)
theorem dd_find (h : DeadOwn w d rows last seen F) (hn : rows.length < 1000000000) (id : Int)
    (hno : ∀ w', Fr [] w w' → (∀ r ∈ rows, r.1 ≠ id) → R (.int .i64 (-1)) w')
    (hyes : ∀ w' (k : Nat) r, Fr [] w w' → rows[k]? = some r → r.1 = id → (∀ j x, j < k → rows[j]? = some x → x.1 ≠ id) → R (.int .i64 (k : Int)) w') :
    CALL PR F_dead_Dead_find [.pointer (some ⟨d, 0, none⟩), .int .u64 id] w R := by
  refine C_dead_Dead_find ?_
  unfold M_dead_Dead_find
  refine NEW_intro fun w1 b1 f1 z1 => ?_
  obtain ⟨sv, Fa, T, mb, es, ck, h1, h2, h3, h4, rfl, h5, h6, h7⟩ := h.fr0 f1
  refine BND_step (nilchk_ptr _) <| BND_step (faddr_ptr _ _ _) <| BND_step (v := sv) (load1_blk h1) ?_
  refine ix_rows (fun r => decide (r.1 = id)) h2 hn ?_ ?_ ?_
  · intro w2 x K f2 hK
    rw [CALLV_func (by kernel_rfl)]
    refine C_dead_Dead_find_1 ?_
    unfold M_dead_Dead_find_1
    refine NEW_intro fun w3 b3 f3 z3 => ?_
    have b1' := f3.some (by simp) (f2.some (by simp) b1)
    refine BND_step (faddr_ptr _ _ _) <| BND_step (v := .int .u64 x.1) (load1_blk b3) <| BND_step (v := .int .u64 id) (load1_blk b1') <| BND_step (binv_eql _ _ _ _) ?_
    exact hK w3 f3
  · intro w2 f2 hall
    exact hno w2 (f1.trans' f2) fun r hr => by simpa using hall r hr
  · intro w2 k r f2 hk hr hb
    exact hyes w2 k r (f1.trans' f2) hk (by simpa using hr) fun j x hj hx => by simpa using hb j x hj hx
def hasI (rows : List RowD) (id : Int) : Bool := rows.any fun r => decide (r.1 = id)
theorem dd_Has (h : DeadOwn w d rows last seen F) (hn : rows.length < 1000000000) (id : Int) (hR : ∀ w', Fr [] w w' → R (.bool (hasI rows id)) w') :
    CALL PR F_dead_Dead_Has [.pointer (some ⟨d, 0, none⟩), .int .u64 id] w R := by
  refine C_dead_Dead_Has ?_
  unfold M_dead_Dead_Has
  refine dd_find h hn id (fun w1 f1 hall => BND_step (binv_geq _ _ _ _) ?_) (fun w1 k r f1 hk hr _ => BND_step (binv_geq _ _ _ _) ?_)
  · have : hasI rows id = false := by
      unfold hasI
      rw [List.any_eq_false]
      intro r hr; simpa using hall r hr
    have h2 := hR w1 f1
    rw [this] at h2
    exact h2
  · have : hasI rows id = true := by
      unfold hasI
      rw [List.any_eq_true]
      exact ⟨r, List.mem_of_getElem? hk, by simpa using hr⟩
    have h2 := hR w1 f1
    rw [this] at h2
    rw [decide_eq_true (by omega : (0 : Int) ≤ k)]
    exact h2
end
end Go.Proofs.YtpgflmjeedbimaaGreat
end
section
namespace Go.Proofs.YtpgflmjeedbimaaGreat
open Go.Den
def addR (rows : List RowD) (last id : Int) : List RowD := bif hasI rows id then rows else rows ++ [(id, last + 1)]
def addL (rows : List RowD) (last id : Int) : Int := bif hasI rows id then last else last + 1
section
variable {w : World} {d : Nat} {rows : List RowD} {last : Int} {seen : Seen} {F : List Nat} {R : Value → World → Prop}
theorem dd_Add (h : DeadOwn w d rows last seen F) (hn : rows.length < 1000000000) (h0 : 0 ≤ last) (h1 : last < 18446744073709551615) (id : Int)
    (hR : ∀ w' F', DeadOwn w' d (addR rows last id) (addL rows last id) seen F' → (∀ b ∈ F', b ∈ F ∨ hsz w ≤ b) → Fr F w w' → R (.bool !(hasI rows id)) w') :
    CALL PR F_dead_Dead_Add [.pointer (some ⟨d, 0, none⟩), .int .u64 id] w R := by
  refine C_dead_Dead_Add ?_
  unfold M_dead_Dead_Add
  refine dd_Has h hn id fun w1 f1 => ?_
  have g1 := h.fr0 f1
  cases hh : hasI rows id with
  | true =>
    refine (COND_true _ _).2 ?_
    have := hR w1 F (by simp only [addR, addL, hh, cond_true]; exact g1) (fun b hb => .inl hb) f1.nil
    rw [hh] at this
    exact this
  | false =>
    refine (COND_false _ _).2 ?_
    have hR2 := hR
    rw [hh] at hR2
    simp only [addR, addL, hh, cond_false] at hR2
    obtain ⟨sv, Fa, T, mb, es, ck, b1, b2, b3, b4, rfl, c1, c2, c3⟩ := g1
    refine BND_step (nilchk_ptr _) <| BND_step (faddr_ptr _ _ _) <| BND_step (v := .int .u64 last) (load1_blk b1) <| BND_step (v := .int .u64 (last + 1)) (by rw [binv_add, wrap_u64 (by omega) (by omega)]) ?_
    refine BND_step (nilchk_ptr _) <| BND_step (faddr_ptr _ _ _) <| BND_step (storev1_blk b1 (by simp) rfl rfl) ?_
    have e2 := blk_setB_same (o := .cells (#[sv, .int .u64 last, .map (some mb)].setIfInBounds (0 + 1) (.int .u64 (last + 1))) T (0, 0)) b1
    have f2 : Fr [d] w1 (setB w1 d (.cells (#[sv, .int .u64 last, .map (some mb)].setIfInBounds (0 + 1) (.int .u64 (last + 1))) T (0, 0))) := Fr.setB (.inl (by simp)) _
    generalize setB w1 d (.cells (#[sv, .int .u64 last, .map (some mb)].setIfInBounds (0 + 1) (.int .u64 (last + 1))) T (0, 0)) = w2 at e2 f2
    have e2' : blk w2.drew d = some (.cells #[sv, .int .u64 (last + 1), .map (some mb)] T (0, 0)) := e2
    have f2' : Fr [d] w1 w2.drew := f2.trans' (Fr.drew _ _)
    generalize w2.drew = w3 at e2' f2'
    refine ⟨fun _ w' => blk w' d = some (.cells #[sv, .int .u64 (last + 1), .map (some mb)] T (0, 0)), e2', ?_⟩
    refine BND_step (nilchk_ptr _) <| BND_step (faddr_ptr _ _ _) <| FLT.mk sv (fun w' hw => load1_blk hw) <| BND_step (nilchk_ptr _) <| BND_step (faddr_ptr _ _ _) <|
      BND_step (v := .int .u64 (last + 1)) (load1_blk e2') <| BND_step (v := .agg (encRd (id, last + 1)).toArray) rfl <| newone_step encRd_len rfl fun t w4 s4 f4 z4 => ⟨f4.some (by simp) e2', ?_⟩
    have b2' := (b2.fr f2' (fun b hb => by simp; rintro rfl; exact c2 hb)).fr f4 (by simp)
    refine APPEND_slc b2' (s4.loads encRd_len) encRd_len encRd_one rfl (by simp; omega) (by simp; omega) fun sv' w5 Fa' s5 f5 sub => ?_
    have e5 := f5.some c2 (f4.some (by simp) e2')
    refine BND_step (nilchk_ptr _) <| BND_step (faddr_ptr _ _ _) <| BND_step (storev1_blk e5 (by simp) s5.one.1 s5.one.2) ?_
    have e6 := blk_setB_same (o := .cells (#[sv, .int .u64 (last + 1), .map (some mb)].setIfInBounds (0 + 0) sv') T (0, 0)) e5
    have f6 : Fr [d] w5 (setB w5 d (.cells (#[sv, .int .u64 (last + 1), .map (some mb)].setIfInBounds (0 + 0) sv') T (0, 0))) := Fr.setB (.inl (by simp)) _
    generalize setB w5 d (.cells (#[sv, .int .u64 (last + 1), .map (some mb)].setIfInBounds (0 + 0) sv') T (0, 0)) = w6 at e6 f6
    have hd1 : d < hsz w1 := blk_lt b1
    have hm1 : mb < hsz w1 := blk_lt b3
    have g2 := f2'.grow
    have g4 := f4.grow
    have hdF : d ∉ Fa' := fun hb => by
      rcases sub d hb with h | h
      · exact c2 h
      · omega
    have hmF : mb ∉ Fa' := fun hb => by
      rcases sub mb hb with h | h
      · exact c3 h
      · omega
    have fall : Fr (d :: mb :: Fa) w1 w6 := by
      refine (f2'.wider (G := d :: mb :: Fa) (by simp)).trans' ?_
      refine (f4.nil).trans' ?_
      exact (f5.wider (G := d :: mb :: Fa) (fun b hb => by simp [hb])).trans' (f6.wider (by simp))
    refine hR2 w6 (d :: mb :: Fa') ⟨sv', Fa', T, mb, es, ck, e6, s5.fr f6 (fun b hb => by simp; rintro rfl; exact hdF hb), ?_, b4, rfl, c1, hdF, hmF⟩ ?_ (f1.nil.trans' fall)
    · exact f6.some (by simp; exact fun e => c1 e.symm) (f5.some c3 (f4.some (by simp) (f2'.some (by simp; exact fun e => c1 e.symm) b3)))
    · intro b hb
      have hg1 := f1.grow
      rcases List.mem_cons.1 hb with rfl | hb
      · exact .inl (by simp)
      rcases List.mem_cons.1 hb with rfl | hb
      · exact .inl (by simp)
      rcases sub b hb with h | h
      · exact .inl (by simp [h])
      · exact .inr (by omega)
theorem splice_other {vs : List Value} {c : Array Value} {o i : Nat} (h : i < o) : (splice c o vs)[i]? = c[i]? := by
  by_cases hb : o + vs.length ≤ c.size
  · rw [splice_get vs c o i hb, if_neg (by omega)]
  · have : ∀ (vs : List Value) (c : Array Value) (o : Nat), i < o → (splice c o vs)[i]? = c[i]? := by
      intro vs
      induction vs with
      | nil => intro c o _; rfl
      | cons v vs ih =>
        intro c o ho
        rw [splice, ih _ _ (by omega), Array.getElem?_setIfInBounds, if_neg (by omega)]
    exact this vs c o h
theorem zero_cells (n : Nat) : ∀ v ∈ (Builtin.zeroCells (Value.agg #[.int .u64 0, .int .u64 0]).cells n).toList, v.oneCell' = true := by
  intro v hv
  simp only [Builtin.zeroCells, cells_agg, Array.toList_map, List.mem_map] at hv
  obtain ⟨i, _, rfl⟩ := hv
  have : i % 2 = 0 ∨ i % 2 = 1 := by omega
  rcases this with h | h
  · have : i % (#[Value.int .u64 0, Value.int .u64 0] : Array Value).size = 0 := h
    rw [this]; rfl
  · have : i % (#[Value.int .u64 0, Value.int .u64 0] : Array Value).size = 1 := h
    rw [this]; rfl
theorem eraseIdx_split {α : Type} (l : List α) (i : Nat) : l.eraseIdx i = l.take i ++ l.drop (i + 1) := List.eraseIdx_eq_take_drop_succ l i
theorem dl_rows {sv : Value} {Fa : List Nat} (hs : Slc encRd 2 w sv rows Fa) (hn : rows.length < 1000000000) {i : Nat} (hi : i < rows.length)
    (hR : ∀ sv' w', Slc encRd 2 w' sv' (rows.eraseIdx i) Fa → Fr Fa w w' → R sv' w') : CALL PR F_slices_Delete_dead_Row_dead_Row [sv, .int .i64 (i : Int), .int .i64 ((i + 1 : Nat) : Int)] w R := by
  refine C_slices_Delete_dead_Row_dead_Row ?_
  unfold M_slices_Delete_dead_Row_dead_Row
  obtain ⟨b, rfl, _⟩ := hs.iaddr hi .i64
  obtain ⟨cap, c, T, rfl, hb, hc, hsz, hel⟩ := hs.cells rfl
  have hfrom := hs.from encRd_len (n := i + 1) (by omega) .i64
  obtain ⟨v25, e25, src⟩ := hfrom
  have hnat : ∀ n : Nat, natOf (.int .i64 (n : Int)) = some n := fun n => by simp [natOf]
  refine BND_step (lenl_slice _ _ _) <| BND_step (v := .slice (if rows.length = i then some ⟨b, 0, none⟩ else (some (⟨b, 0, none⟩ : Addr)).map (·.add (i * 2))) (i + 1 - i) (rows.length - i)) ?_ <| BND_step (binv_eql _ _ _ _) <| COND_dec_false (by omega) ?_
  · simp only [slicev3, hnat]
    rw [if_pos ⟨hc, by omega, by omega⟩]
  refine BND_step (lenl_slice _ _ _) <| BND_step (v := .slice (some ⟨b, 0, none⟩) i cap) ?_ <| BND_step e25 ?_
  · simp only [slicev, hnat]
    rw [if_pos ⟨by omega, by omega⟩]
    simp [Addr.add]
  have hsrc := src w.drew (fun _ _ => rfl)
  have hbd : blk w.drew b = some (.cells c T (0, 0)) := hb
  have fd : Fr [b] w w.drew := Fr.drew _ _
  generalize w.drew = w0 at hsrc hbd fd
  have hdl : (flat encRd (rows.drop (i + 1))).length = (rows.length - (i + 1)) * 2 := by rw [flat_len encRd_len, List.length_drop]
  have hle : rows.length * 2 ≤ cap * 2 := Nat.mul_le_mul_right 2 hc
  -- the move
  have hmove : ∀ K : World → Prop, (∀ c' w1, blk w1 b = some (.cells c' T (0, 0)) → Fr [b] w w1 → c'.size = cap * 2 → (∀ k x, (rows.eraseIdx i)[k]? = some x → ∀ j, j < 2 → c'[k * 2 + j]? = (encRd x)[j]?) → K w1) →
      BND (stores w0 ((⟨b, 0, none⟩ : Addr).add (i * 2)) 0 (flat encRd (rows.drop (i + 1)))) K := by
    intro K hK
    rw [add_none, Nat.zero_add]
    by_cases hne : flat encRd (rows.drop (i + 1)) = []
    · rw [hne]
      simp only [stores, BND_some]
      refine hK c w0 hbd fd hsz fun k x hk j hj => ?_
      have hd0 : rows.drop (i + 1) = [] := by
        rw [hne] at hdl
        simp at hdl
        exact List.drop_eq_nil_of_le (by omega)
      rw [eraseIdx_split, hd0, List.append_nil, List.getElem?_take] at hk
      split at hk
      · exact hel k x hk j hj
      · cases hk
    · refine BND_step (stores_blk _ _ _ _ hbd (flat_one encRd_one _) (by rw [hdl]; omega) hne) ?_
      refine hK _ _ (blk_setB_same hbd) (fd.trans' (Fr.setB (.inl (by simp)) _)) (by simpa using hsz) fun k x hk j hj => ?_
      rw [eraseIdx_split] at hk
      rw [Nat.add_zero, splice_get _ _ _ _ (by rw [hdl]; omega), hdl]
      have hti : (rows.take i).length = i := by rw [List.length_take]; omega
      by_cases hki : k < i
      · rw [List.getElem?_append_left (by omega), List.getElem?_take, if_pos hki] at hk
        rw [if_neg (by omega)]
        exact hel k x hk j hj
      · rw [List.getElem?_append_right (by omega), hti] at hk
        have hk2 : k - i < (rows.drop (i + 1)).length := (List.getElem?_eq_some_iff.1 hk).1
        rw [List.length_drop] at hk2
        rw [if_pos (by omega)]
        have := flat_get encRd_len _ _ x j hk hj
        rw [← this]
        congr 1
        omega
  refine ⟨?_⟩
  unfold APPENDS
  simp only [hsrc]
  rw [if_pos (by rw [List.length_drop]; omega)]
  refine hmove _ fun c' w1 hb1 f1 hsz1 hel1 => ?_
  have hlen : i + (rows.drop (i + 1)).length = rows.length - 1 := by rw [List.length_drop]; omega
  rw [hlen]
  have hel2 : (rows.eraseIdx i).length = rows.length - 1 := List.length_eraseIdx_of_lt hi
  refine BND_step (lenl_slice _ _ _) ?_
  have e31 : slicev 2 (.slice (some ⟨b, 0, none⟩) (rows.length - 1) cap) (some (.int .i64 ((rows.length - 1 : Nat) : Int))) (some (.int .i64 ((rows.length : Nat) : Int))) =
      some (.slice (some (if cap = rows.length - 1 then ⟨b, 0, none⟩ else ⟨b, (rows.length - 1) * 2, none⟩)) (rows.length - (rows.length - 1)) (cap - (rows.length - 1))) := by
    simp only [slicev, hnat]
    rw [if_pos ⟨hc, by omega⟩]
    split <;> simp [add_none]
  refine BND_step e31 ?_
  rw [if_neg (by omega), show rows.length - (rows.length - 1) = 1 by omega]
  unfold clearv
  simp only [Nat.one_ne_zero, if_false]
  have hz1 : (Builtin.zeroCells (Value.agg #[.int .u64 0, .int .u64 0]).cells 1).toList.length = 2 := by simp [Builtin.zeroCells]
  refine BND_step (stores_blk _ _ _ _ hb1 (zero_cells 1) (by rw [hz1]; omega) (by intro e; rw [e] at hz1; cases hz1)) ?_
  refine hR _ _ (.inr ⟨b, cap, _, T, by rw [hel2], blk_setB_same hb1, by omega, by simpa using hsz1, rfl, fun k x hk j hj => ?_⟩) (f1.trans' (Fr.setB (.inl (by simp)) _))
  have hkl := (List.getElem?_eq_some_iff.1 hk).1
  rw [hel2] at hkl
  rw [Nat.add_zero, splice_other (by omega)]
  exact hel1 k x hk j hj
def dropR (rows : List RowD) (id : Int) : List RowD := rows.eraseP fun r => decide (r.1 = id)
theorem eraseP_idx {α : Type} (p : α → Bool) : ∀ (l : List α) (k : Nat) (x : α), l[k]? = some x → p x = true → (∀ j y, j < k → l[j]? = some y → p y = false) → l.eraseP p = l.eraseIdx k
  | [], k, x, h, _, _ => by simp at h
  | a :: l, 0, x, h, hp, _ => by
    simp at h; subst h
    simp [hp]
  | a :: l, k + 1, x, h, hp, hb => by
    have h0 := hb 0 a (by omega) rfl
    rw [List.eraseP_cons, h0]
    simp only [cond_false, List.eraseIdx_cons_succ]
    rw [eraseP_idx p l k x (by simpa using h) hp fun j y hj hy => hb (j + 1) y (by omega) (by simpa using hy)]
theorem dd_Drop (h : DeadOwn w d rows last seen F) (hn : rows.length < 1000000000) (id : Int)
    (hR : ∀ w', DeadOwn w' d (dropR rows id) last seen F → Fr F w w' → R (.bool (hasI rows id)) w') :
    CALL PR F_dead_Dead_Drop [.pointer (some ⟨d, 0, none⟩), .int .u64 id] w R := by
  refine C_dead_Dead_Drop ?_
  unfold M_dead_Dead_Drop
  refine dd_find h hn id (fun w1 f1 hall => BND_step (binv_lss _ _ _ _) <| COND_dec_true (by omega) ?_) (fun w1 k r f1 hk hr hb => BND_step (binv_lss _ _ _ _) <| COND_dec_false (by omega) ?_)
  · have e1 : hasI rows id = false := by
      unfold hasI
      rw [List.any_eq_false]
      intro r hr; simpa using hall r hr
    have e2 : dropR rows id = rows := List.eraseP_of_forall_not fun r hr => by simpa using hall r hr
    have := hR w1 (by rw [e2]; exact h.fr0 f1) f1.nil
    rw [e1] at this
    exact this
  · have e1 : hasI rows id = true := by
      unfold hasI
      rw [List.any_eq_true]
      exact ⟨r, List.mem_of_getElem? hk, by simpa using hr⟩
    have e2 : dropR rows id = rows.eraseIdx k := eraseP_idx _ _ _ _ hk (by simpa using hr) fun j y hj hy => by simpa using hb j y hj hy
    have hkl := (List.getElem?_eq_some_iff.1 hk).1
    rw [e1, e2] at hR
    obtain ⟨sv, Fa, T, mb, es, ck, b1, b2, b3, b4, rfl, c1, c2, c3⟩ := h.fr0 f1
    refine BND_step (nilchk_ptr _) <| BND_step (faddr_ptr _ _ _) <| BND_step (v := sv) (load1_blk b1) <| BND_step (add1 (by omega)) <| dl_rows b2 hn hkl fun sv' w2 s2 f2 => ?_
    have e3 := f2.some c2 b1
    refine BND_step (nilchk_ptr _) <| BND_step (faddr_ptr _ _ _) <| BND_step (storev1_blk e3 (by simp) s2.one.1 s2.one.2) ?_
    have f3 : Fr [d] w2 (setB w2 d (.cells (#[sv, .int .u64 last, .map (some mb)].setIfInBounds (0 + 0) sv') T (0, 0))) := Fr.setB (.inl (by simp)) _
    refine hR _ ⟨sv', Fa, T, mb, es, ck, blk_setB_same e3, s2.fr f3 (fun b hb => by simp; rintro rfl; exact c2 hb), f3.some (by simp; exact fun e => c1 e.symm) (f2.some c3 b3), b4, rfl, c1, c2, c3⟩ ?_
    exact f1.nil.trans' ((f2.wider (fun b hb => by simp [hb])).trans' (f3.wider (by simp)))
end
end Go.Proofs.YtpgflmjeedbimaaGreat
end
section
namespace Go.Proofs.YtpgflmjeedbimaaGreat
open Go.Den
def takeI (n : Int) : List RowD → Int → List Int → List Int × Int
  | [], p, out => (out, p)
  | r :: rs, p, out => if p < r.2 ∧ (out.length : Int) < n then takeI n rs r.2 (out ++ [r.1]) else takeI n rs p out
structure NextA where
  out : List Int
  err : Int
  seen : Seen
def nextA (rows : List RowD) (seen : Seen) (name : ByteArray) (n : Int) : NextA :=
  let nm := txt (foldB name.data.toList)
  if n < 1 ∨ rightB (foldB name.data.toList) = false then ⟨[], 1, seen⟩
  else if atI seen nm = none ∧ 8 ≤ seen.length then ⟨[], 4, seen⟩
  else let t := takeI n rows ((atI seen nm).getD 0) []; ⟨t.1, 0, putI seen nm t.2⟩
theorem drop_cons' {α : Type} {x : List α} {i : Nat} {a : α} (h : x[i]? = some a) : x.drop i = a :: x.drop (i + 1) := by
  obtain ⟨hi, rfl⟩ := List.getElem?_eq_some_iff.1 h
  exact List.drop_eq_getElem_cons hi
section
variable {w : World} {d : Nat} {rows : List RowD} {last : Int} {seen : Seen} {F : List Nat} {R : Value → World → Prop}
theorem dd_Next (h : DeadOwn w d rows last seen F) (hn : rows.length < 1000000) {name : ByteArray} (hs : name.size < 100000) (n : Int)
    (hR : ∀ w' v G, DeadOwn w' d rows last (nextA rows seen name n).seen F → Slc encUd 1 w' v (nextA rows seen name n).out G → (∀ b ∈ G, hsz w ≤ b) → Fr F w w' → R (.tuple #[v, .int .i64 (nextA rows seen name n).err]) w') :
    CALL PR F_dead_Dead_Next [.pointer (some ⟨d, 0, none⟩), .string name, .int .i64 n] w R := by
  refine C_dead_Dead_Next ?_
  unfold M_dead_Dead_Next
  have hfs : (txt (foldB name.data.toList)).size < 1000000 := by
    rw [txt_size]
    have := foldB_len name.data.toList
    rw [list_len] at this
    omega
  refine lb_Fold (by omega) fun w1 f1 => ?_
  have g1 := h.fr0 f1
  obtain ⟨sv, Fa, T, mb, es, ck, b1, b2, b3, b4, rfl, c1, c2, c3⟩ := g1
  have elk := lookv_L keyStr b3 b4.l (.int .u64 0) (txt (foldB name.data.toList))
  rw [lk_toV] at elk
  generalize hp0 : atI seen (txt (foldB name.data.toList)) = p0 at elk
  have hv0 : (Option.map (Value.int .u64 ·) p0).getD (.int .u64 0) = .int .u64 (p0.getD 0) := by cases p0 <;> rfl
  have hb0 : (Option.map (Value.int .u64 ·) p0).isSome = p0.isSome := by cases p0 <;> rfl
  rw [hv0, hb0] at elk
  refine BND_step (nilchk_ptr _) <| BND_step (faddr_ptr _ _ _) <| BND_step (v := .map (some mb)) (load1_blk b1) <| BND_step elk <| BND_step (v := .int .u64 (p0.getD 0)) rfl <| BND_step (v := .bool p0.isSome) rfl ?_
  have hA : nextA rows seen name n = if n < 1 ∨ rightB (foldB name.data.toList) = false then ⟨[], 1, seen⟩ else if p0 = none ∧ 8 ≤ seen.length then ⟨[], 4, seen⟩ else ⟨(takeI n rows (p0.getD 0) []).1, 0, putI seen (txt (foldB name.data.toList)) (takeI n rows (p0.getD 0) []).2⟩ := by
    unfold nextA; simp only [hp0]
  -- an error
  have hfail : ∀ w2 e, Fr [] w1 w2 → nextA rows seen name n = ⟨[], e, seen⟩ → R (.tuple #[.slice none 0 0, .int .i64 e]) w2 := by
    intro w2 e f2 he
    have := hR w2 (.slice none 0 0) []
    rw [he] at this
    exact this (h.fr0 (f1.trans' f2)) (Slc.nil _ _ _) (by simp) (f1.trans' f2).nil
  refine BND_step (binv_lss _ _ _ _) ?_
  by_cases hn1 : n < 1
  · have e1 : decide (n < 1) = true := by simpa using hn1
    rw [e1]
    simp only [isB_tf, grd_false, GEF_false, BND_some, pickv_true, COND_true]
    exact hfail w1 1 (Fr.refl _ _) (by rw [hA, if_pos (.inl hn1)])
  have e1 : decide (n < 1) = false := by simpa using hn1
  rw [e1]
  simp only [isB_ff, grd_true, GEF_true]
  refine BND_step rfl <| lb_right (by omega) fun w2 f2 => BND_step (unv_not _) <| BND_step (pickv_false _ _) ?_
  rw [txt_list]
  cases hr : rightB (foldB name.data.toList) with
  | false =>
    refine (COND_true _ _).2 ?_
    exact hfail w2 1 f2 (by rw [hA, if_pos (.inr hr)])
  | true =>
    refine (COND_false _ _).2 <| BND_step (unv_not _) ?_
    have hA2 : nextA rows seen name n = if p0 = none ∧ 8 ≤ seen.length then ⟨[], 4, seen⟩ else ⟨(takeI n rows (p0.getD 0) []).1, 0, putI seen (txt (foldB name.data.toList)) (takeI n rows (p0.getD 0) []).2⟩ := by
      rw [hA, if_neg (by simp [hn1, hr])]
    have b1' := f2.some (by simp) b1
    have b2' := b2.fr f2 (by simp)
    have b3' := f2.some (by simp) b3
    -- behind the last refusal
    have go : ¬ (p0 = none ∧ 8 ≤ seen.length) →
        BND (nilchk (.pointer (some ⟨d, 0, none⟩))) fun t44_21 => BND (faddr 0 t44_21) fun t45_22 => BND (load1 w2 t45_22) fun t46_23 => BND (lenl t46_23) fun t47_24 =>
        ∃ (J_25 : Value → Value → Value → World → Prop) (m_25 : Value → Value → Value → World → Nat), J_25 (Value.int .u64 (p0.getD 0)) (Value.slice none 0 0) (Value.int .i64 0) w2 ∧ ∀ (_d_25 : Env) (r_26 a_27 t48_29 : Value) (w3 : World), J_25 r_26 a_27 t48_29 w3 →
        (BND (binv .int .lss t48_29 t47_24) fun t49_51 =>
        COND t49_51
        (BND (iaddr 2 t46_23 t48_29) fun t50_52 =>
        BND (loadn 2 w3 t50_52) fun t51_53 =>
        NEW (newv 135 w3 (Value.agg #[(Value.int .u64 0), (Value.int .u64 0)])) fun t12_54 w4 =>
        BND (storev 2 w4 t12_54 t51_53) fun w5 =>
        BND (faddr 1 t12_54) fun t52_55 =>
        BND (load1 w5 t52_55) fun t53_56 =>
        BND (binv .int .gtr t53_56 r_26) fun t55_57 =>
        BND (grd (isB t55_57 true) (some a_27)) fun t57_58 =>
        BND (grd (isB t55_57 true) (lenl t57_58)) fun t58_59 =>
        BND (grd (isB t55_57 true) (some (.int .i64 n))) fun t59_60 =>
        BND (grd (isB t55_57 true) (binv .int .lss t58_59 t59_60)) fun t60_61 =>
        BND (pickv t55_57 t60_61 (Value.bool false)) fun t61_62 =>
        JOIN (α := Value → Value → World → Prop) (fun k_73 => COND t61_62
        (∃ S_74 : Nat → World → Prop, S_74 6 w5.drew ∧
        BND (faddr 0 t12_54) fun t63_75 =>
        BND (faddr 1 t12_54) fun t67_76 =>
        FLT (S_74 6) (fun w_ => load1 w_ t67_76) fun t68_77 =>
        BND (load1 w5.drew t63_75) fun t64_78 =>
        BND (newslice 22 #[(Value.int .u64 0)] 1 1 [(0, 1, t64_78)] w5.drew) fun p_ => NEW p_ fun t65_79 w7 =>
        S_74 6 w7 ∧
        APPEND 22 1 8 (Value.int .u64 0) a_27 t65_79 w7 fun t66_80 w8 =>
        S_74 6 w8 ∧
        k_73 t68_77 t66_80 w8)
        (k_73 r_26 a_27 w5))
        (fun r_63 a_64 w6 => BND (binv .int .add t48_29 (Value.int .i64 1)) fun t69_72 =>
        (J_25 r_63 a_64 t69_72 w6 ∧ m_25 r_63 a_64 t69_72 w6 < m_25 r_26 a_27 t48_29 w3)))
        (BND (nilchk (.pointer (some ⟨d, 0, none⟩))) fun t71_81 =>
        BND (faddr 2 t71_81) fun t72_82 =>
        BND (load1 w3 t72_82) fun t73_83 =>
        BND (mupd .string w3 t73_83 (.string (txt (foldB name.data.toList))) r_26) fun w9 =>
        R (.tuple #[a_27, (Value.int .i64 0)]) w9)) := by
      intro hok
      rw [if_neg hok] at hA2
      refine BND_step (nilchk_ptr _) <| BND_step (faddr_ptr _ _ _) <| BND_step (v := sv) (load1_blk b1') <| BND_step b2'.len ?_
      refine ⟨fun tr ta ti w' => ∃ (i : Nat) (p : Int) (out : List Int) (G : List Nat), ti = .int .i64 i ∧ tr = .int .u64 p ∧ Slc encUd 1 w' ta out G ∧ (∀ b ∈ G, hsz w2 ≤ b) ∧ Fr [] w2 w' ∧ i ≤ rows.length ∧ out.length ≤ i ∧ takeI n (rows.drop i) p out = takeI n rows (p0.getD 0) [],
        fun _ _ t _ => match t with | .int _ k => rows.length - k.toNat | _ => 0, ⟨0, p0.getD 0, [], [], rfl, rfl, Slc.nil _ _ _, by simp, Fr.refl _ _, by omega, by simp, by simp⟩, ?_⟩
      rintro _ _ _ _ w3 ⟨i, p, out, G, rfl, rfl, hout, hG, f3, hi, hol, hinv⟩
      have b1'' := f3.some (by simp) b1'
      have b2'' := b2'.fr f3 (by simp)
      have b3'' := f3.some (by simp) b3'
      refine BND_step (binv_lss _ _ _ _) ?_
      by_cases hlt : i < rows.length
      · refine COND_dec_true (by omega) ?_
        have hx := List.getElem?_eq_getElem hlt
        obtain ⟨sb, e1, ei⟩ := b2''.iaddr hlt .i64
        subst e1
        rw [drop_cons' hx] at hinv
        generalize rows[i] = r at hx hinv
        refine BND_step ei <| BND_step (b2''.loadn hx rfl) <| box_step (zs := [.int .u64 0, .int .u64 0]) (vs := encRd r) rfl rfl (encRd_one r) (by simp [encRd]) fun w4 b4 f4 z4 => ?_
        refine BND_step (faddr_ptr _ _ _) <| BND_step (v := .int .u64 r.2) (load1_blk b4) <| BND_step (binv_gtr _ _ _ _) ?_
        have hout4 := hout.fr f4 (by simp)
        -- the round's end
        have fin : ∀ (p' : Int) (out' : List Int) (G' : List Nat) (ta : Value) (w6 : World), Slc encUd 1 w6 ta out' G' → (∀ b ∈ G', hsz w2 ≤ b) → Fr [] w2 w6 → out'.length ≤ i + 1 → takeI n (rows.drop (i + 1)) p' out' = takeI n rows (p0.getD 0) [] →
            BND (binv .int .add (.int .i64 (i : Int)) (Value.int .i64 1)) fun t69_72 => ((∃ (i : Nat) (p : Int) (out : List Int) (G : List Nat), t69_72 = .int .i64 i ∧ (Value.int .u64 p') = .int .u64 p ∧ Slc encUd 1 w6 ta out G ∧ (∀ b ∈ G, hsz w2 ≤ b) ∧ Fr [] w2 w6 ∧ i ≤ rows.length ∧ out.length ≤ i ∧ takeI n (rows.drop i) p out = takeI n rows (p0.getD 0) []) ∧
              (match t69_72 with | .int _ k => rows.length - k.toNat | _ => 0) < rows.length - (i : Int).toNat) := by
          intro p' out' G' ta w6 h1 h2 h3 h4 h5
          exact BND_step (add1 (by omega)) ⟨⟨i + 1, p', out', G', rfl, rfl, h1, h2, h3, hlt, h4, h5⟩, by simp; omega⟩
        by_cases hp : p < r.2
        · have e2 : decide (p < r.2) = true := by simpa using hp
          rw [e2]
          simp only [isB_tt, grd_true]
          refine BND_step rfl <| BND_step hout4.len <| BND_step rfl <| BND_step (binv_lss _ _ _ _) <| BND_step (pickv_true _ _) ?_
          by_cases hlen : (out.length : Int) < n
          · refine JOIN_elim fun K hK => COND_dec_true hlen ?_
            have f5 : Fr [] w4 w4.drew := Fr.drew _ _
            have b5 : blk w4.drew (hsz w3) = some (.cells (encRd r).toArray 135 (0, 0)) := b4
            have hout5 := hout4.fr f5 (by simp)
            generalize w4.drew = w5 at f5 b5 hout5
            refine ⟨fun _ w' => blk w' (hsz w3) = some (.cells (encRd r).toArray 135 (0, 0)), b5, ?_⟩
            refine BND_step (faddr_ptr _ _ _) <| BND_step (faddr_ptr _ _ _) <| FLT.mk (.int .u64 r.2) (fun w' hw => load1_blk hw) <| BND_step (v := .int .u64 r.1) (load1_blk b5) <|
              newone_step (enc := encUd) (x := r.1) encUd_len rfl fun t w7 s7 f7 z7 => ⟨f7.some (by simp) b5, ?_⟩
            refine APPEND_slc (hout5.fr f7 (by simp)) (s7.loads encUd_len) encUd_len encUd_one rfl (by simp; omega) (by simp; omega) fun ta w8 G' s8 f8 sub => ⟨?_, ?_⟩
            · have hnb : hsz w3 ∉ G := fun hb => by have := hout.lt _ hb; omega
              exact f8.some hnb (f7.some (by simp) b5)
            subst hK
            have hg2 : hsz w2 ≤ hsz w7 := by have := f3.grow; have := f4.grow; have := f5.grow; have := f7.grow; omega
            refine fin r.2 (out ++ [r.1]) G' ta w8 s8 (fun b hb => ?_) ?_ (by simp; omega) ?_
            · rcases sub b hb with h | h
              · exact hG b h
              · omega
            · exact (f3.trans' <| f4.trans' <| f5.trans' f7).trans f8 fun b hb => .inr (hG b hb)
            · have e : takeI n (r :: rows.drop (i + 1)) p out = takeI n (rows.drop (i + 1)) r.2 (out ++ [r.1]) := by
                rw [takeI, if_pos ⟨hp, hlen⟩]
              rw [← e]; exact hinv
          · refine JOIN_elim fun K hK => COND_dec_false hlen ?_
            subst hK
            refine fin p out G _ w4 hout4 hG (f3.trans' f4) (by omega) ?_
            have e : takeI n (r :: rows.drop (i + 1)) p out = takeI n (rows.drop (i + 1)) p out := by
              rw [takeI, if_neg (fun h => hlen h.2)]
            rw [← e]; exact hinv
        · have e2 : decide (p < r.2) = false := by simpa using hp
          rw [e2]
          simp only [isB_ft, grd_false, BND_some, pickv_false]
          refine JOIN_elim fun K hK => (COND_false _ _).2 ?_
          subst hK
          refine fin p out G _ w4 hout4 hG (f3.trans' f4) (by omega) ?_
          have e : takeI n (r :: rows.drop (i + 1)) p out = takeI n (rows.drop (i + 1)) p out := by
            rw [takeI, if_neg (fun h => hp h.1)]
          rw [← e]; exact hinv
      · refine COND_dec_false (by omega) ?_
        have hfin : takeI n rows (p0.getD 0) [] = (out, p) := by
          rw [← hinv, List.drop_of_length_le (by omega : rows.length ≤ i)]; rfl
        obtain ⟨es', ck', eu, l'⟩ := mupd_B keyStr b3'' b4 (txt (foldB name.data.toList)) (.int .u64 p)
        refine BND_step (nilchk_ptr _) <| BND_step (faddr_ptr _ _ _) <| BND_step (v := .map (some mb)) (load1_blk b1'') <| BND_step eu ?_
        have f4 : Fr [mb] w3 (setB w3 mb (.map es' ck')) := Fr.setB (.inl (by simp)) _
        have hmG : mb ∉ G := fun hb => by have := hG _ hb; have h2 := blk_lt b3'; omega
        rw [hfin] at hA2
        have hz := f1.grow
        have hz2 := f2.grow
        have := hR (setB w3 mb (.map es' ck')) _ G ⟨sv, Fa, T, mb, es', ck', f4.some (by simp; exact c1) b1'', b2''.fr f4 (fun b hb => by simp; rintro rfl; exact c3 hb), blk_setB_same b3'', ?_, rfl, c1, c2, c3⟩
          (by rw [hA2]; exact hout.fr f4 (fun b hb => by simp; rintro rfl; exact hmG hb)) (fun b hb => by have := hG b hb; omega)
          ((f1.trans' <| f2.trans' f3).nil.trans' (f4.wider (by simp)))
        · rw [hA2] at this
          exact this
        · rw [hA2, ← ins_toV]; exact l'
    cases p0 with
    | some p =>
      simp only [Option.isSome_some, Bool.not_true, isB_ft, grd_false, BND_some, pickv_false, COND_false]
      exact go (by simp)
    | none =>
      simp only [Option.isSome_none, Bool.not_false, isB_tt, grd_true]
      refine BND_step rfl <| BND_step (nilchk_ptr _) <| BND_step (faddr_ptr _ _ _) <| BND_step (v := .map (some mb)) (load1_blk b1') <| BND_step (mlenv_L b3' b4.l) <| BND_step (binv_geq _ _ _ _) <| BND_step (pickv_true _ _) ?_
      have hlen : (toV seen).length = seen.length := by simp [toV]
      by_cases h8 : 8 ≤ seen.length
      · refine COND_dec_true (by omega) ?_
        exact hfail w2 4 f2 (by rw [hA2, if_pos ⟨rfl, h8⟩])
      · refine COND_dec_false (by omega) ?_
        exact go (by simp; omega)
end
end Go.Proofs.YtpgflmjeedbimaaGreat
end
section
namespace Go.Proofs.YtpgflmjeedbimaaGreat
open Go.Den Go.Ix
set_option linter.unusedSimpArgs false
set_option linter.unusedVariables false
structure It where
  id : Nat
  lane : Int
  lf : Lf
  turn : Nat
  seg : Nat
  at_ : Nat
  size : Int
  deriving DecidableEq
def it0 : It := ⟨0, 0, lf0, 0, 0, 0, 0⟩
def encIt (x : It) : List Value := [.int .u64 (x.id : Int), .int .i64 x.lane, .int .i64 x.lf.st, .int .i64 x.lf.cnt, .int .u64 (x.lf.due : Int), .int .u64 (x.lf.tok : Int), .int .u64 (x.turn : Int), .int .u64 (x.seg : Int), .int .u64 (x.at_ : Int), .int .i64 x.size]
theorem encIt_len (x : It) : (encIt x).length = 10 := rfl
theorem encIt_one (x : It) : ∀ u ∈ encIt x, u.oneCell' = true := by
  intro u hu; simp [encIt] at hu; rcases hu with rfl | rfl | rfl | rfl | rfl | rfl | rfl | rfl | rfl | rfl <;> rfl
structure Cf where
  lanes : Int
  pay : Int
  del : Int
  deriving DecidableEq
def rightC (c : Cf) : Prop := 1 ≤ c.lanes ∧ c.lanes ≤ 8 ∧ 0 ≤ c.pay ∧ c.pay ≤ 64 ∧ 1 ≤ c.del ∧ c.del ≤ 20
instance (c : Cf) : Decidable (rightC c) := by unfold rightC; exact inferInstance
structure Px where
  c : Cf
  now : Nat
  next : Nat
  leases : Nat
  turns : Nat
  items : List It
  rows : List RowD
  last : Int
  seen : Seen
def newP (c : Cf) : Px := ⟨c, 0, 1, 0, 0, [], [], 0, []⟩
def findIt (l : List It) (id : Int) : Option It := l.find? fun y => decide ((y.id : Int) = id)
def dropIt (l : List It) (id : Nat) : List It := l.filter fun y => !decide (y.id = id)
def insIt : List It → It → List It
  | [], it => [it]
  | y :: r, it => if y.id = it.id then it :: r else y :: insIt r it
def isP (s : Px) (it : It) (l : Lf) : Px × It :=
  let t : Nat := if l.st = 1 then s.turns + 1 else s.turns
  let it1 : It := ⟨it.id, it.lane, l, if l.st = 1 then s.turns + 1 else 0, it.seg, it.at_, it.size⟩
  let rows1 := dropR s.rows it.id
  (⟨s.c, s.now, s.next, s.leases, t, if l.st = 5 then dropIt s.items it.id else insIt s.items it1, if l.st = 4 then addR rows1 s.last it.id else rows1, if l.st = 4 then addL rows1 s.last it.id else s.last, s.seen⟩, it1)
def fitsP (c : Cf) (lane size : Int) : Prop := 0 ≤ lane ∧ lane < c.lanes ∧ 0 ≤ size ∧ size ≤ c.pay
instance (c : Cf) (lane size : Int) : Decidable (fitsP c lane size) := by unfold fitsP; exact inferInstance
def putP (s : Px) (lane : Int) (delay seg at_ : Nat) (size : Int) : Px × Nat × Int :=
  if ¬ fitsP s.c lane size then (s, 0, 1)
  else if 200 ≤ s.items.length then (s, 0, 4)
  else if s.next = 0 ∨ (bornL s.now delay).2 ≠ 0 then (s, 0, 10)
  else ((isP { s with next := (s.next + 1) % 18446744073709551616 } ⟨s.next, lane, lf0, 0, seg, at_, size⟩ (bornL s.now delay).1).1, s.next, 0)
def rdy (k : Int) (y : It) : Bool := decide (y.lf.st = 1) && decide (y.lane = k)
def ahd (y b : It) : Prop := y.lane < b.lane ∨ (y.lane = b.lane ∧ y.turn < b.turn)
instance (y b : It) : Decidable (ahd y b) := by unfold ahd; exact inferInstance
def cand (lane : Int) (y : It) : Prop := y.lf.st = 1 ∧ (lane = -1 ∨ y.lane = lane)
instance (lane : Int) (y : It) : Decidable (cand lane y) := by unfold cand; exact inferInstance
def betterB (b : Option It) (y : It) : Prop := match b with
  | none => True
  | some x => ahd y x
instance (b : Option It) (y : It) : Decidable (betterB b y) := by unfold betterB; cases b <;> exact inferInstance
def bestF (lane : Int) : Option It → List It → Option It
  | b, [] => b
  | b, y :: r => bestF lane (if cand lane y ∧ betterB b y then some y else b) r
def peekP (s : Px) (lane : Int) : It × Int :=
  if lane < -1 ∨ s.c.lanes ≤ lane then (it0, 1) else match bestF lane none s.items with
    | none => (it0, 11)
    | some y => (y, 0)
def leaseP (s : Px) (lane : Int) (span : Nat) : Px × It × Int :=
  if span = 0 then (s, it0, 1)
  else if (peekP s lane).2 ≠ 0 then (s, it0, (peekP s lane).2)
  else if (leaseL (peekP s lane).1.lf s.now span (s.leases + 1)).2 ≠ 0 then (s, it0, (leaseL (peekP s lane).1.lf s.now span (s.leases + 1)).2)
  else ((isP { s with leases := s.leases + 1 } (peekP s lane).1 (leaseL (peekP s lane).1.lf s.now span (s.leases + 1)).1).1,
    (isP { s with leases := s.leases + 1 } (peekP s lane).1 (leaseL (peekP s lane).1.lf s.now span (s.leases + 1)).1).2, 0)
def hold (tok : Int) (y : It) : Bool := decide (y.lf.st = 3) && decide ((y.lf.tok : Int) = tok)
def onHeld (s : Px) (tok : Nat) (f : Lf → Lf × Int) : Px × It × Int :=
  match s.items.find? (hold tok) with
  | none => (s, it0, 9)
  | some y => if (f y.lf).2 ≠ 0 then (s, it0, (f y.lf).2) else ((isP s y (f y.lf).1).1, (isP s y (f y.lf).1).2, 0)
def ackP (s : Px) (tok : Nat) : Px × It × Int := onHeld s tok fun l => ackL l tok
def nackP (s : Px) (tok delay : Nat) : Px × It × Int := onHeld s tok fun l => nackL l tok s.now delay s.c.del
def extendP (s : Px) (tok span : Nat) : Px × It × Int := onHeld s tok fun l => extendL l tok s.now span
def wts (y : It) : Bool := decide (y.lf.st = 2) || decide (y.lf.st = 3)
def lsd (y : It) : Bool := decide (y.lf.st = 3)
def sooner (b : Option It) (y : It) : Prop := match b with
  | none => True
  | some x => y.lf.due < x.lf.due
instance (b : Option It) (y : It) : Decidable (sooner b y) := by unfold sooner; cases b <;> exact inferInstance
def soonF (p : It → Bool) (by_ : Nat) : Option It → List It → Option It
  | b, [] => b
  | b, y :: r => soonF p by_ (if p y = true ∧ y.lf.due ≤ by_ ∧ sooner b y then some y else b) r
def tickL : Nat → Px → Nat → Px × Nat
  | 0, s, n => (s, n)
  | k + 1, s, n => match soonF wts s.now none s.items with
    | none => (s, n)
    | some y => tickL k (isP s y (passL y.lf s.now s.c.del)).1 (n + 1)
def tickP (s : Px) (n : Nat) : Px × Nat × Int :=
  if s.now + n < 18446744073709551616 then ((tickL (s.items.length + 1) { s with now := s.now + n } 0).1, (tickL (s.items.length + 1) { s with now := s.now + n } 0).2, 0) else (s, 0, 10)
def resetF : Nat → Px → Px
  | 0, s => s
  | k + 1, s => match soonF lsd 18446744073709551615 none s.items with
    | none => s
    | some y => resetF k (isP s y (resetL y.lf s.c.del)).1
def resetP (s : Px) : Px := resetF (s.items.length + 1) s
def reviveP (s : Px) (id : Int) (f : Lf → Lf × Int) : Px × Int :=
  match findIt s.items id with
  | none => (s, 5)
  | some y => if (f y.lf).2 = 0 then ((isP s y (f y.lf).1).1, 0) else (s, (f y.lf).2)
def requeueP (s : Px) (id : Int) : Px × Int := reviveP s id requeueL
def purgeP (s : Px) (id : Int) : Px × Int := reviveP s id purgeL
def seenP (s : Px) (name : ByteArray) (n : Int) : Px × List Int × Int := ({ s with seen := (nextA s.rows s.seen name n).seen }, (nextA s.rows s.seen name n).out, (nextA s.rows s.seen name n).err)
def getP (s : Px) (id : Int) : It × Bool := match findIt s.items id with
  | none => (it0, false)
  | some y => (y, true)
def LiveOk (c : Cf) (cut leases turns : Nat) (y : It) : Prop :=
  (y.lf.st = 1 ∧ y.lf.due = 0 ∧ y.lf.tok = 0 ∧ 0 ≤ y.lf.cnt ∧ y.lf.cnt < c.del ∧ 1 ≤ y.turn ∧ y.turn ≤ turns) ∨
  (y.lf.st = 2 ∧ cut < y.lf.due ∧ y.lf.due < 18446744073709551616 ∧ y.lf.tok = 0 ∧ 0 ≤ y.lf.cnt ∧ y.lf.cnt < c.del ∧ y.turn = 0) ∨
  (y.lf.st = 3 ∧ cut < y.lf.due ∧ y.lf.due < 18446744073709551616 ∧ 1 ≤ y.lf.tok ∧ y.lf.tok ≤ leases ∧ 1 ≤ y.lf.cnt ∧ y.lf.cnt ≤ c.del ∧ y.turn = 0) ∨
  (y.lf.st = 4 ∧ y.lf.due = 0 ∧ y.lf.tok = 0 ∧ y.lf.cnt = c.del ∧ y.turn = 0)
structure SeenOk (last : Int) (seen : Seen) : Prop where
  names : ∀ p ∈ seen, rightB p.1.data.toList = true ∧ txt (foldB p.1.data.toList) = p.1 ∧ 0 ≤ p.2 ∧ p.2 ≤ last ∧ p.1.size ≤ 400
  few : seen.length ≤ 8
  once : (seen.map (·.1)).Nodup
structure QInv (s : Px) (cut B : Nat) : Prop where
  right : rightC s.c
  rise : s.items.Pairwise fun a b => a.id < b.id
  ids : ∀ y ∈ s.items, 1 ≤ y.id ∧ y.id < 18446744073709551616 ∧ (s.next ≠ 0 → y.id < s.next)
  len : s.items.length ≤ 200
  fit : ∀ y ∈ s.items, fitsP s.c y.lane y.size ∧ y.seg < 18446744073709551616 ∧ y.at_ < 18446744073709551616
  live : ∀ y ∈ s.items, LiveOk s.c cut s.leases s.turns y
  turn : s.items.Pairwise fun a b => a.lf.st = 1 → b.lf.st = 1 → a.turn ≠ b.turn
  tok : s.items.Pairwise fun a b => a.lf.st = 3 → b.lf.st = 3 → a.lf.tok ≠ b.lf.tok
  dead : ∀ y ∈ s.items, (y.lf.st = 4 ↔ (y.id : Int) ∈ s.rows.map (·.1))
  rows : ∀ r ∈ s.rows, ∃ y ∈ s.items, (y.id : Int) = r.1
  rowsN : (s.rows.map (·.1)).Nodup
  rowsR : s.rows.Pairwise fun a b => a.2 < b.2
  place : ∀ r ∈ s.rows, 1 ≤ r.2 ∧ r.2 ≤ s.last
  now : s.now < 18446744073709551616 ∧ cut ≤ s.now
  next : s.next < 18446744073709551616
  nums : s.leases ≤ B ∧ s.turns ≤ B ∧ 0 ≤ s.last ∧ s.last ≤ B
  seen : SeenOk s.last s.seen
theorem findIt_some {l : List It} {id : Int} {y : It} (h : findIt l id = some y) : y ∈ l ∧ (y.id : Int) = id := by
  unfold findIt at h
  exact ⟨List.mem_of_find?_eq_some h, by simpa using List.find?_some h⟩
theorem find_uniq {p : It → Bool} : ∀ {l : List It} {y : It}, y ∈ l → p y = true → (∀ z ∈ l, p z = true → z = y) → l.find? p = some y
  | [], y, h, _, _ => by simp at h
  | x :: l, y, h, hp, hu => by
    rw [List.find?_cons]
    cases hx : p x with
    | true => rw [hu x (by simp) hx]
    | false =>
      rcases List.mem_cons.1 h with rfl | h
      · rw [hp] at hx; cases hx
      · exact find_uniq h hp fun z hz => hu z (by simp [hz])
section
variable {l : List It}
theorem id_uniq (h : l.Pairwise fun a b => a.id < b.id) {x y : It} (hx : x ∈ l) (hy : y ∈ l) (e : x.id = y.id) : x = y := by
  induction l with
  | nil => simp at hx
  | cons z r ih =>
    obtain ⟨h1, h2⟩ := List.pairwise_cons.1 h
    rcases List.mem_cons.1 hx with ex | hx
    · rcases List.mem_cons.1 hy with ey | hy
      · rw [ex, ey]
      · have := h1 y hy; rw [ex] at e; omega
    · rcases List.mem_cons.1 hy with ey | hy
      · have := h1 x hx; rw [ey] at e; omega
      · exact ih h2 hx hy
theorem findIt_mem (h : l.Pairwise fun a b => a.id < b.id) {y : It} (hy : y ∈ l) : findIt l (y.id : Int) = some y := by
  refine find_uniq hy (by simp) fun z hz e => ?_
  simp only [decide_eq_true_eq, Int.natCast_inj] at e
  exact id_uniq h hz hy e
theorem mem_dropIt {id : Nat} {y : It} : y ∈ dropIt l id ↔ y ∈ l ∧ y.id ≠ id := by simp [dropIt]
theorem dropIt_rise (h : l.Pairwise fun a b => a.id < b.id) (id : Nat) : (dropIt l id).Pairwise fun a b => a.id < b.id := h.sublist List.filter_sublist
theorem insIt_ids : ∀ (l : List It) (it : It), (insIt l it).map (·.id) = if it.id ∈ l.map (·.id) then l.map (·.id) else l.map (·.id) ++ [it.id]
  | [], it => by simp [insIt]
  | y :: r, it => by
    have ih := insIt_ids r it
    simp only [insIt]
    by_cases h : y.id = it.id
    · simp [h]
    · rw [if_neg h]
      simp only [List.map_cons, List.mem_cons, Ne.symm h, false_or, ih]
      split <;> simp
theorem insIt_perm : ∀ {l : List It}, (l.Pairwise fun a b => a.id < b.id) → ∀ it : It, (insIt l it).Perm (it :: dropIt l it.id)
  | [], _, it => by simp [insIt, dropIt]
  | y :: r, h, it => by
    obtain ⟨h1, h2⟩ := List.pairwise_cons.1 h
    simp only [insIt]
    by_cases e : y.id = it.id
    · rw [if_pos e]
      have : dropIt (y :: r) it.id = r := by
        unfold dropIt
        rw [List.filter_cons, if_neg (by simp [e])]
        exact List.filter_eq_self.2 fun z hz => by have := h1 z hz; simp; omega
      rw [this]
    · rw [if_neg e]
      have : dropIt (y :: r) it.id = y :: dropIt r it.id := by
        unfold dropIt
        rw [List.filter_cons, if_pos (by simp [e])]
      rw [this]
      exact ((insIt_perm h2 it).cons y).trans (.swap it y _)
theorem insIt_rise {it : It} (h : l.Pairwise fun a b => a.id < b.id) (hn : (∃ y ∈ l, y.id = it.id) ∨ ∀ y ∈ l, y.id < it.id) : (insIt l it).Pairwise fun a b => a.id < b.id := by
  have h1 : (l.map (·.id)).Pairwise (· < ·) := List.pairwise_map.2 h
  have h2 : ((insIt l it).map (·.id)).Pairwise (· < ·) := by
    rw [insIt_ids]
    split
    · exact h1
    · rename_i hm
      rw [List.pairwise_append]
      refine ⟨h1, by simp, fun a ha b hb => ?_⟩
      simp only [List.mem_singleton] at hb
      subst hb
      obtain ⟨y, hy, rfl⟩ := List.mem_map.1 ha
      rcases hn with ⟨z, hz, e⟩ | hn
      · exact absurd (List.mem_map.2 ⟨z, hz, e⟩) hm
      · exact hn y hy
  exact List.pairwise_map.1 h2
theorem mem_insIt (h : l.Pairwise fun a b => a.id < b.id) {it y : It} : y ∈ insIt l it ↔ y = it ∨ (y ∈ l ∧ y.id ≠ it.id) := by
  rw [(insIt_perm h it).mem_iff, List.mem_cons, mem_dropIt]
theorem insIt_len (h : l.Pairwise fun a b => a.id < b.id) (it : It) : (insIt l it).length = if it.id ∈ l.map (·.id) then l.length else l.length + 1 := by
  have := congrArg List.length (insIt_ids l it)
  rw [List.length_map] at this
  rw [this]
  split <;> simp
theorem sym_pairwise {R : It → It → Prop} (hs : ∀ a b, R a b → R b a) {l l' : List It} (hp : l.Perm l') (h : l.Pairwise R) : l'.Pairwise R := (hp.pairwise_iff (fun {a b} => hs a b)).1 h
end
theorem mem_dropR {rows : List RowD} (hn : (rows.map (·.1)).Nodup) {id : Int} {r : RowD} : r ∈ dropR rows id ↔ r ∈ rows ∧ r.1 ≠ id := by
  unfold dropR
  induction rows with
  | nil => simp
  | cons x l ih =>
    simp only [List.map_cons, List.nodup_cons] at hn
    rw [List.eraseP_cons]
    by_cases hx : x.1 = id
    · simp only [hx, decide_true, cond_true, List.mem_cons]
      constructor
      · intro h
        exact ⟨.inr h, fun e => hn.1 (by rw [hx, ← e]; exact List.mem_map.2 ⟨r, h, rfl⟩)⟩
      · rintro ⟨rfl | h, h2⟩
        · exact absurd hx h2
        · exact h
    · simp only [hx, decide_false, cond_false, List.mem_cons, ih hn.2]
      constructor
      · rintro (rfl | h)
        · exact ⟨.inl rfl, hx⟩
        · exact ⟨.inr h.1, h.2⟩
      · rintro ⟨rfl | h, h2⟩
        · exact .inl rfl
        · exact .inr ⟨h, h2⟩
theorem dropR_sub (rows : List RowD) (id : Int) : List.Sublist (dropR rows id) rows := List.eraseP_sublist
theorem dropR_not {rows : List RowD} (hn : (rows.map (·.1)).Nodup) (id : Int) : hasI (dropR rows id) id = false := by
  unfold hasI
  rw [List.any_eq_false]
  intro r hr
  have := (mem_dropR hn).1 hr
  simp [this.2]
theorem addR_drop {rows : List RowD} (hn : (rows.map (·.1)).Nodup) (last id : Int) : addR (dropR rows id) last id = dropR rows id ++ [(id, last + 1)] ∧ addL (dropR rows id) last id = last + 1 := by
  unfold addR addL
  rw [dropR_not hn]
  exact ⟨rfl, rfl⟩
def NewOk (s : Px) (cut : Nat) (id : Nat) (l : Lf) : Prop :=
  (l.st = 1 ∧ l.due = 0 ∧ l.tok = 0 ∧ 0 ≤ l.cnt ∧ l.cnt < s.c.del) ∨
  (l.st = 2 ∧ cut < l.due ∧ l.due < 18446744073709551616 ∧ l.tok = 0 ∧ 0 ≤ l.cnt ∧ l.cnt < s.c.del) ∨
  (l.st = 3 ∧ cut < l.due ∧ l.due < 18446744073709551616 ∧ 1 ≤ l.tok ∧ l.tok ≤ s.leases ∧ 1 ≤ l.cnt ∧ l.cnt ≤ s.c.del ∧ ∀ y ∈ s.items, y.id ≠ id → y.lf.st = 3 → y.lf.tok ≠ l.tok) ∨
  (l.st = 4 ∧ l.due = 0 ∧ l.tok = 0 ∧ l.cnt = s.c.del) ∨ l.st = 5
theorem SeenOk.more {a b : Int} {seen : Seen} (h : SeenOk a seen) (hl : a ≤ b) : SeenOk b seen := ⟨fun p hp => by obtain ⟨x, y, z, u, v⟩ := h.names p hp; exact ⟨x, y, z, by omega, v⟩, h.few, h.once⟩
theorem isP_inv {s : Px} {cut B : Nat} (h : QInv s cut B) {it : It} {l : Lf} (hi : it ∈ s.items ∨ ((∀ y ∈ s.items, y.id < it.id) ∧ 1 ≤ it.id ∧ it.id < 18446744073709551616 ∧ s.items.length < 200))
    (hx : s.next ≠ 0 → it.id < s.next) (hf : fitsP s.c it.lane it.size ∧ it.seg < 18446744073709551616 ∧ it.at_ < 18446744073709551616) (hl : NewOk s cut it.id l) : QInv (isP s it l).1 cut (B + 1) := by
  have hrl : ∀ y ∈ s.items, y.lf.st = 1 → y.turn ≤ s.turns := fun y hy h1 => by
    rcases h.live y hy with h | h | h | h <;> omega
  have hids : 1 ≤ it.id ∧ it.id < 18446744073709551616 := by
    rcases hi with hi | hi
    · exact ⟨(h.ids it hi).1, (h.ids it hi).2.1⟩
    · exact ⟨hi.2.1, hi.2.2.1⟩
  have hdR := dropR_sub s.rows (it.id : Int)
  have nums := h.nums
  have now := h.now
  by_cases h5 : l.st = 5
  · have e1 : ¬ l.st = 1 := by omega
    have e4 : ¬ l.st = 4 := by omega
    refine ⟨h.right, ?_, ?_, ?_, ?_, ?_, ?_, ?_, ?_, ?_, ?_, ?_, ?_, h.now, h.next, ?_, ?_⟩ <;> simp only [isP, if_pos h5, if_neg e1, if_neg e4]
    · exact dropIt_rise h.rise _
    · exact fun y hy => h.ids y (mem_dropIt.1 hy).1
    · exact Nat.le_trans (List.length_filter_le _ _) h.len
    · exact fun y hy => h.fit y (mem_dropIt.1 hy).1
    · exact fun y hy => h.live y (mem_dropIt.1 hy).1
    · exact h.turn.sublist List.filter_sublist
    · exact h.tok.sublist List.filter_sublist
    · intro y hy
      obtain ⟨y1, y2⟩ := mem_dropIt.1 hy
      rw [h.dead y y1]
      simp only [List.mem_map]
      constructor
      · rintro ⟨r, hr, e⟩; exact ⟨r, (mem_dropR h.rowsN).2 ⟨hr, fun e' => y2 (by omega)⟩, e⟩
      · rintro ⟨r, hr, e⟩; exact ⟨r, ((mem_dropR h.rowsN).1 hr).1, e⟩
    · intro r hr
      obtain ⟨r1, r2⟩ := (mem_dropR h.rowsN).1 hr
      obtain ⟨y, hy, e⟩ := h.rows r r1
      exact ⟨y, mem_dropIt.2 ⟨hy, fun e' => r2 (by omega)⟩, e⟩
    · exact h.rowsN.sublist (hdR.map _)
    · exact h.rowsR.sublist hdR
    · exact fun r hr => h.place r (hdR.subset hr)
    · omega
    · exact h.seen
  · have e5 : (if l.st = 5 then dropIt s.items it.id else insIt s.items ⟨it.id, it.lane, l, if l.st = 1 then s.turns + 1 else 0, it.seg, it.at_, it.size⟩) = insIt s.items ⟨it.id, it.lane, l, if l.st = 1 then s.turns + 1 else 0, it.seg, it.at_, it.size⟩ := if_neg h5
    have hn : (∃ y ∈ s.items, y.id = it.id) ∨ ∀ y ∈ s.items, y.id < it.id := hi.imp (fun h => ⟨it, h, rfl⟩) fun h => h.1
    have hperm := insIt_perm h.rise ⟨it.id, it.lane, l, if l.st = 1 then s.turns + 1 else 0, it.seg, it.at_, it.size⟩
    have hmem := @mem_insIt s.items h.rise ⟨it.id, it.lane, l, if l.st = 1 then s.turns + 1 else 0, it.seg, it.at_, it.size⟩
    have t1 : s.turns ≤ (if l.st = 1 then s.turns + 1 else s.turns) := by split <;> omega
    have t2 : (if l.st = 1 then s.turns + 1 else s.turns) ≤ B + 1 := by split <;> omega
    have hadd := addR_drop h.rowsN s.last (it.id : Int)
    refine ⟨h.right, ?_, ?_, ?_, ?_, ?_, ?_, ?_, ?_, ?_, ?_, ?_, ?_, h.now, h.next, ?_, ?_⟩ <;> simp only [isP, e5]
    · exact insIt_rise h.rise hn
    · intro y hy
      rcases hmem.1 hy with rfl | ⟨y1, _⟩
      · exact ⟨hids.1, hids.2, hx⟩
      · exact h.ids y y1
    · rw [insIt_len h.rise]
      have := h.len
      by_cases hm : it.id ∈ s.items.map (·.id)
      · rw [if_pos hm]; exact this
      · rw [if_neg hm]
        rcases hi with hi | hi
        · exact absurd (List.mem_map.2 ⟨it, hi, rfl⟩) hm
        · omega
    · intro y hy
      rcases hmem.1 hy with rfl | ⟨y1, _⟩
      · exact hf
      · exact h.fit y y1
    · intro y hy
      rcases hmem.1 hy with rfl | ⟨y1, _⟩
      · rcases hl with ⟨g1, g2, g3, g4, g5⟩ | ⟨g1, g2, g3, g4, g5, g6⟩ | ⟨g1, g2, g3, g4, g5, g6, g7, _⟩ | ⟨g1, g2, g3, g4⟩ | hl
        · rw [if_pos g1, if_pos g1]
          exact .inl ⟨g1, g2, g3, g4, g5, Nat.le_add_left _ _, Nat.le_refl _⟩
        · rw [if_neg (by omega), if_neg (by omega)]
          exact .inr (.inl ⟨g1, g2, g3, g4, g5, g6, rfl⟩)
        · rw [if_neg (by omega), if_neg (by omega)]
          exact .inr (.inr (.inl ⟨g1, g2, g3, g4, g5, g6, g7, rfl⟩))
        · rw [if_neg (by omega), if_neg (by omega)]
          exact .inr (.inr (.inr ⟨g1, g2, g3, g4, rfl⟩))
        · exact absurd hl h5
      · rcases h.live y y1 with g | g | g | g <;> unfold LiveOk <;> omega
    · refine sym_pairwise (fun a b g h1 h2 e => g h2 h1 e.symm) hperm.symm ?_
      rw [List.pairwise_cons]
      refine ⟨fun y hy h1 h2 => ?_, h.turn.sublist List.filter_sublist⟩
      have := hrl y (mem_dropIt.1 hy).1 h2
      simp only at h1
      simp only [h1, if_true]
      omega
    · refine sym_pairwise (fun a b g h1 h2 e => g h2 h1 e.symm) hperm.symm ?_
      rw [List.pairwise_cons]
      refine ⟨fun y hy h1 h2 e => ?_, h.tok.sublist List.filter_sublist⟩
      obtain ⟨y1, y2⟩ := mem_dropIt.1 hy
      simp only at h1 e y2
      rcases hl with g | g | g | g | g
      · omega
      · omega
      · exact g.2.2.2.2.2.2.2 y y1 y2 h2 e.symm
      · omega
      · omega
    · intro y hy
      have hother : ∀ y ∈ s.items, y.id ≠ it.id → (y.lf.st = 4 ↔ (y.id : Int) ∈ (dropR s.rows (it.id : Int)).map (·.1)) := by
        intro y y1 y2
        rw [h.dead y y1]
        simp only [List.mem_map]
        constructor
        · rintro ⟨r, hr, e⟩; exact ⟨r, (mem_dropR h.rowsN).2 ⟨hr, fun e' => y2 (by omega)⟩, e⟩
        · rintro ⟨r, hr, e⟩; exact ⟨r, ((mem_dropR h.rowsN).1 hr).1, e⟩
      rcases hmem.1 hy with rfl | ⟨y1, y2⟩
      · show l.st = 4 ↔ (it.id : Int) ∈ _
        by_cases h4 : l.st = 4
        · rw [if_pos h4, hadd.1]
          simp [h4]
        · rw [if_neg h4]
          refine ⟨fun e => absurd e h4, fun hm => ?_⟩
          obtain ⟨r, hr, e⟩ := List.mem_map.1 hm
          exact absurd e ((mem_dropR h.rowsN).1 hr).2
      · simp only at y2
        rw [hother y y1 y2]
        by_cases h4 : l.st = 4
        · rw [if_pos h4, hadd.1]
          simp only [List.map_append, List.map_cons, List.map_nil, List.mem_append, List.mem_singleton]
          constructor
          · exact .inl
          · rintro (g | g)
            · exact g
            · omega
        · rw [if_neg h4]
    · intro r hr
      have hold : ∀ r ∈ dropR s.rows (it.id : Int), ∃ y ∈ insIt s.items ⟨it.id, it.lane, l, if l.st = 1 then s.turns + 1 else 0, it.seg, it.at_, it.size⟩, (y.id : Int) = r.1 := by
        intro r hr
        obtain ⟨r1, r2⟩ := (mem_dropR h.rowsN).1 hr
        obtain ⟨y, hy, e⟩ := h.rows r r1
        exact ⟨y, hmem.2 (.inr ⟨hy, fun e' => r2 (by simp only at e'; omega)⟩), e⟩
      by_cases h4 : l.st = 4
      · rw [if_pos h4, hadd.1] at hr
        rcases List.mem_append.1 hr with hr | hr
        · exact hold r hr
        · simp only [List.mem_singleton] at hr
          subst hr
          exact ⟨_, hmem.2 (.inl rfl), rfl⟩
      · rw [if_neg h4] at hr
        exact hold r hr
    · have hN : ((dropR s.rows (it.id : Int)).map (·.1)).Nodup := h.rowsN.sublist (hdR.map _)
      by_cases h4 : l.st = 4
      · rw [if_pos h4, hadd.1, List.map_append, List.nodup_append]
        refine ⟨hN, by simp, fun a ha b hb e => ?_⟩
        simp at hb
        obtain ⟨r, hr, e2⟩ := List.mem_map.1 ha
        exact ((mem_dropR h.rowsN).1 hr).2 (by rw [e2, e, hb])
      · rw [if_neg h4]; exact hN
    · have hR : (dropR s.rows (it.id : Int)).Pairwise fun a b => a.2 < b.2 := h.rowsR.sublist hdR
      by_cases h4 : l.st = 4
      · rw [if_pos h4, hadd.1, List.pairwise_append]
        refine ⟨hR, by simp, fun a ha b hb => ?_⟩
        simp only [List.mem_singleton] at hb
        subst hb
        have := h.place a (hdR.subset ha)
        show a.2 < s.last + 1
        omega
      · rw [if_neg h4]; exact hR
    · intro r hr
      by_cases h4 : l.st = 4
      · rw [if_pos h4, hadd.2]
        rw [if_pos h4, hadd.1] at hr
        rcases List.mem_append.1 hr with hr | hr
        · have := h.place r (hdR.subset hr); omega
        · simp only [List.mem_singleton] at hr
          subst hr
          show 1 ≤ s.last + 1 ∧ s.last + 1 ≤ s.last + 1
          omega
      · rw [if_neg h4]
        rw [if_neg h4] at hr
        exact h.place r (hdR.subset hr)
    · have : s.last ≤ (if l.st = 4 then addL (dropR s.rows (it.id : Int)) s.last it.id else s.last) ∧ (if l.st = 4 then addL (dropR s.rows (it.id : Int)) s.last it.id else s.last) ≤ B + 1 := by
        by_cases h4 : l.st = 4
        · rw [if_pos h4, hadd.2]; omega
        · rw [if_neg h4]; omega
      omega
    · refine h.seen.more ?_
      by_cases h4 : l.st = 4
      · rw [if_pos h4, hadd.2]; omega
      · rw [if_neg h4]; omega
theorem QInv.more {s : Px} {cut B C : Nat} (h : QInv s cut B) (hb : B ≤ C) : QInv s cut C :=
  ⟨h.right, h.rise, h.ids, h.len, h.fit, h.live, h.turn, h.tok, h.dead, h.rows, h.rowsN, h.rowsR, h.place, h.now, h.next, by have := h.nums; omega, h.seen⟩
end Go.Proofs.YtpgflmjeedbimaaGreat
end
section
namespace Go.Proofs.YtpgflmjeedbimaaGreat
open Go.Den Go.Ix
set_option linter.unusedSimpArgs false
set_option linter.unusedVariables false
structure Rx where
  c : Cf
  now : Nat
  next : Nat
  leases : Nat
  turns : Nat
  its : Int → Option It
  qs : Nat → List Int
  ws : List E
  held : Int → Option Int
  rows : List RowD
  last : Int
  seen : Seen
def updF {α : Type} (f : Int → Option α) (k : Int) (v : Option α) : Int → Option α := fun x => if x = k then v else f x
def updQ (q : Nat → List Int) (k : Nat) (l : List Int) : Nat → List Int := fun x => if x = k then l else q x
def putQ (l : List Int) (id : Int) : List Int := if id ∈ l then l else l ++ [id]
def putW (S : List E) (id t : Int) : List E := if id ∈ S.map (·.2) then S else insS S (t, id)
def leaveR (r : Rx) (it : It) : Rx := { r with qs := updQ r.qs it.lane.toNat ((r.qs it.lane.toNat).erase (it.id : Int)), ws := remS r.ws it.id, rows := dropR r.rows it.id, held := updF r.held it.lf.tok none }
def standR (r : Rx) (it : It) : Rx :=
  if it.lf.st = 1 then { r with its := updF r.its it.id (some it), qs := updQ r.qs it.lane.toNat (putQ (r.qs it.lane.toNat) it.id) }
  else if it.lf.st = 3 then { r with its := updF r.its it.id (some it), held := updF r.held it.lf.tok (some (it.id : Int)), ws := putW r.ws it.id it.lf.due }
  else if it.lf.st = 2 then { r with its := updF r.its it.id (some it), ws := putW r.ws it.id it.lf.due }
  else { r with its := updF r.its it.id (some it) }
def atLife (it : It) (l : Lf) (t : Nat) : It := ⟨it.id, it.lane, l, t, it.seg, it.at_, it.size⟩
def isR (r : Rx) (it : It) (l : Lf) : Rx × It :=
  if l.st = 1 then (standR { leaveR r it with turns := r.turns + 1 } (atLife it l (r.turns + 1)), atLife it l (r.turns + 1))
  else if l.st = 4 then (standR { leaveR r it with rows := addR (dropR r.rows it.id) r.last it.id, last := addL (dropR r.rows it.id) r.last it.id } (atLife it l 0), atLife it l 0)
  else if l.st = 5 then ({ leaveR r it with its := updF r.its it.id none }, atLife it l 0)
  else (standR (leaveR r it) (atLife it l 0), atLife it l 0)
def ew (y : It) : E := ((y.lf.due : Int), (y.id : Int))
def QueueOf (items : List It) (k : Nat) (q : List Int) : Prop := ∃ L : List It, q = L.map (fun y => (y.id : Int)) ∧ L.Perm (items.filter (rdy k)) ∧ L.Pairwise fun a b => a.turn < b.turn
structure Stood (items : List It) (qs : Nat → List Int) (ws : List E) (held : Int → Option Int) : Prop where
  qs : ∀ k, k < 8 → QueueOf items k (qs k)
  ws : ws.Perm ((items.filter wts).map ew)
  held : ∀ k, held k = (items.find? (hold k)).map fun y => (y.id : Int)
structure Rep (s : Px) (r : Rx) : Prop where
  c : r.c = s.c
  now : r.now = s.now
  next : r.next = s.next
  leases : r.leases = s.leases
  turns : r.turns = s.turns
  rows : r.rows = s.rows
  last : r.last = s.last
  seen : r.seen = s.seen
  its : ∀ k, r.its k = findIt s.items k
  st : Stood s.items r.qs r.ws r.held
theorem find_sub {p q : It → Bool} : ∀ {l : List It}, (∀ x ∈ l, p x = true → q x = true) → (l.filter q).find? p = l.find? p
  | [], _ => rfl
  | x :: l, h => by
    have ih := find_sub (p := p) (q := q) (l := l) fun y hy => h y (by simp [hy])
    cases hp : p x with
    | true => rw [List.filter_cons, if_pos (h x (by simp) hp), List.find?_cons, List.find?_cons, hp]
    | false =>
      rw [List.find?_cons, hp, List.filter_cons]
      split
      · rw [List.find?_cons, hp]; exact ih
      · exact ih
theorem find_ins {p : It → Bool} {it : It} (hp : p it = false) : ∀ {l : List It}, (l.Pairwise fun a b => a.id < b.id) → (insIt l it).find? p = (dropIt l it.id).find? p
  | [], _ => by simp [insIt, dropIt, hp]
  | y :: r, h => by
    obtain ⟨h1, h2⟩ := List.pairwise_cons.1 h
    simp only [insIt]
    by_cases e : y.id = it.id
    · rw [if_pos e]
      have : dropIt (y :: r) it.id = r := by
        unfold dropIt
        rw [List.filter_cons, if_neg (by simp [e])]
        exact List.filter_eq_self.2 fun z hz => by have := h1 z hz; simp; omega
      rw [this, List.find?_cons, hp]
    · rw [if_neg e]
      have : dropIt (y :: r) it.id = y :: dropIt r it.id := by
        unfold dropIt
        rw [List.filter_cons, if_pos (by simp [e])]
      rw [this, List.find?_cons, List.find?_cons, find_ins hp h2]
theorem findIt_ins (it : It) (k : Int) : ∀ l : List It, findIt (insIt l it) k = if k = it.id then some it else findIt l k
  | [] => by
    unfold findIt
    by_cases h : k = it.id
    · simp [insIt, h]
    · simp [insIt, h, Ne.symm h]
  | y :: r => by
    have ih := findIt_ins it k r
    unfold findIt at ih ⊢
    simp only [insIt]
    by_cases e : y.id = it.id
    · rw [if_pos e, List.find?_cons, List.find?_cons]
      by_cases h : k = it.id
      · simp [h]
      · have h1 : decide ((it.id : Int) = k) = false := by simp; exact fun e => h e.symm
        have h2 : decide ((y.id : Int) = k) = false := by rw [e]; exact h1
        rw [h1, h2, if_neg h]
    · rw [if_neg e, List.find?_cons, List.find?_cons, ih]
      by_cases h : k = it.id
      · have h2 : decide ((y.id : Int) = k) = false := by simp; omega
        rw [h2, if_pos h]
      · rw [if_neg h, if_neg h]
theorem findIt_drop (id : Nat) (k : Int) (l : List It) : findIt (dropIt l id) k = if k = id then none else findIt l k := by
  by_cases h : k = id
  · rw [if_pos h]
    unfold findIt
    rw [List.find?_eq_none]
    intro y hy
    have := (mem_dropIt.1 hy).2
    simp; omega
  · rw [if_neg h]
    unfold findIt dropIt
    refine find_sub fun x _ hx => ?_
    simp only [decide_eq_true_eq] at hx
    simp; omega
theorem erase_map {l : List It} (h : (l.map (·.id)).Nodup) (id : Nat) : (l.map fun y => (y.id : Int)).erase (id : Int) = (l.filter fun y => !decide (y.id = id)).map fun y => (y.id : Int) := by
  induction l with
  | nil => rfl
  | cons y r ih =>
    simp only [List.map_cons, List.nodup_cons] at h
    rw [List.map_cons, List.filter_cons]
    by_cases e : y.id = id
    · rw [if_neg (by simp [e]), e, List.erase_cons_head]
      congr 1
      exact (List.filter_eq_self.2 fun z hz => by
        simp only [Bool.not_eq_true', decide_eq_false_iff_not]
        exact fun e2 => h.1 (by rw [e, ← e2]; exact List.mem_map.2 ⟨z, hz, rfl⟩)).symm
    · rw [if_pos (by simp [e]), List.erase_cons_tail (by simp; omega), ih h.2, List.map_cons]
theorem ids_nodup {l : List It} (h : l.Pairwise fun a b => a.id < b.id) : (l.map (·.id)).Nodup := by
  rw [List.nodup_iff_pairwise_ne, List.pairwise_map]
  exact h.imp fun h e => by omega
theorem QueueOf.len {items : List It} {k : Nat} {q : List Int} (h : QueueOf items k q) : q.length ≤ items.length := by
  obtain ⟨L, rfl, h2, _⟩ := h
  rw [List.length_map, h2.length_eq]
  exact List.length_filter_le _ _
theorem pair_all {α : Type} {R : α → α → Prop} (hs : ∀ a b, R a b → R b a) : ∀ {l : List α}, l.Pairwise R → ∀ a b, a ∈ l → b ∈ l → a ≠ b → R a b
  | [], _, a, _, ha, _, _ => by simp at ha
  | x :: l, h, a, b, ha, hb, hab => by
    obtain ⟨h1, h2⟩ := List.pairwise_cons.1 h
    rcases List.mem_cons.1 ha with ea | ha
    · rcases List.mem_cons.1 hb with eb | hb
      · exact absurd (ea.trans eb.symm) hab
      · rw [ea]; exact h1 b hb
    · rcases List.mem_cons.1 hb with eb | hb
      · rw [eb]; exact hs _ _ (h1 a ha)
      · exact pair_all hs h2 a b ha hb hab
theorem stood_leave {s : Px} {cut B : Nat} (h : QInv s cut B) {qs : Nat → List Int} {ws : List E} {held : Int → Option Int} (hs : Stood s.items qs ws held) {it : It} (hi : it ∈ s.items ∨ ((∀ y ∈ s.items, y.id < it.id) ∧ it.lf = lf0)) (hl : 0 ≤ it.lane ∧ it.lane < 8) :
    Stood (dropIt s.items it.id) (updQ qs it.lane.toNat ((qs it.lane.toNat).erase (it.id : Int))) (remS ws it.id) (updF held it.lf.tok none) := by
  have same : ∀ y ∈ s.items, y.id = it.id → y = it := fun y hy e => by
    rcases hi with hi | hi
    · exact id_uniq h.rise hy hi e
    · have := hi.1 y hy; omega
  refine ⟨fun k hk => ?_, ?_, fun k => ?_⟩
  · obtain ⟨L, h1, h2, h3⟩ := hs.qs k hk
    have hN : (L.map (·.id)).Nodup := by
      refine ((h2.map _).nodup_iff).2 ?_
      exact (ids_nodup h.rise).sublist (List.filter_sublist.map _)
    refine ⟨L.filter fun y => !decide (y.id = it.id), ?_, ?_, h3.sublist List.filter_sublist⟩
    · unfold updQ
      by_cases e : k = it.lane.toNat
      · rw [if_pos e, ← e, h1, erase_map hN]
      · rw [if_neg e, h1]
        congr 1
        refine (List.filter_eq_self.2 fun y hy => ?_).symm
        simp only [Bool.not_eq_true', decide_eq_false_iff_not]
        intro e2
        have hm := List.mem_filter.1 (h2.mem_iff.1 hy)
        have := same y hm.1 e2
        subst this
        have h5 := hm.2
        unfold rdy at h5
        simp only [Bool.and_eq_true, decide_eq_true_eq] at h5
        omega
    · refine (h2.filter _).trans ?_
      unfold dropIt
      rw [List.filter_filter, List.filter_filter]
      exact List.Perm.of_eq (List.filter_congr fun x _ => Bool.and_comm _ _)
  · unfold remS
    refine (hs.ws.filter _).trans ?_
    rw [List.filter_map]
    unfold dropIt
    rw [List.filter_filter, List.filter_filter]
    refine List.Perm.of_eq (congrArg _ (List.filter_congr fun x _ => ?_))
    simp only [Function.comp, ew, Int.natCast_inj]
    exact Bool.and_comm _ _
  · unfold updF
    by_cases e : k = it.lf.tok
    · rw [if_pos e]
      have : (dropIt s.items it.id).find? (hold k) = none := by
        rw [List.find?_eq_none]
        intro z hz
        obtain ⟨z1, z2⟩ := mem_dropIt.1 hz
        intro hh
        unfold hold at hh
        simp only [Bool.and_eq_true, decide_eq_true_eq] at hh
        have hzl := h.live z z1
        unfold LiveOk at hzl
        rcases hi with hi | hi
        · have hil := h.live it hi
          unfold LiveOk at hil
          by_cases h3 : it.lf.st = 3
          · have hne : z ≠ it := fun e => z2 (by rw [e])
            have key := pair_all (fun a b g h1 h2 e => g h2 h1 e.symm) h.tok z it z1 hi hne
            exact key hh.1 h3 (by omega)
          · omega
        · have : it.lf.tok = 0 := by rw [hi.2]; rfl
          omega
      rw [this]; rfl
    · rw [if_neg e, hs.held k]
      congr 1
      unfold dropIt
      refine (find_sub fun x hx hp => ?_).symm
      unfold hold at hp
      simp only [Bool.and_eq_true, decide_eq_true_eq] at hp
      simp only [Bool.not_eq_true', decide_eq_false_iff_not]
      intro e2
      have := same x hx e2
      subst this
      exact e hp.2.symm
theorem stood_in {items : List It} {qs : Nat → List Int} {ws : List E} {held : Int → Option Int} {id : Nat} (hs : Stood (dropIt items id) qs ws held) : (∀ k, k < 8 → (id : Int) ∉ qs k) ∧ (id : Int) ∉ ws.map (·.2) := by
  refine ⟨fun k hk hm => ?_, fun hm => ?_⟩
  · obtain ⟨L, h1, h2, _⟩ := hs.qs k hk
    rw [h1] at hm
    obtain ⟨y, hy, e⟩ := List.mem_map.1 hm
    have := (mem_dropIt.1 (List.mem_filter.1 (h2.mem_iff.1 hy)).1).2
    omega
  · obtain ⟨e, he, e2⟩ := List.mem_map.1 hm
    obtain ⟨y, hy, rfl⟩ := List.mem_map.1 (hs.ws.mem_iff.1 he)
    have := (mem_dropIt.1 (List.mem_filter.1 hy).1).2
    simp only [ew] at e2
    omega
theorem stood_stand {items : List It} {qs : Nat → List Int} {ws : List E} {held : Int → Option Int} {it : It} (hr : items.Pairwise fun a b => a.id < b.id) (hs : Stood (dropIt items it.id) qs ws held) (hl : 0 ≤ it.lane ∧ it.lane < 8) {t : Nat}
    (ht : it.lf.st = 1 → ∀ y ∈ dropIt items it.id, y.lf.st = 1 → y.turn < it.turn) (hk : it.lf.st = 3 → ∀ y ∈ dropIt items it.id, y.lf.st = 3 → y.lf.tok ≠ it.lf.tok) :
    Stood (insIt items it) (if it.lf.st = 1 then updQ qs it.lane.toNat (putQ (qs it.lane.toNat) it.id) else qs) (if it.lf.st = 3 ∨ it.lf.st = 2 then putW ws it.id it.lf.due else ws) (if it.lf.st = 3 then updF held it.lf.tok (some (it.id : Int)) else held) := by
  obtain ⟨n1, n2⟩ := stood_in hs
  have hp := insIt_perm hr it
  refine ⟨fun k hk8 => ?_, ?_, fun k => ?_⟩
  · obtain ⟨L, h1, h2, h3⟩ := hs.qs k hk8
    have hp2 := hp.filter (rdy k)
    by_cases e : rdy k it = true
    · have e2 := e
      unfold rdy at e2
      simp only [Bool.and_eq_true, decide_eq_true_eq] at e2
      have ek : k = it.lane.toNat := by omega
      rw [List.filter_cons, if_pos e] at hp2
      rw [if_pos e2.1]
      refine ⟨L ++ [it], ?_, ?_, ?_⟩
      · unfold updQ
        rw [if_pos ek]
        unfold putQ
        rw [← ek, if_neg (n1 k hk8), h1]
        simp
      · exact (List.perm_append_comm.trans (h2.cons it)).trans hp2.symm
      · rw [List.pairwise_append]
        refine ⟨h3, by simp, fun a ha b hb => ?_⟩
        simp only [List.mem_singleton] at hb
        subst hb
        have hm := List.mem_filter.1 (h2.mem_iff.1 ha)
        have h5 := hm.2
        unfold rdy at h5
        simp only [Bool.and_eq_true, decide_eq_true_eq] at h5
        exact ht e2.1 a hm.1 h5.1
    · rw [List.filter_cons, if_neg e] at hp2
      refine ⟨L, ?_, h2.trans hp2.symm, h3⟩
      by_cases e1 : it.lf.st = 1
      · rw [if_pos e1]
        unfold updQ
        rw [if_neg, h1]
        intro ek
        refine e ?_
        unfold rdy
        simp only [Bool.and_eq_true, decide_eq_true_eq]
        omega
      · rw [if_neg e1, h1]
  · have hp2 := (hp.filter wts).map ew
    by_cases e : it.lf.st = 3 ∨ it.lf.st = 2
    · have ew1 : wts it = true := by
        unfold wts
        simp only [Bool.or_eq_true, decide_eq_true_eq]; omega
      rw [List.filter_cons, if_pos ew1] at hp2
      rw [if_pos e]
      unfold putW
      rw [if_neg n2]
      exact (insS_perm ws _).trans ((hs.ws.cons _).trans hp2.symm)
    · have ew1 : ¬ wts it = true := by
        unfold wts
        simp only [Bool.or_eq_true, decide_eq_true_eq]; omega
      rw [List.filter_cons, if_neg ew1] at hp2
      rw [if_neg e]
      exact hs.ws.trans hp2.symm
  · by_cases e : it.lf.st = 3
    · rw [if_pos e]
      unfold updF
      by_cases ek : k = it.lf.tok
      · rw [if_pos ek]
        have hh : hold k it = true := by
          unfold hold; simp [e, ek]
        have : (insIt items it).find? (hold k) = some it := by
          refine find_uniq ((mem_insIt hr).2 (.inl rfl)) hh fun z hz hz2 => ?_
          rcases (mem_insIt hr).1 hz with g | ⟨g1, g2⟩
          · exact g
          · unfold hold at hz2
            simp only [Bool.and_eq_true, decide_eq_true_eq] at hz2
            exact absurd (by omega) (hk e z (mem_dropIt.2 ⟨g1, g2⟩) hz2.1)
        rw [this]; rfl
      · rw [if_neg ek, hs.held k]
        have hh : hold k it = false := by
          unfold hold
          simp only [Bool.and_eq_false_iff, decide_eq_false_iff_not]
          exact .inr fun e => ek e.symm
        rw [find_ins hh hr]
    · rw [if_neg e, hs.held k]
      have hh : hold k it = false := by
        unfold hold
        simp only [Bool.and_eq_false_iff, decide_eq_false_iff_not]
        exact .inl e
      rw [find_ins hh hr]
theorem standR_eq (r : Rx) (it : It) : standR r it = ⟨r.c, r.now, r.next, r.leases, r.turns, updF r.its it.id (some it), if it.lf.st = 1 then updQ r.qs it.lane.toNat (putQ (r.qs it.lane.toNat) it.id) else r.qs,
    if it.lf.st = 3 ∨ it.lf.st = 2 then putW r.ws it.id it.lf.due else r.ws, if it.lf.st = 3 then updF r.held it.lf.tok (some (it.id : Int)) else r.held, r.rows, r.last, r.seen⟩ := by
  unfold standR
  by_cases h1 : it.lf.st = 1
  · have h3 : ¬ it.lf.st = 3 := by omega
    have h2 : ¬ it.lf.st = 2 := by omega
    simp [h1]
  · by_cases h3 : it.lf.st = 3
    · simp [h3]
    · by_cases h2 : it.lf.st = 2
      · simp [h2]
      · simp [h1, h2, h3]
theorem rep_is {s : Px} {r : Rx} {cut B : Nat} (h : QInv s cut B) (hr : Rep s r) {it : It} {l : Lf} (hi : it ∈ s.items ∨ ((∀ y ∈ s.items, y.id < it.id) ∧ it.lf = lf0)) (hl : 0 ≤ it.lane ∧ it.lane < 8) (hn : NewOk s cut it.id l) :
    Rep (isP s it l).1 (isR r it l).1 ∧ (isR r it l).2 = (isP s it l).2 := by
  have hs := stood_leave h hr.st hi hl
  have hrl : ∀ y ∈ s.items, y.lf.st = 1 → y.turn ≤ s.turns := fun y hy h1 => by
    have := h.live y hy
    unfold LiveOk at this; omega
  have tk : ∀ t, l.st = 3 → ∀ y ∈ dropIt s.items (atLife it l t).id, y.lf.st = 3 → y.lf.tok ≠ (atLife it l t).lf.tok := fun t h3 y hy hy3 => by
    obtain ⟨y1, y2⟩ := mem_dropIt.1 hy
    unfold NewOk at hn
    rcases hn with g | g | g | g | g
    · omega
    · omega
    · exact g.2.2.2.2.2.2.2 y y1 y2 hy3
    · omega
    · omega
  by_cases h1 : l.st = 1
  · have e5 : ¬ l.st = 5 := by omega
    have e4 : ¬ l.st = 4 := by omega
    have st := stood_stand (it := atLife it l (s.turns + 1)) h.rise hs hl (t := 0) (fun _ y hy hy1 => by
      have := hrl y (mem_dropIt.1 hy).1 hy1
      show y.turn < s.turns + 1
      omega) (tk _)
    unfold isR isP
    simp only [if_pos h1, if_neg e5, if_neg e4, hr.turns]
    refine ⟨?_, rfl⟩
    rw [standR_eq]
    exact ⟨hr.c, hr.now, hr.next, hr.leases, rfl, by simp only [leaveR, hr.rows], hr.last, hr.seen, fun k => by rw [findIt_ins]; simp only [updF, leaveR, atLife, hr.its], st⟩
  · by_cases h4 : l.st = 4
    · have e5 : ¬ l.st = 5 := by omega
      have st := stood_stand (it := atLife it l 0) h.rise hs hl (t := 0) (fun g => absurd g h1) (tk _)
      unfold isR isP
      simp only [if_neg h1, if_neg e5, if_pos h4]
      refine ⟨?_, rfl⟩
      rw [standR_eq]
      exact ⟨hr.c, hr.now, hr.next, hr.leases, hr.turns, by simp only [hr.rows, hr.last], by simp only [hr.rows, hr.last], hr.seen, fun k => by rw [findIt_ins]; simp only [updF, leaveR, atLife, hr.its], st⟩
    · by_cases h5 : l.st = 5
      · unfold isR isP
        simp only [if_neg h1, if_pos h5, if_neg h4]
        exact ⟨⟨hr.c, hr.now, hr.next, hr.leases, hr.turns, by simp only [leaveR, hr.rows], hr.last, hr.seen, fun k => by rw [findIt_drop]; simp only [updF, hr.its], hs⟩, rfl⟩
      · have st := stood_stand (it := atLife it l 0) h.rise hs hl (t := 0) (fun g => absurd g h1) (tk _)
        unfold isR isP
        simp only [if_neg h1, if_neg h5, if_neg h4]
        refine ⟨?_, rfl⟩
        rw [standR_eq]
        exact ⟨hr.c, hr.now, hr.next, hr.leases, hr.turns, by simp only [leaveR, hr.rows], hr.last, hr.seen, fun k => by rw [findIt_ins]; simp only [updF, leaveR, atLife, hr.its], st⟩
end Go.Proofs.YtpgflmjeedbimaaGreat
end
section
namespace Go.Den
structure HP where
  p : World → List Nat → Prop
  lt : ∀ {w F}, p w F → ∀ b ∈ F, b < hsz w
  st : ∀ {w w' F}, p w F → (∀ b ∈ F, blk w' b = blk w b) → p w' F
theorem HP.fr (P : HP) {w w' : World} {F G : List Nat} (h : P.p w F) (f : Fr G w w') (hd : ∀ b ∈ F, b ∉ G) : P.p w' F := P.st h fun b hb => f.keep b (P.lt h b hb) (hd b hb)
def pts (b : Nat) (cs : List Value) : HP where
  p w F := (∃ T, blk w b = some (.cells cs.toArray T (0, 0))) ∧ F = [b]
  lt := by rintro w F ⟨⟨T, h⟩, rfl⟩ c hc; simp at hc; subst hc; exact blk_lt h
  st := by rintro w w' F ⟨⟨T, h⟩, rfl⟩ hk; exact ⟨⟨T, by rw [hk b (by simp), h]⟩, rfl⟩
def slc {α : Type} (enc : α → List Value) (sz : Nat) (v : Value) (xs : List α) : HP where
  p w F := Slc enc sz w v xs F
  lt := fun h => h.lt
  st := fun h hk => h.congr hk
def pure_ (φ : Prop) : HP where
  p _ F := φ ∧ F = []
  lt := by rintro w F ⟨_, rfl⟩ b hb; simp at hb
  st := fun h _ => h
def ex {α : Type} (f : α → HP) : HP where
  p w F := ∃ a, (f a).p w F
  lt := by rintro w F ⟨a, h⟩; exact (f a).lt h
  st := by rintro w w' F ⟨a, h⟩ hk; exact ⟨a, (f a).st h hk⟩
def star (P Q : HP) : HP where
  p w F := ∃ A B, P.p w A ∧ Q.p w B ∧ F = A ++ B ∧ ∀ b ∈ A, b ∉ B
  lt := by
    rintro w F ⟨A, B, h1, h2, rfl, _⟩ b hb
    rcases List.mem_append.1 hb with hb | hb
    · exact P.lt h1 b hb
    · exact Q.lt h2 b hb
  st := by
    rintro w w' F ⟨A, B, h1, h2, rfl, hd⟩ hk
    exact ⟨A, B, P.st h1 fun b hb => hk b (by simp [hb]), Q.st h2 fun b hb => hk b (by simp [hb]), rfl, hd⟩
def emp : HP := pure_ True
def stars : List HP → HP
  | [] => emp
  | P :: ps => star P (stars ps)
theorem stars_upd : ∀ (ps : List HP) (i : Nat) (P : HP) {w : World} {F : List Nat}, ps[i]? = some P → (stars ps).p w F → ∃ A, P.p w A ∧ (∀ b ∈ A, b ∈ F) ∧
    ∀ w' A' P', P'.p w' A' → Fr A w w' → (∀ b ∈ A', b ∈ A ∨ hsz w ≤ b) → ∃ F', (stars (ps.set i P')).p w' F' ∧ ∀ b ∈ F', b ∈ F ∨ hsz w ≤ b
  | [], i, P, w, F, hi, _ => by simp at hi
  | Q :: ps, 0, P, w, F, hi, h => by
    simp at hi; subst hi
    obtain ⟨A, B, h1, h2, rfl, hd⟩ := h
    refine ⟨A, h1, fun b hb => by simp [hb], fun w' A' P' h' f sub => ⟨A' ++ B, ⟨A', B, h', (stars ps).fr h2 f fun b hb hb' => hd b hb' hb, rfl, fun b hb hb' => ?_⟩, fun b hb => ?_⟩⟩
    · rcases sub b hb with hx | hx
      · exact hd b hx hb'
      · have := (stars ps).lt h2 b hb'; omega
    · rcases List.mem_append.1 hb with hb | hb
      · rcases sub b hb with hx | hx
        · exact .inl (by simp [hx])
        · exact .inr hx
      · exact .inl (by simp [hb])
  | Q :: ps, i + 1, P, w, F, hi, h => by
    obtain ⟨A, B, h1, h2, rfl, hd⟩ := h
    obtain ⟨C, h3, h4, h5⟩ := stars_upd ps i P (by simpa using hi) h2
    refine ⟨C, h3, fun b hb => by simp [h4 b hb], fun w' A' P' h' f sub => ?_⟩
    obtain ⟨F', h6, h7⟩ := h5 w' A' P' h' f sub
    refine ⟨A ++ F', ⟨A, F', Q.fr h1 f (fun b hb hb' => hd b hb (h4 b hb')), h6, rfl, fun b hb hb' => ?_⟩, fun b hb => ?_⟩
    · rcases h7 b hb' with hx | hx
      · exact hd b hb hx
      · have := Q.lt h1 b hb; omega
    · rcases List.mem_append.1 hb with hb | hb
      · exact .inl (by simp [hb])
      · rcases h7 b hb with hx | hx
        · exact .inl (by simp [hx])
        · exact .inr hx
theorem stars_get : ∀ (ps : List HP) (i : Nat) (P : HP) {w : World} {F : List Nat}, ps[i]? = some P → (stars ps).p w F → ∃ A, P.p w A ∧ ∀ b ∈ A, b ∈ F := fun ps i P w F hi h => by
  obtain ⟨A, h1, h2, _⟩ := stars_upd ps i P hi h
  exact ⟨A, h1, h2⟩
def At (w0 : World) (F0 : List Nat) (P : HP) (w : World) : Prop := ∃ F, P.p w F ∧ (∀ b ∈ F, b ∈ F0 ∨ hsz w0 ≤ b) ∧ Fr F0 w0 w
section
variable {w0 w w' : World} {F0 : List Nat} {P Q : HP} {ps : List HP}
theorem At.start (h : P.p w F0) : At w F0 P w := ⟨F0, h, fun _ hb => .inl hb, Fr.refl _ _⟩
theorem At.frame (h : At w0 F0 P w) : Fr F0 w0 w := by obtain ⟨F, _, _, h⟩ := h; exact h
theorem At.fr0 (h : At w0 F0 P w) (f : Fr [] w w') : At w0 F0 P w' := by
  obtain ⟨F, h1, h2, h3⟩ := h
  exact ⟨F, P.fr h1 f (by simp), h2, h3.trans' f.nil⟩
theorem At.upd (h : At w0 F0 (stars ps) w) (i : Nat) {P : HP} (hi : ps[i]? = some P) : ∃ A, P.p w A ∧ ∀ w' A' P', P'.p w' A' → Fr A w w' → (∀ b ∈ A', b ∈ A ∨ hsz w ≤ b) → At w0 F0 (stars (ps.set i P')) w' := by
  obtain ⟨F, h1, h2, h3⟩ := h
  obtain ⟨A, h4, h5, h6⟩ := stars_upd ps i P hi h1
  have gr := h3.grow
  refine ⟨A, h4, fun w' A' P' h' f sub => ?_⟩
  obtain ⟨F', h7, h8⟩ := h6 w' A' P' h' f sub
  refine ⟨F', h7, fun b hb => ?_, h3.trans f fun b hb => h2 b (h5 b hb)⟩
  rcases h8 b hb with hx | hx
  · exact h2 b hx
  · exact .inr (by omega)
theorem At.get (h : At w0 F0 (stars ps) w) (i : Nat) {P : HP} (hi : ps[i]? = some P) : ∃ A, P.p w A ∧ ∀ b ∈ A, b ∈ F0 ∨ hsz w0 ≤ b := by
  obtain ⟨F, h1, h2, h3⟩ := h
  obtain ⟨A, h4, h5⟩ := stars_get ps i P hi h1
  exact ⟨A, h4, fun b hb => h2 b (h5 b hb)⟩
theorem At.add (h : At w0 F0 (stars ps) w) (f : Fr [] w w') {P : HP} {A : List Nat} (hP : P.p w' A) (hA : ∀ b ∈ A, hsz w ≤ b) : At w0 F0 (stars (P :: ps)) w' := by
  obtain ⟨F, h1, h2, h3⟩ := h
  have gr := h3.grow
  refine ⟨A ++ F, ⟨A, F, hP, (stars ps).fr h1 f (by simp), rfl, fun b hb hb' => ?_⟩, fun b hb => ?_, h3.trans' f.nil⟩
  · have := (stars ps).lt h1 b hb'; have := hA b hb; omega
  · rcases List.mem_append.1 hb with hb | hb
    · have := hA b hb; exact .inr (by omega)
    · exact h2 b hb
theorem At.cell {i b : Nat} {cs : List Value} (h : At w0 F0 (stars ps) w) (hi : ps[i]? = some (pts b cs)) : ∃ T, blk w b = some (.cells cs.toArray T (0, 0)) := by
  obtain ⟨A, ⟨h1, _⟩, _⟩ := h.get i hi
  exact h1
theorem At.store {i b j : Nat} {cs : List Value} {u : Value} {K : World → Prop} (h : At w0 F0 (stars ps) w) (hi : ps[i]? = some (pts b cs)) (hu : u.cells = #[u] ∧ u.oneCell' = true) (hj : j < cs.length)
    (hK : ∀ w', At w0 F0 (stars (ps.set i (pts b (cs.set j u)))) w' → Fr [b] w w' → K w') : BND (storev 1 w (.pointer (some ⟨b, j, none⟩)) u) K := by
  obtain ⟨A, ⟨⟨T, h1⟩, rfl⟩, upd⟩ := h.upd i hi
  exact fstore_step h1 hu hj fun w' b' f' _ => hK w' (upd w' [b] (pts b (cs.set j u)) ⟨⟨T, b'⟩, rfl⟩ f' (fun _ hb => .inl hb)) f'
theorem At.put {i b n : Nat} {cs vs : List Value} {K : World → Prop} (h : At w0 F0 (stars ps) w) (hi : ps[i]? = some (pts b cs)) (hz : cs.length = n) (hv : vs.length = n) (h1 : ∀ u ∈ vs, u.oneCell' = true) (hn : vs ≠ [])
    (hK : ∀ w', At w0 F0 (stars (ps.set i (pts b vs))) w' → Fr [b] w w' → K w') : BND (storev n w (.pointer (some ⟨b, 0, none⟩)) (.agg vs.toArray)) K := by
  obtain ⟨A, ⟨⟨T, h2⟩, rfl⟩, upd⟩ := h.upd i hi
  exact put_step h2 (by simpa using hz) hv h1 hn fun w' b' f' _ => hK w' (upd w' [b] (pts b vs) ⟨⟨T, b'⟩, rfl⟩ f' (fun _ hb => .inl hb)) f'
theorem At.append2 {α : Type} {enc : α → List Value} {sz i E bytes : Nat} {zero v u : Value} {xs ys : List α} {K : Value → World → Prop} (h : At w0 F0 (stars ps) w) (hi : ps[i]? = some (slc enc sz v xs)) (hu : cellsOfArg w sz u = some (flat enc ys, ys.length))
    (hl : ∀ x, (enc x).length = sz) (hl1 : ∀ x, ∀ u ∈ enc x, u.oneCell' = true) (hz : zero.cells.size = sz) (hb : (xs.length + ys.length) * bytes ≤ 140737488355328) (hmax : xs.length + ys.length ≤ 9223372036854775807)
    (hK : ∀ v' w', At w0 F0 (stars (ps.set i (slc enc sz v' (xs ++ ys)))) w' → v'.cells = #[v'] ∧ v'.oneCell' = true → K v' w') : APPEND E sz bytes zero v u w K := by
  obtain ⟨A, hA, upd⟩ := h.upd i hi
  have hA' : Slc enc sz w v xs A := hA
  exact APPEND_slc hA' hu hl hl1 hz hb hmax fun v' w' F' s' f' sub => hK v' w' (upd w' F' (slc enc sz v' (xs ++ ys)) s' f' sub) s'.one
theorem At.append {α : Type} {enc : α → List Value} {sz i E bytes : Nat} {zero v u : Value} {xs ys : List α} {K : Value → World → Prop} (h : At w0 F0 (stars ps) w) (hi : ps[i]? = some (slc enc sz v xs)) (hu : cellsOfArg w sz u = some (flat enc ys, ys.length))
    (hl : ∀ x, (enc x).length = sz) (hl1 : ∀ x, ∀ u ∈ enc x, u.oneCell' = true) (hz : zero.cells.size = sz) (hb : bytes ≤ 1000) (hmax : xs.length + ys.length < 100000000000)
    (hK : ∀ v' w', At w0 F0 (stars (ps.set i (slc enc sz v' (xs ++ ys)))) w' → v'.cells = #[v'] ∧ v'.oneCell' = true → K v' w') : APPEND E sz bytes zero v u w K :=
  h.append2 hi hu hl hl1 hz (Nat.le_trans (Nat.mul_le_mul_left _ hb) (by omega)) (by omega) hK
theorem At.slc1 {α : Type} {enc : α → List Value} {sz : Nat} {v : Value} {xs : List α} (h : At w0 F0 (stars ps) w) {i : Nat} (hi : ps[i]? = some (slc enc sz v xs)) : ∃ F, Slc enc sz w v xs F ∧ ∀ b ∈ F, b ∈ F0 ∨ hsz w0 ≤ b := h.get i hi
theorem At.arr {α : Type} {enc : α → List Value} {sz : Nat} {v : Value} {xs : List α} (h : At w0 F0 (stars ps) w) {i : Nat} (hi : ps[i]? = some (slc enc sz v xs)) : Arr enc sz w v xs := by
  obtain ⟨F, h1, _⟩ := h.slc1 hi
  exact h1.arr
theorem At.swap {P Q : HP} (h : At w0 F0 (stars (P :: Q :: ps)) w) : At w0 F0 (stars (Q :: P :: ps)) w := by
  obtain ⟨F, ⟨A, B, p1, ⟨C, D, p2, p3, rfl, p4⟩, rfl, p5⟩, p6, p7⟩ := h
  refine ⟨C ++ (A ++ D), ⟨C, A ++ D, p2, ⟨A, D, p1, p3, rfl, fun b hb hd => p5 b hb (by simp [hd])⟩, rfl, fun b hb hd => ?_⟩, fun b hb => p6 b ?_, p7⟩
  · rcases List.mem_append.1 hd with hd | hd
    · exact p5 b hd (by simp [hb])
    · exact p4 b hb hd
  · simp only [List.mem_append] at hb ⊢
    rcases hb with h | h | h
    · exact .inr (.inl h)
    · exact .inl h
    · exact .inr (.inr h)
theorem At.base {w1 : World} (f : Fr [] w0 w1) (h : At w1 [] P w) : At w0 [] P w := by
  obtain ⟨F, h1, h2, h3⟩ := h
  have := f.grow
  exact ⟨F, h1, fun b hb => .inr (by have := (h2 b hb).resolve_left (by simp); omega), f.trans' h3⟩
theorem At.tail (h : At w0 F0 (stars (P :: ps)) w) : At w0 F0 (stars ps) w := by
  obtain ⟨F, ⟨A, B, h1, h2, rfl, _⟩, h3, h4⟩ := h
  exact ⟨B, h2, fun b hb => h3 b (by simp [hb]), h4⟩
end
theorem eqCells_int {o : Nat} {k : IntKind} {r : List (Nat × TypeDesc)} {xs ys : List Value} {a b : Int} (hx : xs[o]? = some (.int k a)) (hy : ys[o]? = some (.int k b)) : eqCells ((o, .int k) :: r) xs.toArray ys.toArray = if a = b then eqCells r xs.toArray ys.toArray else some false := by
  rw [eqCells]
  simp only [List.getElem?_toArray, hx, hy, eqCell, if_true, beq_dec]
  by_cases h : a = b <;> simp [h]
theorem eqCells_str {o : Nat} {r : List (Nat × TypeDesc)} {xs ys : List Value} {a b : ByteArray} (hx : xs[o]? = some (.string a)) (hy : ys[o]? = some (.string b)) : eqCells ((o, .string) :: r) xs.toArray ys.toArray = if a = b then eqCells r xs.toArray ys.toArray else some false := by
  have hs : (a.toList == b.toList) = decide (a = b) := by
    have h := steq a b
    simpa [binv, bins] using h
  rw [eqCells]
  simp only [List.getElem?_toArray, hx, hy, eqCell, hs]
  by_cases h : a = b <;> simp [h]
theorem eqCells_nil {xs ys : List Value} : eqCells [] xs.toArray ys.toArray = some (decide True) := by simp [eqCells]
theorem eqagg_ne {ks : List (Nat × TypeDesc)} {xs ys : List Value} {b : Bool} (h : eqCells ks xs.toArray ys.toArray = some b) : eqaggv ks .neq (.agg xs.toArray) (.agg ys.toArray) = some (.bool !b) := by
  simp [eqaggv, h, binn]
theorem eqagg_eq {ks : List (Nat × TypeDesc)} {xs ys : List Value} {b : Bool} (h : eqCells ks xs.toArray ys.toArray = some b) : eqaggv ks .eql (.agg xs.toArray) (.agg ys.toArray) = some (.bool b) := by
  simp [eqaggv, h, binn]
end Go.Den
end
section
set_option linter.unusedSimpArgs false
set_option linter.unusedVariables false
namespace Go.Proofs.YtpgflmjeedbimaaGreat
open Go.Den
def itHP (r m ck : Nat) (sn : Array Nat) : HP where
  p w F := blk w r = some (.mapIter (some m) ck sn ck) ∧ F = [r]
  lt := by rintro w F ⟨h, rfl⟩ c hc; simp at hc; subst hc; exact blk_lt h
  st := by rintro w w' F ⟨h, rfl⟩ hk; exact ⟨by rw [hk r (by simp), h], rfl⟩
structure ItAt (es : Array MapEntry) (sn : Array Nat) (A B : List MapEntry) : Prop where
  all : (A ++ B).Perm es.toList
  seen : sn.toList = A.map (·.born)
theorem ItAt.start (es : Array MapEntry) : ItAt es #[] [] es.toList := ⟨by simp, by simp⟩
theorem find_born : ∀ {l : List MapEntry} {e : MapEntry}, (l.map (·.born)).Nodup → e ∈ l → l.find? (fun x => x.born == e.born) = some e
  | [], e, _, h => by simp at h
  | x :: l, e, hn, h => by
    simp only [List.map_cons, List.nodup_cons] at hn
    rcases List.mem_cons.1 h with rfl | h
    · simp
    · have hne : x.born ≠ e.born := fun he => hn.1 (by rw [he]; exact List.mem_map.2 ⟨e, h, rfl⟩)
      rw [List.find?_cons_of_neg (by simpa using hne)]
      exact find_born hn.2 h
section
variable {es : Array MapEntry} {sn : Array Nat} {A B : List MapEntry} {w : World} {r m ck : Nat}
theorem ItAt.nd (h : ItAt es sn A B) (hn : (es.toList.map (·.born)).Nodup) : ((A ++ B).map (·.born)).Nodup := (h.all.map _).nodup_iff.2 hn
theorem RANGEM_step {k : Value → World → Prop} (b1 : blk w m = some (.map es ck)) (h : ∀ w', blk w' (hsz w) = some (.mapIter (some m) ck #[] ck) → Fr [] w w' → hsz w' = hsz w + 1 → k (.pointer (some ⟨hsz w, 0, none⟩)) w') :
    BND (rangemv w (.map (some m))) fun p => NEW p k := by
  have b1' : w.heap[m]? = some (.map es ck) := b1
  refine BND_step (v := (.pointer (some ⟨w.heap.size, 0, none⟩), w.alloc (.mapIter (some m) ck #[] ck))) (by simp [rangemv, b1']) <| (NEW_pair _ _ _).2 ?_
  exact h _ (blk_alloc_new _ _) (Fr.alloc _ _ _) (by simp)
theorem NEXTM_step {k : Value → World → Prop} (b1 : blk w m = some (.map es ck)) (hlt : ∀ x ∈ es.toList, x.born < ck) (hnd : (es.toList.map (·.born)).Nodup) (b2 : blk w r = some (.mapIter (some m) ck sn ck)) (hi : ItAt es sn A B)
    (h0 : B = [] → k (.tuple #[.bool false]) w)
    (h1 : ∀ e B1 B2 w', B = B1 ++ e :: B2 → Fr [r] w w' → (itHP r m ck (sn.push e.born)).p w' [r] → ItAt es (sn.push e.born) (A ++ [e]) (B1 ++ B2) → entryv w' (.pointer (some ⟨r, 0, none⟩)) = some (.tuple #[e.key, e.val]) → k (.tuple #[.bool true, e.key, e.val]) w') :
    NEXTM (.pointer (some ⟨r, 0, none⟩)) w k := by
  refine ⟨?_⟩
  have b1' : w.heap[m]? = some (.map es ck) := b1
  have b2' : w.heap[r]? = some (.mapIter (some m) ck sn ck) := b2
  have hn := hi.nd hnd
  unfold NEXTMS
  simp only [b2', b1']
  refine ⟨hlt, Nat.le_refl _, fun hall => h0 ?_, fun e he hse w1 hh ho => ?_⟩
  · cases hB : B with
    | nil => rfl
    | cons x B' =>
      exfalso
      have hx : x ∈ es.toList := hi.all.mem_iff.1 (by rw [hB]; simp)
      have := hall x hx
      have hc : x.born ∈ A.map (·.born) := by
        rw [← hi.seen]
        simpa using this
      rw [List.map_append, List.nodup_append] at hn
      exact hn.2.2 _ hc _ (List.mem_map.2 ⟨x, by rw [hB]; simp, rfl⟩) rfl
  · have heA : e ∉ A := fun hA => by
      have hc : e.born ∈ sn.toList := by rw [hi.seen]; exact List.mem_map.2 ⟨e, hA, rfl⟩
      have : sn.contains e.born = true := by simpa using hc
      rw [this] at hse; cases hse
    have heB : e ∈ B := by
      rcases List.mem_append.1 (hi.all.mem_iff.2 he) with h | h
      · exact absurd h heA
      · exact h
    obtain ⟨B1, B2, hB⟩ := List.append_of_mem heB
    have hrm : r ≠ m := fun e => by subst e; rw [b1'] at b2'; cases b2'
    have hrlt : r < w.heap.size := blk_lt b2
    have k1 : blk ({ w1 with heap := w1.heap.setIfInBounds r (.mapIter (some m) ck (sn.push e.born) ck) } : World) r = some (.mapIter (some m) ck (sn.push e.born) ck) := by
      show (w1.heap.setIfInBounds r _)[r]? = _
      rw [hh, Array.getElem?_setIfInBounds_self, if_pos hrlt]
    have k2 : blk ({ w1 with heap := w1.heap.setIfInBounds r (.mapIter (some m) ck (sn.push e.born) ck) } : World) m = some (.map es ck) := by
      show (w1.heap.setIfInBounds r _)[m]? = _
      rw [hh, Array.getElem?_setIfInBounds_ne hrm]; exact b1'
    refine h1 e B1 B2 _ hB ⟨?_, fun b hb hb' => ?_, ho.1, ho.2.1, ho.2.2⟩ ⟨k1, rfl⟩ ⟨?_, ?_⟩ ?_
    · show w.heap.size ≤ (w1.heap.setIfInBounds r _).size
      rw [Array.size_setIfInBounds, hh]; exact Nat.le_refl _
    · show (w1.heap.setIfInBounds r _)[b]? = w.heap[b]?
      rw [hh, Array.getElem?_setIfInBounds_ne (fun e => hb' (by simp [e]))]
    · refine List.Perm.trans ?_ hi.all
      rw [hB, List.append_assoc]
      refine List.Perm.append_left A ?_
      rw [List.singleton_append]
      exact List.perm_middle.symm
    · simp [hi.seen]
    · have k1' : ({ w1 with heap := w1.heap.setIfInBounds r (.mapIter (some m) ck (sn.push e.born) ck) } : World).heap[r]? = _ := k1
      have k2' : ({ w1 with heap := w1.heap.setIfInBounds r (.mapIter (some m) ck (sn.push e.born) ck) } : World).heap[m]? = _ := k2
      have hf : es.find? (fun x => x.born == e.born) = some e := by rw [← Array.find?_toList]; exact find_born hnd he
      unfold entryv
      simp only [k1', k2', Array.back?_push, hf, if_true, Option.map_some]
end
instance {x : Value} : Ev (extractv (.tuple #[x]) 0) x := ⟨rfl⟩
def seenN (r : Nat) (w : World) : Nat := match blk w r with
  | some (.mapIter _ _ sn _) => sn.size
  | _ => 0
theorem seenN_it {r m ck : Nat} {sn : Array Nat} {w : World} (h : blk w r = some (.mapIter (some m) ck sn ck)) : seenN r w = sn.size := by unfold seenN; rw [h]
end Go.Proofs.YtpgflmjeedbimaaGreat
end
section
namespace Go.Den
section
variable {w0 w w' w1 w2 : World} {A B : List Nat} {P Q P' Q' : HP}
theorem At.two (h : At w0 [] (stars [P, Q]) w) (f : Fr [] w w') : ∃ A B, At w' A P w' ∧ At w' B Q w' ∧ (∀ b ∈ A, b < hsz w) ∧ (∀ b ∈ B, b < hsz w) ∧ (∀ b ∈ A, b ∉ B) ∧ Fr [] w0 w' ∧ (∀ b ∈ A, b ∈ ([] : List Nat) ∨ hsz w0 ≤ b) ∧ (∀ b ∈ B, b ∈ ([] : List Nat) ∨ hsz w0 ≤ b) := by
  obtain ⟨F, ⟨A, C, p1, ⟨B, D, p2, _, rfl, p3⟩, rfl, p4⟩, p5, p6⟩ := h
  refine ⟨A, B, At.start (P.fr p1 f (by simp)), At.start (Q.fr p2 f (by simp)), P.lt p1, Q.lt p2, fun b h1 h2 => p4 b h1 (by simp [h2]), p6.trans' f, fun b hb => p5 b (by simp [hb]), fun b hb => p5 b (by simp [hb])⟩
theorem At.first (hA : At w A P w) (hB : At w B Q' w1) (hd : ∀ b ∈ A, b ∉ B) : At w1 A P w1 := by
  obtain ⟨F, h1, h2, _⟩ := hA
  have hF : ∀ b ∈ F, b ∈ A := fun b hb => by
    rcases h2 b hb with h | h
    · exact h
    · have := P.lt h1 b hb; omega
  exact ⟨F, P.fr h1 hB.frame fun b hb => hd b (hF b hb), fun b hb => .inl (hF b hb), Fr.refl _ _⟩
end
theorem Slc.pre {α : Type} {enc : α → List Value} {sz n : Nat} {w : World} {v : Value} {xs : List α} {F : List Nat} (s : Slc enc sz w v xs F) (hn : n ≤ xs.length) :
    ∃ v', slicev sz v none (some (.int .i64 (n : Int))) = some v' ∧ Arr enc sz w v' (xs.take n) := by
  have ha := s.arr
  obtain ⟨a, cap, hv, hc⟩ : ∃ a cap, v = .slice a xs.length cap ∧ xs.length ≤ cap := by
    rcases s with ⟨rfl, rfl, _⟩ | ⟨b, cap, c, T, rfl, _, hc, _⟩
    · exact ⟨_, _, rfl, Nat.le_refl _⟩
    · exact ⟨_, _, rfl, hc⟩
  obtain ⟨a', cap', hv', h⟩ := ha
  rw [hv] at hv'
  cases hv'
  subst hv
  have e : (if cap = 0 then a else a.map (·.add (0 * sz))) = a := by
    by_cases h0 : cap = 0
    · rw [if_pos h0]
    · rw [if_neg h0]
      cases a with
      | none => rfl
      | some a => obtain ⟨b, o, p⟩ := a; cases p <;> simp [Addr.add]
  refine ⟨.slice a n cap, ?_, a, cap, by rw [List.length_take]; congr 1; omega, ?_⟩
  · unfold slicev
    simp only [natOf]
    simp [show n ≤ cap by omega]
    simpa using e
  · rcases h with h | ⟨b, o, c, T, fz, h1, h2, h3⟩
    · left; rw [h]; simp
    · right
      refine ⟨b, o, c, T, fz, h1, h2, fun i x hx => ?_⟩
      have hi : i < n := by
        have := (List.getElem?_eq_some_iff.1 hx).1
        rw [List.length_take] at this; omega
      rw [List.getElem?_take_of_lt hi] at hx
      exact h3 i x hx
structure SV where
  a : Option Addr
  n : Nat
  c : Nat
def SV.v (x : SV) : Value := .slice x.a x.n x.c
theorem slc_sv {α : Type} {enc : α → List Value} {sz : Nat} {w : World} {v : Value} {xs : List α} {F : List Nat} (s : Slc enc sz w v xs F) : ∃ x : SV, v = x.v := by
  rcases s with ⟨rfl, _⟩ | ⟨b, cap, c, T, rfl, _⟩
  · exact ⟨⟨none, 0, 0⟩, rfl⟩
  · exact ⟨⟨_, _, _⟩, rfl⟩
end Go.Den
end
section
namespace Go.Proofs.YtpgflmjeedbimaaGreat
open Go.Den
set_option linter.unusedSimpArgs false
set_option linter.unusedVariables false
theorem lk_iff {κ : Type} [DecidableEq κ] {L : List (κ × Value)} (hn : (L.map (·.1)).Nodup) {k : κ} {v : Value} : lk L k = some v ↔ (k, v) ∈ L := by
  induction L with
  | nil => simp [lk_nil]
  | cons p L ih =>
    obtain ⟨a, b⟩ := p
    simp only [List.map_cons, List.nodup_cons] at hn
    rw [lk_cons]
    by_cases h : k = a
    · subst h
      simp only [if_true, Option.some.injEq, List.mem_cons, Prod.mk.injEq, true_and]
      constructor
      · exact fun h => .inl h.symm
      · rintro (h | h)
        · exact h.symm
        · exact absurd (List.mem_map.2 ⟨_, h, rfl⟩) hn.1
    · simp only [h, if_false, List.mem_cons, Prod.mk.injEq, false_and, false_or]
      exact ih hn.2
theorem lk_noneU {κ : Type} [DecidableEq κ] {L : List (κ × Value)} {k : κ} : lk L k = none ↔ k ∉ L.map (·.1) := by
  rw [← Den.lk_mem]
  cases lk L k <;> simp
theorem erase_permL {α : Type} {l : List α} {i : Nat} (hi : i < l.length) : (l[i] :: l.eraseIdx i).Perm l := by
  rw [List.eraseIdx_eq_take_drop_succ]
  refine List.perm_middle.symm.trans ?_
  rw [← List.drop_eq_getElem_cons hi, List.take_append_drop]
def Ring (P N : Nat → Nat) : List Nat → Prop
  | a :: b :: r => N a = b ∧ P b = a ∧ Ring P N (b :: r)
  | _ => True
def at_ (f : Nat → Nat) (a b : Nat) : Nat → Nat := fun x => if x = a then b else f x
theorem Ring.congr {P N P' N' : Nat → Nat} : ∀ {l : List Nat}, Ring P N l → (∀ x ∈ l.dropLast, N' x = N x) → (∀ x ∈ l.tail, P' x = P x) → Ring P' N' l
  | [], _, _, _ => trivial
  | [_], _, _, _ => trivial
  | a :: b :: r, ⟨h1, h2, h3⟩, hN, hP => ⟨(hN a (by simp)).trans h1, (hP b (by simp)).trans h2, Ring.congr h3 (fun x hx => hN x (by simp only [List.dropLast_cons_cons]; exact List.mem_cons_of_mem _ hx)) fun x hx => hP x (by simp only [List.tail_cons] at hx ⊢; exact List.mem_cons_of_mem _ hx)⟩
theorem Ring.split {P N : Nat → Nat} {a : Nat} : ∀ {p q : List Nat}, Ring P N (p ++ a :: q) ↔ Ring P N (p ++ [a]) ∧ Ring P N (a :: q)
  | [], q => by simp [Ring]
  | [x], q => by simp [Ring, and_assoc]
  | x :: y :: p, q => by
    have := Ring.split (P := P) (N := N) (a := a) (p := y :: p) (q := q)
    simp only [List.cons_append] at this ⊢
    simp only [Ring]
    rw [this]
    simp only [and_assoc]
theorem Ring.put {P N : Nat → Nat} {lb x : Nat} {bs : List Nat} (h : Ring P N (lb :: (bs ++ [lb]))) (hn : (lb :: bs).Nodup) (hx : x ∉ lb :: bs) :
    Ring (at_ (at_ P x (P lb)) lb x) (at_ (at_ N x lb) (P lb) x) (lb :: ((bs ++ [x]) ++ [lb])) ∧ P lb ∈ lb :: bs := by
  -- the last one
  obtain ⟨p, a, e⟩ : ∃ p a, lb :: bs = p ++ [a] := ⟨(lb :: bs).dropLast, (lb :: bs).getLast (by simp), (List.dropLast_concat_getLast (by simp)).symm⟩
  have e1 : lb :: (bs ++ [lb]) = p ++ a :: [lb] := by rw [← List.cons_append, e]; simp
  have e2 : lb :: ((bs ++ [x]) ++ [lb]) = p ++ a :: [x, lb] := by rw [← List.cons_append, ← List.cons_append, e]; simp
  rw [e1, Ring.split] at h
  obtain ⟨h1, h2, h3, _⟩ := h
  have hlb : P lb ∈ lb :: bs := by rw [h3, e]; simp
  have hxa : x ≠ a := fun he => hx (by rw [he, e]; simp)
  have hxl : x ≠ lb := fun he => hx (by simp [he])
  have hnd := e ▸ hn
  have hap : a ∉ p := fun h => (List.nodup_append.1 hnd).2.2 a h a (by simp) rfl
  refine ⟨?_, hlb⟩
  rw [e2, Ring.split]
  refine ⟨h1.congr (fun y hy => ?_) (fun y hy => ?_), ?_⟩
  · rw [List.dropLast_concat] at hy
    have y1 : y ≠ x := fun he => hx (by rw [← he, e]; simp [hy])
    have y2 : y ≠ P lb := fun he => hap (by rw [← h3, ← he]; exact hy)
    simp [at_, y1, y2]
  · have hy2 : y ∈ bs := by
      have : (p ++ [a]).tail = bs := by rw [← e]; rfl
      rwa [this] at hy
    have y1 : y ≠ x := fun he => hx (by rw [← he]; simp [hy2])
    have y2 : y ≠ lb := fun he => (List.nodup_cons.1 hn).1 (he ▸ hy2)
    simp [at_, y1, y2]
  · refine ⟨by simp [at_, h3], by simp [at_, hxl, h3], ?_, by simp [at_], trivial⟩
    simp [at_, Ne.symm hxa, hxa, h3]
theorem Ring.drop {P N : Nat → Nat} {lb x : Nat} {p q : List Nat} (h : Ring P N (lb :: ((p ++ x :: q) ++ [lb]))) (hn : (lb :: (p ++ x :: q)).Nodup) :
    Ring (at_ P (N x) (P x)) (at_ N (P x) (N x)) (lb :: ((p ++ q) ++ [lb])) ∧ P x ∈ lb :: (p ++ q) ∧ N x ∈ lb :: (p ++ q) := by
  obtain ⟨p1, a, e⟩ : ∃ p1 a, lb :: p = p1 ++ [a] := ⟨(lb :: p).dropLast, (lb :: p).getLast (by simp), (List.dropLast_concat_getLast (by simp)).symm⟩
  obtain ⟨b, q1, e'⟩ : ∃ b q1, q ++ [lb] = b :: q1 := by
    cases q with
    | nil => exact ⟨_, _, rfl⟩
    | cons y q => exact ⟨_, _, rfl⟩
  have e1 : lb :: ((p ++ x :: q) ++ [lb]) = p1 ++ a :: (x :: b :: q1) := by
    rw [List.append_assoc, List.cons_append, e', ← List.cons_append, e]; simp
  have e2 : lb :: ((p ++ q) ++ [lb]) = p1 ++ a :: (b :: q1) := by
    rw [List.append_assoc, e', ← List.cons_append, e]; simp
  rw [e1, Ring.split] at h
  obtain ⟨h1, h2, h3, h4, h5, h6⟩ := h
  have ha : a ∈ lb :: p := by rw [e]; simp
  have hb : b ∈ q ++ [lb] := by rw [e']; simp
  have hn2 : (lb :: p ++ x :: q).Nodup := by simpa using hn
  have hpx : P x = a := h3
  have hNx : N x = b := h4
  have hnd := e ▸ (List.nodup_append.1 hn2).1
  have hap : a ∉ p1 := fun h => (List.nodup_append.1 hnd).2.2 a h a (by simp) rfl
  have hqn : (q ++ [lb]).Nodup := by
    have hq1 : q.Nodup := (List.nodup_cons.1 (List.nodup_append.1 hn2).2.1).2
    rw [List.nodup_append]
    refine ⟨hq1, by simp, fun u hu v hv euv => ?_⟩
    rw [List.mem_singleton] at hv
    rw [euv, hv] at hu
    exact (List.nodup_append.1 hn2).2.2 lb (by simp) lb (by simp [hu]) rfl
  have hlq : lb ∉ q := fun hm => (List.nodup_append.1 hn2).2.2 lb (by simp) lb (by simp [hm]) rfl
  have hdis : ∀ u ∈ lb :: p, u ∉ q := fun u hu hq => (List.nodup_append.1 hn2).2.2 u hu u (by simp [hq]) rfl
  refine ⟨?_, ?_, ?_⟩
  · rw [hpx, hNx, e2, Ring.split]
    have hb1 : b ∉ q1 := by rw [e'] at hqn; exact (List.nodup_cons.1 hqn).1
    refine ⟨h1.congr (fun y hy => ?_) (fun y hy => ?_), by simp [at_], by simp [at_], h6.congr (fun y hy => ?_) (fun y hy => ?_)⟩
    · rw [List.dropLast_concat] at hy
      have : y ≠ a := fun he => hap (he ▸ hy)
      simp [at_, this]
    · -- those behind lb in the first part are p: b isn't one of them
      have hyp : y ∈ p := by
        have : (p1 ++ [a]).tail = p := by rw [← e]; rfl
        rwa [this] at hy
      have : y ≠ b := fun he => by
        subst he
        rcases List.mem_append.1 hb with hb | hb
        · exact hdis y (by simp [hyp]) hb
        · simp at hb; subst hb
          exact (List.nodup_cons.1 (List.nodup_append.1 hn2).1).1 hyp
      simp [at_, this]
    · -- b :: q1 but the last: of q
      have hyq : y ∈ q := by
        rw [← e', List.dropLast_concat] at hy
        exact hy
      have : y ≠ a := fun he => hdis a ha (he ▸ hyq)
      simp [at_, this]
    · have : y ≠ b := fun he => hb1 (he ▸ hy)
      simp [at_, this]
  · rw [hpx]; simp only [List.mem_cons, List.mem_append] at ha ⊢
    rcases ha with h | h
    · exact .inl h
    · exact .inr (.inl h)
  · rw [hNx]; simp only [List.mem_cons, List.mem_append, List.mem_singleton] at hb ⊢
    rcases hb with h | h
    · exact .inr (.inr h)
    · rcases h with h | h
      · exact .inl h
      · simp at h
def pb (b : Nat) : Value := .pointer (some ⟨b, 0, none⟩)
abbrev encK : Int → Value := fun n => .int .u64 n
structure LaneOwn (w : World) (lb : Nat) (xs : List (Int × Nat)) (P N : Nat → Nat) (mb : Nat) : Prop where
  head : ∃ T, blk w lb = some (.cells #[pb (P lb), pb (N lb), .int .u64 0, .map (some mb)] T (0, 0))
  link : ∀ x ∈ xs, ∃ T, blk w x.2 = some (.cells #[pb (P x.2), pb (N x.2), .int .u64 x.1] T (0, 0))
  ring : Ring P N (lb :: (xs.map (·.2) ++ [lb]))
  map : ∃ es ck L, blk w mb = some (.map es ck) ∧ MapL encK es L ∧ L.Perm (xs.map fun x => (x.1, pb x.2))
  nd : (mb :: lb :: xs.map (·.2)).Nodup
  lens : xs.length < 1000000000
def laneHP (lb : Nat) (ids : List Int) : HP where
  p w F := ∃ xs P N mb, LaneOwn w lb xs P N mb ∧ xs.map (·.1) = ids ∧ F = mb :: lb :: xs.map (·.2)
  lt := by
    rintro w F ⟨xs, P, N, mb, h, _, rfl⟩ b hb
    obtain ⟨T, h1⟩ := h.head
    obtain ⟨es, ck, L, h2, _⟩ := h.map
    simp only [List.mem_cons] at hb
    rcases hb with rfl | rfl | hb
    · exact blk_lt h2
    · exact blk_lt h1
    · obtain ⟨x, hx, rfl⟩ := List.mem_map.1 hb
      obtain ⟨T, h3⟩ := h.link x hx
      exact blk_lt h3
  st := by
    rintro w w' F ⟨xs, P, N, mb, h, h0, rfl⟩ hk
    refine ⟨xs, P, N, mb, ⟨?_, fun x hx => ?_, h.ring, ?_, h.nd, h.lens⟩, h0, rfl⟩
    · obtain ⟨T, h1⟩ := h.head
      exact ⟨T, by rw [hk lb (by simp), h1]⟩
    · obtain ⟨T, h1⟩ := h.link x hx
      exact ⟨T, by rw [hk x.2 (by simp only [List.mem_cons, List.mem_map]; exact .inr (.inr ⟨x, hx, rfl⟩)), h1]⟩
    · obtain ⟨es, ck, L, h2, h3⟩ := h.map
      exact ⟨es, ck, L, by rw [hk mb (by simp), h2], h3⟩
section
variable {w : World} {lb : Nat} {ids : List Int} {R : Value → World → Prop} {F : List Nat}
theorem LaneOwn.idsN {xs : List (Int × Nat)} {P N : Nat → Nat} {mb : Nat} (h : LaneOwn w lb xs P N mb) : (xs.map (·.1)).Nodup := by
  obtain ⟨es, ck, L, h2, h3, h4⟩ := h.map
  have := (h4.map (·.1)).nodup_iff.1 h3.once
  rwa [List.map_map] at this
theorem LaneOwn.look {xs : List (Int × Nat)} {P N : Nat → Nat} {mb : Nat} (h : LaneOwn w lb xs P N mb) (id : Int) : ∃ es ck L, blk w mb = some (.map es ck) ∧ MapL encK es L ∧ L.Perm (xs.map fun x => (x.1, pb x.2)) ∧
    ((id ∉ xs.map (·.1) ∧ lk L id = none) ∨ ∃ p b q, xs = p ++ (id, b) :: q ∧ lk L id = some (pb b)) := by
  obtain ⟨es, ck, L, h2, h3, h4⟩ := h.map
  refine ⟨es, ck, L, h2, h3, h4, ?_⟩
  cases hl : lk L id with
  | none =>
    refine .inl ⟨fun hm => ?_, rfl⟩
    rw [lk_noneU] at hl
    refine hl ?_
    have := (h4.map (·.1)).mem_iff (a := id)
    rw [this, List.map_map]
    exact hm
  | some v =>
    rw [lk_iff h3.once] at hl
    obtain ⟨x, hx, e⟩ := List.mem_map.1 (h4.mem_iff.1 hl)
    obtain ⟨p, q, rfl⟩ := List.append_of_mem hx
    simp only [Prod.mk.injEq] at e
    obtain ⟨rfl, rfl⟩ := e
    exact .inr ⟨p, x.2, q, rfl, rfl⟩
end
set_option linter.unusedSimpArgs false
set_option linter.unusedVariables false
set_option maxRecDepth 20000
set_option maxHeartbeats 4000000
attribute [local congr] BND_cg COND_cg GEF_cg
attribute [local irreducible] capl slicea load1 loadn iaddr iaddra faddr storev newslice binv lookv mupd mdel mlenv mentry mestore slicev slicev3 slices indexs indexav textv rangev nexts clearv shiftv eqaggv convi buildv pickv lens lenl unv nilchk extractv partn JOIN
section
variable {w : World} {lb : Nat} {ids : List Int} {R : Value → World → Prop} {F : List Nat}
theorem ln_New (hR : ∀ w' lb F, (laneHP lb []).p w' F → Fr [] w w' → (∀ b ∈ F, hsz w ≤ b) → R (pb lb) w') : CALL PR F_lane_New [] w R := by
  refine C_lane_New ?_
  unfold M_lane_New
  refine NEWMAP_intro fun w1 b1 f1 z1 => ?_
  (repeat (first | refine gg ?_ | (apply BND_build ([.pointer none, .pointer none, .int .u64 0, .map (some (hsz w))] : List Value); exact rfl)))
  refine NEW_intro fun w2 b2 f2 z2 => ?_
  have b2d : blk w2.drew (hsz w1) = some (.cells ([.pointer none, .pointer none, .int .u64 0, .map (some (hsz w))] : List Value).toArray 229 (0, 0)) := b2
  have b1d : blk w2.drew (hsz w) = some (.map #[] 0) := f2.some (by simp) b1
  (repeat refine gg ?_)
  refine fstore_step b2d ⟨rfl, rfl⟩ (by simp) fun w3 b3 f3 z3 => ?_
  (repeat refine gg ?_)
  refine fstore_step b3 ⟨rfl, rfl⟩ (by simp) fun w4 b4 f4 z4 => ?_
  have hne : hsz w ≠ hsz w1 := by omega
  refine hR w4 (hsz w1) [hsz w, hsz w1] ⟨[], fun _ => hsz w1, fun _ => hsz w1, hsz w, ⟨⟨_, b4⟩, by simp, ⟨rfl, rfl, trivial⟩, ⟨_, _, [], f4.some (by simpa using hne) (f3.some (by simpa using hne) b1d), ⟨rfl, by simp⟩, by simp⟩, by simp [hne], by simp⟩, rfl, rfl⟩ ?_ (by simp; omega)
  have f2d : Fr [] w2 w2.drew := Fr.drew _ _
  exact ((f1.trans' f2).trans' f2d).trans (f3.trans' f4) fun b hb => .inr (by simp at hb; omega)
theorem ln_Has (h : (laneHP lb ids).p w F) (id : Int) (hR : R (.bool (decide (id ∈ ids))) w) : CALL PR F_lane_Lane_Has [pb lb, .int .u64 id] w R := by
  obtain ⟨xs, P, N, mb, h, rfl, _⟩ := h
  obtain ⟨T, h1⟩ := h.head
  obtain ⟨es, ck, L, h2, h3, h4, h5⟩ := h.look id
  refine C_lane_Lane_Has ?_
  unfold M_lane_Lane_Has pb
  have hl := lookv_L (keyInt .u64) h2 h3 (.pointer none) id
  rcases h5 with ⟨h5, h6⟩ | ⟨p, b, q, h5, h6⟩
  · rw [decide_eq_false h5] at hR
    rw [h6] at hl
    (repeat refine gg ?_)
    exact hR
  · rw [decide_eq_true (by rw [h5]; simp)] at hR
    rw [h6] at hl
    (repeat refine gg ?_)
    exact hR
theorem nd_swap {mb lb : Nat} {l : List Nat} (h : (mb :: lb :: l).Nodup) : (lb :: l).Nodup ∧ mb ≠ lb ∧ mb ∉ l := by
  simp only [List.nodup_cons, List.mem_cons, not_or] at h ⊢
  exact ⟨h.2, h.1.1, h.1.2⟩
theorem ln_Put (h : (laneHP lb ids).p w F) (hn : ids.length < 1000000) (id : Int) (hno : id ∈ ids → R (.bool false) w)
    (hyes : id ∉ ids → ∀ w' F', (laneHP lb (ids ++ [id])).p w' F' → Fr F w w' → (∀ b ∈ F', b ∈ F ∨ hsz w ≤ b) → R (.bool true) w') : CALL PR F_lane_Lane_Put [pb lb, .int .u64 id] w R := by
  refine C_lane_Lane_Put ?_
  unfold M_lane_Lane_Put
  refine ln_Has h id ?_
  by_cases hid : id ∈ ids
  · (repeat refine gg ?_)
    exact hno hid
  have hlt := (laneHP lb ids).lt h
  obtain ⟨xs, P, N, mb, h, rfl, rfl⟩ := h
  obtain ⟨T, h1⟩ := h.head
  obtain ⟨es, ck, L, h2, h3, h4, h5⟩ := h.look id
  obtain ⟨hn1, hn2, hn3⟩ := nd_swap h.nd
  have hxw : hsz w ∉ lb :: xs.map (·.2) := fun hm => by
    have := hlt (hsz w) (List.mem_cons_of_mem _ hm); omega
  obtain ⟨hring, hPl⟩ := h.ring.put hn1 hxw
  have h1d : blk w.drew lb = _ := h1
  unfold pb at h1d ⊢
  (repeat (first | refine gg ?_ | (apply BND_build ([pb (P lb), pb lb] : List Value); exact rfl) | (apply BND_build ([pb (P lb), pb lb, .int .u64 id] : List Value); exact rfl)))
  refine NEW_intro fun w2 b2 f2 z2 => ?_
  replace b2 : blk w2 (hsz w) = some (.cells ([pb (P lb), pb lb, .int .u64 id] : List Value).toArray 227 (0, 0)) := b2
  replace z2 : hsz w2 = hsz w + 1 := z2
  replace f2 : Fr [] w w2 := (Fr.drew [] w).trans' f2
  unfold pb at b2
  -- the blocks of the ring
  have cells : ∀ a ∈ lb :: xs.map (·.2), ∃ T r, blk w2 a = some (.cells (pb (P a) :: pb (N a) :: r).toArray T (0, 0)) ∧ ∀ w', blk w' a = blk w2 a → (lb = a ∨ True) := fun a ha => by
    rcases List.mem_cons.1 ha with rfl | ha
    · exact ⟨T, _, f2.some (by simp) h1, fun _ _ => .inr trivial⟩
    · obtain ⟨x, hx, rfl⟩ := List.mem_map.1 ha
      obtain ⟨T, h6⟩ := h.link x hx
      exact ⟨T, _, f2.some (by simp) h6, fun _ _ => .inr trivial⟩
  obtain ⟨Ta, ra, ba, _⟩ := cells (P lb) hPl
  (repeat refine gg ?_)
  refine fstore_step (j := 1) ba ⟨rfl, rfl⟩ (by simp) fun w3 b3 f3 z3 => ?_
  -- the head, behind this store
  have hh3 : ∃ v, blk w3 lb = some (.cells ([pb (P lb), v, .int .u64 0, .map (some mb)] : List Value).toArray T (0, 0)) ∧ v = pb (at_ (at_ N (hsz w) lb) (P lb) (hsz w) lb) := by
    have hl0 : lb ≠ hsz w := fun e => hxw (by simp [← e])
    by_cases he : P lb = lb
    · have hb := f2.some (by simp) h1
      rw [he] at ba
      rw [hb] at ba
      cases ba
      simp only [he] at b3 ⊢
      exact ⟨_, b3, by simp [at_, pb]⟩
    · exact ⟨_, f3.some (by simpa using Ne.symm he) (f2.some (by simp) h1), by simp [at_, Ne.symm he, hl0]⟩
  obtain ⟨nv, hh3, hnv⟩ := hh3
  (repeat refine gg ?_)
  refine fstore_step (j := 0) hh3 ⟨rfl, rfl⟩ (by simp) fun w4 b4 f4 z4 => ?_
  have hmb2 : mb ∉ [P lb] := fun hm => by
    simp at hm
    rcases List.mem_cons.1 (hm ▸ hPl) with e | e
    · exact hn2 e
    · exact hn3 e
  have m4 : blk w4 mb = some (.map es ck) := f4.some (by simpa using hn2) (f3.some hmb2 (f2.some (by simp) h2))
  obtain ⟨es', ck', hm, h3'⟩ := mupd_L (keyInt .u64) m4 h3 id (pb (hsz w))
  unfold pb at hm
  (repeat refine gg ?_)
  have f5 : Fr [mb] w4 (setB w4 mb (.map es' ck')) := Fr.setB (.inl (by simp)) _
  have b5 := blk_setB_same (o := .map es' ck') m4
  generalize setB w4 mb (.map es' ck') = w5 at f5 b5 ⊢
  have g2 := f2.grow
  have new_ne : ∀ a ∈ mb :: lb :: xs.map (·.2), a ≠ hsz w := fun a ha => by have := hlt a ha; omega
  have hPm : P lb ∈ mb :: lb :: xs.map (·.2) := List.mem_cons_of_mem _ hPl
  refine hyes hid w5 (mb :: lb :: (xs.map (·.2) ++ [hsz w])) ⟨xs ++ [(id, hsz w)], _, _, mb, ⟨⟨T, ?_⟩, fun x hx => ?_, by simpa using hring, ⟨es', ck', _, b5, h3', ?_⟩, ?_, by simp at hn ⊢; omega⟩, by simp, by simp⟩ ?_ ?_
  · rw [f5.some (by simpa using fun e => hn2 e.symm) b4, hnv]
    simp [at_, pb]
  · rcases List.mem_append.1 hx with hx | hx
    · have hxm : x.2 ∈ xs.map (·.2) := List.mem_map.2 ⟨x, hx, rfl⟩
      have x1 : x.2 ≠ lb := fun e => (List.nodup_cons.1 hn1).1 (e ▸ hxm)
      have x2 : x.2 ≠ mb := fun e => hn3 (e ▸ hxm)
      have x3 : x.2 ≠ hsz w := new_ne _ (by simp [hxm])
      obtain ⟨Tx, h6⟩ := h.link x hx
      refine ⟨Tx, ?_⟩
      rw [f5.keep x.2 (by have := hlt x.2 (by simp [hxm]); have := f3.grow; have := f4.grow; omega) (by simpa using x2), f4.keep x.2 (by have := hlt x.2 (by simp [hxm]); have := f3.grow; omega) (by simpa using x1)]
      by_cases he : x.2 = P lb
      · rw [he] at h6 x3 ⊢
        have hb := f2.some (by simp) h6
        rw [hb] at ba
        cases ba
        rw [b3]
        have : ¬ P lb = lb := fun e => x1 (he.trans e)
        simp [at_, this, x3, pb]
      · rw [f3.some (by simpa using he) (f2.some (by simp) h6)]
        simp [at_, he, x1, x3]
    · simp at hx
      subst hx
      have x1 : hsz w ≠ lb := fun e => hxw (by simp [e])
      have x2 : hsz w ≠ P lb := fun e => new_ne _ hPm e.symm
      have x3 : hsz w ≠ mb := fun e => new_ne mb (by simp) e.symm
      refine ⟨227, ?_⟩
      rw [f5.keep _ (by have := f3.grow; have := f4.grow; omega) (by simpa using x3), f4.keep _ (by have := f3.grow; omega) (by simpa using x1), f3.some (by simpa using x2) b2]
      simp [at_, x1, x2, pb]
  · have hk : id ∉ L.map (·.1) := by
      intro hm
      have := (h4.map (·.1)).mem_iff.1 hm
      rw [List.map_map] at this
      exact hid this
    have hi : insL L id (pb (hsz w)) = L ++ [(id, pb (hsz w))] := by
      have hf : findL L id 0 = none := by
        cases hf : findL L id 0 with
        | none => rfl
        | some p => 
          obtain ⟨j, v⟩ := p
          have : lk L id = some v := by simp [lk, hf]
          exact absurd (Den.lk_mem.1 (by rw [this]; rfl)) hk
      exact (findL_none hf).2.1 _
    show (insL L id (pb (hsz w))).Perm _
    rw [hi]
    simpa using h4.append_right _
  · simp only [List.map_append, List.map_cons, List.map_nil]
    have : (mb :: lb :: xs.map (·.2) ++ [hsz w]).Nodup := List.nodup_append.2 ⟨h.nd, by simp, fun a ha b hb e => by simp at hb; exact new_ne a ha (e.trans hb)⟩
    simpa using this
  · have a1 : Fr (mb :: lb :: xs.map (·.2)) w2 w3 := f3.wider (by intro b hb; simp only [List.mem_singleton] at hb; exact hb ▸ hPm)
    have a2 : Fr (mb :: lb :: xs.map (·.2)) w3 w4 := f4.wider (by simp)
    have a3 : Fr (mb :: lb :: xs.map (·.2)) w4 w5 := f5.wider (by simp)
    exact f2.nil.trans' ((a1.trans' a2).trans' a3)
  · intro b hb
    simp only [List.mem_cons, List.mem_append, List.mem_singleton, List.not_mem_nil, or_false] at hb ⊢
    rcases hb with h | h | h | h
    · exact .inl (.inl h)
    · exact .inl (.inr (.inl h))
    · exact .inl (.inr (.inr h))
    · exact .inr (by omega)
theorem ln_Drop (h : (laneHP lb ids).p w F) (id : Int) (hno : id ∉ ids → R (.bool false) w)
    (hyes : id ∈ ids → ∀ w' F', (laneHP lb (ids.erase id)).p w' F' → Fr F w w' → (∀ b ∈ F', b ∈ F) → R (.bool true) w') : CALL PR F_lane_Lane_Drop [pb lb, .int .u64 id] w R := by
  refine C_lane_Lane_Drop ?_
  unfold M_lane_Lane_Drop
  have hlt := (laneHP lb ids).lt h
  obtain ⟨xs, P, N, mb, h, rfl, rfl⟩ := h
  have hids := h.idsN
  obtain ⟨T, h1⟩ := h.head
  obtain ⟨es, ck, L, h2, h3, h4, h5⟩ := h.look id
  obtain ⟨hn1, hn2, hn3⟩ := nd_swap h.nd
  have hl := lookv_L (keyInt .u64) h2 h3 (.pointer none) id
  unfold pb
  rcases h5 with ⟨h5, h6⟩ | ⟨p, x, q, rfl, h6⟩
  · rw [h6] at hl
    (repeat refine gg ?_)
    exact hno h5
  rw [h6] at hl
  simp only [Option.getD_some, Option.isSome_some] at hl
  simp only [List.map_append, List.map_cons] at hn1 hn3 hlt hids
  have hring0 := h.ring
  simp only [List.map_append, List.map_cons] at hring0
  obtain ⟨hring, hP, hN⟩ := hring0.drop hn1
  obtain ⟨Tx, bx⟩ := h.link (id, x) (by simp)
  unfold pb at bx hl
  have bxd : blk w.drew x = _ := bx
  (repeat refine gg ?_)
  -- the blocks but x
  have sub : ∀ a ∈ lb :: (p.map (·.2) ++ q.map (·.2)), a ∈ lb :: (p.map (·.2) ++ x :: q.map (·.2)) := fun a ha => by
    simp only [List.mem_cons, List.mem_append] at ha ⊢
    rcases ha with h | h | h
    · exact .inl h
    · exact .inr (.inl h)
    · exact .inr (.inr (.inr h))
  have hnd2 : (lb :: (p.map (·.2) ++ q.map (·.2))).Nodup := hn1.sublist (List.Sublist.cons_cons _ (List.Sublist.append_left (List.sublist_cons_self _ _) _))
  have hxn : x ∉ lb :: (p.map (·.2) ++ q.map (·.2)) := by
    have : (lb :: p.map (·.2) ++ x :: q.map (·.2)).Nodup := by simpa using hn1
    have h0 := (List.nodup_cons.1 (List.perm_middle.nodup_iff.1 this)).1
    simpa using h0
  have cells : ∀ a ∈ lb :: (p.map (·.2) ++ q.map (·.2)), ∃ T r, ∀ w', blk w' a = blk w a → blk w' a = some (.cells (pb (P a) :: pb (N a) :: r).toArray T (0, 0)) := fun a ha => by
    rcases List.mem_cons.1 ha with rfl | ha
    · exact ⟨T, _, fun w' e => e.trans h1⟩
    · have : ∃ y ∈ p ++ (id, x) :: q, y.2 = a := by
        rcases List.mem_append.1 ha with h | h
        · obtain ⟨y, hy, e⟩ := List.mem_map.1 h; exact ⟨y, by simp [hy], e⟩
        · obtain ⟨y, hy, e⟩ := List.mem_map.1 h; exact ⟨y, by simp [hy], e⟩
      obtain ⟨y, hy, rfl⟩ := this
      obtain ⟨T, h6⟩ := h.link y hy
      exact ⟨T, _, fun w' e => e.trans h6⟩
  obtain ⟨Ta, ra, ba⟩ := cells (P x) hP
  obtain ⟨Tb, rb, bb⟩ := cells (N x) hN
  have b1 := ba w.drew rfl
  refine fstore_step (j := 1) b1 ⟨rfl, rfl⟩ (by simp) fun w1 c1 f1 z1 => ?_
  have b2 : ∃ v, blk w1 (N x) = some (.cells (pb (P (N x)) :: v :: rb).toArray Tb (0, 0)) ∧ v = pb (at_ N (P x) (N x) (N x)) := by
    by_cases he : N x = P x
    · have e2 := bb w.drew rfl
      rw [he] at e2
      rw [b1] at e2
      cases e2
      rw [he] at c1 ⊢
      exact ⟨_, c1, by simp [at_, pb]⟩
    · exact ⟨_, f1.some (by simpa using he) (bb w.drew rfl), by simp [at_, he]⟩
  obtain ⟨v, b2, hv⟩ := b2
  (repeat refine gg ?_)
  refine fstore_step (j := 0) b2 ⟨rfl, rfl⟩ (by simp) fun w2 c2 f2 z2 => ?_
  -- the map
  have mne : ∀ a ∈ lb :: (p.map (·.2) ++ q.map (·.2)), mb ≠ a := fun a ha e => by
    subst e
    have := sub mb ha
    rcases List.mem_cons.1 this with e | e
    · exact hn2 e
    · exact hn3 e
  have m2 : blk w2 mb = some (.map es ck) := f2.some (by simpa using mne _ hN) (f1.some (by simpa using mne _ hP) h2)
  -- what stands where
  have now : ∀ a ∈ lb :: (p.map (·.2) ++ q.map (·.2)), ∀ T r, blk w a = some (.cells (pb (P a) :: pb (N a) :: r).toArray T (0, 0)) → blk w2 a = some (.cells (pb (at_ P (N x) (P x) a) :: pb (at_ N (P x) (N x) a) :: r).toArray T (0, 0)) := by
    intro a ha T r hb
    by_cases e2 : a = N x
    · subst e2
      have e3 := bb w rfl
      rw [hb] at e3
      cases e3
      rw [c2, hv]
      simp [at_, pb]
    · rw [f2.keep a (by have := hlt a (by have := sub a ha; simp only [List.mem_cons] at this ⊢; exact .inr this); have := f1.grow; have : hsz w.drew = hsz w := rfl; omega) (by simpa using e2)]
      by_cases e1 : a = P x
      · subst e1
        have e3 := ba w rfl
        rw [hb] at e3
        cases e3
        rw [c1]
        simp [at_, e2, pb]
      · rw [f1.some (by simpa using e1) (show blk w.drew a = _ from hb)]
        simp [at_, e1, e2]
  have hh2 := now lb (by simp) T _ h1
  obtain ⟨es', ck', hm, h3'⟩ := mdel_L (keyInt .u64) m2 h3 id
  (repeat refine gg ?_)
  have f3 : Fr [mb] w2 (setB w2 mb (.map es' ck')) := Fr.setB (.inl (by simp)) _
  have b3 := blk_setB_same (o := .map es' ck') m2
  generalize setB w2 mb (.map es' ck') = w3 at f3 b3 ⊢
  have hpe : ((p ++ (id, x) :: q).map (·.1)).erase id = (p ++ q).map (·.1) := by
    simp only [List.map_append, List.map_cons]
    have hp1 : id ∉ p.map (·.1) := fun hm => by
      rw [List.nodup_append] at hids
      exact hids.2.2 id hm id (by simp) rfl
    rw [List.erase_append_right _ hp1]
    simp
  rw [hpe] at hyes
  refine hyes (by simp) w3 (mb :: lb :: (p ++ q).map (·.2)) ⟨p ++ q, _, _, mb, ⟨⟨T, ?_⟩, fun y hy => ?_, by simpa using hring, ⟨es', ck', _, b3, h3', ?_⟩, ?_, by have := h.lens; simp at this ⊢; omega⟩, rfl, by simp⟩ ?_ ?_
  · exact f3.some (by simpa using fun e => hn2 e.symm) hh2
  · have hy2 : y.2 ∈ lb :: (p.map (·.2) ++ q.map (·.2)) := by
      rcases List.mem_append.1 hy with h | h
      · exact List.mem_cons_of_mem _ (List.mem_append_left _ (List.mem_map.2 ⟨y, h, rfl⟩))
      · exact List.mem_cons_of_mem _ (List.mem_append_right _ (List.mem_map.2 ⟨y, h, rfl⟩))
    have hym : y ∈ p ++ (id, x) :: q := by
      rcases List.mem_append.1 hy with h | h <;> simp [h]
    obtain ⟨Ty, h7⟩ := h.link y hym
    exact ⟨Ty, f3.some (by simpa using (mne _ hy2).symm) (now y.2 hy2 Ty _ h7)⟩
  · have : (delL L id).Perm ((p ++ q).map fun x => (x.1, pb x.2)) := by
      have hd : L.Perm ((id, pb x) :: (p ++ q).map fun x => (x.1, pb x.2)) := h4.trans (by simp)
      have he : L.Perm ((id, pb x) :: delL L id) := by
        have hf : lk L id = some (pb x) := h6
        cases hg : findL L id 0 with
        | none => simp [lk, hg] at hf
        | some r =>
          obtain ⟨j, v⟩ := r
          have : v = pb x := by simpa [lk, hg] using hf
          subst this
          obtain ⟨i, hj, h2, _, h3⟩ := findL_some hg
          rw [h3]
          have hi := (List.getElem?_eq_some_iff.1 h2).1
          have hie := (List.getElem?_eq_some_iff.1 h2).2
          rw [← hie]
          exact (erase_permL hi).symm
      exact (List.perm_cons _).1 (he.symm.trans hd)
    exact this
  · have : (mb :: lb :: (p.map (·.2) ++ q.map (·.2))).Nodup := List.nodup_cons.2 ⟨fun hm => mne mb hm rfl, hnd2⟩
    simpa using this
  · have hPm : P x ∈ mb :: lb :: ((p ++ (id, x) :: q).map (·.2)) := by
      have := sub _ hP; simp only [List.map_append, List.map_cons]; exact List.mem_cons_of_mem _ this
    have hNm : N x ∈ mb :: lb :: ((p ++ (id, x) :: q).map (·.2)) := by
      have := sub _ hN; simp only [List.map_append, List.map_cons]; exact List.mem_cons_of_mem _ this
    have a1 : Fr (mb :: lb :: ((p ++ (id, x) :: q).map (·.2))) w.drew w1 := f1.wider (by intro b hb; simp only [List.mem_singleton] at hb; exact hb ▸ hPm)
    have a2 : Fr (mb :: lb :: ((p ++ (id, x) :: q).map (·.2))) w1 w2 := f2.wider (by intro b hb; simp only [List.mem_singleton] at hb; exact hb ▸ hNm)
    have a3 : Fr (mb :: lb :: ((p ++ (id, x) :: q).map (·.2))) w2 w3 := f3.wider (by simp)
    exact (Fr.drew _ w).trans' ((a1.trans' a2).trans' a3)
  · intro b hb
    simp only [List.map_append, List.map_cons, List.mem_cons, List.mem_append] at hb ⊢
    rcases hb with h | h | h | h
    · exact .inl h
    · exact .inr (.inl h)
    · exact .inr (.inr (.inl h))
    · exact .inr (.inr (.inr (.inr h)))
end
end Go.Proofs.YtpgflmjeedbimaaGreat
end
section
namespace Go.Proofs.YtpgflmjeedbimaaGreat
open Go.Den Go.Ix
theorem add64_v {x y : Nat} : add64v [.int .u64 (x : Int), .int .u64 (y : Int), .int .u64 0] = some (.tuple #[.int .u64 (((x + y) % 18446744073709551616 : Nat) : Int), .int .u64 (((x + y) / 18446744073709551616 : Nat) : Int)]) := by
  simp only [add64v]
  rw [if_pos (by omega)]
  simp
set_option linter.unusedSimpArgs false
set_option linter.unusedVariables false
set_option maxRecDepth 20000
set_option maxHeartbeats 4000000
attribute [local congr] BND_cg COND_cg GEF_cg
attribute [local irreducible] capl slicea load1 loadn iaddr iaddra faddr storev newslice binv lookv mupd mdel mlenv mentry mestore slicev slicev3 slices indexs indexav textv rangev nexts clearv shiftv eqaggv convi buildv pickv lens lenl unv nilchk extractv partn JOIN
section
variable {w : World} {R : Value → World → Prop}
theorem lf_sum {x y : Nat} (hx : x < 18446744073709551616) (hy : y < 18446744073709551616) (hR : R (.tuple #[.int .u64 ((sumT x y).1 : Int), .int .i64 (sumT x y).2]) w) : CALL PR F_life_sum [.int .u64 (x : Int), .int .u64 (y : Int)] w R := by
  refine C_life_sum ?_
  unfold M_life_sum
  unfold sumT at hR
  by_cases h : x + y < 18446744073709551616
  · rw [if_pos h] at hR
    have e1 : (x + y) % 18446744073709551616 = x + y := Nat.mod_eq_of_lt h
    have e2 : (x + y) / 18446744073709551616 = 0 := Nat.div_eq_of_lt h
    have ea := add64_v (x := x) (y := y)
    rw [e1, e2] at ea
    (repeat refine gg ?_)
    exact hR
  · rw [if_neg h] at hR
    have e2 : (x + y) / 18446744073709551616 = 1 := by omega
    have ea := add64_v (x := x) (y := y)
    rw [e2] at ea
    (repeat refine gg ?_)
    exact hR
theorem lf_later (l : Lf) {now delay : Nat} (hn : now < 18446744073709551616) (hd : delay < 18446744073709551616) (hR : ∀ w', Fr [] w w' → R (.tuple #[.agg (encLf (laterL l.cnt now delay).1).toArray, .int .i64 (laterL l.cnt now delay).2]) w') : CALL PR F_life_later [.agg (encLf l).toArray, .int .u64 (now : Int), .int .u64 (delay : Int)] w R := by
  refine C_life_later ?_
  unfold M_life_later
  refine NEW_intro fun w1 b1 f1 z1 => NEW_intro fun w2 b2 f2 z2 => ?_
  replace b1 : blk w1 (hsz w) = some (.cells (encLf l).toArray 73 (0, 0)) := b1
  replace b2 : blk w2 (hsz w1) = some (.cells (encLf lf0).toArray 73 (0, 0)) := b2
  have b12 := f2.some (by simp) b1
  have f02 := f1.trans' f2
  have g1 := f1.grow
  unfold laterL at hR
  by_cases h0 : delay = 0
  · subst h0
    rw [if_pos rfl] at hR
    (repeat (first | refine gg ?_ | (apply BND_build (encLf ⟨1, l.cnt, 0, 0⟩); exact rfl)))
    refine put_step (n := 4) (vs := encLf ⟨1, l.cnt, 0, 0⟩) b2 rfl rfl (encLf_one _) (by simp [encLf]) fun w3 b3 f3 _ => ?_
    (repeat (first | refine BND_step (loadn_all b3 (encLf_len _)) ?_ | refine gg ?_))
    exact hR w3 (f02.trans f3 fun b hb => .inr (by simp at hb; omega))
  · rw [if_neg h0] at hR
    have h0' : ¬ (delay : Int) = 0 := by omega
    (repeat refine gg ?_)
    refine lf_sum hn hd ?_
    unfold sumT
    by_cases h : now + delay < 18446744073709551616
    · rw [if_pos h] at hR
      rw [if_pos h]
      (repeat (first | refine gg ?_ | (apply BND_build (encLf ⟨2, l.cnt, now + delay, 0⟩); exact rfl)))
      refine put_step (n := 4) (vs := encLf ⟨2, l.cnt, now + delay, 0⟩) b2 rfl rfl (encLf_one _) (by simp [encLf]) fun w3 b3 f3 _ => ?_
      (repeat (first | refine BND_step (loadn_all b3 (encLf_len _)) ?_ | refine gg ?_))
      exact hR w3 (f02.trans f3 fun b hb => .inr (by simp at hb; omega))
    · rw [if_neg h] at hR
      rw [if_neg h]
      (repeat (first | refine gg ?_ | (apply BND_build (encLf lf0); exact rfl)))
      refine put_step (n := 4) (vs := encLf lf0) b2 rfl rfl (encLf_one _) (by simp [encLf]) fun w3 b3 f3 _ => ?_
      (repeat (first | refine BND_step (loadn_all b3 (encLf_len _)) ?_ | refine gg ?_))
      exact hR w3 (f02.trans f3 fun b hb => .inr (by simp at hb; omega))
theorem ret4 {w2 : World} {b T : Nat} {zs : List Value} {K : Value → World → Prop} (v : Lf) (hb : blk w2 b = some (.cells zs.toArray T (0, 0))) (hz : zs.length = 4) (f : Fr [] w w2) (hn : hsz w ≤ b) (hK : ∀ w', Fr [] w w' → K (.agg (encLf v).toArray) w') :
    BND (storev 4 w2 (.pointer (some ⟨b, 0, none⟩)) (.agg (encLf v).toArray)) fun w3 => BND (loadn 4 w3 (.pointer (some ⟨b, 0, none⟩))) fun r => K r w3 := by
  refine put_step (n := 4) (vs := encLf v) hb (by simpa using hz) rfl (encLf_one _) (by simp [encLf]) fun w3 b3 f3 _ => ?_
  (repeat (first | refine BND_step (loadn_all b3 (encLf_len _)) ?_ | refine gg ?_))
  exact hK w3 (f.trans f3 fun b hb => .inr (by simp at hb; omega))
theorem lf_ended (l : Lf) (most : Int) (hR : ∀ w', Fr [] w w' → R (.agg (encLf (endL l most)).toArray) w') : CALL PR F_life_Life_ended [.agg (encLf l).toArray, .int .i64 most] w R := by
  refine C_life_Life_ended ?_
  unfold M_life_Life_ended
  refine NEW_intro fun w1 b1 f1 z1 => NEW_intro fun w2 b2 f2 z2 => ?_
  replace b1 : blk w1 (hsz w) = some (.cells (encLf l).toArray 73 (0, 0)) := b1
  replace b2 : blk w2 (hsz w1) = some (.cells (encLf lf0).toArray 73 (0, 0)) := b2
  have b12 := f2.some (by simp) b1
  have g1 := f1.grow
  unfold endL at hR
  by_cases h : most ≤ l.cnt
  · rw [if_pos h] at hR
    (repeat (first | refine gg ?_ | (apply BND_build (encLf ⟨4, l.cnt, 0, 0⟩); exact rfl)))
    exact ret4 ⟨4, l.cnt, 0, 0⟩ b2 rfl (f1.trans' f2) g1 hR
  · rw [if_neg h] at hR
    (repeat (first | refine gg ?_ | (apply BND_build (encLf ⟨1, l.cnt, 0, 0⟩); exact rfl)))
    exact ret4 ⟨1, l.cnt, 0, 0⟩ b2 rfl (f1.trans' f2) g1 hR
theorem lf_Requeue (l : Lf) (hR : ∀ w', Fr [] w w' → R (.tuple #[.agg (encLf (requeueL l).1).toArray, .int .i64 (requeueL l).2]) w') : CALL PR F_life_Life_Requeue [.agg (encLf l).toArray] w R := by
  refine C_life_Life_Requeue ?_
  unfold M_life_Life_Requeue
  refine NEW_intro fun w1 b1 f1 z1 => NEW_intro fun w2 b2 f2 z2 => ?_
  replace b1 : blk w1 (hsz w) = some (.cells (encLf l).toArray 73 (0, 0)) := b1
  replace b2 : blk w2 (hsz w1) = some (.cells (encLf lf0).toArray 73 (0, 0)) := b2
  have b12 := f2.some (by simp) b1
  have g1 := f1.grow
  unfold requeueL at hR
  by_cases h : l.st = 4
  · rw [if_pos h] at hR
    (repeat (first | refine gg ?_ | (apply BND_build (encLf ⟨1, 0, 0, 0⟩); exact rfl)))
    exact ret4 (K := fun v w' => R (.tuple #[v, .int .i64 0]) w') ⟨1, 0, 0, 0⟩ b2 rfl (f1.trans' f2) g1 hR
  · rw [if_neg h] at hR
    (repeat (first | refine gg ?_ | (apply BND_build (encLf lf0); exact rfl)))
    exact ret4 (K := fun v w' => R (.tuple #[v, .int .i64 5]) w') lf0 b2 rfl (f1.trans' f2) g1 hR
theorem lf_Purge (l : Lf) (hR : ∀ w', Fr [] w w' → R (.tuple #[.agg (encLf (purgeL l).1).toArray, .int .i64 (purgeL l).2]) w') : CALL PR F_life_Life_Purge [.agg (encLf l).toArray] w R := by
  refine C_life_Life_Purge ?_
  unfold M_life_Life_Purge
  refine NEW_intro fun w1 b1 f1 z1 => NEW_intro fun w2 b2 f2 z2 => ?_
  replace b1 : blk w1 (hsz w) = some (.cells (encLf l).toArray 73 (0, 0)) := b1
  replace b2 : blk w2 (hsz w1) = some (.cells (encLf lf0).toArray 73 (0, 0)) := b2
  have b12 := f2.some (by simp) b1
  have g1 := f1.grow
  unfold purgeL at hR
  by_cases h : l.st = 4
  · rw [if_pos h] at hR
    (repeat (first | refine gg ?_ | (apply BND_build (encLf ⟨5, 0, 0, 0⟩); exact rfl)))
    exact ret4 (K := fun v w' => R (.tuple #[v, .int .i64 0]) w') ⟨5, 0, 0, 0⟩ b2 rfl (f1.trans' f2) g1 hR
  · rw [if_neg h] at hR
    (repeat (first | refine gg ?_ | (apply BND_build (encLf lf0); exact rfl)))
    exact ret4 (K := fun v w' => R (.tuple #[v, .int .i64 5]) w') lf0 b2 rfl (f1.trans' f2) g1 hR
theorem lf_Reset (l : Lf) (most : Int) (hR : ∀ w', Fr [] w w' → R (.agg (encLf (resetL l most)).toArray) w') : CALL PR F_life_Life_Reset [.agg (encLf l).toArray, .int .i64 most] w R := by
  refine C_life_Life_Reset ?_
  unfold M_life_Life_Reset
  refine NEW_intro fun w1 b1 f1 z1 => NEW_intro fun w2 b2 f2 z2 => ?_
  replace b1 : blk w1 (hsz w) = some (.cells (encLf l).toArray 73 (0, 0)) := b1
  replace b2 : blk w2 (hsz w1) = some (.cells (encLf lf0).toArray 73 (0, 0)) := b2
  have b12 := f2.some (by simp) b1
  have e1 := loadn_all b12 (encLf_len l)
  have g1 := f1.grow
  unfold resetL at hR
  by_cases h : l.st = 3
  · rw [if_pos h] at hR
    (repeat refine gg ?_)
    refine lf_ended l most fun w4 f4 => ?_
    exact ret4 (endL l most) (f4.some (by simp) b2) rfl ((f1.trans' f2).trans' f4) g1 hR
  · rw [if_neg h] at hR
    (repeat refine gg ?_)
    exact ret4 l b2 rfl (f1.trans' f2) g1 hR
theorem lf_Born {now delay : Nat} (hn : now < 18446744073709551616) (hd : delay < 18446744073709551616) (hR : ∀ w', Fr [] w w' → R (.tuple #[.agg (encLf (bornL now delay).1).toArray, .int .i64 (bornL now delay).2]) w') : CALL PR F_life_Born [.int .u64 (now : Int), .int .u64 (delay : Int)] w R := by
  refine C_life_Born ?_
  unfold M_life_Born
  refine NEW_intro fun w1 b1 f1 z1 => ?_
  replace b1 : blk w1 (hsz w) = some (.cells (encLf lf0).toArray 73 (0, 0)) := b1
  (repeat (first | refine gg ?_ | (apply BND_build (encLf lf0); exact rfl)))
  refine lf_later lf0 hn hd fun w2 f2 => ?_
  (repeat refine gg ?_)
  exact ret4 (K := fun v w' => R (.tuple #[v, .int .i64 (bornL now delay).2]) w') (bornL now delay).1 (f2.some (by simp) b1) rfl (f1.trans' f2) (Nat.le_refl _) hR
theorem lf_leased (l : Lf) {now span : Nat} (hn : now < 18446744073709551616) (hd : span < 18446744073709551616) (hR : ∀ w', Fr [] w w' → R (.tuple #[.agg (encLf (spanL l.cnt now span l.tok).1).toArray, .int .i64 (spanL l.cnt now span l.tok).2]) w') : CALL PR F_life_leased [.agg (encLf l).toArray, .int .u64 (now : Int), .int .u64 (span : Int)] w R := by
  refine C_life_leased ?_
  unfold M_life_leased
  refine NEW_intro fun w1 b1 f1 z1 => NEW_intro fun w2 b2 f2 z2 => ?_
  replace b1 : blk w1 (hsz w) = some (.cells (encLf l).toArray 73 (0, 0)) := b1
  replace b2 : blk w2 (hsz w1) = some (.cells (encLf lf0).toArray 73 (0, 0)) := b2
  have b12 := f2.some (by simp) b1
  have f02 := f1.trans' f2
  have g1 := f1.grow
  unfold spanL at hR
  by_cases h0 : span = 0
  · subst h0
    rw [if_pos rfl] at hR
    (repeat (first | refine gg ?_ | (apply BND_build (encLf lf0); exact rfl)))
    exact ret4 (K := fun v w' => R (.tuple #[v, .int .i64 1]) w') lf0 b2 rfl f02 g1 hR
  · rw [if_neg h0] at hR
    have h0' : ¬ (span : Int) = 0 := by omega
    (repeat refine gg ?_)
    refine lf_sum hn hd ?_
    unfold sumT
    by_cases h : now + span < 18446744073709551616
    · rw [if_pos h] at hR
      rw [if_pos h]
      (repeat refine gg ?_)
      refine fstore_step b12 ⟨rfl, rfl⟩ (by simp [encLf]) fun w6 b6 f6 z6 => ?_
      (repeat refine gg ?_)
      refine fstore_step b6 ⟨rfl, rfl⟩ (by simp [encLf]) fun w7 b7 f7 z7 => ?_
      replace b7 : blk w7 (hsz w) = some (.cells (encLf ⟨3, l.cnt, now + span, l.tok⟩).toArray 73 (0, 0)) := b7
      (repeat (first | refine BND_step (loadn_all b7 rfl) ?_ | refine gg ?_))
      have b26 := f6.some (by simp; omega) b2
      have b27 := f7.some (by simp; omega) b26
      have f07 : Fr [] w w7 := (f02.trans f6 fun b hb => .inr (by simp at hb; omega)).trans f7 fun b hb => .inr (by simp at hb; omega)
      exact ret4 (K := fun v w' => R (.tuple #[v, .int .i64 0]) w') ⟨3, l.cnt, now + span, l.tok⟩ b27 rfl f07 g1 hR
    · rw [if_neg h] at hR
      rw [if_neg h]
      (repeat (first | refine gg ?_ | (apply BND_build (encLf lf0); exact rfl)))
      exact ret4 (K := fun v w' => R (.tuple #[v, .int .i64 10]) w') lf0 b2 rfl f02 g1 hR
end
end Go.Proofs.YtpgflmjeedbimaaGreat
end
section
namespace Go.Proofs.YtpgflmjeedbimaaGreat
open Go.Den Go.Ix
theorem eqLf_cells (x y : Lf) : eqCells [(0, (.int .i64)), (1, (.int .i64)), (2, (.int .u64)), (3, (.int .u64))] (encLf x).toArray (encLf y).toArray = some (decide (x = y)) := by
  rw [eqCells_int (xs := encLf x) (ys := encLf y) rfl rfl, eqCells_int (xs := encLf x) (ys := encLf y) rfl rfl, eqCells_int (xs := encLf x) (ys := encLf y) rfl rfl, eqCells_int (xs := encLf x) (ys := encLf y) rfl rfl, eqCells_nil]
  obtain ⟨a, b, c, d⟩ := x
  obtain ⟨a', b', c', d'⟩ := y
  simp only [Lf.mk.injEq, Int.ofNat_inj]
  by_cases h1 : a = a' <;> by_cases h2 : b = b' <;> by_cases h3 : c = c' <;> by_cases h4 : d = d' <;> simp [h1, h2, h3, h4]
theorem eqLf (x y : Lf) : eqaggv [(0, (.int .i64)), (1, (.int .i64)), (2, (.int .u64)), (3, (.int .u64))] .eql (.agg (encLf x).toArray) (.agg (encLf y).toArray) = some (.bool (decide (x = y))) := eqagg_eq (eqLf_cells x y)
theorem holds_eq (l : Lf) (tok : Nat) : decide (l = ⟨3, l.cnt, l.due, tok⟩) = holdsL l tok := by
  obtain ⟨a, b, c, d⟩ := l
  simp only [Lf.mk.injEq, true_and, holdsL]
  by_cases h1 : a = 3 <;> by_cases h2 : d = tok <;> simp [h1, h2]
set_option linter.unusedSimpArgs false
set_option linter.unusedVariables false
set_option maxRecDepth 20000
set_option maxHeartbeats 4000000
attribute [local congr] BND_cg COND_cg GEF_cg
attribute [local irreducible] capl slicea load1 loadn iaddr iaddra faddr storev newslice binv lookv mupd mdel mlenv mentry mestore slicev slicev3 slices indexs indexav textv rangev nexts clearv shiftv eqaggv convi buildv pickv lens lenl unv nilchk extractv partn JOIN
section
variable {w : World} {R : Value → World → Prop}
theorem lf_holds (l : Lf) {tok : Nat} (hR : ∀ w', Fr [] w w' → R (.bool (holdsL l tok)) w') : CALL PR F_life_Life_holds [.agg (encLf l).toArray, .int .u64 (tok : Int)] w R := by
  refine C_life_Life_holds ?_
  unfold M_life_Life_holds
  refine NEW_intro fun w1 b1 f1 z1 => ?_
  replace b1 : blk w1 (hsz w) = some (.cells (encLf l).toArray 73 (0, 0)) := b1
  have e1 := loadn_all b1 (encLf_len l)
  have ee := eqLf l ⟨3, l.cnt, l.due, tok⟩
  rw [holds_eq] at ee
  (repeat (first | refine gg ?_ | (apply BND_build (encLf ⟨3, l.cnt, l.due, tok⟩); exact rfl)))
  exact hR w1 f1
theorem lf_Lease (l : Lf) {now span tok : Nat} (hn : now < 18446744073709551616) (hd : span < 18446744073709551616) (hc : -1000000000000000000 < l.cnt ∧ l.cnt < 1000000000000000000)
    (hR : ∀ w', Fr [] w w' → R (.tuple #[.agg (encLf (leaseL l now span tok).1).toArray, .int .i64 (leaseL l now span tok).2]) w') : CALL PR F_life_Life_Lease [.agg (encLf l).toArray, .int .u64 (now : Int), .int .u64 (span : Int), .int .u64 (tok : Int)] w R := by
  refine C_life_Life_Lease ?_
  unfold M_life_Life_Lease
  refine NEW_intro fun w1 b1 f1 z1 => NEW_intro fun w2 b2 f2 z2 => ?_
  replace b1 : blk w1 (hsz w) = some (.cells (encLf l).toArray 73 (0, 0)) := b1
  replace b2 : blk w2 (hsz w1) = some (.cells (encLf lf0).toArray 73 (0, 0)) := b2
  have b12 := f2.some (by simp) b1
  have g1 := f1.grow
  unfold leaseL at hR
  by_cases h : l.st = 1
  · rw [if_neg (by simpa using h)] at hR
    have ea : binv .int .add (.int .i64 l.cnt) (.int .i64 1) = some (.int .i64 (l.cnt + 1)) := by rw [binv_add, wrap_i64 (by omega) (by omega)]
    (repeat refine gg ?_)
    refine fstore_step (j := 1) b12 ⟨rfl, rfl⟩ (by simp [encLf]) fun w3 b3 f3 z3 => ?_
    (repeat refine gg ?_)
    refine fstore_step (j := 3) b3 ⟨rfl, rfl⟩ (by simp [encLf]) fun w4 b4 f4 z4 => ?_
    replace b4 : blk w4 (hsz w) = some (.cells (encLf ⟨l.st, l.cnt + 1, l.due, tok⟩).toArray 73 (0, 0)) := b4
    (repeat (first | refine BND_step (loadn_all b4 rfl) ?_ | refine gg ?_))
    refine lf_leased ⟨l.st, l.cnt + 1, l.due, tok⟩ hn hd fun w5 f5 => ?_
    (repeat refine gg ?_)
    have b25 := f5.some (by simp) (f4.some (by simp; omega) (f3.some (by simp; omega) b2))
    have f05 : Fr [] w w5 := (((f1.trans' f2).trans f3 fun b hb => .inr (by simp at hb; omega)).trans f4 fun b hb => .inr (by simp at hb; omega)).trans' f5
    exact ret4 (K := fun v w' => R (.tuple #[v, .int .i64 (spanL (l.cnt + 1) now span tok).2]) w') (spanL (l.cnt + 1) now span tok).1 b25 rfl f05 g1 hR
  · rw [if_pos (by simpa using h)] at hR
    (repeat (first | refine gg ?_ | (apply BND_build (encLf lf0); exact rfl)))
    exact ret4 (K := fun v w' => R (.tuple #[v, .int .i64 11]) w') lf0 b2 rfl (f1.trans' f2) g1 hR
theorem lf_Ack (l : Lf) {tok : Nat} (hR : ∀ w', Fr [] w w' → R (.tuple #[.agg (encLf (ackL l tok).1).toArray, .int .i64 (ackL l tok).2]) w') : CALL PR F_life_Life_Ack [.agg (encLf l).toArray, .int .u64 (tok : Int)] w R := by
  refine C_life_Life_Ack ?_
  unfold M_life_Life_Ack
  refine NEW_intro fun w1 b1 f1 z1 => NEW_intro fun w2 b2 f2 z2 => ?_
  replace b1 : blk w1 (hsz w) = some (.cells (encLf l).toArray 73 (0, 0)) := b1
  replace b2 : blk w2 (hsz w1) = some (.cells (encLf lf0).toArray 73 (0, 0)) := b2
  have b12 := f2.some (by simp) b1
  have g1 := f1.grow
  (repeat (first | refine BND_step (loadn_all b12 (encLf_len l)) ?_ | refine gg ?_))
  refine lf_holds l fun w3 f3 => ?_
  have b23 := f3.some (by simp) b2
  have f03 := (f1.trans' f2).trans' f3
  unfold ackL at hR
  cases h : holdsL l tok with
  | true =>
    rw [if_pos h] at hR
    (repeat (first | refine gg ?_ | (apply BND_build (encLf ⟨5, 0, 0, 0⟩); exact rfl)))
    exact ret4 (K := fun v w' => R (.tuple #[v, .int .i64 0]) w') ⟨5, 0, 0, 0⟩ b23 rfl f03 g1 hR
  | false =>
    rw [if_neg (by simp [h])] at hR
    (repeat (first | refine gg ?_ | (apply BND_build (encLf lf0); exact rfl)))
    exact ret4 (K := fun v w' => R (.tuple #[v, .int .i64 9]) w') lf0 b23 rfl f03 g1 hR
theorem lf_Nack (l : Lf) {tok now delay : Nat} (most : Int) (hn : now < 18446744073709551616) (hd : delay < 18446744073709551616)
    (hR : ∀ w', Fr [] w w' → R (.tuple #[.agg (encLf (nackL l tok now delay most).1).toArray, .int .i64 (nackL l tok now delay most).2]) w') :
    CALL PR F_life_Life_Nack [.agg (encLf l).toArray, .int .u64 (tok : Int), .int .u64 (now : Int), .int .u64 (delay : Int), .int .i64 most] w R := by
  refine C_life_Life_Nack ?_
  unfold M_life_Life_Nack
  refine NEW_intro fun w1 b1 f1 z1 => NEW_intro fun w2 b2 f2 z2 => ?_
  replace b1 : blk w1 (hsz w) = some (.cells (encLf l).toArray 73 (0, 0)) := b1
  replace b2 : blk w2 (hsz w1) = some (.cells (encLf lf0).toArray 73 (0, 0)) := b2
  have b12 := f2.some (by simp) b1
  have g1 := f1.grow
  (repeat (first | refine BND_step (loadn_all b12 (encLf_len l)) ?_ | refine gg ?_))
  refine lf_holds l fun w3 f3 => ?_
  have b13 := f3.some (by simp) b12
  have b23 := f3.some (by simp) b2
  have f03 := (f1.trans' f2).trans' f3
  unfold nackL at hR
  cases h : holdsL l tok with
  | true =>
    rw [if_pos h] at hR
    by_cases hm : most ≤ l.cnt
    · rw [if_pos hm] at hR
      (repeat (first | refine BND_step (loadn_all b13 (encLf_len l)) ?_ | refine gg ?_))
      refine lf_ended l most fun w4 f4 => ?_
      exact ret4 (K := fun v w' => R (.tuple #[v, .int .i64 0]) w') (endL l most) (f4.some (by simp) b23) rfl (f03.trans' f4) g1 hR
    · rw [if_neg hm] at hR
      (repeat (first | refine BND_step (loadn_all b13 (encLf_len l)) ?_ | refine gg ?_))
      refine lf_later l hn hd fun w4 f4 => ?_
      (repeat refine gg ?_)
      exact ret4 (K := fun v w' => R (.tuple #[v, .int .i64 (laterL l.cnt now delay).2]) w') (laterL l.cnt now delay).1 (f4.some (by simp) b23) rfl (f03.trans' f4) g1 hR
  | false =>
    rw [if_neg (by simp [h])] at hR
    (repeat (first | refine gg ?_ | (apply BND_build (encLf lf0); exact rfl)))
    exact ret4 (K := fun v w' => R (.tuple #[v, .int .i64 9]) w') lf0 b23 rfl f03 g1 hR
theorem lf_Extend (l : Lf) {tok now span : Nat} (hn : now < 18446744073709551616) (hd : span < 18446744073709551616)
    (hR : ∀ w', Fr [] w w' → R (.tuple #[.agg (encLf (extendL l tok now span).1).toArray, .int .i64 (extendL l tok now span).2]) w') :
    CALL PR F_life_Life_Extend [.agg (encLf l).toArray, .int .u64 (tok : Int), .int .u64 (now : Int), .int .u64 (span : Int)] w R := by
  refine C_life_Life_Extend ?_
  unfold M_life_Life_Extend
  refine NEW_intro fun w1 b1 f1 z1 => NEW_intro fun w2 b2 f2 z2 => ?_
  replace b1 : blk w1 (hsz w) = some (.cells (encLf l).toArray 73 (0, 0)) := b1
  replace b2 : blk w2 (hsz w1) = some (.cells (encLf lf0).toArray 73 (0, 0)) := b2
  have b12 := f2.some (by simp) b1
  have g1 := f1.grow
  (repeat (first | refine BND_step (loadn_all b12 (encLf_len l)) ?_ | refine gg ?_))
  refine lf_holds l fun w3 f3 => ?_
  have b13 := f3.some (by simp) b12
  have b23 := f3.some (by simp) b2
  have f03 := (f1.trans' f2).trans' f3
  unfold extendL at hR
  cases h : holdsL l tok with
  | true =>
    rw [if_pos h] at hR
    have ht : l.tok = tok := by
      unfold holdsL at h
      simp only [Bool.and_eq_true, decide_eq_true_eq] at h
      exact h.2
    (repeat (first | refine BND_step (loadn_all b13 (encLf_len l)) ?_ | refine gg ?_))
    refine lf_leased l hn hd fun w4 f4 => ?_
    rw [ht]
    (repeat refine gg ?_)
    exact ret4 (K := fun v w' => R (.tuple #[v, .int .i64 (spanL l.cnt now span tok).2]) w') (spanL l.cnt now span tok).1 (f4.some (by simp) b23) rfl (f03.trans' f4) g1 hR
  | false =>
    rw [if_neg (by simp [h])] at hR
    (repeat (first | refine gg ?_ | (apply BND_build (encLf lf0); exact rfl)))
    exact ret4 (K := fun v w' => R (.tuple #[v, .int .i64 9]) w') lf0 b23 rfl f03 g1 hR
theorem lf_Pass (l : Lf) {now : Nat} (most : Int) (hR : ∀ w', Fr [] w w' → R (.agg (encLf (passL l now most)).toArray) w') : CALL PR F_life_Life_Pass [.agg (encLf l).toArray, .int .u64 (now : Int), .int .i64 most] w R := by
  refine C_life_Life_Pass ?_
  unfold M_life_Life_Pass
  refine NEW_intro fun w1 b1 f1 z1 => NEW_intro fun w2 b2 f2 z2 => ?_
  replace b1 : blk w1 (hsz w) = some (.cells (encLf l).toArray 73 (0, 0)) := b1
  replace b2 : blk w2 (hsz w1) = some (.cells (encLf lf0).toArray 73 (0, 0)) := b2
  have b12 := f2.some (by simp) b1
  have e1 := loadn_all b12 (encLf_len l)
  have g1 := f1.grow
  have f02 := f1.trans' f2
  unfold passL at hR
  have fin : ∀ (x : Lf) w3, blk w3 (hsz w) = some (.cells (encLf x).toArray 73 (0, 0)) → blk w3 (hsz w1) = some (.cells (encLf lf0).toArray 73 (0, 0)) → Fr [] w w3 → (∀ w', Fr [] w w' → R (.agg (encLf x).toArray) w') →
      BND (loadn 4 w3 (.pointer (some ⟨hsz w, 0, none⟩))) fun t28 => BND (storev 4 w3 (.pointer (some ⟨hsz w1, 0, none⟩)) t28) fun w4 => BND (loadn 4 w4 (.pointer (some ⟨hsz w1, 0, none⟩))) fun r => R r w4 := by
    intro x w3 c1 c2 f3 hx
    (repeat (first | refine BND_step (loadn_all c1 (encLf_len x)) ?_ | refine gg ?_))
    exact ret4 x c2 rfl f3 g1 hx
  (repeat refine gg ?_)
  refine join_w (fun w3 => ∃ x, blk w3 (hsz w) = some (.cells (encLf x).toArray 73 (0, 0)) ∧ blk w3 (hsz w1) = some (.cells (encLf lf0).toArray 73 (0, 0)) ∧ Fr [] w w3 ∧ ∀ w', Fr [] w w' → R (.agg (encLf x).toArray) w') ?_ ?_
  · intro K hK
    by_cases h : now < l.due
    · rw [if_pos h] at hR
      (repeat refine gg ?_)
      exact hK w2 ⟨l, b12, b2, f02, hR⟩
    · rw [if_neg h] at hR
      (repeat refine gg ?_)
      refine join_w (fun w3 => ∃ x, blk w3 (hsz w) = some (.cells (encLf x).toArray 73 (0, 0)) ∧ blk w3 (hsz w1) = some (.cells (encLf lf0).toArray 73 (0, 0)) ∧ Fr [] w w3 ∧ ∀ w', Fr [] w w' → R (.agg (encLf x).toArray) w') ?_ hK
      intro K2 hK2
      by_cases h2 : l.st = 2
      · rw [if_pos h2] at hR
        (repeat refine gg ?_)
        refine fstore_step (j := 0) b12 ⟨rfl, rfl⟩ (by simp [encLf]) fun w3 b3 f3 z3 => ?_
        (repeat refine gg ?_)
        refine fstore_step (j := 2) b3 ⟨rfl, rfl⟩ (by simp [encLf]) fun w4 b4 f4 z4 => ?_
        exact hK2 w4 ⟨⟨1, l.cnt, 0, l.tok⟩, b4, f4.some (by simp; omega) (f3.some (by simp; omega) b2), (f02.trans f3 fun b hb => .inr (by simp at hb; omega)).trans f4 fun b hb => .inr (by simp at hb; omega), hR⟩
      · rw [if_neg h2] at hR
        by_cases h3 : l.st = 3
        · rw [if_pos h3] at hR
          (repeat refine gg ?_)
          rw [CALLV_func (by kernel_rfl)]
          refine lf_ended l most fun w4 f4 => ?_
          exact ret4 (endL l most) (f4.some (by simp) b2) rfl (f02.trans' f4) g1 hR
        · rw [if_neg h3] at hR
          (repeat refine gg ?_)
          exact hK2 w2 ⟨l, b12, b2, f02, hR⟩
  · rintro w3 ⟨x, c1, c2, f3, hx⟩
    exact fin x w3 c1 c2 f3 hx
end
end Go.Proofs.YtpgflmjeedbimaaGreat
end
section
namespace Go.Disk
open Go.Den
def bl (a b : ByteArray) : Bool := Op.bytesLess a.toList b.toList
structure Fl where
  b : List UInt8
  sure : Nat
  deriving DecidableEq
abbrev Dir := List (ByteArray × Nat)
structure Dk where
  room : Int
  files : List Fl
  dirs : List Dir
  burn : Int
  gone : Bool
def Dk.now (s : Dk) : Dir := s.dirs.getLastD []
def findD : Dir → ByteArray → Option Nat
  | [], _ => none
  | (k, f) :: r, n => if k = n then some f else findD r n
def Dk.find (s : Dk) (n : ByteArray) : Option Nat := findD s.now n
def can (s : Dk) (e : Int) : Dk × Int :=
  if s.gone = true then (s, 7) else if e ≠ 0 then (s, e) else if s.burn = 0 then ({ s with gone := true }, 7) else if 0 < s.burn then ({ s with burn := s.burn - 1 }, 0) else (s, 0)
def without (l : Dir) (n : ByteArray) : Dir := l.filter fun x => !decide (x.1 = n)
def fileAt (s : Dk) (f : Nat) : Fl := s.files.getD f ⟨[], 0⟩
def isHeld (s : Dk) (f : Nat) : Bool := s.dirs.any fun l => l.any fun x => decide (x.2 = f)
def held (s : Dk) : Nat := ((List.range s.files.length).map fun f => if isHeld s f = true then (fileAt s f).b.length else 0).sum
def setF (s : Dk) (f : Nat) (x : Fl) : Dk := { s with files := s.files.set f x }
def there (s : Dk) (n : ByteArray) : Int := if (s.find n).isSome then 0 else 5
def appendE (s : Dk) (n : ByteArray) (k : Nat) : Int := if (s.find n).isSome then (if s.room < ((held s + k : Nat) : Int) then 4 else 0) else 5
def append (s : Dk) (n : ByteArray) (bs : List UInt8) : Dk × Int :=
  let r := can s (appendE s n bs.length)
  let f := (s.find n).getD 0
  if r.2 = 0 then (setF r.1 f { fileAt s f with b := (fileAt s f).b ++ bs }, 0) else r
def read (s : Dk) (n : ByteArray) : List UInt8 × Int :=
  if s.gone = true then ([], 7) else match s.find n with
  | none => ([], 5)
  | some f => ((fileAt s f).b, 0)
def cutE (s : Dk) (n : ByteArray) (k : Int) : Int := match s.find n with
  | none => 5
  | some f => if k < 0 ∨ ((fileAt s f).b.length : Int) < k then 1 else 0
def cut (s : Dk) (n : ByteArray) (k : Int) : Dk × Int :=
  let r := can s (cutE s n k)
  let f := (s.find n).getD 0
  if r.2 = 0 then (setF r.1 f ⟨(fileAt s f).b.take k.toNat, min (fileAt s f).sure k.toNat⟩, 0) else r
def delete (s : Dk) (n : ByteArray) : Dk × Int :=
  let r := can s (there s n)
  if r.2 = 0 then ({ r.1 with dirs := s.dirs ++ [without s.now n] }, 0) else r
def empty (room : Int) : Dk := ⟨room, [], [[]], -1, false⟩
end Go.Disk
end
section
namespace Go.Proofs.YtpgflmjeedbimaaGreat
open Go.Den Go.Disk
def encB (x : UInt8) : List Value := [.int .u8 (x.toNat : Int)]
theorem lk_mem {κ : Type} [DecidableEq κ] {L : List (κ × Value)} (hn : (L.map (·.1)).Nodup) {k : κ} {v : Value} : lk L k = some v ↔ (k, v) ∈ L := by
  induction L with
  | nil => simp [lk_nil]
  | cons p L ih =>
    obtain ⟨a, b⟩ := p
    simp only [List.map_cons, List.nodup_cons] at hn
    rw [lk_cons]
    by_cases h : k = a
    · subst h
      simp only [if_true, Option.some.injEq, List.mem_cons, Prod.mk.injEq, true_and]
      constructor
      · exact fun h => .inl h.symm
      · rintro (h | h)
        · exact h.symm
        · exact absurd (List.mem_map.2 ⟨_, h, rfl⟩) hn.1
    · simp only [h, if_false, List.mem_cons, Prod.mk.injEq, false_and, false_or]
      exact ih hn.2
set_option linter.unusedSimpArgs false
set_option linter.unusedVariables false
set_option maxRecDepth 20000
set_option maxHeartbeats 4000000
attribute [local congr] BND_cg COND_cg GEF_cg
attribute [local irreducible] capl slicea load1 loadn iaddr iaddra faddr storev newslice binv lookv mupd mdel mlenv mentry mestore slicev slicev3 slices indexs indexav textv rangev nexts clearv shiftv eqaggv convi buildv pickv lens lenl unv nilchk extractv partn JOIN
section
variable {w0 w : World} {F0 : List Nat} {d : Nat} {s : Dk} {R : Value → World → Prop}
theorem At.mono {P Q : HP} {w0 w : World} {F0 : List Nat} (h : At w0 F0 P w) (hpq : ∀ F, P.p w F → Q.p w F) : At w0 F0 Q w := by
  obtain ⟨F, h1, h2, h3⟩ := h
  exact ⟨F, hpq F h1, h2, h3⟩
end
end Go.Proofs.YtpgflmjeedbimaaGreat
end
section
namespace Go.Proofs.YtpgflmjeedbimaaGreat
open Go.Den Go.Disk Go.RowKit Go.Maps Go.Sort Go.Shelf
theorem fr_of_below {w w' : World} (h : Below w.heap.size w w') : Fr [] w w' := ⟨h.size, fun b hb _ => h.block b hb, h.os, h.tape, h.output⟩
set_option maxRecDepth 100000 in
def txt (l : List UInt8) : ByteArray := ⟨l.toArray⟩
end Go.Proofs.YtpgflmjeedbimaaGreat
end
section
namespace Go.Proofs.YtpgflmjeedbimaaGreat
open Go.Den Go.Disk
section
variable {κ : Type} [DecidableEq κ] {enc : κ → Value} {kd : TypeDesc} {es : Array MapEntry} {ck : Nat} {L : List (κ × Value)}
theorem mdel_B (hk : KeyOk kd enc) {w : World} {b : Nat} (hb : blk w b = some (.map es ck)) (h : MapB enc es ck L) (k : κ) :
    ∃ es' ck', mdel kd w (.map (some b)) (enc k) = some (setB w b (.map es' ck')) ∧ MapB enc es' ck' (delL L k) := by
  have h' : w.heap[b]? = some (.map es ck) := hb
  obtain ⟨es1, ck1, e1, l1⟩ := mdel_L hk hb h.l k
  have e2 := e1
  unfold mdel at e2
  simp only [h', mfind_L hk h.l] at e2
  have key : ∀ es2 ck2, some ({ w with heap := w.heap.setIfInBounds b (.map es2 ck2) } : World) = some (setB w b (.map es1 ck1)) → es1 = es2 ∧ ck1 = ck2 := by
    intro es2 ck2 e
    have h1 : blk (setB w b (.map es2 ck2)) b = blk (setB w b (.map es1 ck1)) b := congrArg (fun x : World => blk x b) (Option.some.inj e)
    rw [blk_setB_same hb, blk_setB_same hb] at h1
    cases h1
    exact ⟨rfl, rfl⟩
  have hsub : ∀ i, (es.eraseIdxIfInBounds i).toList.Sublist es.toList := fun i => by
    unfold Array.eraseIdxIfInBounds
    split
    · rw [Array.toList_eraseIdx]; exact List.eraseIdx_sublist _ _
    · exact List.Sublist.refl _
  refine ⟨es1, ck1, e1, l1, ?_, ?_⟩
  all_goals
    cases hf : findL L k 0 with
    | none =>
      simp only [hf] at e2
      obtain ⟨rfl, rfl⟩ := key _ _ e2
      first | exact h.lt | exact h.nd
    | some p =>
      obtain ⟨i, u⟩ := p
      simp only [hf] at e2
      obtain ⟨rfl, rfl⟩ := key _ _ e2
      first
        | exact fun x hx => h.lt x ((hsub i).subset hx)
        | exact List.Nodup.sublist ((hsub i).map _) h.nd
omit [DecidableEq κ] in
theorem nodup_of_map {α β : Type} {f : α → β} {L : List α} (h : (L.map f).Nodup) : L.Nodup := by
  rw [List.nodup_iff_pairwise_ne, List.pairwise_map] at h
  rw [List.nodup_iff_pairwise_ne]
  exact h.imp fun h e => h (by rw [e])
theorem ins_perm {L M : List (κ × Value)} (hn : (L.map (·.1)).Nodup) (hm : (M.map (·.1)).Nodup) (h : ∀ k, lk L k = lk M k) : L.Perm M := by
  refine (List.perm_ext_iff_of_nodup ?_ ?_).2 fun ⟨k, v⟩ => ?_
  · exact nodup_of_map hn
  · exact nodup_of_map hm
  · rw [← lk_mem hn, ← lk_mem hm, h]
end
end Go.Proofs.YtpgflmjeedbimaaGreat
end
section
namespace Go.Proofs.YtpgflmjeedbimaaGreat
open Go.Den Go.Disk
set_option linter.unusedSimpArgs false
set_option linter.unusedVariables false
set_option maxRecDepth 20000
set_option maxHeartbeats 4000000
attribute [local congr] BND_cg COND_cg GEF_cg
attribute [local irreducible] capl slicea load1 loadn iaddr iaddra faddr storev newslice binv lookv mupd mdel mlenv mentry mestore slicev slicev3 slices indexs indexav textv rangev nexts clearv shiftv eqaggv convi buildv pickv lens lenl unv nilchk extractv partn JOIN
end Go.Proofs.YtpgflmjeedbimaaGreat
end
section
namespace Go.Proofs.YtpgflmjeedbimaaGreat
open Go.Den Go.Disk
set_option linter.unusedSimpArgs false
set_option linter.unusedVariables false
set_option maxRecDepth 20000
set_option maxHeartbeats 4000000
attribute [local congr] BND_cg COND_cg GEF_cg
attribute [local irreducible] capl slicea load1 loadn iaddr iaddra faddr storev newslice binv lookv mupd mdel mlenv mentry mestore slicev slicev3 slices indexs indexav textv rangev nexts clearv shiftv eqaggv convi buildv pickv lens lenl unv nilchk extractv partn JOIN
end Go.Proofs.YtpgflmjeedbimaaGreat
end
section
namespace Go.Proofs.YtpgflmjeedbimaaGreat
open Go.Den Go.Disk
set_option linter.unusedSimpArgs false
set_option linter.unusedVariables false
set_option maxRecDepth 20000
set_option maxHeartbeats 4000000
attribute [local congr] BND_cg COND_cg GEF_cg
attribute [local irreducible] capl slicea load1 loadn iaddr iaddra faddr storev newslice binv lookv mupd mdel mlenv mentry mestore slicev slicev3 slices indexs indexav textv rangev nexts clearv shiftv eqaggv convi buildv pickv lens lenl unv nilchk extractv partn JOIN
end Go.Proofs.YtpgflmjeedbimaaGreat
end
section
namespace Go.Proofs.YtpgflmjeedbimaaGreat
open Go.Den Go.Disk
set_option linter.unusedSimpArgs false
set_option linter.unusedVariables false
set_option maxRecDepth 20000
set_option maxHeartbeats 4000000
attribute [local congr] BND_cg COND_cg GEF_cg
attribute [local irreducible] capl slicea load1 loadn iaddr iaddra faddr storev newslice binv lookv mupd mdel mlenv mentry mestore slicev slicev3 slices indexs indexav textv rangev nexts clearv shiftv eqaggv convi buildv pickv lens lenl unv nilchk extractv partn JOIN
end Go.Proofs.YtpgflmjeedbimaaGreat
end
section
namespace Go.Proofs.YtpgflmjeedbimaaGreat
open Go.Den Go.Disk
set_option linter.unusedSimpArgs false
set_option linter.unusedVariables false
set_option maxRecDepth 20000
set_option maxHeartbeats 4000000
attribute [local congr] BND_cg COND_cg GEF_cg
attribute [local irreducible] capl slicea load1 loadn iaddr iaddra faddr storev newslice binv lookv mupd mdel mlenv mentry mestore slicev slicev3 slices indexs indexav textv rangev nexts clearv shiftv eqaggv convi buildv pickv lens lenl unv nilchk extractv partn JOIN
end Go.Proofs.YtpgflmjeedbimaaGreat
end
section
namespace Go.Proofs.YtpgflmjeedbimaaGreat
open Go.Den Go.Disk
set_option linter.unusedSimpArgs false
set_option linter.unusedVariables false
set_option maxRecDepth 20000
set_option maxHeartbeats 4000000
attribute [local congr] BND_cg COND_cg GEF_cg
attribute [local irreducible] capl slicea load1 loadn iaddr iaddra faddr storev newslice binv lookv mupd mdel mlenv mentry mestore slicev slicev3 slices indexs indexav textv rangev nexts clearv shiftv eqaggv convi buildv pickv lens lenl unv nilchk extractv partn JOIN
end Go.Proofs.YtpgflmjeedbimaaGreat
end
section
namespace Go.Proofs.YtpgflmjeedbimaaGreat
open Go.Den Go.Disk
def names (l : Dir) : List ByteArray := l.map (·.1)
theorem At.wrap {w0 w : World} {F0 : List Nat} {P : HP} (h : At w0 F0 P w) : At w0 F0 (stars [P]) w := by
  obtain ⟨F, g1, g2, g3⟩ := h
  exact ⟨F, ⟨F, [], g1, ⟨trivial, rfl⟩, by simp, by simp⟩, g2, g3⟩
set_option linter.unusedSimpArgs false
set_option linter.unusedVariables false
set_option maxRecDepth 20000
set_option maxHeartbeats 4000000
attribute [local congr] BND_cg COND_cg GEF_cg
attribute [local irreducible] capl slicea load1 loadn iaddr iaddra faddr storev newslice binv lookv mupd mdel mlenv mentry mestore slicev slicev3 slices indexs indexav textv rangev nexts clearv shiftv eqaggv convi buildv pickv lens lenl unv nilchk extractv partn JOIN
end Go.Proofs.YtpgflmjeedbimaaGreat
end
section
namespace Go.Proofs.YtpgflmjeedbimaaGreat
open Go.Den Go.Disk
theorem loadn_all {w : World} {b n : Nat} {c : List Value} {T : Nat} {f : Nat × Nat} (h : blk w b = some (.cells c.toArray T f)) (hn : c.length = n) : loadn n w (.pointer (some ⟨b, 0, none⟩)) = some (.agg c.toArray) := by
  subst hn
  rw [loadn_blk h (by simp)]
  simp
theorem At.re3 {w0 w w' : World} {F0 : List Nat} {P : HP} (h : At w0 F0 P w) (f : Fr [] w w') : ∃ A, At w' A P w' ∧ (∀ b ∈ A, b < hsz w) ∧ (∀ b ∈ A, b ∈ F0 ∨ hsz w0 ≤ b) ∧ ∀ w2 P', At w' A P' w2 → At w0 F0 P' w2 := by
  obtain ⟨F, h1, h2, h3⟩ := h
  have f' : Fr F0 w0 w' := h3.trans' f.nil
  have gr := f'.grow
  refine ⟨F, At.start (P.fr h1 f (by simp)), P.lt h1, h2, fun w2 P' ⟨F', p1, p2, p3⟩ => ⟨F', p1, fun b hb => ?_, f'.trans p3 h2⟩⟩
  rcases p2 b hb with hb | hb
  · exact h2 b hb
  · exact .inr (by omega)
set_option linter.unusedSimpArgs false
set_option linter.unusedVariables false
set_option maxRecDepth 20000
set_option maxHeartbeats 4000000
attribute [local congr] BND_cg COND_cg GEF_cg
attribute [local irreducible] capl slicea load1 loadn iaddr iaddra faddr storev newslice binv lookv mupd mdel mlenv mentry mestore slicev slicev3 slices indexs indexav textv rangev nexts clearv shiftv eqaggv convi buildv pickv lens lenl unv nilchk extractv partn JOIN
end Go.Proofs.YtpgflmjeedbimaaGreat
end
section
namespace Go.Proofs.YtpgflmjeedbimaaGreat
open Go.Den Go.Ix
set_option linter.unusedSimpArgs false
set_option linter.unusedVariables false
def mapF (m : Nat) (f : Int → Option Value) : HP where
  p w F := (∃ es ck L, blk w m = some (.map es ck) ∧ MapB encK es ck L ∧ ∀ k, lk L k = f k) ∧ F = [m]
  lt := by rintro w F ⟨⟨es, ck, L, h, _⟩, rfl⟩ c hc; simp at hc; subst hc; exact blk_lt h
  st := by rintro w w' F ⟨⟨es, ck, L, h, h2⟩, rfl⟩ hk; exact ⟨⟨es, ck, L, by rw [hk m (by simp), h], h2⟩, rfl⟩
theorem DueOwn.st {w w' : World} {hb : Nat} {S : List E} {F : List Nat} (h : DueOwn w hb S F) (hk : ∀ b ∈ F, blk w' b = blk w b) : DueOwn w' hb S F := by
  obtain ⟨⟨l, ⟨⟨L, ⟨sv, mb, es, ck, T, Fa, h1, h2, h3, h4, rfl, h5⟩, h6⟩, h7⟩, h8⟩, h9, h10⟩ := h
  exact ⟨⟨l, ⟨⟨L, ⟨sv, mb, es, ck, T, Fa, by rw [hk hb (by simp), h1], by rw [hk mb (by simp), h2], h3, h4.congr fun b hb => hk b (by simp [hb]), rfl, h5⟩, h6⟩, h7⟩, h8⟩, h9, h10⟩
def dueHP (hb : Nat) (S : List E) : HP where
  p w F := DueOwn w hb S F
  lt := fun h => h.lt
  st := fun h hk => h.st hk
theorem DeadOwn.st {w w' : World} {d : Nat} {rows : List RowD} {last : Int} {seen : Seen} {F : List Nat} (h : DeadOwn w d rows last seen F) (hk : ∀ b ∈ F, blk w' b = blk w b) : DeadOwn w' d rows last seen F := by
  obtain ⟨sv, Fa, T, mb, es, ck, h1, h2, h3, h4, rfl, h5, h6, h7⟩ := h
  exact ⟨sv, Fa, T, mb, es, ck, by rw [hk d (by simp), h1], h2.congr fun b hb => hk b (by simp [hb]), by rw [hk mb (by simp), h3], h4, rfl, h5, h6, h7⟩
def deadHP (d : Nat) (rows : List RowD) (last : Int) (seen : Seen) : HP where
  p w F := DeadOwn w d rows last seen F
  lt := fun h => h.lt
  st := fun h hk => h.st hk
theorem stars_perm {w : World} : ∀ {ps qs : List HP}, ps.Perm qs → ∀ {F : List Nat}, (stars ps).p w F → ∃ F', (stars qs).p w F' ∧ ∀ b, b ∈ F' ↔ b ∈ F := by
  intro ps qs hp
  induction hp with
  | nil => exact fun h => ⟨_, h, fun _ => Iff.rfl⟩
  | cons P _ ih =>
    rintro F ⟨A, B, h1, h2, rfl, h3⟩
    obtain ⟨B', h4, h5⟩ := ih h2
    exact ⟨A ++ B', ⟨A, B', h1, h4, rfl, fun b hb hb' => h3 b hb ((h5 b).1 hb')⟩, fun b => by simp [h5]⟩
  | swap P Q l =>
    rintro F ⟨A, B, h1, ⟨C, D, h2, h3, rfl, h4⟩, rfl, h5⟩
    refine ⟨C ++ (A ++ D), ⟨C, A ++ D, h2, ⟨A, D, h1, h3, rfl, fun b hb hd => h5 b hb (by simp [hd])⟩, rfl, fun b hb hd => ?_⟩, fun b => by simp only [List.mem_append]; constructor <;> (rintro (h | h | h) <;> simp [h])⟩
    rcases List.mem_append.1 hd with hd | hd
    · exact h5 b hd (by simp [hb])
    · exact h4 b hb hd
  | trans _ _ ih1 ih2 =>
    intro F h
    obtain ⟨F1, h1, h2⟩ := ih1 h
    obtain ⟨F2, h3, h4⟩ := ih2 h1
    exact ⟨F2, h3, fun b => (h4 b).trans (h2 b)⟩
section
variable {w0 w w' : World} {F0 : List Nat} {ps qs : List HP}
theorem At.perm (h : At w0 F0 (stars ps) w) (hp : ps.Perm qs) : At w0 F0 (stars qs) w := by
  obtain ⟨F, h1, h2, h3⟩ := h
  obtain ⟨F', h4, h5⟩ := stars_perm hp h1
  exact ⟨F', h4, fun b hb => h2 b ((h5 b).1 hb), h3⟩
theorem At.push {P : HP} {A : List Nat} (h : At w0 F0 (stars ps) w) (f : Fr [] w w') (hP : P.p w' A) (hA : ∀ b ∈ A, hsz w ≤ b) : At w0 F0 (stars (ps ++ [P])) w' :=
  At.perm (h.add f hP hA) (List.perm_append_comm (l₁ := [P]))
theorem At.pop {P : HP} (h : At w0 F0 (stars (ps ++ [P])) w) : At w0 F0 (stars ps) w := (At.perm h (List.perm_append_comm (l₂ := [P]))).tail
theorem At.pops : ∀ {bs : List HP}, At w0 F0 (stars (ps ++ bs)) w → At w0 F0 (stars ps) w
  | [], h => by simpa using h
  | b :: bs, h => At.pops (bs := bs) (At.perm h (List.perm_middle)).tail
end
section
variable {w0 w : World} {F0 : List Nat} {ps : List HP} {i m : Nat} {f : Int → Option Value}
theorem At.look (h : At w0 F0 (stars ps) w) (hi : ps[i]? = some (mapF m f)) (zero : Value) (k : Int) : lookv (.int .u64) zero true w (.map (some m)) (.int .u64 k) = some (.tuple #[(f k).getD zero, .bool (f k).isSome]) := by
  obtain ⟨A, ⟨⟨es, ck, L, h1, h2, h3⟩, _⟩, _⟩ := h.get i hi
  rw [← h3 k]
  exact lookv_L (keyInt .u64) h1 h2.l zero k
theorem At.look1 (h : At w0 F0 (stars ps) w) (hi : ps[i]? = some (mapF m f)) (zero : Value) (k : Int) : lookv (.int .u64) zero false w (.map (some m)) (.int .u64 k) = some ((f k).getD zero) := by
  obtain ⟨A, ⟨⟨es, ck, L, h1, h2, h3⟩, _⟩, _⟩ := h.get i hi
  rw [← h3 k]
  exact lookv_L1 (keyInt .u64) h1 h2.l zero k
theorem At.mput {K : World → Prop} (h : At w0 F0 (stars ps) w) (hi : ps[i]? = some (mapF m f)) (k : Int) (v : Value) (hK : ∀ w', At w0 F0 (stars (ps.set i (mapF m (updF f k (some v))))) w' → K w') : BND (mupd (.int .u64) w (.map (some m)) (.int .u64 k) v) K := by
  obtain ⟨A, ⟨⟨es, ck, L, h1, h2, h3⟩, rfl⟩, upd⟩ := h.upd i hi
  obtain ⟨es', ck', e, h4⟩ := mupd_B (keyInt .u64) h1 h2 k v
  refine BND_step e <| hK _ (upd _ [m] (mapF m (updF f k (some v))) ⟨⟨es', ck', _, blk_setB_same h1, h4, fun j => ?_⟩, rfl⟩ (Fr.setB (.inl (by simp)) _) (fun _ hb => .inl hb))
  rw [lk_ins]; unfold updF; rw [h3]
theorem At.mdrop {K : World → Prop} (h : At w0 F0 (stars ps) w) (hi : ps[i]? = some (mapF m f)) (k : Int) (hK : ∀ w', At w0 F0 (stars (ps.set i (mapF m (updF f k none)))) w' → K w') : BND (mdel (.int .u64) w (.map (some m)) (.int .u64 k)) K := by
  obtain ⟨A, ⟨⟨es, ck, L, h1, h2, h3⟩, rfl⟩, upd⟩ := h.upd i hi
  obtain ⟨es', ck', e, h4⟩ := mdel_B (keyInt .u64) h1 h2 k
  refine BND_step e <| hK _ (upd _ [m] (mapF m (updF f k none)) ⟨⟨es', ck', _, blk_setB_same h1, h4, fun j => ?_⟩, rfl⟩ (Fr.setB (.inl (by simp)) _) (fun _ hb => .inl hb))
  rw [lk_del h2.l.once]; unfold updF; rw [h3]
theorem At.drew (h : At w0 F0 (stars ps) w) : At w0 F0 (stars ps) w.drew := h.fr0 (Fr.drew _ _)
end
structure Mx where
  mb : Nat
  wb : Nat
  hb : Nat
  db : Nat
  lb : Nat → Nat
abbrev pp (b : Nat) : Value := .pointer (some ⟨b, 0, none⟩)
def ixC (m : Mx) (r : Rx) : List Value := [.int .i64 r.c.lanes, .int .i64 r.c.pay, .int .i64 r.c.del, .int .u64 (r.now : Int), .int .u64 (r.next : Int), .int .u64 (r.leases : Int), .int .u64 (r.turns : Int), .map (some m.mb),
  pp (m.lb 0), pp (m.lb 1), pp (m.lb 2), pp (m.lb 3), pp (m.lb 4), pp (m.lb 5), pp (m.lb 6), pp (m.lb 7), pp m.wb, .map (some m.hb), pp m.db]
def itsV (f : Int → Option It) : Int → Option Value := fun k => (f k).map fun y => .agg (encIt y).toArray
def heldV (f : Int → Option Int) : Int → Option Value := fun k => (f k).map fun y => .int .u64 y
def ixL (xb : Nat) (m : Mx) (r : Rx) : List HP := [pts xb (ixC m r), mapF m.mb (itsV r.its), dueHP m.wb r.ws, mapF m.hb (heldV r.held), deadHP m.db r.rows r.last r.seen,
  laneHP (m.lb 0) (r.qs 0), laneHP (m.lb 1) (r.qs 1), laneHP (m.lb 2) (r.qs 2), laneHP (m.lb 3) (r.qs 3), laneHP (m.lb 4) (r.qs 4), laneHP (m.lb 5) (r.qs 5), laneHP (m.lb 6) (r.qs 6), laneHP (m.lb 7) (r.qs 7)]
structure Small (r : Rx) : Prop where
  qs : ∀ k, k < 8 → (r.qs k).length < 100000
  ws : r.ws.length < 100000
  rows : r.rows.length < 100000
theorem itsV_upd (f : Int → Option It) (k : Int) (y : It) : updF (itsV f) k (some (.agg (encIt y).toArray)) = itsV (updF f k (some y)) := by
  funext j; unfold itsV updF; split <;> rfl
theorem itsV_del (f : Int → Option It) (k : Int) : updF (itsV f) k none = itsV (updF f k none) := by
  funext j; unfold itsV updF; split <;> rfl
theorem heldV_upd (f : Int → Option Int) (k y : Int) : updF (heldV f) k (some (.int .u64 y)) = heldV (updF f k (some y)) := by
  funext j; unfold heldV updF; split <;> rfl
theorem heldV_del (f : Int → Option Int) (k : Int) : updF (heldV f) k none = heldV (updF f k none) := by
  funext j; unfold heldV updF; split <;> rfl
theorem lt8 {k : Nat} (h : k < 8) : k = 0 ∨ k = 1 ∨ k = 2 ∨ k = 3 ∨ k = 4 ∨ k = 5 ∨ k = 6 ∨ k = 7 := by omega
theorem ixL_lane {xb : Nat} {m : Mx} {r : Rx} {bs : List HP} {k : Nat} (h : k < 8) : (ixL xb m r ++ bs)[5 + k]? = some (laneHP (m.lb k) (r.qs k)) := by
  rcases lt8 h with rfl | rfl | rfl | rfl | rfl | rfl | rfl | rfl <;> rfl
theorem ixL_set {xb : Nat} {m : Mx} {r : Rx} {bs : List HP} {k : Nat} (h : k < 8) (q : List Int) : (ixL xb m r ++ bs).set (5 + k) (laneHP (m.lb k) q) = ixL xb m { r with qs := updQ r.qs k q } ++ bs := by
  rcases lt8 h with rfl | rfl | rfl | rfl | rfl | rfl | rfl | rfl <;> rfl
theorem ixC_lane {m : Mx} {r : Rx} {k : Nat} (h : k < 8) : (ixC m r)[8 + k]? = some (pp (m.lb k)) := by
  rcases lt8 h with rfl | rfl | rfl | rfl | rfl | rfl | rfl | rfl <;> rfl
theorem iaddra_8 {xb : Nat} {k : Int} (h : 0 ≤ k ∧ k < 8) : iaddra 8 1 (.pointer (some ⟨xb, 8, none⟩)) (.int .i64 k) = some (.pointer (some ⟨xb, 8 + k.toNat, none⟩)) := by
  have h2 : (0 ≤ k ∧ k < ((8 : Nat) : Int)) := h
  show (if 0 ≤ k ∧ k < ((8 : Nat) : Int) then some (Value.pointer (some ((⟨xb, 8, none⟩ : Addr).add (k.toNat * 1)))) else none) = _
  rw [if_pos h2, add_none, Nat.mul_one]
section
variable {w0 w : World} {F0 : List Nat} {xb : Nat} {m : Mx} {r : Rx} {bs : List HP} {R : Value → World → Prop}
theorem ixa_cell (h : At w0 F0 (stars (ixL xb m r ++ bs)) w) : ∃ T, blk w xb = some (.cells (ixC m r).toArray T (0, 0)) := h.cell (i := 0) rfl
theorem ixa_load (h : At w0 F0 (stars (ixL xb m r ++ bs)) w) {k : Nat} (hk : k < 8) : load1 w (.pointer (some ⟨xb, 8 + k, none⟩)) = some (pp (m.lb k)) := by
  obtain ⟨T, c⟩ := ixa_cell h
  exact load1_at c (ixC_lane hk)
theorem ixa_qdrop (h : At w0 F0 (stars (ixL xb m r ++ bs)) w) {k : Nat} (hk : k < 8) (id : Int) (hR : ∀ b w', At w0 F0 (stars (ixL xb m { r with qs := updQ r.qs k ((r.qs k).erase id) } ++ bs)) w' → R (.bool b) w') :
    CALL PR F_lane_Lane_Drop [pp (m.lb k), .int .u64 id] w R := by
  obtain ⟨A, hA, upd⟩ := h.upd (5 + k) (ixL_lane hk)
  refine ln_Drop hA id (fun hn => ?_) fun _ w' F' h1 f1 sub => ?_
  · refine hR false w ?_
    rw [← ixL_set hk, List.erase_of_not_mem hn]
    exact upd w A _ hA (Fr.refl _ _) fun b hb => .inl hb
  · refine hR true w' ?_
    rw [← ixL_set hk]
    exact upd w' F' _ h1 f1 fun b hb => .inl (sub b hb)
theorem ixa_qput (h : At w0 F0 (stars (ixL xb m r ++ bs)) w) {k : Nat} (hk : k < 8) (hn : (r.qs k).length < 1000000) (id : Int) (hR : ∀ b w', At w0 F0 (stars (ixL xb m { r with qs := updQ r.qs k (putQ (r.qs k) id) } ++ bs)) w' → R (.bool b) w') :
    CALL PR F_lane_Lane_Put [pp (m.lb k), .int .u64 id] w R := by
  obtain ⟨A, hA, upd⟩ := h.upd (5 + k) (ixL_lane hk)
  refine ln_Put hA hn id (fun hi => ?_) fun hi w' F' h1 f1 sub => ?_
  · refine hR false w ?_
    rw [← ixL_set hk, putQ, if_pos hi]
    exact upd w A _ hA (Fr.refl _ _) fun b hb => .inl hb
  · refine hR true w' ?_
    rw [← ixL_set hk, putQ, if_neg hi]
    exact upd w' F' _ h1 f1 sub
theorem ixa_wdrop (h : At w0 F0 (stars (ixL xb m r ++ bs)) w) (hn : r.ws.length < 1000000) (id : Int) (hR : ∀ b w', At w0 F0 (stars (ixL xb m { r with ws := remS r.ws id } ++ bs)) w' → R (.bool b) w') : CALL PR F_due_Heap_Drop [pp m.wb, .int .u64 id] w R := by
  obtain ⟨A, hA, upd⟩ := h.upd 2 rfl
  refine due_Drop hA (by omega) id (fun hi => ?_) fun hi w' h1 f1 => ?_
  · have e : remS r.ws id = r.ws := List.filter_eq_self.2 fun x hx => by
      simp only [Bool.not_eq_true', decide_eq_false_iff_not]
      exact fun e => hi (List.mem_map.2 ⟨x, hx, e⟩)
    refine hR false w ?_
    rw [e]; exact h
  · exact hR true w' (upd w' A _ h1 f1 fun b hb => .inl hb)
theorem ixa_wput (h : At w0 F0 (stars (ixL xb m r ++ bs)) w) (hn : r.ws.length < 1000000) (id t : Int) (hR : ∀ b w', At w0 F0 (stars (ixL xb m { r with ws := putW r.ws id t } ++ bs)) w' → R (.bool b) w') : CALL PR F_due_Heap_Put [pp m.wb, .int .u64 id, .int .u64 t] w R := by
  obtain ⟨A, hA, upd⟩ := h.upd 2 rfl
  refine due_Put hA (by omega) id t (fun hi => ?_) fun hi w' F' h1 f1 sub => ?_
  · refine hR false w ?_
    unfold putW
    rw [if_pos hi]; exact h
  · refine hR true w' ?_
    unfold putW
    rw [if_neg hi]
    exact upd w' F' _ h1 f1 sub
theorem ixa_ddrop (h : At w0 F0 (stars (ixL xb m r ++ bs)) w) (hn : r.rows.length < 1000000) (id : Int) (hR : ∀ b w', At w0 F0 (stars (ixL xb m { r with rows := dropR r.rows id } ++ bs)) w' → R (.bool b) w') : CALL PR F_dead_Dead_Drop [pp m.db, .int .u64 id] w R := by
  obtain ⟨A, hA, upd⟩ := h.upd 4 rfl
  exact dd_Drop hA (by omega) id fun w' h1 f1 => hR _ w' (upd w' A (deadHP m.db (dropR r.rows id) r.last r.seen) h1 f1 fun b hb => .inl hb)
theorem ixa_dadd (h : At w0 F0 (stars (ixL xb m r ++ bs)) w) (hn : r.rows.length < 1000000) (hl : 0 ≤ r.last ∧ r.last < 18446744073709551615) (id : Int) (hR : ∀ b w', At w0 F0 (stars (ixL xb m { r with rows := addR r.rows r.last id, last := addL r.rows r.last id } ++ bs)) w' → R (.bool b) w') :
    CALL PR F_dead_Dead_Add [pp m.db, .int .u64 id] w R := by
  obtain ⟨A, hA, upd⟩ := h.upd 4 rfl
  exact dd_Add hA (by omega) hl.1 hl.2 id fun w' F' h1 sub f1 => hR _ w' (upd w' F' (deadHP m.db (addR r.rows r.last id) (addL r.rows r.last id) r.seen) h1 f1 sub)
theorem ixa_iput {K : World → Prop} (h : At w0 F0 (stars (ixL xb m r ++ bs)) w) (k : Int) (y : It) (hK : ∀ w', At w0 F0 (stars (ixL xb m { r with its := updF r.its k (some y) } ++ bs)) w' → K w') : BND (mupd (.int .u64) w (.map (some m.mb)) (.int .u64 k) (.agg (encIt y).toArray)) K :=
  At.mput h (i := 1) rfl k _ fun w' h' => hK w' (by rw [itsV_upd] at h'; exact h')
theorem ixa_idrop {K : World → Prop} (h : At w0 F0 (stars (ixL xb m r ++ bs)) w) (k : Int) (hK : ∀ w', At w0 F0 (stars (ixL xb m { r with its := updF r.its k none } ++ bs)) w' → K w') : BND (mdel (.int .u64) w (.map (some m.mb)) (.int .u64 k)) K :=
  At.mdrop h (i := 1) rfl k fun w' h' => hK w' (by rw [itsV_del] at h'; exact h')
theorem ixa_hput {K : World → Prop} (h : At w0 F0 (stars (ixL xb m r ++ bs)) w) (k y : Int) (hK : ∀ w', At w0 F0 (stars (ixL xb m { r with held := updF r.held k (some y) } ++ bs)) w' → K w') : BND (mupd (.int .u64) w (.map (some m.hb)) (.int .u64 k) (.int .u64 y)) K :=
  At.mput h (i := 3) rfl k _ fun w' h' => hK w' (by rw [heldV_upd] at h'; exact h')
theorem ixa_hdrop {K : World → Prop} (h : At w0 F0 (stars (ixL xb m r ++ bs)) w) (k : Int) (hK : ∀ w', At w0 F0 (stars (ixL xb m { r with held := updF r.held k none } ++ bs)) w' → K w') : BND (mdel (.int .u64) w (.map (some m.hb)) (.int .u64 k)) K :=
  At.mdrop h (i := 3) rfl k fun w' h' => hK w' (by rw [heldV_del] at h'; exact h')
end
set_option linter.unusedSimpArgs false
set_option linter.unusedVariables false
set_option maxRecDepth 20000
set_option maxHeartbeats 4000000
attribute [local congr] BND_cg COND_cg GEF_cg
attribute [local irreducible] capl slicea load1 loadn iaddr iaddra faddr storev newslice binv lookv mupd mdel mlenv mentry mestore slicev slicev3 slices indexs indexav textv rangev nexts clearv shiftv eqaggv convi buildv pickv lens lenl unv nilchk extractv partn JOIN
section
variable {w0 w : World} {F0 : List Nat} {xb : Nat} {m : Mx} {r : Rx} {bs : List HP} {R : Value → World → Prop}
theorem ix_leave (h : At w0 F0 (stars (ixL xb m r ++ bs)) w) (sm : Small r) (it : It) (hl : 0 ≤ it.lane ∧ it.lane < 8) (hR : ∀ w', At w0 F0 (stars (ixL xb m (leaveR r it) ++ bs)) w' → R (.tuple #[]) w') :
    CALL PR F_index_Index_leave [pp xb, .agg (encIt it).toArray] w R := by
  refine C_index_Index_leave ?_
  unfold M_index_Index_leave
  refine NEW_intro fun w1 b1 f1 z1 => ?_
  replace b1 : blk w1 (hsz w) = some (.cells (encIt it).toArray 75 (0, 0)) := b1
  obtain ⟨A, h1, hA, _, back⟩ := At.re3 h f1
  have hk : it.lane.toNat < 8 := by omega
  have box : ∀ {r' w'}, At w1 A (stars (ixL xb m r' ++ bs)) w' → blk w' (hsz w) = some (.cells (encIt it).toArray 75 (0, 0)) := fun h => h.frame.some (fun hb => by have := hA _ hb; omega) b1
  have h1d := At.drew h1
  have b1d := box h1d
  have ld := ixa_load h1d hk
  (repeat (first | refine BND_step (iaddra_8 hl) ?_ | refine gg ?_))
  refine ixa_qdrop h1d hk it.id fun _ w2 h2 => ?_
  have h2d := At.drew h2
  have b2 := box h2d
  obtain ⟨T2, c2⟩ := ixa_cell h2d
  (repeat refine gg ?_)
  refine ixa_wdrop h2d (by have := sm.ws; simp only; omega) it.id fun _ w3 h3 => ?_
  have h3d := At.drew h3
  have b3 := box h3d
  obtain ⟨T3, c3⟩ := ixa_cell h3d
  (repeat refine gg ?_)
  refine ixa_ddrop h3d (by have := sm.rows; simp only; omega) it.id fun _ w4 h4 => ?_
  have h4d := At.drew h4
  have b4 := box h4d
  obtain ⟨T4, c4⟩ := ixa_cell h4d
  (repeat refine gg ?_)
  refine ixa_hdrop h4d it.lf.tok fun w5 h5 => ?_
  exact hR w5 (back w5 _ h5)
theorem ix_stand (h : At w0 F0 (stars (ixL xb m r ++ bs)) w) (hq : ∀ k, k < 8 → (r.qs k).length < 100000) (hw : r.ws.length < 100000) (it : It) (hl : 0 ≤ it.lane ∧ it.lane < 8) (hR : ∀ w', At w0 F0 (stars (ixL xb m (standR r it) ++ bs)) w' → R (.tuple #[]) w') :
    CALL PR F_index_Index_stand [pp xb, .agg (encIt it).toArray] w R := by
  refine C_index_Index_stand ?_
  unfold M_index_Index_stand
  refine NEW_intro fun w1 b1 f1 z1 => ?_
  replace b1 : blk w1 (hsz w) = some (.cells (encIt it).toArray 75 (0, 0)) := b1
  obtain ⟨A, h1, hA, _, back⟩ := At.re3 h f1
  have hk : it.lane.toNat < 8 := by omega
  have box : ∀ {r' w'}, At w1 A (stars (ixL xb m r' ++ bs)) w' → blk w' (hsz w) = some (.cells (encIt it).toArray 75 (0, 0)) := fun h => h.frame.some (fun hb => by have := hA _ hb; omega) b1
  have h1d := At.drew h1
  have b1d := box h1d
  have e1 := loadn_all b1d (encIt_len it)
  obtain ⟨T1, c1⟩ := ixa_cell h1d
  (repeat refine gg ?_)
  refine ixa_iput h1d it.id it fun w2 h2 => ?_
  have b2 := box h2
  have h2d := At.drew h2
  have b2d := box h2d
  obtain ⟨T2, c2⟩ := ixa_cell h2d
  (repeat refine gg ?_)
  refine join_w (fun w' => At w0 F0 (stars (ixL xb m (standR r it) ++ bs)) w') ?_ hR
  intro K hK
  unfold standR at hK
  by_cases s1 : it.lf.st = 1
  · rw [if_pos s1] at hK
    have ld := ixa_load h2d hk
    (repeat (first | refine BND_step (iaddra_8 hl) ?_ | refine gg ?_))
    refine ixa_qput h2d hk (by have := hq _ hk; simp only; omega) it.id fun _ w3 h3 => ?_
    exact hK w3 (back w3 _ h3)
  rw [if_neg s1] at hK
  (repeat refine gg ?_)
  refine join_w _ ?_ hK
  clear hK K
  intro K hK
  by_cases s3 : it.lf.st = 3
  · rw [if_pos s3] at hK
    (repeat refine gg ?_)
    refine ixa_hput h2d it.lf.tok it.id fun w3 h3 => ?_
    have h3d := At.drew h3
    have b3 := box h3d
    obtain ⟨T3, c3⟩ := ixa_cell h3d
    (repeat refine gg ?_)
    refine ixa_wput h3d (by have := hw; simp only; omega) it.id it.lf.due fun _ w4 h4 => ?_
    exact hK w4 (back w4 _ h4)
  rw [if_neg s3] at hK
  (repeat refine gg ?_)
  refine join_w _ ?_ hK
  clear hK K
  intro K hK
  by_cases s2 : it.lf.st = 2
  · rw [if_pos s2] at hK
    (repeat refine gg ?_)
    refine ixa_wput h2d (by have := hw; simp only; omega) it.id it.lf.due fun _ w4 h4 => ?_
    exact hK w4 (back w4 _ h4)
  · rw [if_neg s2] at hK
    (repeat refine gg ?_)
    exact hK w2 (back w2 _ h2)
end
theorem At.putn {w0 w : World} {F0 : List Nat} {ps : List HP} {i b o n : Nat} {cs vs : List Value} {K : World → Prop} (h : At w0 F0 (stars ps) w) (hi : ps[i]? = some (pts b cs)) (hv : vs.length = n) (hb : o + n ≤ cs.length) (h1 : ∀ u ∈ vs, u.oneCell' = true) (hn : vs ≠ [])
    (hK : ∀ w', At w0 F0 (stars (ps.set i (pts b (spliceL cs o vs)))) w' → K w') : BND (storev n w (.pointer (some ⟨b, o, none⟩)) (.agg vs.toArray)) K := by
  obtain ⟨A, ⟨⟨T, h2⟩, rfl⟩, upd⟩ := h.upd i hi
  refine BND_step (storevn_blk (o := o) h2 hv (by simpa using hb) h1 hn) ?_
  refine hK _ (upd _ [b] (pts b (spliceL cs o vs)) ⟨⟨T, ?_⟩, rfl⟩ (Fr.setB (.inl (by simp)) _) (fun _ hb => .inl hb))
  rw [blk_setB_same h2, splice_L]
section
variable {w0 w : World} {F0 : List Nat} {xb : Nat} {m : Mx} {r : Rx} {bs : List HP} {R : Value → World → Prop}
theorem ixa_new {T : Nat} {vs : List Value} {K : Value → World → Prop} (h : At w0 F0 (stars (ixL xb m r ++ bs)) w) (hK : ∀ w', At w0 F0 (stars (ixL xb m r ++ (pts (hsz w) vs :: bs))) w' → Fr [] w w' → hsz w' = hsz w + 1 → K (.pointer (some ⟨hsz w, 0, none⟩)) w') :
    NEW (newv T w (.agg vs.toArray)) K := by
  refine NEW_intro fun w1 b1 f1 z1 => hK w1 ?_ f1 z1
  exact At.perm (h.add f1 (P := pts (hsz w) vs) (A := [hsz w]) ⟨⟨T, b1⟩, rfl⟩ (by simp)) List.perm_middle.symm
theorem ixa_pop {P : HP} (h : At w0 F0 (stars (ixL xb m r ++ (P :: bs))) w) : At w0 F0 (stars (ixL xb m r ++ bs)) w := (At.perm h List.perm_middle).tail
theorem ret10 {b : Nat} {zs : List Value} {K : Value → World → Prop} (y : It) (h : At w0 F0 (stars (ixL xb m r ++ (pts b zs :: bs))) w) (hz : zs.length = 10) (hK : ∀ w', At w0 F0 (stars (ixL xb m r ++ (pts b (encIt y) :: bs))) w' → K (.agg (encIt y).toArray) w') :
    BND (storev 10 w (.pointer (some ⟨b, 0, none⟩)) (.agg (encIt y).toArray)) fun w3 => BND (loadn 10 w3 (.pointer (some ⟨b, 0, none⟩))) fun v => K v w3 := by
  refine h.put (i := 13) (n := 10) rfl hz rfl (encIt_one y) (by simp [encIt]) fun w3 h3 _ => ?_
  replace h3 : At w0 F0 (stars (ixL xb m r ++ (pts b (encIt y) :: bs))) w3 := h3
  obtain ⟨T, c⟩ := h3.cell (i := 13) rfl
  exact BND_step (loadn_all c (encIt_len y)) (hK w3 h3)
end
theorem small_leave {r : Rx} (h : Small r) (it : It) : Small (leaveR r it) := by
  refine ⟨fun k hk => ?_, ?_, ?_⟩
  · show (updQ r.qs it.lane.toNat ((r.qs it.lane.toNat).erase (it.id : Int)) k).length < 100000
    unfold updQ
    have := h.qs k hk
    split
    · rename_i e
      rw [← e]
      have := List.length_erase_le (a := (it.id : Int)) (l := r.qs k)
      omega
    · exact this
  · exact Nat.lt_of_le_of_lt (List.length_filter_le _ _) h.ws
  · exact Nat.lt_of_le_of_lt (dropR_sub r.rows (it.id : Int)).length_le h.rows
section
variable {w0 w : World} {F0 : List Nat} {xb : Nat} {m : Mx} {r : Rx} {bs : List HP} {R : Value → World → Prop}
theorem ix_is (h : At w0 F0 (stars (ixL xb m r ++ bs)) w) (sm : Small r) (hla : 0 ≤ r.last ∧ r.last < 9000000000000000000) (ht : r.turns < 9000000000000000000) (it : It) (l : Lf) (hl : 0 ≤ it.lane ∧ it.lane < 8) (hR : ∀ w', At w0 F0 (stars (ixL xb m (isR r it l).1 ++ bs)) w' → R (.agg (encIt (isR r it l).2).toArray) w') :
    CALL PR F_index_Index_is [pp xb, .agg (encIt it).toArray, .agg (encLf l).toArray] w R := by
  refine C_index_Index_is ?_
  unfold M_index_Index_is
  refine ixa_new h fun w1 h1 f1 z1 => ixa_new h1 fun w2 h2 f2 z2 => ixa_new (vs := encIt it0) h2 fun w3 h3 f3 z3 => ?_
  obtain ⟨T3, c3⟩ := h3.cell (i := 15) rfl
  (repeat (first | refine BND_step (loadn_all c3 (encIt_len it)) ?_ | refine gg ?_))
  refine ix_leave h3 sm it hl fun w4 h4 => ?_
  obtain ⟨Tl, cl⟩ := h4.cell (i := 14) rfl
  (repeat (first | refine BND_step (loadn_all cl (encLf_len l)) ?_ | refine gg ?_))
  refine At.putn (i := 15) (n := 4) (o := 0 + 2) h4 rfl rfl (by simp [encIt]) (encLf_one l) (by simp [encLf]) fun w5 h5 => ?_
  (repeat refine gg ?_)
  refine h5.store (i := 15) (j := 6) rfl ⟨rfl, rfl⟩ (by simp [encIt, encLf, spliceL]) fun w6 h6 _ => ?_
  replace h6 : At w0 F0 (stars (ixL xb m (leaveR r it) ++ (pts (hsz w2) (encIt it0) :: pts (hsz w1) (encLf l) :: pts (hsz w) (encIt (atLife it l 0)) :: bs))) w6 := h6
  obtain ⟨Tl6, cl6⟩ := h6.cell (i := 14) rfl
  have sml := small_leave sm it
  (repeat refine gg ?_)
  refine join_w (fun w' => ∃ rr it2, At w0 F0 (stars (ixL xb m rr ++ (pts (hsz w2) (encIt it0) :: pts (hsz w1) (encLf l) :: pts (hsz w) (encIt it2) :: bs))) w' ∧ ((∀ k, k < 8 → (rr.qs k).length < 100000) ∧ rr.ws.length < 100000) ∧ isR r it l = (standR rr it2, it2) ∧ it2.lane = it.lane) ?_ ?_
  · intro K hK
    by_cases s1 : l.st = 1
    · obtain ⟨Tx, cx⟩ := ixa_cell h6
      have ea : binv .int .add (.int .u64 ((leaveR r it).turns : Int)) (.int .u64 1) = some (.int .u64 ((r.turns + 1 : Nat) : Int)) := by
        show binv .int .add (.int .u64 (r.turns : Int)) (.int .u64 1) = _
        rw [binv_add, wrap_u64 (by omega) (by omega)]; congr 2
      (repeat refine gg ?_)
      refine h6.store (i := 0) (j := 6) rfl ⟨rfl, rfl⟩ (by simp [ixC]) fun w7 h7 _ => ?_
      replace h7 : At w0 F0 (stars (ixL xb m { leaveR r it with turns := r.turns + 1 } ++ (pts (hsz w2) (encIt it0) :: pts (hsz w1) (encLf l) :: pts (hsz w) (encIt (atLife it l 0)) :: bs))) w7 := h7
      obtain ⟨Ty, cy⟩ := ixa_cell h7
      (repeat refine gg ?_)
      refine h7.store (i := 15) (j := 6) rfl ⟨rfl, rfl⟩ (by simp [encIt]) fun w8 h8 _ => ?_
      refine hK w8 ⟨_, atLife it l (r.turns + 1), h8, ⟨sml.qs, sml.ws⟩, ?_, rfl⟩
      unfold isR
      rw [if_pos s1]
    (repeat refine gg ?_)
    refine join_w _ ?_ hK
    clear hK K
    intro K hK
    by_cases s4 : l.st = 4
    · have h6d := At.drew h6
      obtain ⟨Tx, cx⟩ := ixa_cell h6d
      obtain ⟨Ti, ci⟩ := h6d.cell (i := 15) rfl
      (repeat refine gg ?_)
      refine ixa_dadd h6d (by have := sml.rows; omega) (by show 0 ≤ r.last ∧ r.last < 18446744073709551615; omega) it.id fun _ w7 h7 => ?_
      refine hK w7 ⟨_, _, h7, ⟨sml.qs, sml.ws⟩, ?_, rfl⟩
      unfold isR
      rw [if_neg s1, if_pos s4]
      rfl
    (repeat refine gg ?_)
    by_cases s5 : l.st = 5
    · have h6d := At.drew h6
      obtain ⟨Tx, cx⟩ := ixa_cell h6d
      obtain ⟨Ti, ci⟩ := h6d.cell (i := 15) rfl
      (repeat refine gg ?_)
      refine ixa_idrop h6d it.id fun w7 h7 => ?_
      obtain ⟨Tj, cj⟩ := h7.cell (i := 15) rfl
      (repeat (first | refine BND_step (loadn_all cj (encIt_len _)) ?_ | refine gg ?_))
      refine ret10 _ h7 rfl fun w8 h8 => ?_
      have e : isR r it l = ({ leaveR r it with its := updF r.its it.id none }, atLife it l 0) := by
        unfold isR
        rw [if_neg s1, if_neg s4, if_pos s5]
      rw [e] at hR
      exact hR w8 (ixa_pop (ixa_pop (ixa_pop h8)))
    · (repeat refine gg ?_)
      refine hK w6 ⟨_, _, h6, ⟨sml.qs, sml.ws⟩, ?_, rfl⟩
      unfold isR
      rw [if_neg s1, if_neg s4, if_neg s5]
  · rintro w7 ⟨rr, it2, h7, sm7, e, hl2⟩
    rw [e] at hR
    obtain ⟨Ti, ci⟩ := h7.cell (i := 15) rfl
    (repeat (first | refine BND_step (loadn_all ci (encIt_len _)) ?_ | refine gg ?_))
    refine ix_stand h7 sm7.1 sm7.2 it2 (by rw [hl2]; exact hl) fun w8 h8 => ?_
    obtain ⟨Tj, cj⟩ := h8.cell (i := 15) rfl
    (repeat (first | refine BND_step (loadn_all cj (encIt_len _)) ?_ | refine gg ?_))
    exact ret10 it2 h8 rfl fun w9 h9 => hR w9 (ixa_pop (ixa_pop (ixa_pop h9)))
end
end Go.Proofs.YtpgflmjeedbimaaGreat
end
section
namespace Go.Proofs.YtpgflmjeedbimaaGreat
open Go.Den Go.Ix
set_option linter.unusedSimpArgs false
set_option linter.unusedVariables false
def indexHP (xb : Nat) (s : Px) : HP := ex fun x : Mx × Rx => stars [pure_ (Rep s x.2), stars (ixL xb x.1 x.2)]
section
variable {w0 w : World} {F0 : List Nat} {xb : Nat} {s : Px}
theorem ix_open (h : At w0 F0 (indexHP xb s) w) : ∃ m r, Rep s r ∧ At w0 F0 (stars (ixL xb m r ++ [])) w := by
  obtain ⟨F, ⟨⟨m, r⟩, ⟨A, B, ⟨h1, rfl⟩, ⟨C, D, h3, ⟨_, rfl⟩, rfl, _⟩, rfl, _⟩⟩, h5, h6⟩ := h
  refine ⟨m, r, h1, C, ?_, fun b hb => h5 b (by simp [hb]), h6⟩
  simpa using h3
theorem ix_shut {m : Mx} {r : Rx} (hr : Rep s r) (h : At w0 F0 (stars (ixL xb m r ++ [])) w) : At w0 F0 (indexHP xb s) w := by
  obtain ⟨F, h1, h2, h3⟩ := h
  exact ⟨F, ⟨(m, r), ⟨[], F, ⟨hr, rfl⟩, ⟨F, [], by simpa using h1, ⟨trivial, rfl⟩, by simp, by simp⟩, rfl, by simp⟩⟩, h2, h3⟩
end
def cfC (c : Cf) : List Value := [.int .i64 c.lanes, .int .i64 c.pay, .int .i64 c.del]
theorem join_v4 {f : (Value → Value → Value → Value → World → Prop) → Prop} {k : Value → Value → Value → Value → World → Prop} (Q : Value → Value → Value → Value → World → Prop) (h : ∀ K, (∀ a b c d w', Q a b c d w' → K a b c d w') → f K) (hk : ∀ a b c d w', Q a b c d w' → k a b c d w') : JOIN f k := h k hk
def nwC (c : Cf) (mb wb hb db : Nat) (i : Nat) (lb : Nat → Nat) : List Value := [.int .i64 c.lanes, .int .i64 c.pay, .int .i64 c.del, .int .u64 0, .int .u64 1, .int .u64 0, .int .u64 0, .map (some mb),
  .pointer (if 0 < i then some ⟨lb 0, 0, none⟩ else none), .pointer (if 1 < i then some ⟨lb 1, 0, none⟩ else none), .pointer (if 2 < i then some ⟨lb 2, 0, none⟩ else none), .pointer (if 3 < i then some ⟨lb 3, 0, none⟩ else none),
  .pointer (if 4 < i then some ⟨lb 4, 0, none⟩ else none), .pointer (if 5 < i then some ⟨lb 5, 0, none⟩ else none), .pointer (if 6 < i then some ⟨lb 6, 0, none⟩ else none), .pointer (if 7 < i then some ⟨lb 7, 0, none⟩ else none), pp wb, .map (some hb), pp db]
def newR (c : Cf) : Rx := ⟨c, 0, 1, 0, 0, fun _ => none, fun _ => [], [], fun _ => none, [], 0, []⟩
theorem rep_new (c : Cf) : Rep (newP c) (newR c) := ⟨rfl, rfl, rfl, rfl, rfl, rfl, rfl, rfl, fun _ => rfl, fun k _ => ⟨[], rfl, by simp [newP], .nil⟩, by simp [newP, newR], fun k => rfl⟩
theorem inv_new {c : Cf} (h : rightC c) : QInv (newP c) 0 0 := ⟨h, .nil, by simp [newP], by simp [newP], by simp [newP], by simp [newP], .nil, .nil, by simp [newP], by simp [newP], by simp [newP], .nil, by simp [newP], by simp [newP], by simp [newP], by simp [newP], ⟨by simp [newP], by simp [newP], by simp [newP]⟩⟩
theorem nwC_set {c : Cf} {mb wb hb db i : Nat} {lb : Nat → Nat} (h : i < 8) (b : Nat) : (nwC c mb wb hb db i lb).set (8 + i) (pp b) = nwC c mb wb hb db (i + 1) (fun j => if j = i then b else lb j) := by
  rcases lt8 h with rfl | rfl | rfl | rfl | rfl | rfl | rfl | rfl <;> rfl
set_option linter.unusedSimpArgs false
set_option linter.unusedVariables false
set_option maxRecDepth 20000
set_option maxHeartbeats 4000000
attribute [local congr] BND_cg COND_cg GEF_cg
attribute [local irreducible] capl slicea load1 loadn iaddr iaddra faddr storev newslice binv lookv mupd mdel mlenv mentry mestore slicev slicev3 slices indexs indexav textv rangev nexts clearv shiftv eqaggv convi buildv pickv lens lenl unv nilchk extractv partn JOIN
section
variable {w : World} {R : Value → World → Prop}
theorem ixq_Right (c : Cf) (hR : ∀ w', Fr [] w w' → R (.bool (decide (rightC c))) w') : CALL PR F_index_Right [.agg (cfC c).toArray] w R := by
  refine C_index_Right ?_
  unfold M_index_Right
  refine NEW_intro fun w1 b1 f1 z1 => ?_
  replace b1 : blk w1 (hsz w) = some (.cells (cfC c).toArray 64 (0, 0)) := b1
  have key : ∀ b : Bool, (b = true ↔ rightC c) → R (.bool b) w1 := fun b hb => by
    have := hR w1 f1
    have e : decide (rightC c) = b := by
      cases b
      · exact decide_eq_false fun h => by simpa using hb.2 h
      · exact decide_eq_true (hb.1 rfl)
    rwa [e] at this
  by_cases h1 : 1 ≤ c.lanes
  · by_cases h2 : c.lanes ≤ 8
    · by_cases h3 : 0 ≤ c.pay
      · by_cases h4 : c.pay ≤ 64
        · by_cases h5 : 1 ≤ c.del
          · (repeat refine gg ?_)
            refine key _ ?_
            simp only [decide_eq_true_eq, rightC]; omega
          · (repeat refine gg ?_)
            refine key _ ?_
            simp only [rightC]; simp; omega
        · (repeat refine gg ?_)
          refine key _ ?_
          simp only [rightC]; simp; omega
      · (repeat refine gg ?_)
        refine key _ ?_
        simp only [rightC]; simp; omega
    · (repeat refine gg ?_)
      refine key _ ?_
      simp only [rightC]; simp; omega
  · (repeat refine gg ?_)
    refine key _ ?_
    simp only [rightC]; simp; omega
theorem At.fill {w0 w w' : World} {F0 A : List Nat} {ps : List HP} {P : HP} {i : Nat} (h : At w0 F0 (stars ps) w) (hi : ps[i]? = some emp) (f : Fr [] w w') (hP : P.p w' A) (hA : ∀ b ∈ A, hsz w ≤ b) : At w0 F0 (stars (ps.set i P)) w' := by
  obtain ⟨B, ⟨_, rfl⟩, upd⟩ := h.upd i hi
  exact upd w' A P hP f fun b hb => .inr (hA b hb)
theorem At.swap02 {w0 w : World} {F0 : List Nat} {a b c d : HP} (h : At w0 F0 (stars [a, b, c, d]) w) : At w0 F0 (stars [c, b, a, d]) w := At.perm h ((List.Perm.swap b a _).trans (((List.Perm.swap c a _).cons b).trans (.swap c b _)))
theorem ix_New (c : Cf) (hno : ¬ rightC c → ∀ w', Fr [] w w' → R (.tuple #[.pointer none, .int .i64 1]) w')
    (hyes : rightC c → ∀ w' xb F, (indexHP xb (newP c)).p w' F → Fr [] w w' → (∀ b ∈ F, hsz w ≤ b) → R (.tuple #[pp xb, .int .i64 0]) w') : CALL PR F_index_New [.agg (cfC c).toArray] w R := by
  refine C_index_New ?_
  unfold M_index_New
  refine NEW_intro fun w1 b1 f1 z1 => ?_
  replace b1 : blk w1 (hsz w) = some (.cells (cfC c).toArray 64 (0, 0)) := b1
  (repeat (first | refine BND_step (loadn_all b1 rfl) ?_ | refine gg ?_))
  refine ixq_Right c fun w2 f2 => ?_
  have b2 : blk w2.drew (hsz w) = some (.cells (cfC c).toArray 64 (0, 0)) := f2.some (by simp) b1
  have f02 : Fr [] w w2.drew := (f1.trans' f2).trans' (Fr.drew _ _)
  by_cases hr : rightC c
  · (repeat refine gg ?_)
    refine ⟨fun _ w' => blk w' (hsz w) = some (.cells (cfC c).toArray 64 (0, 0)), b2, FLT.mk _ (fun w_ hw => loadn_all hw rfl) ?_⟩
    have h : At w2.drew [] (stars [emp, emp, emp, emp]) w2.drew := ⟨[], ⟨[], [], ⟨trivial, rfl⟩, ⟨[], [], ⟨trivial, rfl⟩, ⟨[], [], ⟨trivial, rfl⟩, ⟨[], [], ⟨trivial, rfl⟩, ⟨trivial, rfl⟩, rfl, by simp⟩, rfl, by simp⟩, rfl, by simp⟩, rfl, by simp⟩, by simp, Fr.refl _ _⟩
    refine join_v4 (fun a b c d w' => ∃ mb wb hb db, a = .map (some mb) ∧ b = pp wb ∧ c = .map (some hb) ∧ d = pp db ∧ At w2.drew [] (stars [mapF mb (fun _ => none), dueHP wb [], mapF hb (fun _ => none), deadHP db [] 0 []]) w') ?_ ?_
    · intro K hK
      repeat' first
        | exact hK _ _ _ _ _ ⟨_, _, _, _, rfl, rfl, rfl, rfl, h⟩
        | exact hK _ _ _ _ _ ⟨_, _, _, _, rfl, rfl, rfl, rfl, At.swap02 h⟩
        | refine And.intro (h.frame.some (by simp) b2) ?_
        | refine And.intro ?_ ?_
        | (refine NEWMAP_intro fun w' b' f' z' => ?_
           replace h := At.fill (i := 0) (P := mapF _ (fun _ => none)) (A := [_]) h rfl f' ⟨⟨#[], 0, [], b', MapB.nil _, fun _ => rfl⟩, rfl⟩ (by simp))
        | (refine NEWMAP_intro fun w' b' f' z' => ?_
           replace h := At.fill (i := 2) (P := mapF _ (fun _ => none)) (A := [_]) h rfl f' ⟨⟨#[], 0, [], b', MapB.nil _, fun _ => rfl⟩, rfl⟩ (by simp))
        | (refine due_New fun w' hb F h1 f' n' => ?_
           replace h := At.fill (i := 1) (P := dueHP hb []) h rfl f' h1 n')
        | (refine dd_New fun w' d F h1 n' f' => ?_
           replace h := At.fill (i := 3) (P := deadHP d [] 0 []) h rfl f' h1 n')
    · rintro a b e d w3 ⟨mb, wb, hb, db, rfl, rfl, rfl, rfl, h3⟩
      (repeat (first | refine gg ?_ | (apply BND_build (nwC c mb wb hb db 0 fun _ => 0); exact rfl)))
      refine NEW_intro fun w4 b4 f4 z4 => ?_
      replace b4 : blk w4 (hsz w3) = some (.cells (nwC c mb wb hb db 0 fun _ => 0).toArray 157 (0, 0)) := b4
      have h4 := h3.add f4 (P := pts (hsz w3) (nwC c mb wb hb db 0 fun _ => 0)) (A := [hsz w3]) ⟨⟨_, b4⟩, rfl⟩ (by simp)
      refine loop_up 0 8 (fun i w' => ∃ lb : Nat → Nat, At w2.drew [] (stars ([pts (hsz w3) (nwC c mb wb hb db i lb), mapF mb (fun _ => none), dueHP wb [], mapF hb (fun _ => none), deadHP db [] 0 []] ++ (List.range i).map fun j => laneHP (lb j) [])) w') ⟨fun _ => 0, h4⟩ (by omega) ?_
      rintro i w5 - hi ⟨lb, h5⟩ J m hJ
      by_cases hlt : i < 8
      · (repeat refine gg ?_)
        refine ln_New fun w6 b F hl f6 n6 => ?_
        have h6 := At.push (h5.fr0 (Fr.drew _ _)) f6 hl n6
        (repeat (first | refine BND_step (iaddra_8 (k := (i : Int)) (by omega)) ?_ | refine gg ?_))
        rw [Int.toNat_natCast]
        refine h6.store (i := 0) rfl ⟨rfl, rfl⟩ (by simp only [nwC, List.length_cons, List.length_nil]; omega) fun w7 h7 _ => ?_
        (repeat refine gg ?_)
        refine hJ _ hlt ⟨fun j => if j = i then b else lb j, ?_⟩
        have e1 : (List.range (i + 1)).map (fun j => laneHP (if j = i then b else lb j) []) = (List.range i).map (fun j => laneHP (lb j) []) ++ [laneHP b []] := by
          rw [List.range_succ, List.map_append]
          congr 1
          · exact List.map_congr_left fun j hj => by rw [if_neg (by have := List.mem_range.1 hj; omega)]
          · simp
        rw [e1, ← nwC_set hlt b, ← List.append_assoc]
        exact h7
      · obtain rfl : i = 8 := by omega
        (repeat refine gg ?_)
        obtain ⟨G, g1, g2, g3⟩ := ix_shut (s := newP c) (xb := hsz w3) (m := ⟨mb, wb, hb, db, lb⟩) (rep_new c) h5
        exact hyes hr _ _ G g1 (f02.trans' g3) fun b hb => by
          rcases g2 b hb with h | h
          · simp at h
          · have := f02.grow; omega
  · (repeat refine gg ?_)
    exact hno hr _ (f1.trans' f2)
end
end Go.Proofs.YtpgflmjeedbimaaGreat
end
