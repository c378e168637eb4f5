/- tumbrellaw10.DeadOnce answers true. No condition. -/
import Derived.Test.YthcbcolnahbihaaDeadLaw
import Derived.Test.YthcbcolnahbihaaMa
namespace Go.Proofs.Ythcbcolnahbihaa
open Go.Den

/-! ## Plain -/
/-- each row's place is where it stands. -/
def Numbered (rows : List Row) : Prop := ∀ (j : Nat) (r : Row), rows[j]? = some r → r.2 = (j : Int) + 1
theorem takeI_skip (n : Int) : ∀ (l1 l2 : List Row) (q : Int) (out : List Int), (∀ r ∈ l1, r.2 ≤ q) → takeI n (l1 ++ l2) q out = takeI n l2 q out
  | [], _, _, _, _ => rfl
  | r :: l1, l2, q, out, h => by
    have h0 := h r (by simp)
    rw [List.cons_append, takeI, if_neg (by omega)]
    exact takeI_skip n l1 l2 q out fun x hx => h x (by simp [hx])
theorem takeI_run (n : Nat) : ∀ (rs : List Row) (q : Int) (out : List Int), (∀ (j : Nat) (r : Row), rs[j]? = some r → r.2 = q + j + 1) → out.length ≤ n →
    takeI n rs q out = (out ++ (rs.take (n - out.length)).map (·.1), q + ((min (n - out.length) rs.length : Nat) : Int))
  | [], q, out, _, _ => by simp [takeI]
  | r :: rs, q, out, h, hl => by
    have h0 := h 0 r rfl
    by_cases hlt : out.length < n
    · rw [takeI, if_pos ⟨by omega, by omega⟩, takeI_run n rs r.2 (out ++ [r.1]) (fun j x hx => by have := h (j + 1) x (by simpa using hx); omega) (by simp; omega)]
      obtain ⟨m, hm⟩ : ∃ m, n - out.length = m + 1 := ⟨n - out.length - 1, by omega⟩
      have hm2 : n - (out ++ [r.1]).length = m := by simp; omega
      rw [hm2, hm]
      simp only [List.take_succ_cons, List.map_cons, List.append_assoc, List.singleton_append, List.length_cons]
      congr 1
      omega
    · rw [takeI, if_neg (by omega)]
      have hm : n - out.length = 0 := by omega
      have : ∀ (rs : List Row) (q : Int), takeI n rs q out = (out, q) := by
        intro rs
        induction rs with
        | nil => intro q; rfl
        | cons r rs ih => intro q; rw [takeI, if_neg (by omega)]; exact ih q
      rw [this, hm]
      simp
theorem takeI_num {rows : List Row} (hn : Numbered rows) (n p : Nat) (hp : p ≤ rows.length) : takeI n rows p [] = (((rows.drop p).take n).map (·.1), ((min (p + n) rows.length : Nat) : Int)) := by
  have h := takeI_skip n (rows.take p) (rows.drop p) p [] (fun r hr => by
    obtain ⟨j, hj, rfl⟩ := List.getElem_of_mem hr
    have hj2 : j < p := by rw [List.length_take] at hj; omega
    have := hn j _ (List.getElem?_eq_getElem (by omega))
    rw [List.getElem_take]
    omega)
  rw [List.take_append_drop] at h
  rw [h, takeI_run n _ _ _ (fun j r hr => by
    rw [List.getElem?_drop] at hr
    have := hn _ _ hr
    omega) (by simp)]
  simp only [List.length_nil, Nat.sub_zero, List.nil_append, List.length_drop, Prod.mk.injEq, true_and]
  omega
theorem take_min {α : Type} (l : List α) (n : Nat) : l.take (min n l.length) = l.take n := by
  by_cases h : n ≤ l.length
  · rw [Nat.min_eq_left h]
  · rw [Nat.min_eq_right (by omega), List.take_length, List.take_of_length_le (by omega)]
theorem atI_put (k k' : ByteArray) (v : Int) : ∀ S : Seen, atI (putI S k v) k' = if k' = k then some v else atI S k'
  | [] => by simp only [putI, atI]
  | (a, b) :: S => by
    simp only [putI]
    by_cases h : k = a
    · subst h
      simp only [if_true, atI]
      split <;> rfl
    · rw [if_neg h, atI, atI, atI_put k k' v S]
      by_cases h2 : k' = a
      · subst h2
        rw [if_pos rfl, if_pos rfl, if_neg (fun e => h e.symm)]
      · rw [if_neg h2, if_neg h2]
theorem mem_put {k : ByteArray} {v : Int} {p : ByteArray × Int} : ∀ {S : Seen}, p ∈ putI S k v → p.1 = k ∨ ∃ q ∈ S, q.1 = p.1
  | [], h => by simp [putI] at h; subst h; exact .inl rfl
  | (a, b) :: S, h => by
    simp only [putI] at h
    split at h
    · rcases List.mem_cons.1 h with rfl | h
      · exact .inl rfl
      · exact .inr ⟨p, by simp [h], rfl⟩
    · rcases List.mem_cons.1 h with rfl | h
      · exact .inr ⟨_, List.mem_cons_self, rfl⟩
      · rcases mem_put h with h | ⟨q, hq, e⟩
        · exact .inl h
        · exact .inr ⟨q, by simp [hq], e⟩
def KeysIn (S : Seen) (k1 k2 : ByteArray) : Prop := ∀ p ∈ S, p.1 = k1 ∨ p.1 = k2
theorem KeysIn.len {S : Seen} {k1 k2 : ByteArray} (h : KeysIn S k1 k2) (hn : (S.map (·.1)).Nodup) : S.length ≤ 2 := by
  match S, hn, h with
  | [], _, _ => simp
  | [_], _, _ => simp
  | [_, _], _, _ => simp
  | a :: b :: c :: S, hn, h =>
    simp only [List.map_cons, List.nodup_cons, List.mem_cons, not_or] at hn
    rcases h a (by simp) with ha | ha <;> rcases h b (by simp) with hb | hb <;> rcases h c (by simp) with hc | hc <;> simp_all
theorem KeysIn.put {S : Seen} {k1 k2 k : ByteArray} {v : Int} (h : KeysIn S k1 k2) (hk : k = k1 ∨ k = k2) : KeysIn (putI S k v) k1 k2 := by
  intro p hp
  rcases mem_put hp with e | ⟨q, hq, e⟩
  · rw [e]; exact hk
  · rw [← e]; exact h q hq
/-- a name's key. -/
def keyN (name : ByteArray) : ByteArray := txt (foldB name.data.toList)
/-- Next of a known kind of name. -/
theorem next_num {rows : List Row} {seen : Seen} {name : ByteArray} (hr : rightB (foldB name.data.toList) = true) (hl : seen.length < 8) (n : Int) :
    nextA rows seen name n = if n < 1 then ⟨[], 1, seen⟩ else ⟨(takeI n rows ((atI seen (keyN name)).getD 0) []).1, 0, putI seen (keyN name) (takeI n rows ((atI seen (keyN name)).getD 0) []).2⟩ := by
  unfold nextA
  by_cases h : n < 1
  · simp only [h, true_or, if_true]
  · have h1 : ¬ (n < 1 ∨ rightB (foldB name.data.toList) = false) := by simp [h, hr]
    have h2 : ¬ (atI seen (txt (foldB name.data.toList)) = none ∧ 8 ≤ seen.length) := by omega
    dsimp only
    rw [if_neg h1, if_neg h2, if_neg h]
    rfl

/-! ## Apart -/
def Sep (Fs : List (List Nat)) : Prop := ∀ (i j : Nat) (X Y : List Nat), i ≠ j → Fs[i]? = some X → Fs[j]? = some Y → ∀ b ∈ X, b ∉ Y
theorem Sep.set {Fs : List (List Nat)} {n k : Nat} {X X' : List Nat} (h : Sep Fs) (hlt : ∀ X ∈ Fs, ∀ b ∈ X, b < n) (hk : Fs[k]? = some X) (sub : ∀ b ∈ X', b ∈ X ∨ n ≤ b) : Sep (Fs.set k X') := by
  have hkl := (List.getElem?_eq_some_iff.1 hk).1
  intro i j A B hij hi hj b hb hB
  rw [List.getElem?_set] at hi hj
  by_cases h1 : k = i
  · subst h1
    rw [if_pos rfl, if_pos hkl] at hi
    rw [if_neg hij] at hj
    cases hi
    rcases sub b hb with h2 | h2
    · exact h k j X B hij hk hj b h2 hB
    · have := hlt B (List.mem_of_getElem? hj) b hB; omega
  · rw [if_neg h1] at hi
    by_cases h2 : k = j
    · subst h2
      rw [if_pos rfl, if_pos hkl] at hj
      cases hj
      rcases sub b hB with h3 | h3
      · exact h i k A X hij hi hk b hb h3
      · have := hlt A (List.mem_of_getElem? hi) b hb; omega
    · rw [if_neg h2] at hj
      exact h i j A B hij hi hj b hb hB

/-! ## The walk -/
structure OnceAt (w0 w : World) (da db : Nat) (k1 k2 : ByteArray) (i : Nat) (vr va vl : Value) (rows : List Row) (sA sB : Seen) (pA pB : Nat) (FA FB Gr Ga Gl : List Nat) : Prop where
  a : DeadOwn w da rows rows.length sA FA
  b : DeadOwn w db rows rows.length sB FB
  r : Slc encU 1 w vr (rows.map (·.1)) Gr
  ta : Slc encU 1 w va ((rows.take pA).map (·.1)) Ga
  tb : Slc encU 1 w vl ((rows.take pB).map (·.1)) Gl
  sep : Sep [FA, FB, Gr, Ga, Gl]
  low : ∀ X ∈ [FA, FB, Gr, Ga, Gl], ∀ b ∈ X, hsz w0 ≤ b
  fr : Fr [] w0 w
  num : Numbered rows
  len : rows.length ≤ i
  hA : pA ≤ rows.length
  hB : pB ≤ rows.length
  eA : (atI sA k1).getD 0 = pA
  eB : (atI sB k1).getD 0 = pB
  kA : KeysIn sA k1 k2
  kB : KeysIn sB k1 k2
section
variable {w0 w : World} {da db i : Nat} {k1 k2 : ByteArray} {vr va vl : Value} {rows : List Row} {sA sB : Seen} {pA pB : Nat} {FA FB Gr Ga Gl : List Nat} {R : Value → World → Prop}
theorem OnceAt.lt (h : OnceAt w0 w da db k1 k2 i vr va vl rows sA sB pA pB FA FB Gr Ga Gl) : ∀ X ∈ [FA, FB, Gr, Ga, Gl], ∀ b ∈ X, b < hsz w := by
  intro X hX b hb
  simp only [List.mem_cons, List.not_mem_nil, or_false] at hX
  rcases hX with rfl | rfl | rfl | rfl | rfl
  · exact h.a.lt b hb
  · exact h.b.lt b hb
  · exact h.r.lt b hb
  · exact h.ta.lt b hb
  · exact h.tb.lt b hb
theorem low_set {n m k : Nat} {Fs : List (List Nat)} {X X' : List Nat} (h : ∀ X ∈ Fs, ∀ b ∈ X, n ≤ b) (hk : Fs[k]? = some X) (hm : n ≤ m) (sub : ∀ b ∈ X', b ∈ X ∨ m ≤ b) : ∀ Y ∈ Fs.set k X', ∀ b ∈ Y, n ≤ b := by
  intro Y hY b hb
  rcases List.mem_or_eq_of_mem_set hY with h1 | rfl
  · exact h Y h1 b hb
  · rcases sub b hb with h2 | h2
    · exact h X (List.mem_of_getElem? hk) b h2
    · omega
theorem OnceAt.nil (h : OnceAt w0 w da db k1 k2 i vr va vl rows sA sB pA pB FA FB Gr Ga Gl) {w' : World} (f : Fr [] w w') {i' : Nat} (hi : i ≤ i') : OnceAt w0 w' da db k1 k2 i' vr va vl rows sA sB pA pB FA FB Gr Ga Gl :=
  { h with a := h.a.fr0 f, b := h.b.fr0 f, r := h.r.fr f (by simp), ta := h.ta.fr f (by simp), tb := h.tb.fr f (by simp), fr := h.fr.trans' f, len := by have := h.len; omega }
/-- told to one in a. -/
theorem once_nextA {one : ByteArray} (h : OnceAt w0 w da db k1 k2 i vr va vl rows sA sB pA pB FA FB Gr Ga Gl) (hk : keyN one = k1) (hr : rightB (foldB one.data.toList) = true) (hs : one.size ≤ 100) (hi : i ≤ 200) (n : Int) {K : Value → Value → World → Prop}
    (hR : ∀ w2 va' sA' pA' Ga' (e : Int), OnceAt w0 w2 da db k1 k2 i vr va' vl rows sA' sB pA' pB FA FB Gr Ga' Gl → (n = 200 → e = 0 ∧ pA' = rows.length) →
      (∀ b o, blk w b = some o → (∀ X ∈ [FA, FB, Gr, Ga, Gl], b ∉ X) → blk w2 b = some o ∧ ∀ X ∈ [FA, FB, Gr, Ga', Gl], b ∉ X) → K va' (.int .i64 e) w2) :
    CALL PR F_dead_Dead_Next [.pointer (some ⟨da, 0, none⟩), .string one, .int .i64 n] w fun t w1 => BND (extractv t 0) fun m => BND (extractv t 1) fun e => APPEND 29 1 8 (Value.int .u64 0) va m w1 fun t2 w2 => K t2 e w2 := by
  have hlen := h.len
  have hsl := h.kA.len h.a.once
  refine dd_Next h.a (by omega) (by omega) n fun w1 v G o1 s1 hG f1 => ?_
  rw [next_num hr (by omega), hk, h.eA] at o1 s1 ⊢
  refine BND_step (v := v) rfl ?_
  have hz := h.fr.grow
  have hz1 := f1.grow
  have keepB : ∀ {w2 : World} {G' : List Nat}, Fr FA w w1 → Fr Ga w1 w2 → (∀ b ∈ G', b ∈ Ga ∨ hsz w1 ≤ b) → ∀ b o, blk w b = some o → (∀ X ∈ [FA, FB, Gr, Ga, Gl], b ∉ X) → blk w2 b = some o ∧ ∀ X ∈ [FA, FB, Gr, G', Gl], b ∉ X := by
    intro w2 G' g1 g2 sb b o hb hX
    have hbl := blk_lt hb
    refine ⟨g2.some (hX Ga (by simp)) (g1.some (hX FA (by simp)) hb), ?_⟩
    intro X hm hbX
    simp only [List.mem_cons, List.not_mem_nil, or_false] at hm
    have hG' : b ∉ G' := fun hg => by
      rcases sb b hg with h2 | h2
      · exact hX Ga (by simp) h2
      · omega
    rcases hm with rfl | rfl | rfl | rfl | rfl
    · exact hX _ (by simp) hbX
    · exact hX _ (by simp) hbX
    · exact hX _ (by simp) hbX
    · exact hG' hbX
    · exact hX _ (by simp) hbX
  have ta1 := h.ta.fr f1 fun b hb hA => h.sep 3 0 Ga FA (by decide) rfl rfl b hb hA
  by_cases hn : n < 1
  · simp only [hn, if_true] at o1 s1 ⊢
    refine BND_step (v := .int .i64 1) rfl ?_
    refine APPEND_slc ta1 (s1.loads encU_len) encU_len encU_one rfl (by simp; omega) (by simp; omega) fun t2 w2 Ga' s2 f2 sub => ?_
    rw [List.append_nil] at s2
    have hlt1 : ∀ X ∈ [FA, FB, Gr, Ga, Gl], ∀ b ∈ X, b < hsz w1 := fun X hX b hb => by have := h.lt X hX b hb; omega
    have apart : ∀ {j : Nat} {Y : List Nat}, j ≠ 3 → [FA, FB, Gr, Ga, Gl][j]? = some Y → ∀ b ∈ Y, b ∉ Ga := fun hj hY => h.sep _ 3 _ Ga hj hY rfl
    have apA : ∀ {j : Nat} {Y : List Nat}, j ≠ 0 → [FA, FB, Gr, Ga, Gl][j]? = some Y → ∀ b ∈ Y, b ∉ FA := fun hj hY => h.sep _ 0 _ FA hj hY rfl
    refine hR w2 t2 sA pA Ga' 1 ?_ (fun e => by omega) (keepB f1 f2 sub)
    exact { h with
      a := o1.fr f2 (apart (j := 0) (by decide) rfl)
      b := (h.b.fr f1 (apA (j := 1) (by decide) rfl)).fr f2 (apart (j := 1) (by decide) rfl)
      r := (h.r.fr f1 (apA (j := 2) (by decide) rfl)).fr f2 (apart (j := 2) (by decide) rfl)
      ta := s2
      tb := (h.tb.fr f1 (apA (j := 4) (by decide) rfl)).fr f2 (apart (j := 4) (by decide) rfl)
      sep := h.sep.set (k := 3) hlt1 rfl sub
      low := low_set (k := 3) h.low rfl (by omega) sub
      fr := (h.fr.trans f1 fun b hb => .inr (h.low FA (by simp) b hb)).trans f2 fun b hb => .inr (h.low Ga (by simp) b hb) }
  · obtain ⟨m, rfl⟩ : ∃ m : Nat, n = m := ⟨n.toNat, by omega⟩
    simp only [hn, if_false, takeI_num h.num m pA h.hA] at o1 s1 ⊢
    refine BND_step (v := .int .i64 0) rfl ?_
    refine APPEND_slc ta1 (s1.loads encU_len) encU_len encU_one rfl (by simp; omega) (by simp; omega) fun t2 w2 Ga' s2 f2 sub => ?_
    have hlt1 : ∀ X ∈ [FA, FB, Gr, Ga, Gl], ∀ b ∈ X, b < hsz w1 := fun X hX b hb => by have := h.lt X hX b hb; omega
    have apart : ∀ {j : Nat} {Y : List Nat}, j ≠ 3 → [FA, FB, Gr, Ga, Gl][j]? = some Y → ∀ b ∈ Y, b ∉ Ga := fun hj hY => h.sep _ 3 _ Ga hj hY rfl
    have apA : ∀ {j : Nat} {Y : List Nat}, j ≠ 0 → [FA, FB, Gr, Ga, Gl][j]? = some Y → ∀ b ∈ Y, b ∉ FA := fun hj hY => h.sep _ 0 _ FA hj hY rfl
    refine hR w2 t2 (putI sA k1 ((min (pA + m) rows.length : Nat) : Int)) (min (pA + m) rows.length) Ga' 0 ?_ (fun e => ⟨rfl, by omega⟩) (keepB f1 f2 sub)
    exact { h with
      a := o1.fr f2 (apart (j := 0) (by decide) rfl)
      b := (h.b.fr f1 (apA (j := 1) (by decide) rfl)).fr f2 (apart (j := 1) (by decide) rfl)
      r := (h.r.fr f1 (apA (j := 2) (by decide) rfl)).fr f2 (apart (j := 2) (by decide) rfl)
      ta := by rw [take_min, List.take_add, List.map_append]; exact s2
      tb := (h.tb.fr f1 (apA (j := 4) (by decide) rfl)).fr f2 (apart (j := 4) (by decide) rfl)
      sep := h.sep.set (k := 3) hlt1 rfl sub
      low := low_set (k := 3) h.low rfl (by omega) sub
      fr := (h.fr.trans f1 fun b hb => .inr (h.low FA (by simp) b hb)).trans f2 fun b hb => .inr (h.low Ga (by simp) b hb)
      hA := by omega
      eA := by rw [atI_put, if_pos rfl]; rfl
      kA := h.kA.put (.inl rfl) }
/-- told to one in b. -/
theorem once_nextB {one : ByteArray} (h : OnceAt w0 w da db k1 k2 i vr va vl rows sA sB pA pB FA FB Gr Ga Gl) (hk : keyN one = k1) (hr : rightB (foldB one.data.toList) = true) (hs : one.size ≤ 100) (hi : i ≤ 200) (n : Int) {K : Value → Value → World → Prop}
    (hR : ∀ w2 vl' sB' pB' Gl' (e : Int), OnceAt w0 w2 da db k1 k2 i vr va vl' rows sA sB' pA pB' FA FB Gr Ga Gl' → (n = 200 → e = 0 ∧ pB' = rows.length) →
      (∀ b o, blk w b = some o → (∀ X ∈ [FA, FB, Gr, Ga, Gl], b ∉ X) → blk w2 b = some o ∧ ∀ X ∈ [FA, FB, Gr, Ga, Gl'], b ∉ X) → K vl' (.int .i64 e) w2) :
    CALL PR F_dead_Dead_Next [.pointer (some ⟨db, 0, none⟩), .string one, .int .i64 n] w fun t w1 => BND (extractv t 0) fun m => BND (extractv t 1) fun e => APPEND 29 1 8 (Value.int .u64 0) vl m w1 fun t2 w2 => K t2 e w2 := by
  have hlen := h.len
  have hsl := h.kB.len h.b.once
  refine dd_Next h.b (by omega) (by omega) n fun w1 v G o1 s1 hG f1 => ?_
  rw [next_num hr (by omega), hk, h.eB] at o1 s1 ⊢
  refine BND_step (v := v) rfl ?_
  have hz := h.fr.grow
  have hz1 := f1.grow
  have keepB : ∀ {w2 : World} {G' : List Nat}, Fr FB w w1 → Fr Gl w1 w2 → (∀ b ∈ G', b ∈ Gl ∨ hsz w1 ≤ b) → ∀ b o, blk w b = some o → (∀ X ∈ [FA, FB, Gr, Ga, Gl], b ∉ X) → blk w2 b = some o ∧ ∀ X ∈ [FA, FB, Gr, Ga, G'], b ∉ X := by
    intro w2 G' g1 g2 sb b o hb hX
    have hbl := blk_lt hb
    refine ⟨g2.some (hX Gl (by simp)) (g1.some (hX FB (by simp)) hb), ?_⟩
    intro X hm hbX
    simp only [List.mem_cons, List.not_mem_nil, or_false] at hm
    have hG' : b ∉ G' := fun hg => by
      rcases sb b hg with h2 | h2
      · exact hX Gl (by simp) h2
      · omega
    rcases hm with rfl | rfl | rfl | rfl | rfl
    · exact hX _ (by simp) hbX
    · exact hX _ (by simp) hbX
    · exact hX _ (by simp) hbX
    · exact hX _ (by simp) hbX
    · exact hG' hbX
  have ta1 := h.tb.fr f1 fun b hb hA => h.sep 4 1 Gl FB (by decide) rfl rfl b hb hA
  by_cases hn : n < 1
  · simp only [hn, if_true] at o1 s1 ⊢
    refine BND_step (v := .int .i64 1) rfl ?_
    refine APPEND_slc ta1 (s1.loads encU_len) encU_len encU_one rfl (by simp; omega) (by simp; omega) fun t2 w2 Gl' s2 f2 sub => ?_
    rw [List.append_nil] at s2
    have hlt1 : ∀ X ∈ [FA, FB, Gr, Ga, Gl], ∀ b ∈ X, b < hsz w1 := fun X hX b hb => by have := h.lt X hX b hb; omega
    have apart : ∀ {j : Nat} {Y : List Nat}, j ≠ 4 → [FA, FB, Gr, Ga, Gl][j]? = some Y → ∀ b ∈ Y, b ∉ Gl := fun hj hY => h.sep _ 4 _ Gl hj hY rfl
    have apA : ∀ {j : Nat} {Y : List Nat}, j ≠ 1 → [FA, FB, Gr, Ga, Gl][j]? = some Y → ∀ b ∈ Y, b ∉ FB := fun hj hY => h.sep _ 1 _ FB hj hY rfl
    refine hR w2 t2 sB pB Gl' 1 ?_ (fun e => by omega) (keepB f1 f2 sub)
    exact { h with
      b := o1.fr f2 (apart (j := 1) (by decide) rfl)
      a := (h.a.fr f1 (apA (j := 0) (by decide) rfl)).fr f2 (apart (j := 0) (by decide) rfl)
      r := (h.r.fr f1 (apA (j := 2) (by decide) rfl)).fr f2 (apart (j := 2) (by decide) rfl)
      tb := s2
      ta := (h.ta.fr f1 (apA (j := 3) (by decide) rfl)).fr f2 (apart (j := 3) (by decide) rfl)
      sep := h.sep.set (k := 4) hlt1 rfl sub
      low := low_set (k := 4) h.low rfl (by omega) sub
      fr := (h.fr.trans f1 fun b hb => .inr (h.low FB (by simp) b hb)).trans f2 fun b hb => .inr (h.low Gl (by simp) b hb) }
  · obtain ⟨m, rfl⟩ : ∃ m : Nat, n = m := ⟨n.toNat, by omega⟩
    simp only [hn, if_false, takeI_num h.num m pB h.hB] at o1 s1 ⊢
    refine BND_step (v := .int .i64 0) rfl ?_
    refine APPEND_slc ta1 (s1.loads encU_len) encU_len encU_one rfl (by simp; omega) (by simp; omega) fun t2 w2 Gl' s2 f2 sub => ?_
    have hlt1 : ∀ X ∈ [FA, FB, Gr, Ga, Gl], ∀ b ∈ X, b < hsz w1 := fun X hX b hb => by have := h.lt X hX b hb; omega
    have apart : ∀ {j : Nat} {Y : List Nat}, j ≠ 4 → [FA, FB, Gr, Ga, Gl][j]? = some Y → ∀ b ∈ Y, b ∉ Gl := fun hj hY => h.sep _ 4 _ Gl hj hY rfl
    have apA : ∀ {j : Nat} {Y : List Nat}, j ≠ 1 → [FA, FB, Gr, Ga, Gl][j]? = some Y → ∀ b ∈ Y, b ∉ FB := fun hj hY => h.sep _ 1 _ FB hj hY rfl
    refine hR w2 t2 (putI sB k1 ((min (pB + m) rows.length : Nat) : Int)) (min (pB + m) rows.length) Gl' 0 ?_ (fun e => ⟨rfl, by omega⟩) (keepB f1 f2 sub)
    exact { h with
      b := o1.fr f2 (apart (j := 1) (by decide) rfl)
      a := (h.a.fr f1 (apA (j := 0) (by decide) rfl)).fr f2 (apart (j := 0) (by decide) rfl)
      r := (h.r.fr f1 (apA (j := 2) (by decide) rfl)).fr f2 (apart (j := 2) (by decide) rfl)
      tb := by rw [take_min, List.take_add, List.map_append]; exact s2
      ta := (h.ta.fr f1 (apA (j := 3) (by decide) rfl)).fr f2 (apart (j := 3) (by decide) rfl)
      sep := h.sep.set (k := 4) hlt1 rfl sub
      low := low_set (k := 4) h.low rfl (by omega) sub
      fr := (h.fr.trans f1 fun b hb => .inr (h.low FB (by simp) b hb)).trans f2 fun b hb => .inr (h.low Gl (by simp) b hb)
      hB := by omega
      eB := by rw [atI_put, if_pos rfl]; rfl
      kB := h.kB.put (.inl rfl) }
/-- what the other one is told changes nothing for the one. -/
theorem once_two {two : ByteArray} (h : OnceAt w0 w da db k1 k2 i vr va vl rows sA sB pA pB FA FB Gr Ga Gl) (hk : keyN two = k2) (hne : k1 ≠ k2) (hr : rightB (foldB two.data.toList) = true) (hs : two.size ≤ 100) (hi : i ≤ 200) (n : Int)
    (hR : ∀ w2 sA' v, OnceAt w0 w2 da db k1 k2 i vr va vl rows sA' sB pA pB FA FB Gr Ga Gl → (∀ b o, blk w b = some o → b ∉ FA → blk w2 b = some o) → R v w2) :
    CALL PR F_dead_Dead_Next [.pointer (some ⟨da, 0, none⟩), .string two, .int .i64 n] w R := by
  have hlen := h.len
  have hsl := h.kA.len h.a.once
  refine dd_Next h.a (by omega) (by omega) n fun w1 v G o1 s1 hG f1 => ?_
  have apA : ∀ {j : Nat} {Y : List Nat}, j ≠ 0 → [FA, FB, Gr, Ga, Gl][j]? = some Y → ∀ b ∈ Y, b ∉ FA := fun hj hY => h.sep _ 0 _ FA hj hY rfl
  refine hR w1 (nextA rows sA two n).seen _ ?_ fun b o hb hn => f1.some hn hb
  have hsee : (nextA rows sA two n).seen = sA ∨ ∃ q, (nextA rows sA two n).seen = putI sA k2 q := by
    rw [next_num hr (by omega), hk]
    split
    · exact .inl rfl
    · exact .inr ⟨_, rfl⟩
  exact { h with
    a := o1
    b := h.b.fr f1 (apA (j := 1) (by decide) rfl)
    r := h.r.fr f1 (apA (j := 2) (by decide) rfl)
    ta := h.ta.fr f1 (apA (j := 3) (by decide) rfl)
    tb := h.tb.fr f1 (apA (j := 4) (by decide) rfl)
    fr := h.fr.trans f1 fun b hb => .inr (h.low FA (by simp) b hb)
    eA := by
      rcases hsee with e | ⟨q, e⟩
      · rw [e]; exact h.eA
      · rw [e, atI_put, if_neg hne]; exact h.eA
    kA := by
      rcases hsee with e | ⟨q, e⟩
      · rw [e]; exact h.kA
      · rw [e]; exact h.kA.put (.inr rfl) }
theorem Numbered.snoc {rows : List Row} (h : Numbered rows) (id : Int) : Numbered (rows ++ [(id, (rows.length : Int) + 1)]) := by
  intro j r hr
  by_cases hj : j < rows.length
  · rw [List.getElem?_append_left hj] at hr
    exact h j r hr
  · rw [List.getElem?_append_right (by omega)] at hr
    have : j = rows.length := by
      by_cases e : j - rows.length = 0
      · omega
      · simp [e] at hr
    subst this
    simp at hr; subst hr; rfl
theorem take_snoc' {rows : List Row} {p : Nat} (h : p ≤ rows.length) (x : Row) : (rows ++ [x]).take p = rows.take p := by
  rw [List.take_append_of_le_length h]
/-- an id is put into both. -/
theorem once_add {x : Act} {xb T : Nat} (h : OnceAt w0 w da db k1 k2 i vr va vl rows sA sB pA pB FA FB Gr Ga Gl) (hx : blk w xb = some (.cells (encA x).toArray T (0, 0))) (hxF : ∀ X ∈ [FA, FB, Gr, Ga, Gl], xb ∉ X) (hi : i ≤ 200) {K : Value → World → Prop}
    (hR : ∀ w2 vr' rows' FA' FB' Gr', OnceAt w0 w2 da db k1 k2 (i + 1) vr' va vl rows' sA sB pA pB FA' FB' Gr' Ga Gl → K vr' w2) :
    CALL PR F_dead_Dead_Add [.pointer (some ⟨da, 0, none⟩), .int .u64 x.2.1] w fun t65 w15 =>
      JOIN (α := Value → World → Prop) (fun k => COND t65
        (BND (faddr 1 (.pointer (some ⟨xb, 0, none⟩))) fun t67 => BND (load1 w15 t67) fun t68 => BND (newslice 29 #[(Value.int .u64 0)] 1 1 [(0, 1, t68)] w15) fun p_ => NEW p_ fun t69 w18 =>
          APPEND 29 1 8 (Value.int .u64 0) vr t69 w18 fun t70 w19 => k t70 w19)
        (k vr w15))
      (fun r w16 => BND (faddr 1 (.pointer (some ⟨xb, 0, none⟩))) fun t72 => BND (load1 w16 t72) fun t73 => CALL PR F_dead_Dead_Add [.pointer (some ⟨db, 0, none⟩), t73] w16 fun _ w17 => K r w17) := by
  have hlen := h.len
  have hlt0 := h.lt
  have hxl := blk_lt hx
  have hz := h.fr.grow
  refine dd_Add h.a (by omega) (by omega) (by omega) x.2.1 fun w1 FA' o1 sub1 f1 => ?_
  have hz1 := f1.grow
  have apA : ∀ {j : Nat} {Y : List Nat}, j ≠ 0 → [FA, FB, Gr, Ga, Gl][j]? = some Y → ∀ b ∈ Y, b ∉ FA := fun hj hY => h.sep _ 0 _ FA hj hY rfl
  have sep1 : Sep [FA', FB, Gr, Ga, Gl] := h.sep.set (k := 0) hlt0 rfl sub1
  have low1 : ∀ X ∈ [FA', FB, Gr, Ga, Gl], ∀ b ∈ X, hsz w0 ≤ b := low_set (k := 0) h.low rfl hz sub1
  have fr1 : Fr [] w0 w1 := h.fr.trans f1 fun b hb => .inr (h.low FA (by simp) b hb)
  have b1 := h.b.fr f1 (apA (j := 1) (by decide) rfl)
  have r1 := h.r.fr f1 (apA (j := 2) (by decide) rfl)
  have ta1 := h.ta.fr f1 (apA (j := 3) (by decide) rfl)
  have tb1 := h.tb.fr f1 (apA (j := 4) (by decide) rfl)
  have x1 := f1.some (hxF FA (by simp)) hx
  have hxF1 : xb ∉ FB := hxF FB (by simp)
  -- the other one
  have second : ∀ (w2 : World) (vr' : Value) (rows' : List Row) (L' : Int) (Gr' : List Nat), rows' = addR rows rows.length x.2.1 → L' = addL rows rows.length x.2.1 → (rows'.length : Int) = L' → Numbered rows' → rows'.length ≤ i + 1 → rows.length ≤ rows'.length → (∀ p, p ≤ rows.length → rows'.take p = rows.take p) →
      DeadOwn w2 da rows' L' sA FA' → DeadOwn w2 db rows rows.length sB FB → Slc encU 1 w2 vr' (rows'.map (·.1)) Gr' → Slc encU 1 w2 va ((rows.take pA).map (·.1)) Ga → Slc encU 1 w2 vl ((rows.take pB).map (·.1)) Gl → Sep [FA', FB, Gr', Ga, Gl] →
      (∀ X ∈ [FA', FB, Gr', Ga, Gl], ∀ b ∈ X, hsz w0 ≤ b) → Fr [] w0 w2 → blk w2 xb = some (.cells (encA x).toArray T (0, 0)) →
      BND (faddr 1 (.pointer (some ⟨xb, 0, none⟩))) fun t72 => BND (load1 w2 t72) fun t73 => CALL PR F_dead_Dead_Add [.pointer (some ⟨db, 0, none⟩), t73] w2 fun _ w17 => K vr' w17 := by
    intro w2 vr' rows' L' Gr' hrows hL hlen' hnum hle hle2 htk a2 b2 r2 ta2 tb2 sep2 low2 fr2 x2
    refine BND_step (faddr_ptr _ _ _) <| BND_step (v := .int .u64 x.2.1) (load1_blk x2) <| dd_Add b2 (by omega) (by omega) (by omega) x.2.1 fun w3 FB' o3 sub3 f3 => ?_
    rw [← hrows, ← hL] at o3
    subst hlen'
    have hlt2 : ∀ X ∈ [FA', FB, Gr', Ga, Gl], ∀ b ∈ X, b < hsz w2 := by
      intro X hX b hb
      simp only [List.mem_cons, List.not_mem_nil, or_false] at hX
      rcases hX with rfl | rfl | rfl | rfl | rfl
      · exact a2.lt b hb
      · exact b2.lt b hb
      · exact r2.lt b hb
      · exact ta2.lt b hb
      · exact tb2.lt b hb
    have apB : ∀ {j : Nat} {Y : List Nat}, j ≠ 1 → [FA', FB, Gr', Ga, Gl][j]? = some Y → ∀ b ∈ Y, b ∉ FB := fun hj hY => sep2 _ 1 _ FB hj hY rfl
    have hz2 := fr2.grow
    refine hR w3 vr' rows' FA' FB' Gr' ?_
    exact {
      a := a2.fr f3 (apB (j := 0) (by decide) rfl)
      b := o3
      r := r2.fr f3 (apB (j := 2) (by decide) rfl)
      ta := by rw [htk pA h.hA]; exact ta2.fr f3 (apB (j := 3) (by decide) rfl)
      tb := by rw [htk pB h.hB]; exact tb2.fr f3 (apB (j := 4) (by decide) rfl)
      sep := sep2.set (k := 1) hlt2 rfl sub3
      low := low_set (k := 1) low2 rfl hz2 sub3
      fr := fr2.trans f3 fun b hb => .inr (low2 FB (by simp) b hb)
      num := hnum, len := hle, hA := by have := h.hA; omega, hB := by have := h.hB; omega, eA := h.eA, eB := h.eB, kA := h.kA, kB := h.kB }
  cases hh : hasI rows x.2.1 with
  | true =>
    refine JOIN_elim fun k hk => (COND_false _ _).2 ?_
    subst hk
    have e1 : addR rows rows.length x.2.1 = rows := by simp [addR, hh]
    have e2 : addL rows rows.length x.2.1 = rows.length := by simp [addL, hh]
    rw [e1, e2] at o1
    exact second w1 vr rows rows.length Gr e1.symm e2.symm rfl h.num (by omega) (Nat.le_refl _) (fun _ _ => rfl) o1 b1 r1 ta1 tb1 sep1 low1 fr1 x1
  | false =>
    refine JOIN_elim fun k hk => (COND_true _ _).2 ?_
    have e1 : addR rows rows.length x.2.1 = rows ++ [(x.2.1, (rows.length : Int) + 1)] := by simp [addR, hh]
    have e2 : addL rows rows.length x.2.1 = (rows.length : Int) + 1 := by simp [addL, hh]
    rw [e1, e2] at o1
    refine BND_step (faddr_ptr _ _ _) <| BND_step (v := .int .u64 x.2.1) (load1_blk x1) <| newone_step (enc := encU) (x := x.2.1) encU_len rfl fun t w2 s2 f2 z2 => ?_
    refine APPEND_slc (r1.fr f2 (by simp)) (s2.loads encU_len) encU_len encU_one rfl (by simp; omega) (by simp; omega) fun vr' w3 Gr' s3 f3 sub3 => ?_
    subst hk
    have apR : ∀ {j : Nat} {Y : List Nat}, j ≠ 2 → [FA', FB, Gr, Ga, Gl][j]? = some Y → ∀ b ∈ Y, b ∉ Gr := fun hj hY => sep1 _ 2 _ Gr hj hY rfl
    have hz2 := f2.grow
    have hz01 := fr1.grow
    have hlt1 : ∀ X ∈ [FA', FB, Gr, Ga, Gl], ∀ b ∈ X, b < hsz w2 := by
      intro X hX b hb
      simp only [List.mem_cons, List.not_mem_nil, or_false] at hX
      rcases hX with rfl | rfl | rfl | rfl | rfl
      · have := o1.lt b hb; omega
      · have := b1.lt b hb; omega
      · have := r1.lt b hb; omega
      · have := ta1.lt b hb; omega
      · have := tb1.lt b hb; omega
    refine second w3 vr' _ _ Gr' e1.symm e2.symm (by simp) (h.num.snoc _) (by simp; omega) (by simp) (fun p hp => take_snoc' hp _)
      ((o1.fr0 f2).fr f3 (apR (j := 0) (by decide) rfl)) ((b1.fr0 f2).fr f3 (apR (j := 1) (by decide) rfl)) (by simpa using s3) ((ta1.fr f2 (by simp)).fr f3 (apR (j := 3) (by decide) rfl)) ((tb1.fr f2 (by simp)).fr f3 (apR (j := 4) (by decide) rfl))
      (sep1.set (k := 2) hlt1 rfl sub3) (low_set (k := 2) low1 rfl (by omega) sub3) ((fr1.trans' f2).trans f3 fun b hb => .inr (low1 Gr (by simp) b hb)) (f3.some (hxF Gr (by simp)) (f2.some (by simp) x1))

theorem dead_once {v : Value} {xs : List Act} {one two : ByteArray} (hv : Arr encA 4 w v xs) (h1s : one.size ≤ 140737488351232) (h2s : two.size ≤ 140737488351232) (hR : ∀ w', Fr [] w w' → R (.bool true) w') :
    CALL PR F_tumbrellaw10_DeadOnce [v, .string one, .string two] w R := by
  refine C_tumbrellaw10_DeadOnce ?_
  unfold M_tumbrellaw10_DeadOnce
  refine lw_awake fun w1 f1 => BND_step (unv_not _) <| (COND_false _ _).2 <| lw_large (hv.fr f1 (by simp)) (fun w2 f2 => ?_) (fun w2 f2 hl hsm => ?_)
  · simp only [isB_tf, grd_false, GEF_false, BND_some, pickv_true, COND_true]
    exact hR _ (f1.trans' f2)
  have f2' := f1.trans' f2
  simp only [isB_ff, grd_true]
  refine BND_step rfl <| BND_step (lens_string _) <| BND_step rfl <| BND_step (lens_string _) ?_
  refine BND_step (v := .int .i64 ((one.size : Int) + two.size)) (by rw [binv_add, wrap_i64 (by omega) (by omega)]) <| BND_step (binv_gtr _ _ _ _) <| BND_step (pickv_false _ _) ?_
  by_cases hs : 100 < (one.size : Int) + two.size
  · simp only [hs, decide_true, isB_tf, grd_false, GEF_false, BND_some, pickv_true, COND_true]
    exact hR _ f2'
  simp only [hs, decide_false, isB_ff, grd_true, GEF_true]
  refine BND_step rfl <| rf_Fold (by omega) fun w3 f3 => ?_
  have hfs : (txt (foldB one.data.toList)).size < 1000000 := by
    rw [txt_size]; have := foldB_len one.data.toList; rw [list_len] at this; omega
  have hft : (txt (foldB two.data.toList)).size < 1000000 := by
    rw [txt_size]; have := foldB_len two.data.toList; rw [list_len] at this; omega
  refine rf_Right hfs fun w4 f4 => BND_step (unv_not _) <| BND_step (pickv_false _ _) ?_
  rw [txt_list]
  have f4' := f2'.trans' <| f3.trans' f4
  cases h1 : rightB (foldB one.data.toList) with
  | false =>
    simp only [Bool.not_false, isB_tf, grd_false, GEF_false, BND_some, pickv_true, COND_true]
    exact hR _ f4'
  | true =>
  simp only [Bool.not_true, isB_ff, grd_true, GEF_true]
  refine BND_step rfl <| rf_Fold (by omega) fun w5 f5 => rf_Right hft fun w6 f6 => BND_step (unv_not _) <| BND_step (pickv_false _ _) ?_
  rw [txt_list]
  have f6' := f4'.trans' <| f5.trans' f6
  cases h2 : rightB (foldB two.data.toList) with
  | false =>
    simp only [Bool.not_false, isB_tf, grd_false, GEF_false, BND_some, pickv_true, COND_true]
    exact hR _ f6'
  | true =>
  simp only [Bool.not_true, isB_ff, grd_true, GEF_true]
  refine BND_step rfl <| rf_Fold (by omega) fun w7 f7 => BND_step rfl <| rf_Fold (by omega) fun w8 f8 => BND_step (str_eqd _ _) <| BND_step (pickv_false _ _) ?_
  have f8' := f6'.trans' <| f7.trans' f8
  by_cases hne : txt (foldB one.data.toList) = txt (foldB two.data.toList)
  · exact COND_dec_true hne (hR _ f8')
  refine COND_dec_false hne ?_
  refine dd_New fun w9 da FA oA hFA f9 => dd_New fun w10 db FB oB hFB f10 => ?_
  have f10' : Fr [] w w10 := f8'.trans' <| f9.trans' f10
  have hv10 := hv.fr f10' (by simp)
  refine BND_step hv10.len ?_
  have hz9 := f9.grow
  have hstart : OnceAt w8 w10 da db (keyN one) (keyN two) 0 (.slice none 0 0) (.slice none 0 0) (.slice none 0 0) [] [] [] 0 0 FA FB [] [] [] := {
    a := oA.fr0 f10, b := oB, r := Slc.nil _ _ _, ta := Slc.nil _ _ _, tb := Slc.nil _ _ _
    sep := by
      have hd : ∀ b ∈ FA, b ∉ FB := fun b hb hb2 => by have := oA.lt b hb; have := hFB b hb2; omega
      intro i j X Y hij hi hj b hb
      match i, j, hi, hj with
      | 0, 0, _, _ => exact absurd rfl hij
      | 0, 1, hi, hj => cases hi; cases hj; exact hd b hb
      | 1, 0, hi, hj => cases hi; cases hj; exact fun h => hd b h hb
      | 1, 1, _, _ => exact absurd rfl hij
      | 2, _, hi, _ => cases hi; cases hb
      | 3, _, hi, _ => cases hi; cases hb
      | 4, _, hi, _ => cases hi; cases hb
      | i + 5, _, hi, _ => simp at hi
      | 0, 2, _, hj => cases hj; simp
      | 0, 3, _, hj => cases hj; simp
      | 0, 4, _, hj => cases hj; simp
      | 0, j + 5, _, hj => simp at hj
      | 1, 2, _, hj => cases hj; simp
      | 1, 3, _, hj => cases hj; simp
      | 1, 4, _, hj => cases hj; simp
      | 1, j + 5, _, hj => simp at hj
    low := by
      intro X hX b hb
      simp only [List.mem_cons, List.not_mem_nil, or_false] at hX
      rcases hX with rfl | rfl | rfl | rfl | rfl
      · exact hFA b hb
      · have := hFB b hb; omega
      · cases hb
      · cases hb
      · cases hb
    fr := f9.trans' f10, num := fun j r hr => by simp at hr
    len := by simp, hA := by simp, hB := by simp, eA := rfl, eB := rfl, kA := fun p hp => by simp at hp, kB := fun p hp => by simp at hp }
  refine ⟨fun vr va vl t w' => ∃ (i : Nat) (rows : List Row) (sA sB : Seen) (pA pB : Nat) (FA FB Gr Ga Gl : List Nat), t = .int .i64 i ∧ OnceAt w8 w' da db (keyN one) (keyN two) i vr va vl rows sA sB pA pB FA FB Gr Ga Gl ∧ i ≤ xs.length,
    fun _ _ _ t _ => match t with | .int _ n => xs.length - n.toNat | _ => 0, ⟨0, _, _, _, _, _, _, _, _, _, _, rfl, hstart, by omega⟩, ?_⟩
  rintro _ vr va vl _ w11 ⟨i, rows, sA, sB, pA, pB, FA, FB, Gr, Ga, Gl, rfl, h, hi⟩
  refine BND_step (binv_lss _ _ _ _) ?_
  by_cases hlt : i < xs.length
  · refine COND_dec_true (by omega) ?_
    have hx := List.getElem?_eq_getElem hlt
    generalize xs[i] = x at hx
    obtain ⟨p, ep, lp, _⟩ := (hv.fr (f8'.trans' h.fr) (by simp)).at hx rfl .i64
    refine BND_step ep <| BND_step lp <| box_step (zs := [.int .i64 0, .int .u64 0, .string ByteArray.empty, .int .i64 0]) (vs := encA x) rfl rfl (encA_one x) (by simp [encA]) fun w12 b12 f12 z12 => ?_
    have h12 := h.nil f12 (Nat.le_refl i)
    have hxF : ∀ X ∈ [FA, FB, Gr, Ga, Gl], hsz w11 ∉ X := fun X hX hb => by have := h.lt X hX _ hb; omega
    have fin : ∀ (vr va vl : Value) (w' : World) {rows : List Row} {sA sB : Seen} {pA pB : Nat} {FA FB Gr Ga Gl : List Nat}, OnceAt w8 w' da db (keyN one) (keyN two) (i + 1) vr va vl rows sA sB pA pB FA FB Gr Ga Gl → BND (binv .int .add (.int .i64 (i : Int)) (Value.int .i64 1)) fun t105_144 =>
        ((∃ (i : Nat) (rows : List Row) (sA sB : Seen) (pA pB : Nat) (FA FB Gr Ga Gl : List Nat), t105_144 = .int .i64 i ∧ OnceAt w8 w' da db (keyN one) (keyN two) i vr va vl rows sA sB pA pB FA FB Gr Ga Gl ∧ i ≤ xs.length) ∧
          (match t105_144 with | .int _ n => xs.length - n.toNat | _ => 0) < xs.length - (i : Int).toNat) := fun vr va vl w' _ _ _ _ _ _ _ _ _ _ hh =>
      BND_step (add1 (by omega)) ⟨⟨i + 1, _, _, _, _, _, _, _, _, _, _, rfl, hh, hlt⟩, by simp; omega⟩
    refine BND_step (faddr_ptr _ _ _) <| BND_step (v := .int .i64 x.1) (load1_blk b12) <| BND_step (binv_eql _ _ _ _) ?_
    refine JOIN_elim fun k hk => ?_
    by_cases e0 : x.1 = 0
    · refine COND_dec_true e0 <| BND_step (faddr_ptr _ _ _) <| BND_step (v := .int .u64 x.2.1) (load1_blk b12) ?_
      refine once_add h12 b12 hxF (by omega) (K := fun r w17 => k r va vl w17) fun w2 vr' rows' FA' FB' Gr' h2 => ?_
      subst hk
      exact fin _ _ _ _ h2
    · refine COND_dec_false e0 <| BND_step (binv_eql _ _ _ _) ?_
      refine JOIN_elim fun k2 hk2 => ?_
      by_cases e2 : x.1 = 2
      · refine COND_dec_true e2 <| BND_step (faddr_ptr _ _ _) <| BND_step (v := .int .i64 x.2.2.2) (load1_blk b12) ?_
        refine once_nextA h12 rfl h1 (by omega) (by omega) x.2.2.2 fun w21 va' sA' pA' Ga' e h21 _ keep => ?_
        obtain ⟨b21, hx21⟩ := keep _ _ b12 hxF
        refine BND_step (faddr_ptr _ _ _) <| BND_step (v := .int .i64 x.2.2.2) (load1_blk b21) <| BND_step (binv_rem _ _ _ _ (by decide)) ?_
        refine once_two h21 rfl hne h2 (by omega) (by omega) _ fun w22 sA2 v2 h22 keep2 => ?_
        have b22 := keep2 _ _ b21 (hx21 FA (by simp))
        refine BND_step (faddr_ptr _ _ _) <| BND_step (v := .int .i64 x.2.2.2) (load1_blk b22) ?_
        refine once_nextB h22 rfl h1 (by omega) (by omega) x.2.2.2 fun w23 vl' sB' pB' Gl' e h23 _ _ => ?_
        subst hk2; subst hk
        exact fin _ _ _ _ (h23.nil (Fr.refl _ _) (Nat.le_succ i))
      · refine COND_dec_false e2 ?_
        subst hk2; subst hk
        exact fin _ _ _ _ (h12.nil (Fr.refl _ _) (Nat.le_succ i))
  · refine COND_dec_false (by omega) ?_
    have hi2 : i ≤ 200 := by omega
    refine once_nextA h rfl h1 (by omega) hi2 200 fun w12 va' sA' pA' Ga' e h12 hAll _ => ?_
    obtain ⟨rfl, rfl⟩ := hAll rfl
    refine once_nextB h12 rfl h1 (by omega) hi2 200 fun w13 vl' sB' pB' Gl' e2 h13 hAll2 _ => ?_
    obtain ⟨rfl, rfl⟩ := hAll2 rfl
    have hlen := h.len
    have ta := h13.ta
    have tb := h13.tb
    rw [List.take_length] at ta tb
    have f13 := f8'.trans' h13.fr
    refine BND_step (binv_eql _ _ _ _) ?_
    simp only [decide_true, isB_tt, grd_true, BND_some, binv_eql, pickv_true, GEF_true]
    refine r2_Same ta.arr h13.r.arr (by simp; omega) fun w14 f14 => ?_
    simp only [decide_true, isB_tt, grd_true, BND_some, pickv_true, GEF_true]
    refine r2_Same (tb.fr f14 (by simp)).arr (h13.r.fr f14 (by simp)).arr (by simp; omega) fun w15 f15 => ?_
    rw [decide_eq_true rfl]
    exact hR _ (f13.trans' <| f14.trans' f15)
end
end Go.Proofs.Ythcbcolnahbihaa
