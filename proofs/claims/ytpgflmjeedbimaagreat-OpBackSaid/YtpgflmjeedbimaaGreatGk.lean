/- What all laws of layer 10 use: Same, large, do, awake. No condition but sizes. The document's list of the dead: what it is in memory; own, same; From. No condition but sizes. tumbrellaw10.DeadMade: for any rows and cursors it answers true. No condition but that a slice is no longer than memory. tumbrellaw10.DeadOnce answers true. No condition. Plain law: what holds of a list of the dead behind any acts; that it is made again of what it tells. No condition. Sums of 32 bits, in plain words. No condition. Numbers of few bytes, in plain words. No condition. Sums of bytes, walked. No condition but sizes. Parts of a slice that came in. No condition. Sums put behind bytes, and taken off. No condition but sizes. Numbers of few bytes, walked. No condition but sizes. Frames, in plain words. No condition. Frames, walked. No condition but sizes. Records, in plain words. No condition. Records, walked. No condition but sizes. Records read, walked. No condition but sizes. Acts of a queue, in plain words: which may be, their records, and back. No condition. What an act does to a queue, in plain words; what it keeps. No condition. Acts of a queue walked: what an act keeps, which may be, and its record. No condition but that numbers are of 64 bits. A record's act, walked. Conditions: numbers are of 64 bits; a slice's length is within its capacity. The document's numbers as bytes, walked. No condition but sizes. Where up to 32 bits, one behind the other, are turned, a sum tells so. No condition. Bytes compared. No condition but sizes. The document's sums, walked. No condition but sizes. The document's frames, walked. No condition but sizes. The document's records, walked: which may be, their bytes, and back. Conditions: numbers are of 64 bits; sizes. -/
import Derived.Test.YtpgflmjeedbimaaGreatGj
import Derived.Test.YtpgflmjeedbimaaGreatMa
import Derived.Test.YtpgflmjeedbimaaGreatGi
import Derived.Test.YtpgflmjeedbimaaGreatGd
set_option linter.unusedVariables false
set_option linter.unusedSimpArgs false
section
namespace Go.Proofs.YtpgflmjeedbimaaGreat
open Go.Den
theorem slc_cells {α : Type} {enc : α → List Value} {sz : Nat} (hl : ∀ x, (enc x).length = sz) {w : World} {b T : Nat} {xs : List α} (hb : blk w b = some (.cells (flat enc xs).toArray T (0, 0))) :
    Slc enc sz w (.slice (some ⟨b, 0, none⟩) xs.length xs.length) xs [b] :=
  .inr ⟨b, xs.length, _, T, rfl, hb, Nat.le_refl _, by simp [flat_len hl], rfl, fun i x hx j hj => by
    have := flat_get hl xs i x j hx hj
    simpa using this⟩
theorem newlist_step {α : Type} {enc : α → List Value} {sz : Nat} (hl : ∀ x, (enc x).length = sz) (xs : List α) {E n : Nat} {zero : Array Value} {ps : List (Nat × Nat × Value)} {w : World} {k : Value → World → Prop}
    (he : newslice E zero sz n ps w = some (.slice (some ⟨hsz w, 0, none⟩) xs.length xs.length, w.alloc (.cells (flat enc xs).toArray E)))
    (h : ∀ t w1, Slc enc sz w1 t xs [hsz w] → Fr [] w w1 → k t w1) : BND (newslice E zero sz n ps w) fun p => NEW p k :=
  BND_step he <| (NEW_pair _ _ _).2 <| h _ _ (slc_cells hl (blk_alloc_new _ _)) (Fr.alloc _ _ _)
theorem newslice_two (E : Nat) (zero : Array Value) (a b : Value) (ha : a.cells = #[a]) (hb : b.cells = #[b]) (w : World) :
    newslice E zero 1 2 [(0, 1, a), (1, 1, b)] w = some (.slice (some ⟨hsz w, 0, none⟩) 2 2, w.alloc (.cells #[a, b] E)) := by
  unfold newslice
  have hs : ((Array.range (2 * 1)).map (zero[· % zero.size]!)).size = 2 := by simp
  generalize (Array.range (2 * 1)).map (zero[· % zero.size]!) = cs at hs
  obtain ⟨x, y, rfl⟩ : ∃ x y, cs = #[x, y] := by
    obtain ⟨l⟩ := cs
    match l, hs with
    | [x, y], _ => exact ⟨x, y, rfl⟩
  have h1 : fillv #[x, y] [(0, 1, a), (1, 1, b)] = some #[a, b] := by
    simp [fillv, ha, hb]
  rw [h1]
  rfl
section
variable {w : World} {R : Value → World → Prop}
theorem r2_Same {a b : Value} {xs ys : List Int} (ha : Arr encUd 1 w a xs) (hb : Arr encUd 1 w b ys) (hn : xs.length < 1000000000) (hR : ∀ w', Fr [] w w' → R (.bool (decide (xs = ys))) w') : CALL PR F_tumbrelref02_Same [a, b] w R := by
  refine C_tumbrelref02_Same ?_
  unfold M_tumbrelref02_Same
  refine BND_step ha.len <| BND_step hb.len <| BND_step (binv_neq _ _ _ _) ?_
  by_cases hl : xs.length = ys.length
  · rw [show (!decide ((xs.length : Int) = (ys.length : Int))) = false by simp [hl]]
    refine (COND_false _ _).2 ?_
    refine ⟨fun t w' => ∃ i : Nat, t = .int .i64 i ∧ Fr [] w w' ∧ i ≤ xs.length ∧ ∀ (j : Nat), j < i → xs[j]? = ys[j]?, fun t _ => match t with | .int _ n => xs.length - n.toNat | _ => 0,
      ⟨0, rfl, Fr.refl _ _, by omega, fun j hj => by omega⟩, ?_⟩
    rintro _ _ w1 ⟨i, rfl, f1, hi, heq⟩
    have a1 := ha.fr f1 (by simp)
    refine BND_step a1.len <| BND_step (binv_lss _ _ _ _) ?_
    by_cases hlt : i < xs.length
    · refine COND_dec_true (by omega) ?_
      have hx := List.getElem?_eq_getElem hlt
      have hy := List.getElem?_eq_getElem (l := ys) (i := i) (by omega)
      generalize xs[i] = x at hx
      generalize ys[i] = y at hy
      have fd : Fr [] w w1.drew := f1.trans' (Fr.drew _ _)
      obtain ⟨p, ep, _, lp⟩ := (ha.fr fd (by simp)).at hx rfl .i64
      obtain ⟨q, eq, _, lq⟩ := (hb.fr fd (by simp)).at hy rfl .i64
      obtain ⟨p', ep', lp'⟩ := lp 0 (by omega)
      obtain ⟨q', eq', lq'⟩ := lq 0 (by omega)
      have hp0 : p' = p := by
        unfold faddr at ep'
        split at ep'
        · simp at ep'; exact ep'.symm
        · cases ep'
      have hq0 : q' = q := by
        unfold faddr at eq'
        split at eq'
        · simp at eq'; exact eq'.symm
        · cases eq'
      subst hp0; subst hq0
      refine BND_step ep <| BND_step eq <| BND_step (v := .int .u64 x) (lp'.trans rfl) <| BND_step (v := .int .u64 y) (lq'.trans rfl) <| BND_step (binv_neq _ _ _ _) ?_
      by_cases hxy : x = y
      · rw [show (!decide (x = y)) = false by simp [hxy]]
        refine (COND_false _ _).2 <| BND_step (add1 (by omega)) ⟨⟨i + 1, rfl, fd, hlt, fun j hj => ?_⟩, by simp; omega⟩
        by_cases hji : j = i
        · subst hji; rw [hx, hy, hxy]
        · exact heq j (by omega)
      · rw [show (!decide (x = y)) = true by simp [hxy]]
        refine (COND_true _ _).2 ?_
        have := hR _ fd
        rw [decide_eq_false (fun e => hxy (by subst e; rw [hx] at hy; cases hy; rfl))] at this
        exact this
    · refine COND_dec_false (by omega) ?_
      have he : xs = ys := List.ext_getElem? fun j => by
        by_cases hj : j < i
        · exact heq j hj
        · rw [List.getElem?_eq_none (by omega), List.getElem?_eq_none (by omega)]
      have := hR _ f1
      rw [decide_eq_true he] at this
      exact this
  · rw [show (!decide ((xs.length : Int) = (ys.length : Int))) = true by simp; omega]
    refine (COND_true _ _).2 ?_
    have := hR w (Fr.refl _ _)
    rw [decide_eq_false (fun e => hl (by rw [e]))] at this
    exact this
abbrev Act := Int × Int × ByteArray × Int
end
end Go.Proofs.YtpgflmjeedbimaaGreat
end
section
namespace Go.Proofs.YtpgflmjeedbimaaGreat
open Go.Den
def RefOwn (w : World) (d : Nat) (rows : List RowD) (last : Int) (seen : Seen) (F : List Nat) : Prop :=
  ∃ sv sc Fa Fc T, blk w d = some (.cells #[sv, .int .u64 last, sc] T (0, 0)) ∧ Slc encRd 2 w sv rows Fa ∧ Slc encCd 2 w sc seen Fc ∧ F = d :: (Fa ++ Fc) ∧ d ∉ Fa ∧ d ∉ Fc ∧ ∀ b ∈ Fa, b ∉ Fc
section
variable {w w' : World} {d : Nat} {rows : List RowD} {last : Int} {seen : Seen} {F G : List Nat}
theorem RefOwn.fr (h : RefOwn w d rows last seen F) (hf : Fr G w w') (hd : ∀ b ∈ F, b ∉ G) : RefOwn w' d rows last seen F := by
  obtain ⟨sv, sc, Fa, Fc, T, h1, h2, h3, rfl, h5, h6, h7⟩ := h
  exact ⟨sv, sc, Fa, Fc, T, hf.some (hd _ (by simp)) h1, h2.fr hf (fun b hb => hd b (by simp [hb])), h3.fr hf (fun b hb => hd b (by simp [hb])), rfl, h5, h6, h7⟩
theorem RefOwn.fr0 (h : RefOwn w d rows last seen F) (hf : Fr [] w w') : RefOwn w' d rows last seen F := h.fr hf (by simp)
theorem RefOwn.lt (h : RefOwn w d rows last seen F) : ∀ b ∈ F, b < hsz w := by
  obtain ⟨sv, sc, Fa, Fc, T, h1, h2, h3, rfl, h5, h6, h7⟩ := h
  intro b hb
  rcases List.mem_cons.1 hb with rfl | hb
  · exact blk_lt h1
  rcases List.mem_append.1 hb with hb | hb
  · exact h2.lt b hb
  · exact h3.lt b hb
end
end Go.Proofs.YtpgflmjeedbimaaGreat
end
section
namespace Go.Proofs.YtpgflmjeedbimaaGreat
open Go.Den
end Go.Proofs.YtpgflmjeedbimaaGreat
end
section
namespace Go.Proofs.YtpgflmjeedbimaaGreat
open Go.Den
def Numbered (rows : List RowD) : Prop := ∀ (j : Nat) (r : RowD), rows[j]? = some r → r.2 = (j : Int) + 1
theorem mem_put {k : ByteArray} {v : Int} {p : ByteArray × Int} : ∀ {S : Seen}, p ∈ putI S k v → p.1 = k ∨ ∃ q ∈ S, q.1 = p.1
  | [], h => by simp [putI] at h; subst h; exact .inl rfl
  | (a, b) :: S, h => by
    simp only [putI] at h
    split at h
    · rcases List.mem_cons.1 h with rfl | h
      · exact .inl rfl
      · exact .inr ⟨p, by simp [h], rfl⟩
    · rcases List.mem_cons.1 h with rfl | h
      · exact .inr ⟨_, List.mem_cons_self, rfl⟩
      · rcases mem_put h with h | ⟨q, hq, e⟩
        · exact .inl h
        · exact .inr ⟨q, by simp [hq], e⟩
def KeysIn (S : Seen) (k1 k2 : ByteArray) : Prop := ∀ p ∈ S, p.1 = k1 ∨ p.1 = k2
theorem KeysIn.len {S : Seen} {k1 k2 : ByteArray} (h : KeysIn S k1 k2) (hn : (S.map (·.1)).Nodup) : S.length ≤ 2 := by
  match S, hn, h with
  | [], _, _ => simp
  | [_], _, _ => simp
  | [_, _], _, _ => simp
  | a :: b :: c :: S, hn, h =>
    simp only [List.map_cons, List.nodup_cons, List.mem_cons, not_or] at hn
    rcases h a (by simp) with ha | ha <;> rcases h b (by simp) with hb | hb <;> rcases h c (by simp) with hc | hc <;> simp_all
theorem KeysIn.put {S : Seen} {k1 k2 k : ByteArray} {v : Int} (h : KeysIn S k1 k2) (hk : k = k1 ∨ k = k2) : KeysIn (putI S k v) k1 k2 := by
  intro p hp
  rcases mem_put hp with e | ⟨q, hq, e⟩
  · rw [e]; exact hk
  · rw [← e]; exact h q hq
def Sep (Fs : List (List Nat)) : Prop := ∀ (i j : Nat) (X Y : List Nat), i ≠ j → Fs[i]? = some X → Fs[j]? = some Y → ∀ b ∈ X, b ∉ Y
theorem Sep.set {Fs : List (List Nat)} {n k : Nat} {X X' : List Nat} (h : Sep Fs) (hlt : ∀ X ∈ Fs, ∀ b ∈ X, b < n) (hk : Fs[k]? = some X) (sub : ∀ b ∈ X', b ∈ X ∨ n ≤ b) : Sep (Fs.set k X') := by
  have hkl := (List.getElem?_eq_some_iff.1 hk).1
  intro i j A B hij hi hj b hb hB
  rw [List.getElem?_set] at hi hj
  by_cases h1 : k = i
  · subst h1
    rw [if_pos rfl, if_pos hkl] at hi
    rw [if_neg hij] at hj
    cases hi
    rcases sub b hb with h2 | h2
    · exact h k j X B hij hk hj b h2 hB
    · have := hlt B (List.mem_of_getElem? hj) b hB; omega
  · rw [if_neg h1] at hi
    by_cases h2 : k = j
    · subst h2
      rw [if_pos rfl, if_pos hkl] at hj
      cases hj
      rcases sub b hB with h3 | h3
      · exact h i k A X hij hi hk b hb h3
      · have := hlt A (List.mem_of_getElem? hi) b hb; omega
    · rw [if_neg h2] at hj
      exact h i j A B hij hi hj b hb hB
structure OnceAt (w0 w : World) (da db : Nat) (k1 k2 : ByteArray) (i : Nat) (vr va vl : Value) (rows : List RowD) (sA sB : Seen) (pA pB : Nat) (FA FB Gr Ga Gl : List Nat) : Prop where
  a : DeadOwn w da rows rows.length sA FA
  b : DeadOwn w db rows rows.length sB FB
  r : Slc encUd 1 w vr (rows.map (·.1)) Gr
  ta : Slc encUd 1 w va ((rows.take pA).map (·.1)) Ga
  tb : Slc encUd 1 w vl ((rows.take pB).map (·.1)) Gl
  sep : Sep [FA, FB, Gr, Ga, Gl]
  low : ∀ X ∈ [FA, FB, Gr, Ga, Gl], ∀ b ∈ X, hsz w0 ≤ b
  fr : Fr [] w0 w
  num : Numbered rows
  len : rows.length ≤ i
  hA : pA ≤ rows.length
  hB : pB ≤ rows.length
  eA : (atI sA k1).getD 0 = pA
  eB : (atI sB k1).getD 0 = pB
  kA : KeysIn sA k1 k2
  kB : KeysIn sB k1 k2
section
variable {w0 w : World} {da db i : Nat} {k1 k2 : ByteArray} {vr va vl : Value} {rows : List RowD} {sA sB : Seen} {pA pB : Nat} {FA FB Gr Ga Gl : List Nat} {R : Value → World → Prop}
theorem OnceAt.lt (h : OnceAt w0 w da db k1 k2 i vr va vl rows sA sB pA pB FA FB Gr Ga Gl) : ∀ X ∈ [FA, FB, Gr, Ga, Gl], ∀ b ∈ X, b < hsz w := by
  intro X hX b hb
  simp only [List.mem_cons, List.not_mem_nil, or_false] at hX
  rcases hX with rfl | rfl | rfl | rfl | rfl
  · exact h.a.lt b hb
  · exact h.b.lt b hb
  · exact h.r.lt b hb
  · exact h.ta.lt b hb
  · exact h.tb.lt b hb
theorem OnceAt.nil (h : OnceAt w0 w da db k1 k2 i vr va vl rows sA sB pA pB FA FB Gr Ga Gl) {w' : World} (f : Fr [] w w') {i' : Nat} (hi : i ≤ i') : OnceAt w0 w' da db k1 k2 i' vr va vl rows sA sB pA pB FA FB Gr Ga Gl :=
  { h with a := h.a.fr0 f, b := h.b.fr0 f, r := h.r.fr f (by simp), ta := h.ta.fr f (by simp), tb := h.tb.fr f (by simp), fr := h.fr.trans' f, len := by have := h.len; omega }
end
end Go.Proofs.YtpgflmjeedbimaaGreat
end
section
namespace Go.Proofs.YtpgflmjeedbimaaGreat
open Go.Den
theorem mem_putI {k : ByteArray} {v : Int} {p : ByteArray × Int} : ∀ {S : Seen}, p ∈ putI S k v → p = (k, v) ∨ p ∈ S
  | [], h => by simp [putI] at h; exact .inl h
  | (k', v') :: S, h => by
    simp only [putI] at h
    split at h
    · rcases List.mem_cons.1 h with h | h
      · exact .inl h
      · exact .inr (by simp [h])
    · rcases List.mem_cons.1 h with h | h
      · exact .inr (by simp [h])
      · exact (mem_putI h).imp_right fun h => by simp [h]
theorem atI_none {k : ByteArray} : ∀ {S : Seen}, atI S k = none ↔ k ∉ S.map (·.1)
  | [] => by simp [atI]
  | (k', v') :: S => by
    have ih := atI_none (k := k) (S := S)
    simp only [atI, List.map_cons, List.mem_cons, not_or]
    split
    · rename_i h; simp [h]
    · rename_i h; rw [ih]; simp [h]
theorem atI_iff {S : Seen} (hn : (S.map (·.1)).Nodup) (k : ByteArray) (v : Int) : atI S k = some v ↔ (k, v) ∈ S := by
  refine ⟨fun h => ?_, fun h => atI_mem hn (k, v) h⟩
  clear hn
  induction S with
  | nil => simp [atI] at h
  | cons p S ih =>
    obtain ⟨k', v'⟩ := p
    simp only [atI] at h
    split at h
    · rename_i e; subst e; simp at h; subst h; simp
    · simp [ih h]
theorem keys_putI (k : ByteArray) (v : Int) : ∀ S : Seen, (putI S k v).map (·.1) = if atI S k = none then S.map (·.1) ++ [k] else S.map (·.1)
  | [] => by simp [putI, atI]
  | (k', v') :: S => by
    have ih := keys_putI k v S
    by_cases h : k = k'
    · subst h; simp [putI, atI]
    · have ha : atI ((k', v') :: S) k = atI S k := by simp [atI, h]
      simp only [putI, if_neg h, List.map_cons, ih, ha]
      split <;> simp
theorem once_putI {S : Seen} (hn : (S.map (·.1)).Nodup) (k : ByteArray) (v : Int) : ((putI S k v).map (·.1)).Nodup := by
  rw [keys_putI]
  split
  · rename_i h
    rw [List.nodup_append]
    exact ⟨hn, by simp, fun a ha b hb e => by simp at hb; subst hb; subst e; exact atI_none.1 h ha⟩
  · exact hn
theorem len_putI {S : Seen} (k : ByteArray) (v : Int) : (putI S k v).length = if atI S k = none then S.length + 1 else S.length := by
  have h := congrArg List.length (keys_putI k v S)
  rw [List.length_map] at h
  rw [h]
  split <;> simp
theorem takeI_le {n l : Int} : ∀ (rs : List RowD) (p : Int) (out : List Int), (∀ r ∈ rs, r.2 ≤ l) → p ≤ l → (takeI n rs p out).2 ≤ l
  | [], p, out, _, hp => hp
  | r :: rs, p, out, h, hp => by
    unfold takeI
    split
    · exact takeI_le rs _ _ (fun x hx => h x (by simp [hx])) (h r (by simp))
    · exact takeI_le rs _ _ (fun x hx => h x (by simp [hx])) hp
end Go.Proofs.YtpgflmjeedbimaaGreat
end
section
namespace Go.Crc
open Go.Den
end Go.Crc
end
section
namespace Go.Vint
open Go.Den
theorem convu64 {k : IntKind} {x : Nat} (h : x < 18446744073709551616) : convi .u64 (.int k (x : Int)) = some (.int .u64 (x : Int)) := by
  simp only [convi]; rw [wrap_u64 (by omega) (by omega)]
end Go.Vint
end
section
namespace Go.Proofs.YtpgflmjeedbimaaGreat
open Go.Den Go.Disk Go.Crc
theorem loadn_all' {w : World} {b n : Nat} {c : List Value} {T : Nat} {f : Nat × Nat} (h : blk w b = some (.cells c.toArray T f)) (hn : c.length = n) : loadn n w (.pointer (some ⟨b, 0, none⟩)) = some (.agg c.toArray) := by
  subst hn
  rw [loadn_blk h (by simp)]
  simp
set_option linter.unusedSimpArgs false
set_option linter.unusedVariables false
set_option maxRecDepth 20000
set_option maxHeartbeats 4000000
attribute [local congr] BND_cg COND_cg GEF_cg
attribute [local irreducible] capl slicea load1 loadn iaddr iaddra faddr storev newslice binv lookv mupd mdel mlenv mentry mestore slicev slicev3 slices indexs indexav textv rangev nexts clearv shiftv eqaggv convi buildv pickv lens lenl unv nilchk extractv partn JOIN
end Go.Proofs.YtpgflmjeedbimaaGreat
end
section
namespace Go.Den
section
variable {α : Type} {enc : α → List Value} {sz : Nat} {w w' : World} {v : Value} {xs : List α}
structure ArrC (enc : α → List Value) (sz : Nat) (w : World) (v : Value) (xs : List α) : Prop where
  arr : Arr enc sz w v xs
  cap : Capd v
theorem ArrC.fr (h : ArrC enc sz w v xs) {F : List Nat} (f : Fr F w w') (hF : ∀ b ∈ F, hsz w ≤ b) : ArrC enc sz w' v xs := ⟨h.arr.fr f hF, h.cap⟩
theorem ArrC.len (h : ArrC enc sz w v xs) : lenl v = some (.int .i64 xs.length) := h.arr.len
theorem Slc.arrC {F : List Nat} (s : Slc enc sz w v xs F) : ArrC enc sz w v xs := ⟨s.arr, s.capd⟩
theorem arr_part (h : ArrC enc sz w v xs) {lo hi : Nat} (h1 : lo ≤ hi) (h2 : hi ≤ xs.length) :
    ∃ a n c c', v = .slice a n c ∧ hi ≤ c ∧ xs.length = n ∧ ArrC enc sz w (.slice (if c = lo then a else a.map (·.add (lo * sz))) (hi - lo) c') ((xs.take hi).drop lo) ∧ c' = c - lo := by
  obtain ⟨⟨a, c, rfl, h⟩, ⟨_, _, _, e, hc⟩⟩ := h
  cases e
  refine ⟨a, xs.length, c, c - lo, rfl, by omega, rfl, ⟨⟨(if c = lo then a else a.map (·.add (lo * sz))), c - lo, ?_, ?_⟩, ⟨_, _, _, rfl, by omega⟩⟩, rfl⟩
  · rw [List.length_drop, List.length_take]; congr 1; omega
  · by_cases h0 : hi = lo
    · left
      rw [List.drop_eq_nil_of_le (by rw [List.length_take]; omega)]
    · rcases h with rfl | ⟨b, o, cs, T, fz, rfl, q1, q2⟩
      · left; simp
      · right
        refine ⟨b, o + lo * sz, cs, T, fz, ?_, q1, fun i x hx => ?_⟩
        · rw [if_neg (by omega)]
          simp [add_none]
        · rw [List.getElem?_drop] at hx
          have hi' : lo + i < hi := by
            have := (List.getElem?_eq_some_iff.1 hx).1
            rw [List.length_take] at this; omega
          rw [List.getElem?_take_of_lt hi'] at hx
          obtain ⟨p1, p2⟩ := q2 _ _ hx
          have e : (lo + i) * sz = lo * sz + i * sz := Nat.add_mul _ _ _
          refine ⟨by omega, fun j hj => ?_⟩
          rw [show o + lo * sz + i * sz + j = o + (lo + i) * sz + j by omega]
          exact p2 j hj
theorem ArrC.to (h : ArrC enc sz w v xs) {hi : Nat} (h2 : hi ≤ xs.length) : ∃ v', slicev sz v none (some (.int .i64 (hi : Int))) = some v' ∧ ArrC enc sz w v' (xs.take hi) := by
  obtain ⟨a, n, c, c', rfl, p1, p2, p3, rfl⟩ := arr_part h (Nat.zero_le hi) h2
  rw [List.drop_zero] at p3
  refine ⟨_, ?_, p3⟩
  unfold slicev
  simp [natOf, p1]
theorem ArrC.from (h : ArrC enc sz w v xs) {lo : Nat} (h1 : lo ≤ xs.length) : ∃ v', slicev sz v (some (.int .i64 (lo : Int))) none = some v' ∧ ArrC enc sz w v' (xs.drop lo) := by
  obtain ⟨a, n, c, c', rfl, p1, p2, p3, rfl⟩ := arr_part h h1 (Nat.le_refl _)
  rw [List.take_length] at p3
  refine ⟨_, ?_, p3⟩
  unfold slicev
  subst p2
  simp [natOf, p1, h1]
theorem Arr.sv (h : Arr enc sz w v xs) : ∃ x : SV, v = x.v := by
  obtain ⟨a, c, rfl, _⟩ := h
  exact ⟨⟨a, _, c⟩, rfl⟩
end
end Go.Den
end
section
namespace Go.Proofs.YtpgflmjeedbimaaGreat
open Go.Den Go.Disk Go.Crc
set_option linter.unusedSimpArgs false
set_option linter.unusedVariables false
set_option maxRecDepth 20000
set_option maxHeartbeats 4000000
attribute [local congr] BND_cg COND_cg GEF_cg
attribute [local irreducible] capl slicea load1 loadn iaddr iaddra faddr storev newslice binv lookv mupd mdel mlenv mentry mestore slicev slicev3 slices indexs indexav textv rangev nexts clearv shiftv eqaggv convi buildv pickv lens lenl unv nilchk extractv partn JOIN
end Go.Proofs.YtpgflmjeedbimaaGreat
end
section
namespace Go.Proofs.YtpgflmjeedbimaaGreat
open Go.Den Go.Disk Go.Vint Go.Crc
def encU (x : Nat) : List Value := [.int .u64 (x : Int)]
theorem encU_len (x : Nat) : (encU x).length = 1 := rfl
set_option linter.unusedSimpArgs false
set_option linter.unusedVariables false
set_option maxRecDepth 20000
set_option maxHeartbeats 4000000
attribute [local congr] BND_cg COND_cg GEF_cg
attribute [local irreducible] capl slicea load1 loadn iaddr iaddra faddr storev newslice binv lookv mupd mdel mlenv mentry mestore slicev slicev3 slices indexs indexav textv rangev nexts clearv shiftv eqaggv convi buildv pickv lens lenl unv nilchk extractv partn JOIN
end Go.Proofs.YtpgflmjeedbimaaGreat
end
section
namespace Go.Frame
open Go.Den Go.Crc
abbrev Fra := UInt8 × List UInt8
theorem convi64 {k : IntKind} {x : Nat} (h : x < 9223372036854775808) : convi .i64 (.int k (x : Int)) = some (.int .i64 (x : Int)) := by
  simp only [convi]; rw [wrap_i64 (by omega) (by omega)]
end Go.Frame
end
section
namespace Go.Proofs.YtpgflmjeedbimaaGreat
open Go.Den Go.Disk Go.Vint Go.Crc Go.Frame
def encFr (x : UInt8 × SV) : List Value := [.int .u8 (x.1.toNat : Int), x.2.v]
theorem sv_one (x : SV) : x.v.cells = #[x.v] ∧ x.v.oneCell' = true := ⟨rfl, rfl⟩
def FrmL (w : World) (v : Value) (xs : List Fra) (G B : List Nat) : Prop :=
  (∃ cs : List (UInt8 × SV), Slc encFr 2 w v cs G ∧ cs.length = xs.length ∧ ∀ (i : Nat) (x : Fra), xs[i]? = some x → ∃ (s : SV) (H : List Nat), cs[i]? = some (x.1, s) ∧ Slc encB 1 w s.v x.2 H ∧ ∀ b ∈ H, b ∈ B) ∧ ∀ b ∈ B, b ∉ G ∧ b < hsz w
theorem FrmL.fr {w w' : World} {v : Value} {xs : List Fra} {G B : List Nat} (h : FrmL w v xs G B) (f : Fr [] w w') : FrmL w' v xs G B := by
  obtain ⟨⟨cs, h1, h2, h3⟩, h4⟩ := h
  exact ⟨⟨cs, h1.fr f (by simp), h2, fun i x hx => by obtain ⟨s, H, a, b, c⟩ := h3 i x hx; exact ⟨s, H, a, b.fr f (by simp), c⟩⟩, fun b hb => ⟨(h4 b hb).1, Nat.lt_of_lt_of_le (h4 b hb).2 f.grow⟩⟩
theorem FrmL.len {w : World} {v : Value} {xs : List Fra} {G B : List Nat} (h : FrmL w v xs G B) : lenl v = some (.int .i64 xs.length) := by
  obtain ⟨⟨cs, h1, h2, _⟩, _⟩ := h
  rw [h1.len, h2]
theorem FrmL.nil (w : World) : FrmL w (.slice none 0 0) [] [] [] := ⟨⟨[], Slc.nil _ _ _, rfl, by simp⟩, by simp⟩
set_option linter.unusedSimpArgs false
set_option linter.unusedVariables false
set_option maxRecDepth 20000
set_option maxHeartbeats 4000000
attribute [local congr] BND_cg COND_cg GEF_cg
attribute [local irreducible] capl slicea load1 loadn iaddr iaddra faddr storev newslice binv lookv mupd mdel mlenv mentry mestore slicev slicev3 slices indexs indexav textv rangev nexts clearv shiftv eqaggv convi buildv pickv lens lenl unv nilchk extractv partn JOIN
end Go.Proofs.YtpgflmjeedbimaaGreat
end
section
namespace Go.Rec
open Go.Den Go.Crc Go.Frame Go.Vint
structure Rc where
  kind : Nat
  n : List Nat
  text : List UInt8
def manyL : List Nat := [0, 0, 5, 2, 1, 2, 2, 1, 1, 1, 1, 1, 5, 7, 10, 2, 1, 1]
def manyOf (k : Nat) : Nat := manyL.getD k 0
def knownB (k : Int) : Bool := decide (1 ≤ k) && decide (k ≤ 17)
def wordedB (k : Int) : Bool := decide (k = 10) || decide (k = 11) || decide (k = 16)
def fitsB (k : Int) (m : Nat) : Bool := decide (m = 0) || (wordedB k && decide (m ≤ 64))
def rightRk (k : Int) (n m : Nat) : Bool := knownB k && decide (n = manyOf k.toNat) && fitsB k m
theorem right_known {k : Int} {n m : Nat} (h : rightRk k n m = true) : 1 ≤ k ∧ k ≤ 17 ∧ n = manyOf k.toNat ∧ fitsB k m = true := by
  unfold rightRk knownB at h
  simp only [Bool.and_eq_true, decide_eq_true_eq] at h
  exact ⟨h.1.1.1, h.1.1.2, h.1.2, h.2⟩
end Go.Rec
end
section
namespace Go.Proofs.YtpgflmjeedbimaaGreat
open Go.Den Go.Disk Go.Vint Go.Crc Go.Frame Go.Rec
def txB (l : List UInt8) : ByteArray := ⟨l.toArray⟩
def encRc (x : Int × SV × ByteArray) : List Value := [.int .i64 x.1, x.2.1.v, .string x.2.2]
theorem encRc_len (x : Int × SV × ByteArray) : (encRc x).length = 3 := rfl
theorem encRc_one (x : Int × SV × ByteArray) : ∀ u ∈ encRc x, u.oneCell' = true := by intro u hu; simp [encRc] at hu; rcases hu with rfl | rfl | rfl <;> rfl
def manyV : List Value := manyL.map fun n : Nat => .int .i64 (n : Int)
theorem many_at {k : Nat} (h : k < 18) : indexav false 18 1 (.agg manyV.toArray) (.int .i64 (k : Int)) = some (.int .i64 ((manyOf k : Nat) : Int)) := by
  simp only [indexav]
  rw [if_pos ⟨by omega, by omega⟩]
  have e : manyV[k]? = some (.int .i64 ((manyOf k : Nat) : Int)) := by
    have hl : k < manyL.length := h
    unfold manyV manyOf
    rw [List.getElem?_map, List.getD_eq_getElem?_getD, List.getElem?_eq_getElem hl]
    rfl
  simpa using e
set_option linter.unusedSimpArgs false
set_option linter.unusedVariables false
set_option maxRecDepth 20000
set_option maxHeartbeats 4000000
attribute [local congr] BND_cg COND_cg GEF_cg
attribute [local irreducible] capl slicea load1 loadn iaddr iaddra faddr storev newslice binv lookv mupd mdel mlenv mentry mestore slicev slicev3 slices indexs indexav textv rangev nexts clearv shiftv eqaggv convi buildv pickv lens lenl unv nilchk extractv partn JOIN
section
variable {w : World} {R : Value → World → Prop}
theorem rec_known (k : Int) (hR : R (.bool (knownB k)) w) : CALL PR F_record_known [.int .i64 k] w R := by
  refine C_record_known ?_
  unfold M_record_known
  unfold knownB at hR
  by_cases h1 : 1 ≤ k
  · (repeat refine gg ?_)
    rw [decide_eq_true h1, Bool.true_and] at hR
    exact hR
  · (repeat refine gg ?_)
    rw [decide_eq_false h1, Bool.false_and] at hR
    exact hR
theorem rec_worded (k : Int) (hR : R (.bool (wordedB k)) w) : CALL PR F_record_worded [.int .i64 k] w R := by
  refine C_record_worded ?_
  unfold M_record_worded
  unfold wordedB at hR
  by_cases h1 : k = 10
  · (repeat refine gg ?_)
    simpa [h1] using hR
  · by_cases h2 : k = 11
    · (repeat refine gg ?_)
      simpa [h1, h2] using hR
    · (repeat refine gg ?_)
      simpa [h1, h2] using hR
theorem rec_fits (k : Int) (m : Nat) (hR : R (.bool (fitsB k m)) w) : CALL PR F_record_fits [.int .i64 k, .int .i64 (m : Int)] w R := by
  refine C_record_fits ?_
  unfold M_record_fits
  unfold fitsB at hR
  by_cases h1 : (m : Int) = 0
  · (repeat refine gg ?_)
    rw [decide_eq_true (show m = 0 by omega), Bool.true_or] at hR
    exact hR
  · rw [decide_eq_false (show ¬ m = 0 by omega), Bool.false_or] at hR
    (repeat refine gg ?_)
    refine rec_worded k ?_
    cases hw : wordedB k with
    | true =>
      rw [hw, Bool.true_and] at hR
      (repeat refine gg ?_)
      have e : decide ((m : Int) ≤ 64) = decide (m ≤ 64) := by rw [decide_eq_decide]; omega
      rw [e]
      exact hR
    | false =>
      rw [hw, Bool.false_and] at hR
      (repeat refine gg ?_)
      exact hR
theorem rec_numbers (hR : ∀ w', Fr [] w w' → R (.agg manyV.toArray) w') : CALL PR F_record_numbers [] w R := by
  refine C_record_numbers ?_
  unfold M_record_numbers
  refine NEW_intro fun w1 b1 f1 z1 => ?_
  (repeat (first | refine gg ?_ | (apply BND_build (manyV); exact rfl)))
  refine put_step (n := 18) (vs := manyV) b1 (by simp [Value.cells]) rfl (by intro u hu; obtain ⟨_, _, rfl⟩ := List.mem_map.1 hu; rfl) (by simp [manyV, manyL]) fun w2 b2 f2 _ => ?_
  (repeat (first | refine BND_step (loadn_all' b2 rfl) ?_ | refine gg ?_))
  exact hR _ (f1.trans f2 (by simp))
theorem rec_Right {nv : SV} {ns : List Nat} (k : Int) (t : ByteArray) (hn : Arr encU 1 w nv.v ns) (hR : ∀ w', Fr [] w w' → R (.bool (rightRk k ns.length t.size)) w') : CALL PR F_record_Right [.agg (encRc (k, nv, t)).toArray] w R := by
  refine C_record_Right ?_
  unfold M_record_Right
  refine NEW_intro fun w1 b1 f1 z1 => ?_
  replace b1 : blk w1.drew (hsz w) = some (.cells (encRc (k, nv, t)).toArray 29 (0, 0)) := b1
  have f1d := f1.trans' (Fr.drew [] w1)
  unfold rightRk at hR
  refine ⟨fun _ w' => blk w' (hsz w) = some (.cells (encRc (k, nv, t)).toArray 29 (0, 0)), b1, b1, ?_⟩
  (repeat refine gg ?_)
  refine rec_known k ?_
  refine ⟨b1, b1, ?_⟩
  cases hk : knownB k with
  | false =>
    rw [hk, Bool.false_and, Bool.false_and] at hR
    (repeat refine gg ?_)
    refine ⟨undef, fun _ _ => rfl, ?_⟩
    (repeat refine gg ?_)
    refine ⟨undef, fun _ _ => rfl, ?_⟩
    (repeat refine gg ?_)
    refine ⟨b1, b1, ?_⟩
    (repeat refine gg ?_)
    exact hR _ f1d
  | true =>
    rw [hk, Bool.true_and] at hR
    obtain ⟨hk1, hk2⟩ : 1 ≤ k ∧ k ≤ 17 := by unfold knownB at hk; simpa using hk
    obtain ⟨kn, rfl⟩ : ∃ kn : Nat, k = (kn : Int) := ⟨k.toNat, by omega⟩
    (repeat (first | refine BND_step hn.len ?_ | refine gg ?_))
    refine rec_numbers fun w3 f3 => ?_
    have b3 := f3.some (by simp) b1
    refine ⟨b3, b3, ?_⟩
    (repeat (first | refine BND_step (many_at (k := kn) (by omega)) ?_ | refine gg ?_))
    have e : decide ((ns.length : Int) = ((manyOf kn : Nat) : Int)) = decide (ns.length = manyOf (kn : Int).toNat) := by rw [decide_eq_decide]; simp; omega
    rw [e]
    by_cases hm : ns.length = manyOf (kn : Int).toNat
    · rw [decide_eq_true hm, Bool.true_and] at hR
      rw [decide_eq_true hm]
      (repeat refine gg ?_)
      refine rec_fits _ _ ?_
      (repeat refine gg ?_)
      exact hR _ (f1d.trans' f3)
    · rw [decide_eq_false hm, Bool.false_and] at hR
      rw [decide_eq_false hm]
      (repeat refine gg ?_)
      exact hR _ (f1d.trans' f3)
end
end Go.Proofs.YtpgflmjeedbimaaGreat
end
section
namespace Go.Proofs.YtpgflmjeedbimaaGreat
open Go.Den Go.Disk Go.Vint Go.Crc Go.Frame Go.Rec
def RecL (w : World) (v : Value) (xs : List Rc) (G B : List Nat) : Prop :=
  (∃ cs : List (Int × SV × ByteArray), Slc encRc 3 w v cs G ∧ cs.length = xs.length ∧ ∀ (i : Nat) (x : Rc), xs[i]? = some x → ∃ (s : SV) (H : List Nat), cs[i]? = some ((x.kind : Int), s, txB x.text) ∧ Slc encU 1 w s.v x.n H ∧ ∀ b ∈ H, b ∈ B) ∧ ∀ b ∈ B, b ∉ G ∧ b < hsz w
theorem RecL.fr {w w' : World} {v : Value} {xs : List Rc} {G B : List Nat} (h : RecL w v xs G B) (f : Fr [] w w') : RecL w' v xs G B := by
  obtain ⟨⟨cs, h1, h2, h3⟩, h4⟩ := h
  exact ⟨⟨cs, h1.fr f (by simp), h2, fun i x hx => by obtain ⟨s, H, a, b, c⟩ := h3 i x hx; exact ⟨s, H, a, b.fr f (by simp), c⟩⟩, fun b hb => ⟨(h4 b hb).1, Nat.lt_of_lt_of_le (h4 b hb).2 f.grow⟩⟩
theorem RecL.len {w : World} {v : Value} {xs : List Rc} {G B : List Nat} (h : RecL w v xs G B) : lenl v = some (.int .i64 xs.length) := by
  obtain ⟨⟨cs, h1, h2, _⟩, _⟩ := h
  rw [h1.len, h2]
theorem RecL.nil (w : World) : RecL w (.slice none 0 0) [] [] [] := ⟨⟨[], Slc.nil _ _ _, rfl, by simp⟩, by simp⟩
theorem RecL.lt {w : World} {v : Value} {xs : List Rc} {G B : List Nat} (h : RecL w v xs G B) : ∀ b ∈ G, b < hsz w := by
  obtain ⟨⟨cs, h1, _⟩, _⟩ := h
  exact h1.lt
set_option linter.unusedSimpArgs false
set_option linter.unusedVariables false
set_option maxRecDepth 20000
set_option maxHeartbeats 4000000
attribute [local congr] BND_cg COND_cg GEF_cg
attribute [local irreducible] capl slicea load1 loadn iaddr iaddra faddr storev newslice binv lookv mupd mdel mlenv mentry mestore slicev slicev3 slices indexs indexav textv rangev nexts clearv shiftv eqaggv convi buildv pickv lens lenl unv nilchk extractv partn JOIN
end Go.Proofs.YtpgflmjeedbimaaGreat
end
section
set_option linter.unusedSimpArgs false
set_option linter.unusedVariables false
namespace Go.Ev
open Go.Den Go.Rec Go.Proofs.YtpgflmjeedbimaaGreat
structure Ax where
  d : Int
  lane : Int
  id : Nat
  n : Nat
  name : ByteArray
  seg : Nat
  at_ : Nat
  size : Int
  deriving DecidableEq
def noB : ByteArray := ByteArray.empty
def zeroA : Ax := ⟨0, 0, 0, 0, noB, 0, 0, 0⟩
def idD (d : Int) : Bool := decide (d = 4) || decide (d = 8) || decide (d = 9)
def id2D (d : Int) : Bool := decide (d = 5) || decide (d = 6)
def keptA (o : Ax) : Ax :=
  if o.d = 2 then ⟨2, o.lane, 0, o.n, noB, o.seg, o.at_, o.size⟩ else
  if o.d = 3 then ⟨3, o.lane, 0, o.n, noB, 0, 0, 0⟩ else
  if id2D o.d = true then ⟨o.d, 0, o.id, o.n, noB, 0, 0, 0⟩ else
  if idD o.d = true then ⟨o.d, 0, o.id, 0, noB, 0, 0, 0⟩ else
  if o.d = 10 then ⟨10, 0, 0, o.n, o.name, 0, 0, 0⟩ else
  if o.d = 7 then ⟨7, 0, 0, o.n, noB, 0, 0, 0⟩ else ⟨o.d, 0, 0, 0, noB, 0, 0, 0⟩
def mayA (o : Ax) : Bool :=
  if o.d = 2 then decide (0 ≤ o.lane) && decide (o.lane < 8) && decide (0 ≤ o.size) && decide (o.size ≤ 64) else
  if o.d = 3 then decide (-1 ≤ o.lane) && decide (o.lane < 8) else true
def rightA (o : Ax) : Bool := decide (1 ≤ o.d) && decide (o.d ≤ 10) && decide (o = keptA o) && decide (o.name.size ≤ 64) && mayA o
def numsA (o : Ax) : List Nat :=
  if o.d = 2 then [o.lane.toNat, o.n, o.seg, o.at_, o.size.toNat] else
  if o.d = 3 then [(o.lane + 1).toNat, o.n] else
  if id2D o.d = true then [o.id, o.n] else
  if idD o.d = true then [o.id] else
  if o.d = 7 ∨ o.d = 10 then [o.n] else []
def recA (o : Ax) : Rc := ⟨o.d.toNat, numsA o, o.name.data.toList⟩
def sml (n : Nat) : Int := ((min n 1048576 : Nat) : Int)
def preA (r : Rc) : Ax :=
  if r.kind = 2 then ⟨2, sml (r.n.getD 0 0), 0, r.n.getD 1 0, txB r.text, r.n.getD 2 0, r.n.getD 3 0, sml (r.n.getD 4 0)⟩ else
  if r.kind = 3 then ⟨3, sml (r.n.getD 0 0) - 1, 0, r.n.getD 1 0, txB r.text, 0, 0, 0⟩ else
  if id2D r.kind = true then ⟨r.kind, 0, r.n.getD 0 0, r.n.getD 1 0, txB r.text, 0, 0, 0⟩ else
  if idD r.kind = true then ⟨r.kind, 0, r.n.getD 0 0, 0, txB r.text, 0, 0, 0⟩ else
  if r.kind = 7 ∨ r.kind = 10 then ⟨r.kind, 0, 0, r.n.getD 0 0, txB r.text, 0, 0, 0⟩ else ⟨r.kind, 0, 0, 0, txB r.text, 0, 0, 0⟩
def ofA (r : Rc) : Ax × Int := if rightA (preA r) = true then (preA r, 0) else (zeroA, 2)
structure OkA (o : Ax) : Prop where
  id : o.id < 18446744073709551616
  n : o.n < 18446744073709551616
  seg : o.seg < 18446744073709551616
  at_ : o.at_ < 18446744073709551616
structure RightA (o : Ax) : Prop where
  d : 1 ≤ o.d ∧ o.d ≤ 10
  k : o = keptA o
  t : o.name.size ≤ 64
  m : mayA o = true
theorem rightA_iff {o : Ax} : rightA o = true ↔ RightA o := by
  unfold rightA
  simp only [Bool.and_eq_true, decide_eq_true_eq]
  exact ⟨fun ⟨⟨⟨⟨a, b⟩, c⟩, d⟩, e⟩ => ⟨⟨a, b⟩, c, d, e⟩, fun ⟨⟨a, b⟩, c, d, e⟩ => ⟨⟨⟨⟨a, b⟩, c⟩, d⟩, e⟩⟩
theorem noB_size : noB.size = 0 := rfl
theorem txB_noB : txB [] = noB := rfl
theorem txB_data (b : ByteArray) : txB b.data.toList = b := by cases b; simp [txB]
theorem noB_data : noB.data.toList = [] := rfl
theorem ten {d : Int} (h : 1 ≤ d ∧ d ≤ 10) : d = 1 ∨ d = 2 ∨ d = 3 ∨ d = 4 ∨ d = 5 ∨ d = 6 ∨ d = 7 ∨ d = 8 ∨ d = 9 ∨ d = 10 := by omega
theorem may2 {o : Ax} (h : mayA o = true) (hd : o.d = 2) : 0 ≤ o.lane ∧ o.lane < 8 ∧ 0 ≤ o.size ∧ o.size ≤ 64 := by
  unfold mayA at h
  rw [if_pos hd] at h
  simp only [Bool.and_eq_true, decide_eq_true_eq] at h
  exact ⟨h.1.1.1, h.1.1.2, h.1.2, h.2⟩
theorem may3 {o : Ax} (h : mayA o = true) (hd : o.d = 3) : -1 ≤ o.lane ∧ o.lane < 8 := by
  unfold mayA at h
  rw [if_neg (by omega), if_pos hd] at h
  simp only [Bool.and_eq_true, decide_eq_true_eq] at h
  exact h
theorem right_rec {o : Ax} (h : rightA o = true) (hk : OkA o) : rightRk o.d (numsA o).length o.name.data.toList.length = true ∧ (∀ n ∈ numsA o, n < 18446744073709551616) ∧ ofA (recA o) = (o, 0) := by
  have hr := h
  obtain ⟨h1, h2, h3, h4⟩ := rightA_iff.1 h
  obtain ⟨k1, k2, k3, k4⟩ := hk
  have hl : o.name.data.toList.length = o.name.size := Array.length_toList
  rw [hl]
  have key : preA (recA o) = o → ofA (recA o) = (o, 0) := fun e => by unfold ofA; rw [e, if_pos hr]
  obtain ⟨d, lane, id, n, name, seg, at_, size⟩ := o
  simp only at h1 h3 k1 k2 k3 k4
  rcases ten h1 with rfl | rfl | rfl | rfl | rfl | rfl | rfl | rfl | rfl | rfl
  · cases h2
    refine ⟨by decide, by simp [numsA, id2D, idD], key ?_⟩
    simp [preA, recA, numsA, id2D, idD, noB_data, txB_noB]
  · obtain ⟨m1, m2, m3, m4⟩ := may2 h4 rfl
    simp only at m1 m2 m3 m4
    cases h2
    refine ⟨by simp [numsA, rightRk, knownB, manyOf, manyL, fitsB, noB_size], fun x hx => ?_, key ?_⟩
    · simp [numsA] at hx
      rcases hx with rfl | rfl | rfl | rfl | rfl <;> omega
    · simp only [preA, recA, numsA, noB_data, txB_noB, if_true, show (2 : Int).toNat = 2 from rfl, List.getD_cons_zero, List.getD_cons_succ, sml]
      congr 1 <;> omega
  · obtain ⟨m1, m2⟩ := may3 h4 rfl
    simp only at m1 m2
    cases h2
    refine ⟨by simp [numsA, rightRk, knownB, manyOf, manyL, fitsB, noB_size], fun x hx => ?_, key ?_⟩
    · simp [numsA] at hx
      rcases hx with rfl | rfl <;> omega
    · have e : sml (lane + 1).toNat - 1 = lane := by unfold sml; omega
      simp [preA, recA, numsA, noB_data, txB_noB, e]
  · cases h2
    refine ⟨by simp [numsA, rightRk, knownB, manyOf, manyL, fitsB, noB_size, id2D, idD], fun x hx => ?_, key ?_⟩
    · simp [numsA, id2D, idD] at hx; omega
    · simp [preA, recA, numsA, noB_data, txB_noB, id2D, idD]
  · cases h2
    refine ⟨by simp [numsA, rightRk, knownB, manyOf, manyL, fitsB, noB_size, id2D, idD], fun x hx => ?_, key ?_⟩
    · simp [numsA, id2D, idD] at hx; omega
    · simp [preA, recA, numsA, noB_data, txB_noB, id2D, idD]
  · cases h2
    refine ⟨by simp [numsA, rightRk, knownB, manyOf, manyL, fitsB, noB_size, id2D, idD], fun x hx => ?_, key ?_⟩
    · simp [numsA, id2D, idD] at hx; omega
    · simp [preA, recA, numsA, noB_data, txB_noB, id2D, idD]
  · cases h2
    refine ⟨by simp [numsA, rightRk, knownB, manyOf, manyL, fitsB, noB_size, id2D, idD], fun x hx => ?_, key ?_⟩
    · simp [numsA, id2D, idD] at hx; omega
    · simp [preA, recA, numsA, noB_data, txB_noB, id2D, idD]
  · cases h2
    refine ⟨by simp [numsA, rightRk, knownB, manyOf, manyL, fitsB, noB_size, id2D, idD], fun x hx => ?_, key ?_⟩
    · simp [numsA, id2D, idD] at hx; omega
    · simp [preA, recA, numsA, noB_data, txB_noB, id2D, idD]
  · cases h2
    refine ⟨by simp [numsA, rightRk, knownB, manyOf, manyL, fitsB, noB_size, id2D, idD], fun x hx => ?_, key ?_⟩
    · simp [numsA, id2D, idD] at hx; omega
    · simp [preA, recA, numsA, noB_data, txB_noB, id2D, idD]
  · cases h2
    refine ⟨by simp [numsA, rightRk, knownB, wordedB, manyOf, manyL, fitsB, id2D, idD]; omega, fun x hx => ?_, key ?_⟩
    · simp [numsA, id2D, idD] at hx; omega
    · simp [preA, recA, numsA, txB_data, id2D, idD]
theorem ofA_good {r : Rc} (h : (ofA r).2 = 0) : rightA (ofA r).1 = true := by
  unfold ofA at h ⊢
  split at h
  · rename_i hh; rw [if_pos hh]; exact hh
  · simp at h
end Go.Ev
end
section
namespace Go.Proofs.YtpgflmjeedbimaaGreat
open Go.Den Go.Ix Go.Ev
set_option linter.unusedSimpArgs false
set_option linter.unusedVariables false
structure An where
  err : Int
  id : Int
  tok : Int
  lane : Int
  cnt : Int
  many : Int
  seg : Int
  at_ : Int
  size : Int
  ids : List Int
  deriving DecidableEq
def an0 : An := ⟨0, 0, 0, 0, 0, 0, 0, 0, 0, []⟩
def anE (e : Int) : An := ⟨e, 0, 0, 0, 0, 0, 0, 0, 0, []⟩
def toldA (y : It) (e : Int) : An := if e ≠ 0 then anE e else ⟨0, y.id, if y.lf.st = 3 then y.lf.tok else 0, y.lane, if y.lf.st = 3 then y.lf.cnt else 0, 0, y.seg, y.at_, y.size, []⟩
def told0 (y : It) (e : Int) : An := if e ≠ 0 then anE e else ⟨0, y.id, 0, y.lane, 0, 0, y.seg, y.at_, y.size, []⟩
def doP (s : Px) (o : Ax) : Px × An :=
  if rightA o = false then (s, anE 1)
  else if o.d = 1 then (resetP s, an0)
  else if o.d = 2 then ((putP s o.lane o.n o.seg o.at_ o.size).1, ⟨(putP s o.lane o.n o.seg o.at_ o.size).2.2, (putP s o.lane o.n o.seg o.at_ o.size).2.1, 0, 0, 0, 0, 0, 0, 0, []⟩)
  else if o.d = 3 then ((leaseP s o.lane o.n).1, toldA (leaseP s o.lane o.n).2.1 (leaseP s o.lane o.n).2.2)
  else if o.d = 4 then ((ackP s o.id).1, toldA (ackP s o.id).2.1 (ackP s o.id).2.2)
  else if o.d = 5 then ((nackP s o.id o.n).1, toldA (nackP s o.id o.n).2.1 (nackP s o.id o.n).2.2)
  else if o.d = 6 then ((extendP s o.id o.n).1, told0 (extendP s o.id o.n).2.1 (extendP s o.id o.n).2.2)
  else if o.d = 7 then ((tickP s o.n).1, ⟨(tickP s o.n).2.2, 0, 0, 0, 0, (tickP s o.n).2.1, 0, 0, 0, []⟩)
  else if o.d = 8 then ((requeueP s o.id).1, toldA (getP s o.id).1 (requeueP s o.id).2)
  else if o.d = 9 then ((purgeP s o.id).1, toldA (getP s o.id).1 (purgeP s o.id).2)
  else ((seenP s o.name ((min o.n 1000 : Nat) : Int)).1, ⟨(seenP s o.name ((min o.n 1000 : Nat) : Int)).2.2, 0, 0, 0, 0, 0, 0, 0, 0, (seenP s o.name ((min o.n 1000 : Nat) : Int)).2.1⟩)
theorem putP_now (s : Px) (lane : Int) (delay seg at_ : Nat) (size : Int) : (putP s lane delay seg at_ size).1.now = s.now := by unfold putP; (repeat' split) <;> rfl
theorem leaseP_now (s : Px) (lane : Int) (span : Nat) : (leaseP s lane span).1.now = s.now := by unfold leaseP; (repeat' split) <;> rfl
theorem onHeld_now (s : Px) (tok : Nat) (f : Lf → Lf × Int) : (onHeld s tok f).1.now = s.now := by unfold onHeld; (repeat' split) <;> rfl
theorem reviveP_now (s : Px) (id : Int) (f : Lf → Lf × Int) : (reviveP s id f).1.now = s.now := by unfold reviveP; (repeat' split) <;> rfl
theorem resetP_now (s : Px) : (resetP s).now = s.now := (resetF_now _ _).1
theorem fold_short {l : List UInt8} (h : rightB (foldB l) = true) : (foldB l).length ≤ 32 := by
  have h1 : ((runesB (foldB l)).length : Int) ≤ 8 := by
    unfold rightB at h
    simp only [Bool.and_eq_true, decide_eq_true_eq] at h
    exact h.2.2
  rw [fold_runes, List.length_map] at h1
  have := encAll_len ((runesB l).map foldZ)
  rw [List.length_map] at this
  unfold foldB
  omega
theorem takeI_ge {n l : Int} : ∀ (rs : List RowD) (p : Int) (out : List Int), (∀ r ∈ rs, l ≤ r.2) → l ≤ p → l ≤ (takeI n rs p out).2
  | [], p, out, _, hp => hp
  | r :: rs, p, out, h, hp => by
    unfold takeI
    split
    · exact takeI_ge rs _ _ (fun x hx => h x (by simp [hx])) (h r (by simp))
    · exact takeI_ge rs _ _ (fun x hx => h x (by simp [hx])) hp
theorem seenP_inv {s : Px} {cut B : Nat} (h : QInv s cut B) (name : ByteArray) (n : Int) : QInv (seenP s name n).1 cut B := by
  refine ⟨h.right, h.rise, h.ids, h.len, h.fit, h.live, h.turn, h.tok, h.dead, h.rows, h.rowsN, h.rowsR, h.place, h.now, h.next, h.nums, ?_⟩
  have hs := h.seen
  have hl := h.nums.2.2.1
  show SeenOk s.last (nextA s.rows s.seen name n).seen
  unfold nextA
  dsimp only
  split
  · exact hs
  · rename_i hb
    simp only [not_or, Bool.not_eq_false] at hb
    split
    · exact hs
    · rename_i h8
      refine ⟨fun p hp => ?_, ?_, once_putI hs.once _ _⟩
      · rcases mem_putI hp with rfl | hp
        · have hsh := fold_short hb.2
          have h0 : 0 ≤ (atI s.seen (txt (foldB name.data.toList))).getD 0 ∧ (atI s.seen (txt (foldB name.data.toList))).getD 0 ≤ s.last := by
            cases ha : atI s.seen (txt (foldB name.data.toList)) with
            | none => exact ⟨Int.le_refl _, hl⟩
            | some v => exact ⟨(hs.names _ ((atI_iff hs.once _ _).1 ha)).2.2.1, (hs.names _ ((atI_iff hs.once _ _).1 ha)).2.2.2.1⟩
          refine ⟨by rw [txt_list]; exact hb.2, by rw [txt_list, fold_fold], takeI_ge _ _ _ (fun r hr => by have := h.place r hr; omega) h0.1, takeI_le _ _ _ (fun r hr => (h.place r hr).2) h0.2, by rw [txt_size]; omega⟩
        · exact hs.names p hp
      · show (putI s.seen _ _).length ≤ 8
        rw [len_putI]
        have := hs.few
        split
        · rename_i hn
          have : ¬ 8 ≤ s.seen.length := fun h => h8 ⟨hn, h⟩
          omega
        · exact this
theorem ackP_inv {s : Px} {cut B : Nat} (h : QInv s cut B) (tok : Nat) : QInv (ackP s tok).1 cut (B + 1) := onHeld_inv h tok _ fun y _ _ _ he => ackL_ok he
theorem nackP_inv {s : Px} {cut B : Nat} (h : QInv s cut B) (tok delay : Nat) : QInv (nackP s tok delay).1 cut (B + 1) := onHeld_inv h tok _ fun y hy h3 _ he => nackL_ok h hy h3 he
theorem extendP_inv {s : Px} {cut B : Nat} (h : QInv s cut B) (tok span : Nat) : QInv (extendP s tok span).1 cut (B + 1) := onHeld_inv h tok _ fun y hy h3 ht he => extendL_ok h hy h3 ht he
theorem requeueP_inv {s : Px} {cut B : Nat} (h : QInv s cut B) (id : Int) : QInv (requeueP s id).1 cut (B + 1) := reviveP_inv h id _ fun y _ he => requeueL_ok h he
theorem purgeP_inv {s : Px} {cut B : Nat} (h : QInv s cut B) (id : Int) : QInv (purgeP s id).1 cut (B + 1) := reviveP_inv h id _ fun y _ he => purgeL_ok he
theorem QInv.at {s s' : Px} {B C : Nat} (h : QInv s' s.now C) (hn : s'.now = s.now) (hb : C ≤ B) : QInv s' s'.now B := by rw [hn]; exact h.more hb
theorem doP_inv {s : Px} {B : Nat} (h : QInv s s.now B) {o : Ax} (hk : OkA o) : QInv (doP s o).1 (doP s o).1.now (B + 200) := by
  unfold doP
  by_cases hr : rightA o = false
  · rw [if_pos hr]; exact h.more (by omega)
  rw [if_neg hr]
  by_cases h1 : o.d = 1
  · rw [if_pos h1]; exact (resetP_inv h).at (resetP_now s) (by omega)
  rw [if_neg h1]
  by_cases h2 : o.d = 2
  · rw [if_pos h2]; exact (putP_inv h o.lane o.size hk.seg hk.at_).at (putP_now ..) (by omega)
  rw [if_neg h2]
  by_cases h3 : o.d = 3
  · rw [if_pos h3]; exact (leaseP_inv h o.lane o.n).at (leaseP_now ..) (by omega)
  rw [if_neg h3]
  by_cases h4 : o.d = 4
  · rw [if_pos h4]; exact (ackP_inv h o.id).at (onHeld_now ..) (by omega)
  rw [if_neg h4]
  by_cases h5 : o.d = 5
  · rw [if_pos h5]; exact (nackP_inv h o.id o.n).at (onHeld_now ..) (by omega)
  rw [if_neg h5]
  by_cases h6 : o.d = 6
  · rw [if_pos h6]; exact (extendP_inv h o.id o.n).at (onHeld_now ..) (by omega)
  rw [if_neg h6]
  by_cases h7 : o.d = 7
  · rw [if_pos h7]; exact tickP_inv h rfl o.n
  rw [if_neg h7]
  by_cases h8 : o.d = 8
  · rw [if_pos h8]; exact (requeueP_inv h o.id).at (reviveP_now ..) (by omega)
  rw [if_neg h8]
  by_cases h9 : o.d = 9
  · rw [if_pos h9]; exact (purgeP_inv h o.id).at (reviveP_now ..) (by omega)
  rw [if_neg h9]
  exact (seenP_inv h o.name _).more (by omega)
end Go.Proofs.YtpgflmjeedbimaaGreat
end
section
namespace Go.Proofs.YtpgflmjeedbimaaGreat
open Go.Den Go.Disk Go.Vint Go.Crc Go.Frame Go.Rec Go.Ev
def encAx (o : Ax) : List Value := [.int .i64 o.d, .int .i64 o.lane, .int .u64 (o.id : Int), .int .u64 (o.n : Int), .string o.name, .int .u64 (o.seg : Int), .int .u64 (o.at_ : Int), .int .i64 o.size]
def nilV : SV := ⟨none, 0, 0⟩
theorem encAx_len (o : Ax) : (encAx o).length = 8 := rfl
theorem encAx_one (o : Ax) : ∀ u ∈ encAx o, u.oneCell' = true := by intro u hu; simp [encAx] at hu; rcases hu with rfl | rfl | rfl | rfl | rfl | rfl | rfl | rfl <;> rfl
theorem eqA_cells (x y : Ax) : eqCells [(0, (.int .i64)), (1, (.int .i64)), (2, (.int .u64)), (3, (.int .u64)), (4, .string), (5, (.int .u64)), (6, (.int .u64)), (7, (.int .i64))] (encAx x).toArray (encAx y).toArray = some (decide (x = y)) := by
  rw [eqCells_int (xs := encAx x) (ys := encAx y) rfl rfl, eqCells_int (xs := encAx x) (ys := encAx y) rfl rfl, eqCells_int (xs := encAx x) (ys := encAx y) rfl rfl, eqCells_int (xs := encAx x) (ys := encAx y) rfl rfl,
    eqCells_str (xs := encAx x) (ys := encAx y) rfl rfl, eqCells_int (xs := encAx x) (ys := encAx y) rfl rfl, eqCells_int (xs := encAx x) (ys := encAx y) rfl rfl, eqCells_int (xs := encAx x) (ys := encAx y) rfl rfl, eqCells_nil]
  obtain ⟨a, b, c, d, e, f, g, h⟩ := x
  obtain ⟨a', b', c', d', e', f', g', h'⟩ := y
  simp only [Ax.mk.injEq, Int.ofNat_inj]
  by_cases h1 : a = a' <;> by_cases h2 : b = b' <;> by_cases h3 : c = c' <;> by_cases h4 : d = d' <;> by_cases h5 : e = e' <;> by_cases h6 : f = f' <;> by_cases h7 : g = g' <;> by_cases h8 : h = h' <;> simp [h1, h2, h3, h4, h5, h6, h7, h8]
theorem eqA (x y : Ax) : eqaggv [(0, (.int .i64)), (1, (.int .i64)), (2, (.int .u64)), (3, (.int .u64)), (4, .string), (5, (.int .u64)), (6, (.int .u64)), (7, (.int .i64))] .eql (.agg (encAx x).toArray) (.agg (encAx y).toArray) = some (.bool (decide (x = y))) := eqagg_eq (eqA_cells x y)
theorem neA (x y : Ax) : eqaggv [(0, (.int .i64)), (1, (.int .i64)), (2, (.int .u64)), (3, (.int .u64)), (4, .string), (5, (.int .u64)), (6, (.int .u64)), (7, (.int .i64))] .neq (.agg (encAx x).toArray) (.agg (encAx y).toArray) = some (.bool (!decide (x = y))) := eqagg_ne (eqA_cells x y)
theorem fstoren_step {T TT j n : Nat} {fs us : List Value} {w : World} {K : World → Prop} (g : blk w T = some (.cells fs.toArray TT (0, 0))) (hn : us.length = n) (hj : j + n ≤ fs.length) (h1 : ∀ u ∈ us, u.oneCell' = true) (hne : us ≠ [])
    (h : ∀ w', blk w' T = some (.cells (spliceL fs j us).toArray TT (0, 0)) → Fr [T] w w' → hsz w' = hsz w → K w') : BND (storev n w (.pointer (some ⟨T, j, none⟩)) (.agg us.toArray)) K := by
  refine BND_step (storevn_blk g hn (by simpa using hj) h1 hne) ?_
  refine h _ ?_ (Fr.setB (.inl (by simp)) _) (by simp)
  rw [blk_setB_same g, splice_L]
theorem ret_step {n T b : Nat} {zs vs : List Value} {w : World} {R : Value → World → Prop} (hb : blk w b = some (.cells zs.toArray T (0, 0))) (hz : zs.length = n) (hv : vs.length = n) (h1 : ∀ u ∈ vs, u.oneCell' = true) (hn : vs ≠ [])
    (h : ∀ w', Fr [b] w w' → hsz w' = hsz w → R (.agg vs.toArray) w') : BND (storev n w (.pointer (some ⟨b, 0, none⟩)) (.agg vs.toArray)) fun w8 => BND (loadn n w8 (.pointer (some ⟨b, 0, none⟩))) fun r => R r w8 := by
  refine fstoren_step hb hv (by omega) h1 hn fun w' b' f' z' => ?_
  have e : spliceL zs 0 vs = vs := by
    have := splice_all zs.toArray vs (by simp; omega)
    rw [splice_L] at this
    exact List.toArray_inj this
  rw [e] at b'
  refine BND_step (loadn_all b' hv) ?_
  exact h w' f' z'
theorem conv_iu {n : Int} (h : 0 ≤ n ∧ n < 9223372036854775808) : convi .u64 (.int .i64 n) = some (.int .u64 ((n.toNat : Nat) : Int)) := by
  obtain ⟨k, rfl⟩ : ∃ k : Nat, n = (k : Int) := ⟨n.toNat, by omega⟩
  simpa using convu64 (k := .i64) (x := k) (by omega)
theorem lane_up {n : Int} (h : -1 ≤ n ∧ n < 8) : binv .int .add (.int .i64 n) (.int .i64 1) = some (.int .i64 (n + 1)) := by
  rw [binv_add, wrap_i64 (by omega) (by omega)]
set_option linter.unusedSimpArgs false
set_option linter.unusedVariables false
set_option maxRecDepth 20000
set_option maxHeartbeats 4000000
attribute [local congr] BND_cg COND_cg GEF_cg
attribute [local irreducible] capl slicea load1 loadn iaddr iaddra faddr storev newslice binv lookv mupd mdel mlenv mentry mestore slicev slicev3 slices indexs indexav textv rangev nexts clearv shiftv eqaggv convi buildv pickv lens lenl unv nilchk extractv partn JOIN
section
variable {w : World} {R : Value → World → Prop}
theorem op_lane (n least : Int) (hR : R (.bool (decide (least ≤ n) && decide (n < 8))) w) : CALL PR F_op_lane [.int .i64 n, .int .i64 least] w R := by
  refine C_op_lane ?_
  unfold M_op_lane
  by_cases h1 : least ≤ n
  · by_cases h2 : n < 8
    · (repeat refine gg ?_)
      simpa [h1, h2] using hR
    · (repeat refine gg ?_)
      simpa [h1, h2] using hR
  · (repeat refine gg ?_)
    simpa [h1] using hR
theorem op_kept (o : Ax) (hR : ∀ w', Fr [] w w' → R (.agg (encAx (keptA o)).toArray) w') : CALL PR F_op_Op_kept [.agg (encAx o).toArray] w R := by
  refine C_op_Op_kept ?_
  unfold M_op_Op_kept
  refine NEW_intro fun w1 b1 f1 z1 => ?_
  replace b1 : blk w1 (hsz w) = some (.cells (encAx o).toArray 26 (0, 0)) := b1
  refine NEW_intro fun w2 b2 f2 z2 => ?_
  replace b2 : blk w2 (hsz w1) = some (.cells (encAx zeroA).toArray 26 (0, 0)) := b2
  have b12 := f2.some (by simp) b1
  (repeat (first | refine gg ?_ | (apply BND_build (encAx { zeroA with d := o.d }); exact rfl)))
  refine box_step (n := 8) (zs := encAx zeroA) (vs := encAx { zeroA with d := o.d }) rfl rfl (encAx_one _) (by simp [encAx]) fun w4 b4 f4 z4 => ?_
  have b14 := f4.some (by simp) b12
  have b24 := f4.some (by simp) b2
  have f04 := (f1.trans' f2).trans' f4
  have key : ∀ (vs : List Value) (w5 : World) (a : Ax), vs = encAx a → keptA o = a → blk w5 (hsz w2) = some (.cells vs.toArray 26 (0, 0)) → Fr [hsz w2] w4 w5 →
      BND (loadn 8 w5 (.pointer (some ⟨hsz w2, 0, none⟩))) fun t => BND (storev 8 w5 (.pointer (some ⟨hsz w1, 0, none⟩)) t) fun w8 => BND (loadn 8 w8 (.pointer (some ⟨hsz w1, 0, none⟩))) fun r => R r w8 := by
    rintro _ w5 a rfl rfl hb hf
    refine BND_step (loadn_all' hb rfl) ?_
    have b25 := hf.some (by simp; omega) b24
    refine ret_step b25 rfl rfl (encAx_one _) (by simp [encAx]) fun w8 f8 z8 => ?_
    exact hR w8 ((f04.trans hf fun b hb => .inr (by simp at hb; omega)).trans f8 fun b hb => .inr (by simp at hb; omega))
  by_cases h2 : o.d = 2
  · (repeat refine gg ?_)
    refine ⟨fun _ w' => blk w' (hsz w) = some (.cells (encAx o).toArray 26 (0, 0)), b14, b14, ?_⟩
    replace b4 : blk w4.drew (hsz w2) = some (.cells (encAx { zeroA with d := o.d }).toArray 26 (0, 0)) := b4
    replace b14 : blk w4.drew (hsz w) = some (.cells (encAx o).toArray 26 (0, 0)) := b14
    (repeat (first | refine gg ?_ | refine FLT.mk _ (fun _ hw_ => (loadn_blk hw_ (by simp [encAx]))) ?_))
    refine fstore_step (j := 1) (u := .int .i64 o.lane) b4 ⟨rfl, rfl⟩ (by simp [encAx]) fun w5 b5 f5 z5 => ?_
    have b15 := f5.some (by simp; omega) b14
    refine ⟨b15, b15, ?_⟩
    (repeat refine gg ?_)
    refine fstore_step (j := 3) (u := .int .u64 (o.n : Int)) b5 ⟨rfl, rfl⟩ (by simp [encAx]) fun w6 b6 f6 z6 => ?_
    have b16 := f6.some (by simp; omega) b15
    refine ⟨b16, ?_⟩
    (repeat refine gg ?_)
    refine fstoren_step (us := [.int .u64 (o.seg : Int), .int .u64 (o.at_ : Int), .int .i64 o.size]) b6 rfl (by simp [encAx]) (by intro u hu; simp at hu; rcases hu with rfl | rfl | rfl <;> rfl) (by simp) fun w7 b7 f7 z7 => ?_
    refine key _ w7 ⟨2, o.lane, 0, o.n, noB, o.seg, o.at_, o.size⟩ ?_ (by unfold keptA; rw [if_pos h2]) b7 ?_
    · rw [h2]; rfl
    · exact ((⟨Nat.le_refl _, fun _ _ _ => rfl, rfl, rfl, rfl⟩ : Fr [hsz w2] w4 w4.drew).trans f5 fun b hb => .inl hb).trans f6 (fun b hb => .inl hb) |>.trans f7 fun b hb => .inl hb
  by_cases h3 : o.d = 3
  · (repeat refine gg ?_)
    refine ⟨fun _ w' => blk w' (hsz w) = some (.cells (encAx o).toArray 26 (0, 0)), b14, ?_⟩
    replace b4 : blk w4.drew (hsz w2) = some (.cells (encAx { zeroA with d := o.d }).toArray 26 (0, 0)) := b4
    replace b14 : blk w4.drew (hsz w) = some (.cells (encAx o).toArray 26 (0, 0)) := b14
    (repeat refine gg ?_)
    refine fstore_step (j := 1) (u := .int .i64 o.lane) b4 ⟨rfl, rfl⟩ (by simp [encAx]) fun w5 b5 f5 z5 => ?_
    have b15 := f5.some (by simp; omega) b14
    refine ⟨b15, ?_⟩
    (repeat refine gg ?_)
    refine fstore_step (j := 3) (u := .int .u64 (o.n : Int)) b5 ⟨rfl, rfl⟩ (by simp [encAx]) fun w6 b6 f6 z6 => ?_
    refine key _ w6 ⟨3, o.lane, 0, o.n, noB, 0, 0, 0⟩ ?_ (by unfold keptA; rw [if_neg h2, if_pos h3]) b6 ?_
    · rw [h3]; rfl
    · exact ((⟨Nat.le_refl _, fun _ _ _ => rfl, rfl, rfl, rfl⟩ : Fr [hsz w2] w4 w4.drew).trans f5 fun b hb => .inl hb).trans f6 fun b hb => .inl hb
  have e2 : (decide (o.d = 2)) = false := decide_eq_false h2
  have e3 : (decide (o.d = 3)) = false := decide_eq_false h3
  (repeat refine gg ?_)
  refine join_v (fun v w' => v = .bool (id2D o.d) ∧ w4 = w') (fun K hK => ?_) ?_
  · unfold id2D at hK
    by_cases h5 : o.d = 5
    · (repeat refine gg ?_)
      exact hK _ _ ⟨by simp [h5], rfl⟩
    · (repeat refine gg ?_)
      exact hK _ _ ⟨by simp [h5], rfl⟩
  rintro _ _ ⟨rfl, rfl⟩
  cases h56 : id2D o.d with
  | true =>
    (repeat refine gg ?_)
    refine fstore_step (j := 3) (u := .int .u64 (o.n : Int)) b4 ⟨rfl, rfl⟩ (by simp [encAx]) fun w5 b5 f5 z5 => ?_
    have b15 := f5.some (by simp; omega) b14
    (repeat refine gg ?_)
    refine fstore_step (j := 2) (u := .int .u64 (o.id : Int)) b5 ⟨rfl, rfl⟩ (by simp [encAx]) fun w6 b6 f6 z6 => ?_
    refine key _ w6 ⟨o.d, 0, o.id, o.n, noB, 0, 0, 0⟩ rfl (by unfold keptA; rw [if_neg h2, if_neg h3, if_pos h56]) b6 ?_
    exact f5.trans f6 fun b hb => .inl hb
  | false =>
    (repeat refine gg ?_)
    refine join_v (fun v w' => v = .bool (idD o.d) ∧ w4 = w') (fun K hK => ?_) ?_
    · unfold idD at hK
      by_cases h4 : o.d = 4
      · (repeat refine gg ?_)
        exact hK _ _ ⟨by simp [h4], rfl⟩
      · (repeat refine gg ?_)
        refine join_v (fun v w' => v = .bool (decide (o.d = 8) || decide (o.d = 9)) ∧ w4 = w') (fun K2 hK2 => ?_) ?_
        · by_cases h8 : o.d = 8
          · (repeat refine gg ?_)
            exact hK2 _ _ ⟨by simp [h8], rfl⟩
          · (repeat refine gg ?_)
            exact hK2 _ _ ⟨by simp [h8], rfl⟩
        · rintro _ _ ⟨rfl, rfl⟩
          exact hK _ _ ⟨by simp [h4], rfl⟩
    rintro _ _ ⟨rfl, rfl⟩
    cases h489 : idD o.d with
    | true =>
      (repeat refine gg ?_)
      refine fstore_step (j := 2) (u := .int .u64 (o.id : Int)) b4 ⟨rfl, rfl⟩ (by simp [encAx]) fun w5 b5 f5 z5 => ?_
      refine key _ w5 ⟨o.d, 0, o.id, 0, noB, 0, 0, 0⟩ rfl (by unfold keptA; rw [if_neg h2, if_neg h3, h56, h489]; simp) b5 f5
    | false =>
      by_cases h10 : o.d = 10
      · (repeat refine gg ?_)
        refine fstore_step (j := 4) (u := .string o.name) b4 ⟨rfl, rfl⟩ (by simp [encAx]) fun w5 b5 f5 z5 => ?_
        have b15 := f5.some (by simp; omega) b14
        (repeat refine gg ?_)
        refine fstore_step (j := 3) (u := .int .u64 (o.n : Int)) b5 ⟨rfl, rfl⟩ (by simp [encAx]) fun w6 b6 f6 z6 => ?_
        refine key _ w6 ⟨10, 0, 0, o.n, o.name, 0, 0, 0⟩ ?_ (by unfold keptA; rw [if_neg h2, if_neg h3, h56, h489]; simp [h10]) b6 ?_
        · rw [h10]; rfl
        · exact f5.trans f6 fun b hb => .inl hb
      · by_cases h7 : o.d = 7
        · (repeat refine gg ?_)
          refine fstore_step (j := 3) (u := .int .u64 (o.n : Int)) b4 ⟨rfl, rfl⟩ (by simp [encAx]) fun w5 b5 f5 z5 => ?_
          refine key _ w5 ⟨7, 0, 0, o.n, noB, 0, 0, 0⟩ ?_ (by unfold keptA; rw [if_neg h2, if_neg h3, h56, h489]; simp [h10, h7]) b5 f5
          rw [h7]; rfl
        · (repeat refine gg ?_)
          refine key _ w4 ⟨o.d, 0, 0, 0, noB, 0, 0, 0⟩ rfl (by unfold keptA; rw [if_neg h2, if_neg h3, h56, h489]; simp [h10, h7]) b4 (Fr.refl _ _)
theorem op_Right (o : Ax) (hR : ∀ w', Fr [] w w' → R (.bool (rightA o)) w') : CALL PR F_op_Right [.agg (encAx o).toArray] w R := by
  refine C_op_Right ?_
  unfold M_op_Right
  refine NEW_intro fun w1 b1 f1 z1 => ?_
  replace b1 : blk w1.drew (hsz w) = some (.cells (encAx o).toArray 26 (0, 0)) := b1
  have f1d : Fr [] w w1.drew := f1.trans' (Fr.drew _ _)
  refine ⟨fun _ w' => blk w' (hsz w) = some (.cells (encAx o).toArray 26 (0, 0)), b1, ?_⟩
  by_cases h1 : o.d < 1
  · have e : rightA o = false := by unfold rightA; rw [decide_eq_false (show ¬ 1 ≤ o.d by omega)]; simp
    rw [e] at hR
    (repeat refine gg ?_)
    refine FLT.mk undef (fun _ _ => rfl) ?_
    (repeat refine gg ?_)
    refine ⟨b1, ?_⟩
    (repeat refine gg ?_)
    exact hR _ f1d
  by_cases h2 : 10 < o.d
  · have e : rightA o = false := by unfold rightA; rw [decide_eq_false (show ¬ o.d ≤ 10 by omega)]; simp
    rw [e] at hR
    (repeat refine gg ?_)
    refine FLT.mk undef (fun _ _ => rfl) ?_
    (repeat refine gg ?_)
    refine ⟨b1, ?_⟩
    (repeat refine gg ?_)
    exact hR _ f1d
  have p1 : decide (1 ≤ o.d) = true := decide_eq_true (by omega)
  have p2 : decide (o.d ≤ 10) = true := decide_eq_true (by omega)
  (repeat (first | refine BND_step (loadn_all' b1 rfl) ?_ | refine gg ?_ | refine FLT.mk _ (fun _ hw_ => (loadn_all' hw_ rfl)) ?_))
  refine op_kept o fun w2 f2 => ?_
  have b2 := f2.some (by simp) b1
  have f02 := f1d.trans' f2
  refine ⟨b2, ?_⟩
  have n1 := neA o (keptA o)
  by_cases hk : o = keptA o
  · rw [decide_eq_true hk] at n1
    simp only [Bool.not_true] at n1
    by_cases hs : 64 < o.name.size
    · have e : rightA o = false := by unfold rightA; rw [decide_eq_false (show ¬ o.name.size ≤ 64 by omega)]; simp
      rw [e] at hR
      (repeat refine gg ?_)
      exact hR _ f02
    · have e : rightA o = mayA o := by unfold rightA; rw [p1, p2, decide_eq_true hk, decide_eq_true (show o.name.size ≤ 64 by omega)]; simp
      rw [e] at hR
      unfold mayA at hR
      by_cases d2 : o.d = 2
      · (repeat refine gg ?_)
        refine op_lane _ _ ?_
        rw [if_pos d2] at hR
        cases hl : (decide (0 ≤ o.lane) && decide (o.lane < 8)) with
        | false =>
          rw [hl] at hR
          (repeat refine gg ?_)
          simpa using hR _ f02
        | true =>
          rw [hl] at hR
          by_cases g1 : 0 ≤ o.size
          · by_cases g2 : o.size ≤ 64
            · (repeat refine gg ?_)
              simpa [g1, g2] using hR _ f02
            · (repeat refine gg ?_)
              simpa [g1, g2] using hR _ f02
          · (repeat refine gg ?_)
            simpa [g1] using hR _ f02
      · rw [if_neg d2] at hR
        by_cases d3 : o.d = 3
        · (repeat refine gg ?_)
          refine op_lane _ _ ?_
          rw [if_pos d3] at hR
          exact hR _ f02
        · rw [if_neg d3] at hR
          (repeat refine gg ?_)
          exact hR _ f02
  · have e : rightA o = false := by unfold rightA; rw [decide_eq_false hk]; simp
    rw [e] at hR
    rw [decide_eq_false hk] at n1
    simp only [Bool.not_false] at n1
    (repeat refine gg ?_)
    exact hR _ f02
theorem op_Record (o : Ax) (hR0 : rightA o = false → ∀ w', Fr [] w w' → R (.tuple #[.agg (encRc (0, nilV, noB)).toArray, .int .i64 1]) w')
    (hR : rightA o = true → ∀ w' (s : SV) H, Slc encU 1 w' s.v (numsA o) H → (∀ b ∈ H, hsz w ≤ b) → Fr [] w w' → R (.tuple #[.agg (encRc (o.d, s, o.name)).toArray, .int .i64 0]) w') : CALL PR F_op_Record [.agg (encAx o).toArray] w R := by
  refine C_op_Record ?_
  unfold M_op_Record
  refine NEW_intro fun w1 b1 f1 z1 => ?_
  replace b1 : blk w1 (hsz w) = some (.cells (encAx o).toArray 26 (0, 0)) := b1
  refine NEW_intro fun w2 b2 f2 z2 => ?_
  replace b2 : blk w2 (hsz w1) = some (.cells (encRc (0, nilV, noB)).toArray 29 (0, 0)) := b2
  have b12 := f2.some (by simp) b1
  (repeat (first | refine BND_step (loadn_all' b12 rfl) ?_ | refine gg ?_))
  refine op_Right o fun w3 f3 => ?_
  have b13 := f3.some (by simp) b12
  have b23 := f3.some (by simp) b2
  have f03 := (f1.trans' f2).trans' f3
  cases hr : rightA o with
  | false =>
    (repeat (first | refine gg ?_ | (apply BND_build (encRc (0, nilV, noB)); exact rfl)))
    refine ret_step (R := fun r w8 => R (.tuple #[r, .int .i64 1]) w8) b23 rfl rfl (encRc_one _) (by simp [encRc]) fun w4 f4 z4 => ?_
    exact hR0 hr w4 (f03.trans f4 fun b hb => .inr (by simp at hb; omega))
  | true =>
    obtain ⟨hd, hk, hs, hm⟩ := rightA_iff.1 hr
    (repeat (first | refine gg ?_ | (apply BND_build (encRc (o.d, nilV, o.name)); exact rfl)))
    refine box_step (n := 3) (zs := encRc (0, nilV, noB)) (vs := encRc (o.d, nilV, o.name)) rfl rfl (encRc_one _) (by simp [encRc]) fun w6 b6 f6 z6 => ?_
    have b16 := f6.some (by simp) b13
    have b26 := f6.some (by simp) b23
    have f06 := f03.trans' f6
    have gr := f06.grow
    (repeat refine gg ?_)
    obtain ⟨Q, hQ⟩ : ∃ Q : World → Prop, Q = fun w' => ∃ (s : SV) (H : List Nat), blk w' (hsz w3) = some (.cells (encRc (o.d, s, o.name)).toArray 29 (0, 0)) ∧ Slc encU 1 w' s.v (numsA o) H ∧ (∀ b ∈ H, hsz w6 ≤ b) ∧ Fr [hsz w3] w6 w' := ⟨_, rfl⟩
    have put : ∀ (K : World → Prop), (∀ w', Q w' → K w') → ∀ (ps : List (Nat × Nat × Value)) (n : Nat), numsA o ≠ [] → ps = partsAt 1 (fun x : Nat => Value.int .u64 (x : Int)) 0 (numsA o) → n = (numsA o).length →
        BND (newslice 22 #[(Value.int .u64 0)] 1 n ps w6) fun p_ => NEW p_ fun t w9 => BND (faddr 1 (.pointer (some ⟨hsz w3, 0, none⟩))) fun a => BND (storev 1 w9 a t) fun w10 => K w10 := by
      intro K hK ps n hne hps hn
      refine newparts_step encU_len (val := fun x : Nat => Value.int .u64 (x : Int)) (fun _ => rfl) (numsA o) hn hps fun t w9 s9 f9 z9 => ?_
      obtain ⟨x9, rfl⟩ := slc_sv s9
      have b69 := f9.some (by simp) b6
      (repeat refine gg ?_)
      refine fstore_step (j := 1) (u := x9.v) b69 (sv_one x9) (by simp [encRc]) fun w10 b10 f10 z10 => ?_
      refine hK _ (by rw [hQ]; exact ⟨x9, [hsz w6], b10, s9.fr f10 (by simp; omega), by simp, f9.nil.trans f10 fun b hb => .inl hb⟩)
    refine join_w Q (fun K hK => ?_) (fun w7 hq => ?_)
    · by_cases h2 : o.d = 2
      · obtain ⟨m1, m2, m3, m4⟩ := may2 hm h2
        have e : numsA o = [o.lane.toNat, o.n, o.seg, o.at_, o.size.toNat] := by unfold numsA; rw [if_pos h2]
        (repeat (first | refine BND_step (conv_iu (n := o.lane) (by omega)) ?_ | refine BND_step (conv_iu (n := o.size) (by omega)) ?_ | refine gg ?_))
        exact put K hK _ _ (by rw [e]; simp) (by rw [e]; rfl) (by rw [e]; rfl)
      · (repeat refine gg ?_)
        refine join_w Q (fun K1 hK1 => ?_) (fun w' hq => hK _ hq)
        by_cases h3 : o.d = 3
        · obtain ⟨m1, m2⟩ := may3 hm h3
          have e : numsA o = [(o.lane + 1).toNat, o.n] := by unfold numsA; rw [if_neg h2, if_pos h3]
          (repeat (first | refine BND_step (lane_up (n := o.lane) (by omega)) ?_ | refine BND_step (conv_iu (n := o.lane + 1) (by omega)) ?_ | refine gg ?_))
          exact put K1 hK1 _ _ (by rw [e]; simp) (by rw [e]; rfl) (by rw [e]; rfl)
        · (repeat refine gg ?_)
          refine join_v (fun v w' => v = .bool (id2D o.d) ∧ w6 = w') (fun K2 hK2 => ?_) ?_
          · unfold id2D at hK2
            by_cases h5 : o.d = 5
            · (repeat refine gg ?_)
              exact hK2 _ _ ⟨by simp [h5], rfl⟩
            · (repeat refine gg ?_)
              exact hK2 _ _ ⟨by simp [h5], rfl⟩
          rintro _ _ ⟨rfl, rfl⟩
          refine join_w Q (fun K2 hK2 => ?_) (fun w' hq => hK1 _ hq)
          cases h56 : id2D o.d with
          | true =>
            have e : numsA o = [o.id, o.n] := by unfold numsA; rw [if_neg h2, if_neg h3, if_pos h56]
            (repeat refine gg ?_)
            exact put K2 hK2 _ _ (by rw [e]; simp) (by rw [e]; rfl) (by rw [e]; rfl)
          | false =>
            (repeat refine gg ?_)
            refine join_v (fun v w' => v = .bool (idD o.d) ∧ w6 = w') (fun K3 hK3 => ?_) ?_
            · unfold idD at hK3
              by_cases h4 : o.d = 4
              · (repeat refine gg ?_)
                exact hK3 _ _ ⟨by simp [h4], rfl⟩
              · (repeat refine gg ?_)
                refine join_v (fun v w' => v = .bool (decide (o.d = 8) || decide (o.d = 9)) ∧ w6 = w') (fun K4 hK4 => ?_) ?_
                · by_cases h8 : o.d = 8
                  · (repeat refine gg ?_)
                    exact hK4 _ _ ⟨by simp [h8], rfl⟩
                  · (repeat refine gg ?_)
                    exact hK4 _ _ ⟨by simp [h8], rfl⟩
                · rintro _ _ ⟨rfl, rfl⟩
                  exact hK3 _ _ ⟨by simp [h4], rfl⟩
            rintro _ _ ⟨rfl, rfl⟩
            refine join_w Q (fun K3 hK3 => ?_) (fun w' hq => hK2 _ hq)
            cases h489 : idD o.d with
            | true =>
              have e : numsA o = [o.id] := by unfold numsA; rw [if_neg h2, if_neg h3, h56, h489]; simp
              (repeat refine gg ?_)
              exact put K3 hK3 _ _ (by rw [e]; simp) (by rw [e]; rfl) (by rw [e]; rfl)
            | false =>
              (repeat refine gg ?_)
              refine join_v (fun v w' => v = .bool (decide (o.d = 7) || decide (o.d = 10)) ∧ w6 = w') (fun K4 hK4 => ?_) ?_
              · by_cases h7 : o.d = 7
                · (repeat refine gg ?_)
                  exact hK4 _ _ ⟨by simp [h7], rfl⟩
                · (repeat refine gg ?_)
                  exact hK4 _ _ ⟨by simp [h7], rfl⟩
              rintro _ _ ⟨rfl, rfl⟩
              refine join_w Q (fun K4 hK4 => ?_) (fun w' hq => hK3 _ hq)
              cases h710 : (decide (o.d = 7) || decide (o.d = 10)) with
              | true =>
                have e : numsA o = [o.n] := by unfold numsA; rw [if_neg h2, if_neg h3, h56, h489]; simp at h710; simp [h710]
                (repeat refine gg ?_)
                exact put K4 hK4 _ _ (by rw [e]; simp) (by rw [e]; rfl) (by rw [e]; rfl)
              | false =>
                have e : numsA o = [] := by unfold numsA; rw [if_neg h2, if_neg h3, h56, h489]; simp at h710; simp [h710]
                (repeat refine gg ?_)
                refine hK4 _ (by rw [hQ, e]; exact ⟨nilV, [], b6, Slc.nil _ _ _, by simp, Fr.refl _ _⟩)
    · rw [hQ] at hq
      obtain ⟨x7, H, b7, s7, g7, f7⟩ := hq
      have gr3 := f3.grow
      have gr6 := f6.grow
      have gr03 := f03.grow
      have b27 := f7.some (by simp; omega) b26
      (repeat (first | refine BND_step (loadn_all' b7 rfl) ?_ | refine gg ?_))
      refine ret_step (R := fun r w8 => R (.tuple #[r, .int .i64 0]) w8) b27 rfl rfl (encRc_one _) (by simp [encRc]) fun w8 f8 z8 => ?_
      refine hR hr w8 x7 H (s7.fr f8 (fun b hb hb' => ?_)) (fun b hb => ?_) ((f06.trans f7 fun b hb => .inr (by simp at hb; omega)).trans f8 fun b hb => .inr (by simp at hb; omega))
      · have := g7 b hb; simp at hb'; omega
      · have := g7 b hb; omega
end
end Go.Proofs.YtpgflmjeedbimaaGreat
end
section
namespace Go.Proofs.YtpgflmjeedbimaaGreat
open Go.Den Go.Disk Go.Vint Go.Crc Go.Frame Go.Rec Go.Ev
def ofR (k : Int) (ns : List Nat) (t : ByteArray) : Ax × Int := if rightRk k ns.length t.size = true then ofA ⟨k.toNat, ns, t.data.toList⟩ else (zeroA, 2)
def takeV (rb : Nat) : Value := .func (.func F_op_Of_1) #[] #[.pointer (some ⟨rb, 0, none⟩)]
def smallV (tb : Nat) : Value := .func (.func F_op_Of_2) #[] #[.pointer (some ⟨tb, 0, none⟩)]
structure RestAt (w0 w : World) (rb tb : Nat) (ns : List Nat) : Prop where
  rest : ∃ (x : SV) (T : TypeId), blk w rb = some (.cells [x.v].toArray T (0, 0)) ∧ ArrC encU 1 w0 x.v ns
  take : ∃ T : TypeId, blk w tb = some (.cells [takeV rb].toArray T (0, 0))
  fr : Fr [] w0 w
  new : hsz w0 ≤ rb
  ne : tb ≠ rb
theorem RestAt.st {w0 w w' : World} {rb tb b : Nat} {ns : List Nat} (h : RestAt w0 w rb tb ns) (f : Fr [b] w w') (hb : b ≠ rb ∧ b ≠ tb) (h0 : hsz w0 ≤ b) : RestAt w0 w' rb tb ns := by
  obtain ⟨⟨x, T, h1, h2⟩, ⟨T', h3⟩, h4, h5, h6⟩ := h
  exact ⟨⟨x, T, f.some (by simp; omega) h1, h2⟩, ⟨T', f.some (by simp; omega) h3⟩, h4.trans f fun c hc => .inr (by simp at hc; omega), h5, h6⟩
theorem RestAt.drew {w0 w : World} {rb tb : Nat} {ns : List Nat} (h : RestAt w0 w rb tb ns) : RestAt w0 w.drew rb tb ns := by
  obtain ⟨⟨x, T, h1, h2⟩, ⟨T', h3⟩, h4, h5, h6⟩ := h
  exact ⟨⟨x, T, h1, h2⟩, ⟨T', h3⟩, h4.trans' (Fr.drew _ _), h5, h6⟩
theorem RestAt.ld {w0 w : World} {rb tb : Nat} {ns : List Nat} (h : RestAt w0 w rb tb ns) : load1 w (.pointer (some ⟨tb, 0, none⟩)) = some (takeV rb) := by
  obtain ⟨T, b⟩ := h.take
  exact load1_at b rfl
theorem five {α : Type} : ∀ {l : List α}, l.length = 5 → ∃ a b c d e, l = [a, b, c, d, e]
  | [a, b, c, d, e], _ => ⟨a, b, c, d, e, rfl⟩
theorem two {α : Type} : ∀ {l : List α}, l.length = 2 → ∃ a b, l = [a, b]
  | [a, b], _ => ⟨a, b, rfl⟩
theorem one {α : Type} : ∀ {l : List α}, l.length = 1 → ∃ a, l = [a]
  | [a], _ => ⟨a, rfl⟩
theorem sml_v (n : Nat) : min2v (.int .u64 (n : Int)) (.int .u64 1048576) = some (.int .u64 (sml n)) := by
  show some (Value.int .u64 (if (1048576 : Int) < (n : Int) then 1048576 else (n : Int))) = _
  unfold sml
  congr 2
  split <;> omega
theorem sml_c (n : Nat) : convi .i64 (.int .u64 (sml n)) = some (.int .i64 (sml n)) := by
  unfold sml
  exact convi64 (by omega)
theorem sml_less (n : Nat) : binv .int .sub (.int .i64 (sml n)) (.int .i64 1) = some (.int .i64 (sml n - 1)) := by
  unfold sml
  rw [binv_sub, wrap_i64 (by omega) (by omega)]
theorem okTake : okCallee PR F_op_Of_1 = true := by kernel_rfl
theorem okSmall : okCallee PR F_op_Of_2 = true := by kernel_rfl
set_option linter.unusedSimpArgs false
set_option linter.unusedVariables false
set_option maxRecDepth 20000
set_option maxHeartbeats 4000000
attribute [local congr] BND_cg COND_cg GEF_cg
attribute [local irreducible] capl slicea load1 loadn iaddr iaddra faddr storev newslice binv lookv mupd mdel mlenv mentry mestore slicev slicev3 slices indexs indexav textv rangev nexts clearv shiftv eqaggv convi buildv pickv lens lenl unv nilchk extractv partn JOIN
section
variable {w0 w : World} {R : Value → World → Prop} {rb tb : Nat} {n : Nat} {ns : List Nat}
theorem op_take (h : RestAt w0 w rb tb (n :: ns)) (hR : ∀ w', RestAt w0 w' rb tb ns → Fr [rb] w w' → hsz w' = hsz w → R (.int .u64 (n : Int)) w') : CALLV PR (takeV rb) [] w R := by
  refine (CALLV_func okTake).2 ?_
  refine C_op_Of_1 ?_
  unfold M_op_Of_1
  obtain ⟨⟨x, T, b1, ar⟩, ⟨T', b2⟩, f0, hn, hne⟩ := h
  obtain ⟨b, o, ia, _, hb, ld⟩ := ar.arr.spot (i := 0) (x := n) rfl rfl .i64
  obtain ⟨v', hv, ar'⟩ := ar.from (lo := 1) (by simp)
  obtain ⟨x', rfl⟩ := ar'.arr.sv
  have ld0 := ld (w' := w) (f0.keep b hb (by simp)) (j := 0) rfl
  (repeat refine gg ?_)
  refine fstore_step (j := 0) (u := x'.v) b1 (sv_one x') (by simp) fun w' b' f' z' => ?_
  refine hR _ ⟨⟨x', T, b', ar'⟩, ⟨T', f'.some (by simp; omega) b2⟩, f0.trans f' fun c hc => .inr (by simp at hc; omega), hn, hne⟩ f' z'
theorem op_small (h : RestAt w0 w rb tb (n :: ns)) (hR : ∀ w', RestAt w0 w' rb tb ns → Fr [rb] w w' → hsz w' = hsz w → R (.int .i64 (sml n)) w') : CALLV PR (smallV tb) [] w R := by
  refine (CALLV_func okSmall).2 ?_
  refine C_op_Of_2 ?_
  unfold M_op_Of_2
  obtain ⟨T', b2⟩ := h.take
  (repeat refine gg ?_)
  refine op_take h fun w' h' f' z' => ?_
  (repeat (first | refine BND_step (sml_v n) ?_ | refine BND_step (sml_c n) ?_ | refine gg ?_))
  exact hR _ h' f' z'
end
section
variable {w : World} {R : Value → World → Prop}
theorem op_Of {nv : SV} {ns : List Nat} (k : Int) (t : ByteArray) (hn : ArrC encU 1 w nv.v ns) (hR : ∀ w', Fr [] w w' → R (.tuple #[.agg (encAx (ofR k ns t).1).toArray, .int .i64 (ofR k ns t).2]) w') : CALL PR F_op_Of [.agg (encRc (k, nv, t)).toArray] w R := by
  refine C_op_Of ?_
  unfold M_op_Of
  refine NEW_intro fun w1 b1 f1 z1 => ?_
  replace b1 : blk w1 (hsz w) = some (.cells (encRc (k, nv, t)).toArray 29 (0, 0)) := b1
  refine NEW_intro fun w2 b2 f2 z2 => ?_
  replace b2 : blk w2 (hsz w1) = some (.cells (encAx zeroA).toArray 26 (0, 0)) := b2
  have b12 := f2.some (by simp) b1
  (repeat (first | refine BND_step (loadn_all' b12 rfl) ?_ | refine gg ?_))
  refine rec_Right k t ((hn.fr (f1.trans' f2) (by simp)).arr) fun w3 f3 => ?_
  have b13 := f3.some (by simp) b12
  have b23 := f3.some (by simp) b2
  have f03 := (f1.trans' f2).trans' f3
  have g3 := f3.grow
  unfold ofR at hR
  cases hr : rightRk k ns.length t.size with
  | false =>
    rw [hr] at hR
    (repeat (first | refine gg ?_ | (apply BND_build (encAx zeroA); exact rfl)))
    refine ret_step (R := fun r w8 => R (.tuple #[r, .int .i64 2]) w8) b23 rfl rfl (encAx_one _) (by simp [encAx]) fun w4 f4 z4 => ?_
    exact hR w4 (f03.trans f4 fun b hb => .inr (by simp at hb; omega))
  | true =>
    rw [hr] at hR
    simp only [if_true] at hR
    obtain ⟨k1, k17, hlen, hfit⟩ := right_known hr
    have ek : ((k.toNat : Nat) : Int) = k := by omega
    (repeat refine gg ?_)
    refine NEW_intro fun w4 b4 f4 z4 => ?_
    replace b4 : blk w4 (hsz w3) = some (.cells [.slice none 0 0].toArray 27 (0, 0)) := b4
    refine fstore_step (j := 0) (u := nv.v) b4 (sv_one nv) (by simp) fun w5 b5 f5 z5 => ?_
    replace b5 : blk w5 (hsz w3) = some (.cells [nv.v].toArray 27 (0, 0)) := b5
    refine NEW_intro fun w6 b6 f6 z6 => ?_
    have b56 := f6.some (by simp) b5
    refine fstore_step (j := 0) (fs := [.nilFunc]) (u := takeV (hsz w3)) b6 ⟨rfl, rfl⟩ (by simp) fun w7 b7 f7 z7 => ?_
    have b57 := f7.some (by simp; omega) b56
    have f37 : Fr [] w3 w7 := ((f4.trans f5 fun b hb => .inr (by simp at hb; omega)).trans' f6).trans f7 fun b hb => .inr (by simp at hb; omega)
    have b17 := f37.some (by simp) b13
    have b27 := f37.some (by simp) b23
    have hr7 : RestAt w w7 (hsz w3) (hsz w5) ns := ⟨⟨nv, _, b57, hn⟩, ⟨_, b7⟩, f03.trans' f37, f03.grow, by omega⟩
    (repeat (first | refine gg ?_ | (apply BND_build (encAx { zeroA with d := k, name := t }); exact rfl)))
    refine box_step (n := 8) (zs := encAx zeroA) (vs := encAx { zeroA with d := k, name := t }) rfl rfl (encAx_one _) (by simp [encAx]) fun w8 b8 f8 z8 => ?_
    have hr8 : RestAt w w8 (hsz w3) (hsz w5) ns := by
      obtain ⟨⟨x, T, h1, h2⟩, ⟨T', h3⟩, h4, h5, h6⟩ := hr7
      exact ⟨⟨x, T, f8.some (by simp) h1, h2⟩, ⟨T', f8.some (by simp) h3⟩, h4.trans' f8, h5, h6⟩
    have b18 := f8.some (by simp) b17
    have b28 := f8.some (by simp) b27
    have f08 := (f03.trans' f37).trans' f8
    have g37 := f37.grow
    have g03 := f03.grow
    obtain ⟨P, hP⟩ : ∃ P, P = preA ⟨k.toNat, ns, t.data.toList⟩ := ⟨_, rfl⟩
    obtain ⟨Q, hQ⟩ : ∃ Q : World → Prop, Q = fun w' => blk w' (hsz w7) = some (.cells (encAx P).toArray 26 (0, 0)) ∧ Fr [hsz w7, hsz w3] w8 w' := ⟨_, rfl⟩
    (repeat refine gg ?_)
    refine join_w Q (fun K hK => ?_) (fun w9 hq => ?_)
    · have fin : ∀ w9 X, blk w9 (hsz w7) = some (.cells (encAx X).toArray 26 (0, 0)) → X = P → Fr [hsz w7, hsz w3] w8 w9 → K w9 := fun w9 X hb he hf => hK _ (by rw [hQ]; exact ⟨by rw [← he]; exact hb, hf⟩)
      have G1 : ∀ {u v : World}, Fr [hsz w3] u v → Fr [hsz w7, hsz w3] u v := fun f => f.wider (by simp)
      have G2 : ∀ {u v : World}, Fr [hsz w7] u v → Fr [hsz w7, hsz w3] u v := fun f => f.wider (by simp)
      have GD : Fr [hsz w7, hsz w3] w8 w8.drew := Fr.drew _ _
      have hd8 := hr8.drew
      have c8 : blk w8.drew (hsz w7) = some (.cells (encAx { zeroA with d := k, name := t }).toArray 26 (0, 0)) := b8
      have et := txB_data t
      by_cases h2 : k = 2
      · obtain ⟨a, b, c, d, e, rfl⟩ := five (l := ns) (by rw [hlen, h2]; rfl)
        (repeat refine gg ?_)
        refine ⟨fun _ w' => ∃ l, RestAt w w' (hsz w3) (hsz w5) l, ⟨_, hd8⟩, ?_⟩
        (repeat (first | refine gg ?_ | refine FLT.mk _ (fun _ hw_ => (hw_.elim fun _ h => h.ld)) ?_))
        refine op_small hd8 fun w9 h9 f9 z9 => ?_
        refine ⟨⟨_, h9⟩, ?_⟩
        have c9 := f9.some (by simp; omega) c8
        (repeat refine gg ?_)
        refine op_take h9 fun w10 h10 f10 z10 => ?_
        have c10 := f10.some (by simp; omega) c9
        refine fstore_step (j := 1) (u := .int .i64 (sml a)) c10 ⟨rfl, rfl⟩ (by simp [encAx]) fun w11 c11 f11 z11 => ?_
        have h11 := h10.st f11 (by omega) (by omega)
        (repeat refine gg ?_)
        refine fstore_step (j := 3) (u := .int .u64 (b : Int)) c11 ⟨rfl, rfl⟩ (by simp [encAx]) fun w12 c12 f12 z12 => ?_
        have h12 := (h11.st f12 (by omega) (by omega)).drew
        replace c12 : blk w12.drew (hsz w7) = _ := c12
        refine ⟨fun _ w' => ∃ l, RestAt w w' (hsz w3) (hsz w5) l, ⟨_, h12⟩, ?_⟩
        (repeat (first | refine BND_step h12.ld ?_ | refine gg ?_ | refine FLT.mk _ (fun _ hw_ => (hw_.elim fun _ h => h.ld)) ?_))
        refine op_take h12 fun w13 h13 f13 z13 => ?_
        refine ⟨⟨_, h13⟩, ?_⟩
        have c13 := f13.some (by simp; omega) c12
        (repeat refine gg ?_)
        refine op_take h13 fun w14 h14 f14 z14 => ?_
        have c14 := f14.some (by simp; omega) c13
        (repeat (first | refine gg ?_ | (apply BND_build ([.int .u64 (c : Int), .int .u64 (d : Int), .int .i64 0]); exact rfl)))
        refine fstoren_step (us := [.int .u64 (c : Int), .int .u64 (d : Int), .int .i64 0]) c14 rfl (by simp [encAx]) (by intro u hu; simp at hu; rcases hu with rfl | rfl | rfl <;> rfl) (by simp) fun w15 c15 f15 z15 => ?_
        have h15 := h14.st f15 (by omega) (by omega)
        (repeat refine gg ?_)
        refine op_small h15 fun w16 h16 f16 z16 => ?_
        have c16 := f16.some (by simp; omega) c15
        (repeat refine gg ?_)
        refine fstore_step (j := 7) (u := .int .i64 (sml e)) c16 ⟨rfl, rfl⟩ (by simp [encAx, spliceL]) fun w17 c17 f17 z17 => ?_
        refine fin w17 ⟨k, sml a, 0, b, t, c, d, sml e⟩ c17 ?_ ?_
        · rw [hP]; unfold preA; simp [h2, et]
        · exact (((((((((GD.trans' (G1 f9)).trans' (G1 f10)).trans' (G2 f11)).trans' (G2 f12)).trans' (Fr.drew _ _)).trans' (G1 f13)).trans' (G1 f14)).trans' (G2 f15)).trans' (G1 f16)).trans' (G2 f17)
      (repeat refine gg ?_)
      refine join_w Q (fun K1 hK1 => ?_) (fun w' hq => hK _ hq)
      replace fin : ∀ w9 X, blk w9 (hsz w7) = some (.cells (encAx X).toArray 26 (0, 0)) → X = P → Fr [hsz w7, hsz w3] w8 w9 → K1 w9 := fun w9 X hb he hf => hK1 _ (by rw [hQ]; exact ⟨by rw [← he]; exact hb, hf⟩)
      have k2' : ¬ k.toNat = 2 := by omega
      by_cases h3 : k = 3
      · obtain ⟨a, b, rfl⟩ := two (l := ns) (by rw [hlen, h3]; rfl)
        (repeat refine gg ?_)
        refine ⟨fun _ w' => ∃ l, RestAt w w' (hsz w3) (hsz w5) l, ⟨_, hd8⟩, ?_⟩
        (repeat (first | refine gg ?_ | refine FLT.mk _ (fun _ hw_ => (hw_.elim fun _ h => h.ld)) ?_))
        refine op_small hd8 fun w9 h9 f9 z9 => ?_
        refine ⟨⟨_, h9⟩, ?_⟩
        have c9 := f9.some (by simp; omega) c8
        (repeat (first | refine BND_step (sml_less a) ?_ | refine gg ?_))
        refine op_take h9 fun w10 h10 f10 z10 => ?_
        have c10 := f10.some (by simp; omega) c9
        refine fstore_step (j := 1) (u := .int .i64 (sml a - 1)) c10 ⟨rfl, rfl⟩ (by simp [encAx]) fun w11 c11 f11 z11 => ?_
        (repeat refine gg ?_)
        refine fstore_step (j := 3) (u := .int .u64 (b : Int)) c11 ⟨rfl, rfl⟩ (by simp [encAx]) fun w12 c12 f12 z12 => ?_
        refine fin w12 ⟨k, sml a - 1, 0, b, t, 0, 0, 0⟩ c12 ?_ ?_
        · rw [hP]; unfold preA; simp [h3, et]
        · exact (((GD.trans' (G1 f9)).trans' (G1 f10)).trans' (G2 f11)).trans' (G2 f12)
      have k3' : ¬ k.toNat = 3 := by omega
      (repeat refine gg ?_)
      refine join_v (fun v w' => v = .bool (id2D k) ∧ w8 = w') (fun K2 hK2 => ?_) ?_
      · unfold id2D at hK2
        by_cases h5 : k = 5
        · (repeat refine gg ?_)
          exact hK2 _ _ ⟨by simp [h5], rfl⟩
        · (repeat refine gg ?_)
          exact hK2 _ _ ⟨by simp [h5], rfl⟩
      rintro _ _ ⟨rfl, rfl⟩
      refine join_w Q (fun K2 hK2 => ?_) (fun w' hq => hK1 _ hq)
      replace fin : ∀ w9 X, blk w9 (hsz w7) = some (.cells (encAx X).toArray 26 (0, 0)) → X = P → Fr [hsz w7, hsz w3] w8 w9 → K2 w9 := fun w9 X hb he hf => hK2 _ (by rw [hQ]; exact ⟨by rw [← he]; exact hb, hf⟩)
      have ePre : preA ⟨k.toNat, ns, t.data.toList⟩ = if id2D k = true then ⟨k, 0, ns.getD 0 0, ns.getD 1 0, t, 0, 0, 0⟩ else if idD k = true then ⟨k, 0, ns.getD 0 0, 0, t, 0, 0, 0⟩ else if k = 7 ∨ k = 10 then ⟨k, 0, 0, ns.getD 0 0, t, 0, 0, 0⟩ else ⟨k, 0, 0, 0, t, 0, 0, 0⟩ := by
        unfold preA
        simp only [et, ek]
        rw [if_neg k2', if_neg k3']
        congr 2
        by_cases hh : k = 7 ∨ k = 10
        · rw [if_pos hh, if_pos (by omega)]
        · rw [if_neg hh, if_neg (by omega)]
      rw [ePre] at hP
      cases h56 : id2D k with
      | true =>
        obtain ⟨a, b, rfl⟩ := two (l := ns) (by rw [hlen]; unfold id2D at h56; simp only [Bool.or_eq_true, decide_eq_true_eq] at h56; rcases h56 with rfl | rfl <;> rfl)
        (repeat refine gg ?_)
        refine ⟨fun _ w' => ∃ l, RestAt w w' (hsz w3) (hsz w5) l, ⟨_, hd8⟩, ?_⟩
        (repeat (first | refine BND_step hd8.ld ?_ | refine gg ?_ | refine FLT.mk _ (fun _ hw_ => (hw_.elim fun _ h => h.ld)) ?_))
        refine op_take hd8 fun w9 h9 f9 z9 => ?_
        refine ⟨⟨_, h9⟩, ?_⟩
        have c9 := f9.some (by simp; omega) c8
        (repeat refine gg ?_)
        refine op_take h9 fun w10 h10 f10 z10 => ?_
        have c10 := f10.some (by simp; omega) c9
        refine fstore_step (j := 2) (u := .int .u64 (a : Int)) c10 ⟨rfl, rfl⟩ (by simp [encAx]) fun w11 c11 f11 z11 => ?_
        (repeat refine gg ?_)
        refine fstore_step (j := 3) (u := .int .u64 (b : Int)) c11 ⟨rfl, rfl⟩ (by simp [encAx]) fun w12 c12 f12 z12 => ?_
        refine fin w12 ⟨k, 0, a, b, t, 0, 0, 0⟩ c12 ?_ ?_
        · rw [hP, if_pos h56]; rfl
        · exact (((GD.trans' (G1 f9)).trans' (G1 f10)).trans' (G2 f11)).trans' (G2 f12)
      | false =>
        (repeat refine gg ?_)
        refine join_v (fun v w' => v = .bool (idD k) ∧ w8 = w') (fun K3 hK3 => ?_) ?_
        · unfold idD at hK3
          by_cases h4 : k = 4
          · (repeat refine gg ?_)
            exact hK3 _ _ ⟨by simp [h4], rfl⟩
          · (repeat refine gg ?_)
            refine join_v (fun v w' => v = .bool (decide (k = 8) || decide (k = 9)) ∧ w8 = w') (fun K4 hK4 => ?_) ?_
            · by_cases h8 : k = 8
              · (repeat refine gg ?_)
                exact hK4 _ _ ⟨by simp [h8], rfl⟩
              · (repeat refine gg ?_)
                exact hK4 _ _ ⟨by simp [h8], rfl⟩
            · rintro _ _ ⟨rfl, rfl⟩
              exact hK3 _ _ ⟨by simp [h4], rfl⟩
        rintro _ _ ⟨rfl, rfl⟩
        refine join_w Q (fun K3 hK3 => ?_) (fun w' hq => hK2 _ hq)
        replace fin : ∀ w9 X, blk w9 (hsz w7) = some (.cells (encAx X).toArray 26 (0, 0)) → X = P → Fr [hsz w7, hsz w3] w8 w9 → K3 w9 := fun w9 X hb he hf => hK3 _ (by rw [hQ]; exact ⟨by rw [← he]; exact hb, hf⟩)
        rw [h56] at hP
        simp only [Bool.false_eq_true, if_false] at hP
        cases h489 : idD k with
        | true =>
          obtain ⟨a, rfl⟩ := one (l := ns) (by rw [hlen]; unfold idD at h489; simp only [Bool.or_eq_true, decide_eq_true_eq] at h489; rcases h489 with (rfl | rfl) | rfl <;> rfl)
          (repeat (first | refine BND_step hr8.ld ?_ | refine gg ?_))
          refine op_take hr8 fun w9 h9 f9 z9 => ?_
          have c9 := f9.some (by simp; omega) b8
          (repeat refine gg ?_)
          refine fstore_step (j := 2) (u := .int .u64 (a : Int)) c9 ⟨rfl, rfl⟩ (by simp [encAx]) fun w10 c10 f10 z10 => ?_
          refine fin w10 ⟨k, 0, a, 0, t, 0, 0, 0⟩ c10 ?_ ((G1 f9).trans' (G2 f10))
          rw [hP, if_pos h489]; rfl
        | false =>
          (repeat refine gg ?_)
          refine join_v (fun v w' => v = .bool (decide (k = 7) || decide (k = 10)) ∧ w8 = w') (fun K4 hK4 => ?_) ?_
          · by_cases h7 : k = 7
            · (repeat refine gg ?_)
              exact hK4 _ _ ⟨by simp [h7], rfl⟩
            · (repeat refine gg ?_)
              exact hK4 _ _ ⟨by simp [h7], rfl⟩
          rintro _ _ ⟨rfl, rfl⟩
          refine join_w Q (fun K4 hK4 => ?_) (fun w' hq => hK3 _ hq)
          replace fin : ∀ w9 X, blk w9 (hsz w7) = some (.cells (encAx X).toArray 26 (0, 0)) → X = P → Fr [hsz w7, hsz w3] w8 w9 → K4 w9 := fun w9 X hb he hf => hK4 _ (by rw [hQ]; exact ⟨by rw [← he]; exact hb, hf⟩)
          rw [h489] at hP
          simp only [Bool.false_eq_true, if_false] at hP
          cases h710 : (decide (k = 7) || decide (k = 10)) with
          | true =>
            simp only [Bool.or_eq_true, decide_eq_true_eq] at h710
            obtain ⟨a, rfl⟩ := one (l := ns) (by rw [hlen]; rcases h710 with rfl | rfl <;> rfl)
            (repeat (first | refine BND_step hr8.ld ?_ | refine gg ?_))
            refine op_take hr8 fun w9 h9 f9 z9 => ?_
            have c9 := f9.some (by simp; omega) b8
            (repeat refine gg ?_)
            refine fstore_step (j := 3) (u := .int .u64 (a : Int)) c9 ⟨rfl, rfl⟩ (by simp [encAx]) fun w10 c10 f10 z10 => ?_
            refine fin w10 ⟨k, 0, 0, a, t, 0, 0, 0⟩ c10 ?_ ((G1 f9).trans' (G2 f10))
            rw [hP, if_pos h710]; rfl
          | false =>
            simp only [Bool.or_eq_false_iff, decide_eq_false_iff_not] at h710
            (repeat refine gg ?_)
            refine fin w8 ⟨k, 0, 0, 0, t, 0, 0, 0⟩ b8 ?_ (Fr.refl _ _)
            rw [hP, if_neg (by omega)]
    · rw [hQ] at hq
      obtain ⟨c9, f9⟩ := hq
      have b29 := f9.some (by simp; omega) b28
      (repeat (first | refine BND_step (loadn_all' c9 rfl) ?_ | refine gg ?_))
      refine op_Right P fun w10 f10 => ?_
      have c10 := f10.some (by simp) c9
      have b210 := f10.some (by simp) b29
      have f010 : Fr [] w w10 := (f08.trans f9 fun b hb => .inr (by simp at hb; omega)).trans' f10
      unfold ofA at hR
      rw [← hP] at hR
      cases hq : rightA P with
      | false =>
        rw [hq] at hR
        (repeat (first | refine gg ?_ | (apply BND_build (encAx zeroA); exact rfl)))
        refine ret_step (R := fun r w8 => R (.tuple #[r, .int .i64 2]) w8) b210 rfl rfl (encAx_one _) (by simp [encAx]) fun w11 f11 z11 => ?_
        exact hR w11 (f010.trans f11 fun b hb => .inr (by simp at hb; omega))
      | true =>
        rw [hq] at hR
        (repeat (first | refine BND_step (loadn_all' c10 rfl) ?_ | refine gg ?_))
        refine ret_step (R := fun r w8 => R (.tuple #[r, .int .i64 0]) w8) b210 rfl rfl (encAx_one _) (by simp [encAx]) fun w11 f11 z11 => ?_
        exact hR w11 (f010.trans f11 fun b hb => .inr (by simp at hb; omega))
end
end Go.Proofs.YtpgflmjeedbimaaGreat
end
section
namespace Go.Vint
open Go.Den
end Go.Vint
namespace Go.Proofs.YtpgflmjeedbimaaGreat
open Go.Den Go.Disk Go.Vint
set_option linter.unusedSimpArgs false
set_option linter.unusedVariables false
set_option maxRecDepth 20000
set_option maxHeartbeats 4000000
attribute [local congr] BND_cg COND_cg GEF_cg
attribute [local irreducible] capl slicea load1 loadn iaddr iaddra faddr storev newslice binv lookv mupd mdel mlenv mentry mestore slicev slicev3 slices indexs indexav textv rangev nexts clearv shiftv eqaggv convi buildv pickv lens lenl unv nilchk extractv partn JOIN
end Go.Proofs.YtpgflmjeedbimaaGreat
end
section
set_option linter.unusedSimpArgs false
set_option linter.unusedVariables false
namespace Go.Crc
open Go.Den
structure Lin (f : BitVec 32 → BitVec 32) : Prop where
  add : ∀ a b, f (a ^^^ b) = f a ^^^ f b
theorem Lin.zero {f : BitVec 32 → BitVec 32} (h : Lin f) : f 0#32 = 0#32 := by
  have := h.add 0#32 0#32
  rw [BitVec.xor_self, BitVec.xor_self] at this
  exact this
def up (c : UInt8) : BitVec 32 := c.toBitVec.setWidth 32
end Go.Crc
end
section
namespace Go.Proofs.YtpgflmjeedbimaaGreat
open Go.Den Go.Disk
set_option linter.unusedSimpArgs false
set_option linter.unusedVariables false
set_option maxRecDepth 20000
set_option maxHeartbeats 4000000
attribute [local congr] BND_cg COND_cg GEF_cg
attribute [local irreducible] capl slicea load1 loadn iaddr iaddra faddr storev newslice binv lookv mupd mdel mlenv mentry mestore slicev slicev3 slices indexs indexav textv rangev nexts clearv shiftv eqaggv convi buildv pickv lens lenl unv nilchk extractv partn JOIN
end Go.Proofs.YtpgflmjeedbimaaGreat
end
section
namespace Go.Proofs.YtpgflmjeedbimaaGreat
open Go.Den Go.Disk Go.Crc
set_option linter.unusedSimpArgs false
set_option linter.unusedVariables false
set_option maxRecDepth 20000
set_option maxHeartbeats 4000000
attribute [local congr] BND_cg COND_cg GEF_cg
attribute [local irreducible] capl slicea load1 loadn iaddr iaddra faddr storev newslice binv lookv mupd mdel mlenv mentry mestore slicev slicev3 slices indexs indexav textv rangev nexts clearv shiftv eqaggv convi buildv pickv lens lenl unv nilchk extractv partn JOIN
end Go.Proofs.YtpgflmjeedbimaaGreat
end
section
namespace Go.Proofs.YtpgflmjeedbimaaGreat
open Go.Den Go.Disk Go.Vint Go.Crc Go.Frame
set_option linter.unusedSimpArgs false
set_option linter.unusedVariables false
set_option maxRecDepth 20000
set_option maxHeartbeats 4000000
attribute [local congr] BND_cg COND_cg GEF_cg
attribute [local irreducible] capl slicea load1 loadn iaddr iaddra faddr storev newslice binv lookv mupd mdel mlenv mentry mestore slicev slicev3 slices indexs indexav textv rangev nexts clearv shiftv eqaggv convi buildv pickv lens lenl unv nilchk extractv partn JOIN
end Go.Proofs.YtpgflmjeedbimaaGreat
end
section
namespace Go.Proofs.YtpgflmjeedbimaaGreat
open Go.Den Go.Disk Go.Vint Go.Crc Go.Frame Go.Rec
def encZ (x : Int) : List Value := [.int .i64 x]
theorem encZ_len (x : Int) : (encZ x).length = 1 := rfl
def manyI : List Int := [-1, 0, 5, 2, 1, 2, 2, 1, 1, 1, 1, 1, 5, 7, 10, 2, 1, 1]
def manyZ (k : Int) : Int := if 1 ≤ k ∧ k ≤ 17 then ((manyOf k.toNat : Nat) : Int) else -1
theorem many_get : ∀ k : Fin 18, manyI[k.val]? = some (manyZ (k.val : Int)) := by decide
theorem manyZ_known {k : Int} (h : knownB k = true) : manyZ k = ((manyOf k.toNat : Nat) : Int) := by
  unfold knownB at h
  simp only [Bool.and_eq_true, decide_eq_true_eq] at h
  unfold manyZ; rw [if_pos h]
theorem manyZ_not {k : Int} (h : knownB k = false) : manyZ k = -1 := by
  unfold knownB at h
  simp only [Bool.and_eq_false_iff, decide_eq_false_iff_not] at h
  unfold manyZ; rw [if_neg (by omega)]
set_option linter.unusedSimpArgs false
set_option linter.unusedVariables false
set_option maxRecDepth 20000
set_option maxHeartbeats 4000000
attribute [local congr] BND_cg COND_cg GEF_cg
attribute [local irreducible] capl slicea load1 loadn iaddr iaddra faddr storev newslice binv lookv mupd mdel mlenv mentry mestore slicev slicev3 slices indexs indexav textv rangev nexts clearv shiftv eqaggv convi buildv pickv lens lenl unv nilchk extractv partn JOIN
section
variable {w : World} {R : Value → World → Prop}
theorem r5_many (k : Int) (hR : ∀ w', Fr [] w w' → R (.int .i64 (manyZ k)) w') : CALL PR F_tumbrelref05_many [.int .i64 k] w R := by
  refine C_tumbrelref05_many ?_
  unfold M_tumbrelref05_many
  refine newparts_step encZ_len (val := fun x : Int => Value.int .i64 x) (fun _ => rfl) manyI rfl rfl fun t w1 s1 f1 z1 => ?_
  by_cases h0 : k < 0
  · (repeat refine gg ?_)
    rw [manyZ, if_neg (by omega)] at hR
    exact hR _ f1
  · by_cases h17 : 17 < k
    · (repeat refine gg ?_)
      rw [manyZ, if_neg (by omega)] at hR
      exact hR _ f1
    · obtain ⟨n, rfl⟩ : ∃ n : Nat, k = (n : Int) := ⟨k.toNat, by omega⟩
      obtain ⟨b1, o1, i1, _, _, l1⟩ := s1.arr.spot (i := n) (many_get ⟨n, by omega⟩) rfl .i64
      (repeat (first | (apply BND_step; exact (l1 (w' := w1) rfl (j := 0) rfl)) | refine gg ?_))
      exact hR _ f1
theorem r5_texts (k : Int) (m : Nat) (hR : R (.bool (fitsB k m)) w) : CALL PR F_tumbrelref05_texts [.int .i64 k, .int .i64 (m : Int)] w R := by
  refine C_tumbrelref05_texts ?_
  unfold M_tumbrelref05_texts
  unfold fitsB wordedB at hR
  have e1 : decide ((m : Int) ≤ 64) = decide (m ≤ 64) := by rw [decide_eq_decide]; omega
  have e2 : decide ((m : Int) = 0) = decide (m = 0) := by rw [decide_eq_decide]; omega
  have e3 : (decide (m = 0) || decide (m ≤ 64)) = decide (m ≤ 64) := by by_cases h : m = 0 <;> simp [h]
  by_cases h1 : k = 10
  · (repeat refine gg ?_)
    simpa [h1, e1, e3] using hR
  · by_cases h2 : k = 11
    · (repeat refine gg ?_)
      simpa [h2, e1, e3] using hR
    · by_cases h3 : k = 16
      · (repeat refine gg ?_)
        simpa [h3, e1, e3] using hR
      · (repeat refine gg ?_)
        simpa [h1, h2, h3, e2] using hR
theorem r5_Right {nv : SV} {ns : List Nat} (k : Int) (t : ByteArray) (hn : Arr encU 1 w nv.v ns) (hR : ∀ w', Fr [] w w' → R (.bool (rightRk k ns.length t.size)) w') : CALL PR F_tumbrelref05_Right [.agg (encRc (k, nv, t)).toArray] w R := by
  refine C_tumbrelref05_Right ?_
  unfold M_tumbrelref05_Right
  refine NEW_intro fun w1 b1 f1 z1 => ?_
  replace b1 : blk w1.drew (hsz w) = some (.cells (encRc (k, nv, t)).toArray 41 (0, 0)) := b1
  have f1d := f1.trans' (Fr.drew [] w1)
  unfold rightRk at hR
  refine ⟨fun _ w' => blk w' (hsz w) = some (.cells (encRc (k, nv, t)).toArray 41 (0, 0)), b1, ?_⟩
  (repeat refine gg ?_)
  refine r5_many k fun w2 f2 => ?_
  have b2 := f2.some (by simp) b1
  refine ⟨b2, ?_⟩
  have f12 := f1d.trans' f2
  cases hk : knownB k with
  | false =>
    rw [hk, Bool.false_and, Bool.false_and] at hR
    rw [manyZ_not hk]
    (repeat refine gg ?_)
    refine ⟨undef, fun _ _ => rfl, ?_⟩
    (repeat refine gg ?_)
    refine ⟨b2, ?_⟩
    (repeat refine gg ?_)
    exact hR _ f12
  | true =>
    rw [hk, Bool.true_and] at hR
    rw [manyZ_known hk]
    (repeat (first | refine BND_step hn.len ?_ | refine gg ?_))
    refine r5_many k fun w3 f3 => ?_
    have b3 := f3.some (by simp) b2
    refine ⟨b3, ?_⟩
    rw [manyZ_known hk]
    have e : decide ((ns.length : Int) = ((manyOf k.toNat : Nat) : Int)) = decide (ns.length = manyOf k.toNat) := by rw [decide_eq_decide]; omega
    by_cases hm : ns.length = manyOf k.toNat
    · have hm' : (ns.length : Int) = ((manyOf k.toNat : Nat) : Int) := by omega
      rw [decide_eq_true hm, Bool.true_and] at hR
      (repeat refine gg ?_)
      refine r5_texts _ _ ?_
      (repeat refine gg ?_)
      exact hR _ (f12.trans' f3)
    · have hm' : ¬ (ns.length : Int) = ((manyOf k.toNat : Nat) : Int) := by omega
      rw [decide_eq_false hm, Bool.false_and] at hR
      (repeat refine gg ?_)
      exact hR _ (f12.trans' f3)
end
end Go.Proofs.YtpgflmjeedbimaaGreat
end
