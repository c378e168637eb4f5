/- Records, in plain words. No condition. A directory's names, sorted (slices.Sorted of maps.Keys); maps.Clone: by the kit's contracts. No condition but sizes. A disk's directory changed, its files changed: what the calls are made of. No condition but sizes. A disk's calls: change, named, Create, Delete, Rename, DirSync, Names, New. No condition but sizes. A disk's calls: Create, Delete, Rename, DirSync, Names, New. No condition but sizes. A disk's calls: Delete, Rename, DirSync, Names, New. No condition but sizes. A disk's calls: New, Read, Sync, Cut. No condition but sizes. A map ranged over: its iterator in memory, what a step does. No condition but sizes. A disk's bytes held: each file once. No condition but sizes. A disk's calls: Append. No condition but sizes. A disk's calls: Crash. No condition but sizes. A disk, in plain words: what always holds is kept by each call. No condition. An act upon a disk, in plain words. No condition but sizes. A disk, in plain words: never more held than there is room; a file has one name at a time. No condition. A disk, in plain words: each act keeps what always holds; what is held behind a crash. No condition. A disk of which folders and files are known, in plain words. No condition. A log in segments, in plain words. No condition. Records, walked. No condition but sizes. Names of files by letter and number, walked. Conditions: the table of the powers of ten is laid; a number is one of 64 bits. Helps for walks upon disks. No condition. Records read, walked. No condition but sizes. A log in segments, walked. Conditions: the table of the powers of ten is laid; numbers are of 64 bits; sizes. A log with records, each at its place, in plain words. No condition. What is sure stays, in plain words. No condition. -/
import Derived.Test.YtofllgbdphakiaaDoorGh
import Derived.Lib.SmallJoins
import Derived.Test.YtofllgbdphakiaaDoorMa
import Derived.Lib.ItoaMem
set_option linter.unusedVariables false
set_option linter.unusedSimpArgs false
section
namespace Go.Rec
open Go.Den Go.Crc Go.Frame Go.Vint
structure Rc where
  kind : Nat
  n : List Nat
  text : List UInt8
def zeroR : Rc := ⟨0, [], []⟩
def manyL : List Nat := [0, 0, 5, 2, 1, 2, 2, 1, 1, 1, 1, 1, 5, 7, 10, 2, 1, 1]
def manyOf (k : Nat) : Nat := manyL.getD k 0
def knownB (k : Int) : Bool := decide (1 ≤ k) && decide (k ≤ 17)
def wordedB (k : Int) : Bool := decide (k = 10) || decide (k = 11) || decide (k = 16)
def fitsB (k : Int) (m : Nat) : Bool := decide (m = 0) || (wordedB k && decide (m ≤ 64))
def rightB (k : Int) (n m : Nat) : Bool := knownB k && decide (n = manyOf k.toNat) && fitsB k m
theorem manyOf_le (k : Nat) : manyOf k ≤ 10 := by
  unfold manyOf
  rw [List.getD_eq_getElem?_getD]
  cases h : manyL[k]? with
  | none => simp
  | some x =>
    have := List.mem_of_getElem? h
    simp only [manyL, List.mem_cons, List.not_mem_nil, or_false] at this
    simp; omega
def bodyOf_ (ns : List Nat) (text : List UInt8) : List UInt8 := ns.flatMap layV ++ text
theorem flat_len10 (ns : List Nat) (h : ∀ n ∈ ns, n < 18446744073709551616) : (ns.flatMap layV).length ≤ ns.length * 10 := by
  induction ns with
  | nil => simp
  | cons a ns ih =>
    have h1 := layV_le a (h a (by simp))
    have h2 := ih fun n hn => h n (by simp [hn])
    simp only [List.flatMap_cons, List.length_append, List.length_cons, Nat.add_mul]; omega
theorem right_known {k : Int} {n m : Nat} (h : rightB k n m = true) : 1 ≤ k ∧ k ≤ 17 ∧ n = manyOf k.toNat ∧ fitsB k m = true := by
  unfold rightB knownB at h
  simp only [Bool.and_eq_true, decide_eq_true_eq] at h
  exact ⟨h.1.1.1, h.1.1.2, h.1.2, h.2⟩
theorem fits_le {k : Int} {m : Nat} (h : fitsB k m = true) : m ≤ 64 := by
  unfold fitsB at h
  simp only [Bool.or_eq_true, Bool.and_eq_true, decide_eq_true_eq] at h
  omega
theorem body_small {k : Int} {ns : List Nat} {t : List UInt8} (h : rightB k ns.length t.length = true) (hs : ∀ n ∈ ns, n < 18446744073709551616) : (bodyOf_ ns t).length ≤ 164 := by
  obtain ⟨_, _, h1, h2⟩ := right_known h
  have h3 := flat_len10 ns hs
  have h4 := manyOf_le k.toNat
  have h5 := fits_le h2
  unfold bodyOf_
  rw [List.length_append]
  omega
def readN : Nat → List UInt8 → List Nat × List UInt8 × Int
  | 0, rest => ([], rest, 0)
  | m + 1, rest => if (getV rest).2.2 = 0 then ((getV rest).1 :: (readN m (rest.drop (getV rest).2.1)).1, (readN m (rest.drop (getV rest).2.1)).2) else ([], [], (getV rest).2.2)
def recRead (x : Fra) : Rc × Int :=
  if knownB x.1.toNat = false then (zeroR, 2) else
  if (readN (manyOf x.1.toNat) x.2).2.2 = 0 then
    (if fitsB x.1.toNat (readN (manyOf x.1.toNat) x.2).2.1.length = true then (⟨x.1.toNat, (readN (manyOf x.1.toNat) x.2).1, (readN (manyOf x.1.toNat) x.2).2.1⟩, 0) else (zeroR, 2))
  else (zeroR, (readN (manyOf x.1.toNat) x.2).2.2)
theorem readN_lay : ∀ (ns : List Nat) (t : List UInt8), (∀ n ∈ ns, n < 18446744073709551616) → readN ns.length (bodyOf_ ns t) = (ns, t, 0)
  | [], t, _ => rfl
  | a :: ns, t, h => by
    have e : bodyOf_ (a :: ns) t = layV a ++ bodyOf_ ns t := by unfold bodyOf_; simp
    have hg := get_put a (h a (by simp)) (bodyOf_ ns t)
    simp only [List.length_cons, readN]
    rw [e, hg]
    simp only [if_true, List.drop_left]
    rw [readN_lay ns t fun n hn => h n (by simp [hn])]
def toFra (k : Nat) (ns : List Nat) (t : List UInt8) : Fra := (UInt8.ofNat k, bodyOf_ ns t)
theorem recRead_of {k : Nat} {ns : List Nat} {t : List UInt8} (h : rightB k ns.length t.length = true) (hs : ∀ n ∈ ns, n < 18446744073709551616) : recRead (toFra k ns t) = (⟨k, ns, t⟩, 0) := by
  obtain ⟨h1, h2, h3, h4⟩ := right_known h
  unfold recRead toFra
  have e : (UInt8.ofNat k).toNat = k := ofNat_toNat (by omega)
  simp only [e]
  have hk : knownB (k : Int) = true := by unfold knownB; simp; omega
  rw [if_neg (by rw [hk]; simp)]
  have h3' : manyOf k = ns.length := by rw [h3]; simp
  rw [h3', readN_lay ns t hs]
  simp [h4]
def recAllF : List Fra → Nat → Int → List Rc × List Nat × Int
  | [], _, e => ([], [], e)
  | x :: r, k, e => if (recRead x).2 = 0 then ((recRead x).1 :: (recAllF r (k + (11 + x.2.length)) e).1, (k + (11 + x.2.length)) :: (recAllF r (k + (11 + x.2.length)) e).2.1, (recAllF r (k + (11 + x.2.length)) e).2.2) else ([], [], (recRead x).2)
def recAll (b : List UInt8) : List Rc × List Nat × Int := recAllF (frAll b 0).1 0 (frAll b 0).2.2
def recB (k : Nat) (ns : List Nat) (t : List UInt8) : List UInt8 := frB (toFra k ns t)
theorem recAll_one {k : Nat} {ns : List Nat} {t : List UInt8} (h : rightB k ns.length t.length = true) (hs : ∀ n ∈ ns, n < 18446744073709551616) : recAll (recB k ns t) = ([⟨k, ns, t⟩], [(recB k ns t).length], 0) := by
  have hb := body_small h hs
  have e := frAll_cons (toFra k ns t) (by unfold toFra; simp only; omega) [] 0
  rw [List.append_nil, frAll_nil] at e
  unfold recAll
  rw [show recB k ns t = frB (toFra k ns t) from rfl, e]
  simp only [recAllF, recRead_of h hs, if_true, frB_len]
  simp
theorem readN_good : ∀ (m : Nat) (b : List UInt8), (readN m b).2.2 = 0 → (readN m b).1.length = m ∧ (∀ n ∈ (readN m b).1, n < 18446744073709551616) ∧ (readN m b).2.1.length ≤ b.length
  | 0, b, _ => by simp [readN]
  | m + 1, b, h => by
    simp only [readN] at h ⊢
    by_cases hg : (getV b).2.2 = 0
    · rw [if_pos hg] at h ⊢
      obtain ⟨h1, h2, h3⟩ := readN_good m _ h
      refine ⟨by simp [h1], fun n hn => ?_, by simp only; rw [List.length_drop] at h3; omega⟩
      rcases List.mem_cons.1 hn with rfl | hn
      · exact getL_small b 0 0 (by simp) (by omega)
      · exact h2 n hn
    · rw [if_neg hg] at h; exact absurd h hg
theorem recRead_good {x : Fra} (h : (recRead x).2 = 0) : rightB (recRead x).1.kind (recRead x).1.n.length (recRead x).1.text.length = true ∧ ∀ n ∈ (recRead x).1.n, n < 18446744073709551616 := by
  unfold recRead at h ⊢
  by_cases h1 : knownB x.1.toNat = false
  · rw [if_pos h1] at h; simp at h
  · rw [if_neg h1] at h ⊢
    by_cases h2 : (readN (manyOf x.1.toNat) x.2).2.2 = 0
    · rw [if_pos h2] at h ⊢
      obtain ⟨g1, g2, g3⟩ := readN_good _ _ h2
      by_cases h3 : fitsB x.1.toNat (readN (manyOf x.1.toNat) x.2).2.1.length = true
      · rw [if_pos h3]
        refine ⟨?_, g2⟩
        unfold rightB
        simp only [g1, h3]
        simp at h1
        simp [h1]
      · rw [if_neg h3] at h; simp at h
    · rw [if_neg h2] at h; exact absurd h h2
end Go.Rec
end

section
namespace Go.Proofs.YtofllgbdphakiaaDoor
open Go.Den Go.Disk Go.RowKit Go.Maps Go.Sort Go.Shelf
abbrev noVal : Value → Option (DataW Unit × List MemPlace) := fun _ => some (.lit (.bool false), [])
def keyBytesOf : Value → List UInt8
  | .string s => s.data.toList
  | _ => []
theorem fr_of_below {w w' : World} (h : Below w.heap.size w w') : Fr [] w w' := ⟨h.size, fun b hb _ => h.block b hb, h.os, h.tape, h.output⟩
set_option maxRecDepth 100000 in
def txt (l : List UInt8) : ByteArray := ⟨l.toArray⟩
theorem txt_of (s : ByteArray) : txt s.data.toList = s := by simp [txt]
theorem slc_of_owns {w : World} {base e : Nat} {v : Value} {ss : List (List UInt8)} (h : w.ownsRow base e 1 v ss.length (ss.map encStr)) : ∃ G, Slc encN 1 w v (ss.map txt) G ∧ ∀ b ∈ G, base ≤ b := by
  obtain ⟨_, h⟩ := h
  rcases h with ⟨rfl, h0⟩ | ⟨g, cap, cur, rfl, hb, hg, hn, hm, hs, ht⟩
  · have : ss = [] := List.eq_nil_of_length_eq_zero h0
    subst this
    exact ⟨[], Slc.nil _ _ _, by simp⟩
  · refine ⟨[g], .inr ⟨g, cap, cur, e, by simp, hg, by simpa using hn, hs, rfl, fun i x hx j hj => ?_⟩, by simpa using hb⟩
    obtain rfl : j = 0 := by omega
    rw [Nat.mul_one, Nat.add_zero]
    have hi : i < ss.length := by have := (List.getElem?_eq_some_iff.1 hx).1; simpa using this
    have h1 := congrArg (fun l : List Value => l[i]?) ht
    simp only [List.getElem?_take, Nat.mul_one, hi, if_true, Array.getElem?_toList] at h1
    rw [h1]
    simp only [List.getElem?_map] at hx ⊢
    cases hss : ss[i]? with
    | none => simp [hss] at hx
    | some l => simp [hss] at hx; subst hx; rfl
/-- names that rise, the same ones, are the same list. -/
theorem names_ext : ∀ {l m : List ByteArray}, l.Pairwise (fun a b => bl a b = true) → m.Pairwise (fun a b => bl a b = true) → (∀ x, x ∈ l ↔ x ∈ m) → l = m
  | [], [], _, _, _ => rfl
  | [], y :: m, _, _, h => by have := (h y).2 (by simp); simp at this
  | x :: l, [], _, _, h => by have := (h x).1 (by simp); simp at this
  | x :: l, y :: m, hl, hm, h => by
    obtain ⟨p1, p2⟩ := List.pairwise_cons.1 hl
    obtain ⟨q1, q2⟩ := List.pairwise_cons.1 hm
    have hxy : x = y := by
      rcases List.mem_cons.1 ((h x).1 (by simp)) with h1 | h1
      · exact h1
      · rcases List.mem_cons.1 ((h y).2 (by simp)) with h2 | h2
        · exact h2.symm
        · have a1 := p1 y h2; have a2 := q1 x h1
          rw [bl_asym a1] at a2; cases a2
    subst hxy
    congr 1
    refine names_ext p2 q2 fun z => ⟨fun hz => ?_, fun hz => ?_⟩
    · rcases List.mem_cons.1 ((h z).1 (by simp [hz])) with h1 | h1
      · subst h1; have := p1 z hz; rw [bl_irr] at this; cases this
      · exact h1
    · rcases List.mem_cons.1 ((h z).2 (by simp [hz])) with h1 | h1
      · subst h1; have := q1 z hz; rw [bl_irr] at this; cases this
      · exact h1
theorem rise_names {l : Dir} (h : riseD l) : (l.map (·.1)).Pairwise fun a b => bl a b = true := List.pairwise_map.2 h
section
variable {w : World} {R : Value → World → Prop}
/-- maps.Clone. -/
theorem dk_clone {m : Nat} {es : Array MapEntry} {ck : Nat} (b1 : blk w m = some (.map es ck)) (hR : ∀ w', blk w' (hsz w) = some (.map es ck) → Fr [] w w' → hsz w' = hsz w + 1 → R (.map (some (hsz w))) w') : CALL PR F_maps_Clone_file [.map (some m)] w R := by
  refine ⟨(AnyW.maps_Clone Tryd.cloneA m es ck w b1).mono ?_⟩
  rintro e w1 ⟨rfl, rfl⟩
  exact ⟨_, rfl, hR _ (blk_alloc_new _ _) (Fr.alloc _ _ _) (by simp)⟩
end
end Go.Proofs.YtofllgbdphakiaaDoor
end

section
namespace Go.Proofs.YtofllgbdphakiaaDoor
open Go.Den Go.Disk

section
variable {κ : Type} [DecidableEq κ] {enc : κ → Value} {kd : TypeDesc} {es : Array MapEntry} {ck : Nat} {L : List (κ × Value)}
theorem mdel_B (hk : KeyOk kd enc) {w : World} {b : Nat} (hb : blk w b = some (.map es ck)) (h : MapB enc es ck L) (k : κ) :
    ∃ es' ck', mdel kd w (.map (some b)) (enc k) = some (setB w b (.map es' ck')) ∧ MapB enc es' ck' (delL L k) := by
  have h' : w.heap[b]? = some (.map es ck) := hb
  obtain ⟨es1, ck1, e1, l1⟩ := mdel_L hk hb h.l k
  have e2 := e1
  unfold mdel at e2
  simp only [h', mfind_L hk h.l] at e2
  have key : ∀ es2 ck2, some ({ w with heap := w.heap.setIfInBounds b (.map es2 ck2) } : World) = some (setB w b (.map es1 ck1)) → es1 = es2 ∧ ck1 = ck2 := by
    intro es2 ck2 e
    have h1 : blk (setB w b (.map es2 ck2)) b = blk (setB w b (.map es1 ck1)) b := congrArg (fun x : World => blk x b) (Option.some.inj e)
    rw [blk_setB_same hb, blk_setB_same hb] at h1
    cases h1
    exact ⟨rfl, rfl⟩
  have hsub : ∀ i, (es.eraseIdxIfInBounds i).toList.Sublist es.toList := fun i => by
    unfold Array.eraseIdxIfInBounds
    split
    · rw [Array.toList_eraseIdx]; exact List.eraseIdx_sublist _ _
    · exact List.Sublist.refl _
  refine ⟨es1, ck1, e1, l1, ?_, ?_⟩
  all_goals
    cases hf : findL L k 0 with
    | none =>
      simp only [hf] at e2
      obtain ⟨rfl, rfl⟩ := key _ _ e2
      first | exact h.lt | exact h.nd
    | some p =>
      obtain ⟨i, u⟩ := p
      simp only [hf] at e2
      obtain ⟨rfl, rfl⟩ := key _ _ e2
      first
        | exact fun x hx => h.lt x ((hsub i).subset hx)
        | exact List.Nodup.sublist ((hsub i).map _) h.nd
omit [DecidableEq κ] in
theorem nodup_of_map {α β : Type} {f : α → β} {L : List α} (h : (L.map f).Nodup) : L.Nodup := by
  rw [List.nodup_iff_pairwise_ne, List.pairwise_map] at h
  rw [List.nodup_iff_pairwise_ne]
  exact h.imp fun h e => h (by rw [e])
theorem ins_perm {L M : List (κ × Value)} (hn : (L.map (·.1)).Nodup) (hm : (M.map (·.1)).Nodup) (h : ∀ k, lk L k = lk M k) : L.Perm M := by
  refine (List.perm_ext_iff_of_nodup ?_ ?_).2 fun ⟨k, v⟩ => ?_
  · exact nodup_of_map hn
  · exact nodup_of_map hm
  · rw [← lk_mem hn, ← lk_mem hm, h]
end
theorem stars_snoc : ∀ (ps : List HP) {w : World} {F G : List Nat} {Q : HP}, (stars ps).p w F → Q.p w G → (∀ b ∈ F, b ∉ G) → (stars (ps ++ [Q])).p w (F ++ G)
  | [], w, F, G, Q, h, hq, _ => by
    obtain ⟨_, rfl⟩ := h
    exact ⟨G, [], hq, ⟨trivial, rfl⟩, by simp, by simp⟩
  | P :: ps, w, F, G, Q, h, hq, hd => by
    obtain ⟨A, B, h1, h2, rfl, h3⟩ := h
    refine ⟨A, B ++ G, h1, stars_snoc ps h2 hq (fun b hb => hd b (by simp [hb])), by simp, fun b hb hb' => ?_⟩
    rcases List.mem_append.1 hb' with hb' | hb'
    · exact h3 b hb hb'
    · exact hd b (by simp [hb]) hb'
theorem zipWith_set {α β γ : Type} (g : α → β → γ) : ∀ (xs : List α) (ys : List β) (i : Nat) (a : α) (b : β), xs[i]? = some a → (List.zipWith g xs ys).set i (g a b) = List.zipWith g xs (ys.set i b)
  | [], _, i, _, _, h => by simp at h
  | a' :: xs, [], i, a, b, _ => by simp
  | a' :: xs, b' :: ys, 0, a, b, h => by simp at h; subst h; rfl
  | a' :: xs, b' :: ys, i + 1, a, b, h => by simp only [List.zipWith_cons_cons, List.set_cons_succ]; rw [zipWith_set g xs ys i a b (by simpa using h)]
theorem zipWith_snoc {α β γ : Type} (g : α → β → γ) (xs : List α) (ys : List β) (a : α) (b : β) (h : xs.length = ys.length) : List.zipWith g (xs ++ [a]) (ys ++ [b]) = List.zipWith g xs ys ++ [g a b] := by
  rw [List.zipWith_append h]; rfl
section
variable {w0 w w' : World} {F0 : List Nat} {d : Nat} {s : Dk} {sv : Value} {ms fb : List Nat}
/-- a directory is given other entries. -/
theorem dk_setdir (h : At w0 F0 (stars (dkL d s sv ms fb)) w) {i m : Nat} {l l' : Dir} (hm : ms[i]? = some m) (hl : s.dirs[i]? = some l) {es' : Array MapEntry} {ck' : Nat} {L' : List (ByteArray × Value)} (f : Fr [m] w w') (b1 : blk w' m = some (.map es' ck'))
    (b2 : MapB (fun s : ByteArray => Value.string s) es' ck' L') (b3 : L'.Perm (dirL fb l')) : At w0 F0 (stars (dkL d { s with dirs := s.dirs.set i l' } sv ms fb)) w' := by
  obtain ⟨A0, ⟨h0, _⟩, _⟩ := h.get 0 rfl
  obtain ⟨A, h1, upd⟩ := h.upd 3 rfl
  obtain ⟨B, ⟨_, rfl⟩, _, upd2⟩ := stars_upd (dirHPs fb ms s.dirs) i (dirHP fb m l) (by unfold dirHPs; rw [List.getElem?_zipWith, hm, hl]) h1
  obtain ⟨A', h2, h3⟩ := upd2 w' [m] (dirHP fb m l') ⟨⟨es', ck', L', b1, b2, b3⟩, rfl⟩ f (fun b hb => .inl hb)
  have hz : (dirHPs fb ms s.dirs).set i (dirHP fb m l') = dirHPs fb ms (s.dirs.set i l') := zipWith_set _ _ _ _ _ _ hm
  rw [hz] at h2
  have hmA : m ∈ A := by
    obtain ⟨B, ⟨_, rfl⟩, h4⟩ := stars_get (dirHPs fb ms s.dirs) i (dirHP fb m l) (by unfold dirHPs; rw [List.getElem?_zipWith, hm, hl]) h1
    exact h4 m (by simp)
  have h5 := upd w' A' (stars (dirHPs fb ms (s.dirs.set i l'))) h2 (f.wider fun b hb => by simp at hb; subst hb; exact hmA) h3
  obtain ⟨F, g1, g2, g3⟩ := h5
  obtain ⟨C, D, ⟨_, rfl⟩, k2, hF, k4⟩ := g1
  exact ⟨F, ⟨[], D, ⟨⟨by simpa using h0.1, h0.2⟩, rfl⟩, k2, hF, by simp⟩, g2, g3⟩
/-- a file is changed. -/
theorem dk_fupd (h : At w0 F0 (stars (dkL d s sv ms fb)) w) {f b : Nat} {x : Fl} (hb : fb[f]? = some b) (hx : s.files[f]? = some x) : ∃ A bv, At w A (stars [pts b [bv, .int .i64 (x.sure : Int)], slc encB 1 bv x.b]) w ∧
    ∀ w' bv' x', At w A (stars [pts b [bv', .int .i64 ((x' : Fl).sure : Int)], slc encB 1 bv' x'.b]) w' → At w0 F0 (stars (dkL d (setF s f x') sv ms fb)) w' := by
  obtain ⟨A0, ⟨h0, _⟩, _⟩ := h.get 0 rfl
  obtain ⟨A, h1, upd⟩ := h.upd 4 rfl
  obtain ⟨B, ⟨bv, hB⟩, hBA, upd2⟩ := stars_upd (fileHPs fb s.files) f (fileHP b x) (by unfold fileHPs; rw [List.getElem?_zipWith, hb, hx]) h1
  refine ⟨B, bv, At.start hB, fun w' bv' x' ⟨F', p1, p2, p3⟩ => ?_⟩
  obtain ⟨A', h2, h3⟩ := upd2 w' F' (fileHP b x') ⟨bv', p1⟩ p3 p2
  have hz : (fileHPs fb s.files).set f (fileHP b x') = fileHPs fb (s.files.set f x') := zipWith_set _ _ _ _ _ _ hb
  rw [hz] at h2
  have h5 := upd w' A' (stars (fileHPs fb (s.files.set f x'))) h2 (p3.wider hBA) h3
  obtain ⟨F, g1, g2, g3⟩ := h5
  obtain ⟨C, D, ⟨_, rfl⟩, k2, hF, k4⟩ := g1
  exact ⟨F, ⟨[], D, ⟨⟨h0.1, by simpa [setF] using h0.2⟩, rfl⟩, k2, hF, by simp⟩, g2, g3⟩
theorem dirL_more {fb : List Nat} {l : Dir} (b : Nat) (h : ∀ x ∈ l, x.2 < fb.length) : dirL (fb ++ [b]) l = dirL fb l := by
  unfold dirL
  refine List.map_congr_left fun x hx => ?_
  have := h x hx
  rw [List.getD_eq_getElem?_getD, List.getD_eq_getElem?_getD, List.getElem?_append_left this]
theorem dirHPs_more {fb ms : List Nat} {ds : List Dir} (b : Nat) (h : ∀ l ∈ ds, ∀ x ∈ l, x.2 < fb.length) : dirHPs (fb ++ [b]) ms ds = dirHPs fb ms ds := by
  unfold dirHPs
  induction ds generalizing ms with
  | nil => simp
  | cons l ds ih =>
    cases ms with
    | nil => rfl
    | cons m ms =>
      simp only [List.zipWith_cons_cons]
      rw [ih fun l hl => h l (by simp [hl])]
      congr 1
      unfold dirHP
      simp only [dirL_more b (h l (by simp))]
/-- a new file. -/
theorem dk_newfile (h : At w0 F0 (stars (dkL d s sv ms fb)) w) (f : Fr [] w w') {b T : Nat} (hb : hsz w ≤ b) (b1 : blk w' b = some (.cells [.slice none 0 0, .int .i64 0].toArray T (0, 0))) (hidx : ∀ l ∈ s.dirs, ∀ x ∈ l, x.2 < s.files.length) :
    At w0 F0 (stars (dkL d { s with files := s.files ++ [⟨[], 0⟩] } sv ms (fb ++ [b]))) w' := by
  obtain ⟨A0, ⟨h0, _⟩, _⟩ := h.get 0 rfl
  have h' := h.fr0 f
  obtain ⟨A, h1, upd⟩ := h.upd 4 rfl
  have hlt := (stars (fileHPs fb s.files)).lt h1
  have hnew : (fileHP b ⟨[], 0⟩).p w' [b] := ⟨.slice none 0 0, [b], [], ⟨⟨T, b1⟩, rfl⟩, ⟨[], [], Slc.nil _ _ _, ⟨trivial, rfl⟩, rfl, by simp⟩, rfl, by simp⟩
  have h2 := stars_snoc (fileHPs fb s.files) ((stars (fileHPs fb s.files)).fr h1 f (by simp)) hnew (fun c hc hc' => by simp at hc'; subst hc'; have := hlt _ hc; omega)
  have hz : fileHPs fb s.files ++ [fileHP b ⟨[], 0⟩] = fileHPs (fb ++ [b]) (s.files ++ [⟨[], 0⟩]) := (zipWith_snoc _ _ _ _ _ h0.2).symm
  rw [hz] at h2
  have h5 := upd w' (A ++ [b]) (stars (fileHPs (fb ++ [b]) (s.files ++ [⟨[], 0⟩]))) h2 f.nil (fun c hc => by
    rcases List.mem_append.1 hc with hc | hc
    · exact .inl hc
    · simp at hc; subst hc; exact .inr hb)
  obtain ⟨F, g1, g2, g3⟩ := h5
  obtain ⟨C, D, ⟨_, rfl⟩, k2, hF, k4⟩ := g1
  have hm : dirHPs (fb ++ [b]) ms s.dirs = dirHPs fb ms s.dirs := dirHPs_more b fun l hl x hx => by rw [h0.2]; exact hidx l hl x hx
  refine ⟨F, ⟨[], D, ⟨⟨h0.1, by simp [h0.2]⟩, rfl⟩, ?_, hF, by simp⟩, g2, g3⟩
  show (stars [pts d (dkC s (ms.headD 0) sv), slc encM 1 sv ms.tail, stars (dirHPs (fb ++ [b]) ms s.dirs), stars (fileHPs (fb ++ [b]) (s.files ++ [⟨[], 0⟩]))]).p w' D
  rw [hm]; exact k2
end
end Go.Proofs.YtofllgbdphakiaaDoor
end

section
namespace Go.Proofs.YtofllgbdphakiaaDoor
open Go.Den Go.Disk
set_option linter.unusedSimpArgs false
set_option linter.unusedVariables false
set_option maxRecDepth 20000
set_option maxHeartbeats 4000000
attribute [local congr] BND_cg COND_cg GEF_cg
attribute [local irreducible] capl slicea load1 loadn iaddr iaddra faddr storev newslice binv lookv mupd mdel mlenv mentry mestore slicev slicev3 slices indexs indexav textv rangev nexts clearv shiftv eqaggv convi buildv pickv lens lenl unv nilchk extractv partn JOIN
theorem At.pure0 {w0 w : World} {F0 : List Nat} {a b : Prop} {ps : List HP} (h : At w0 F0 (stars (pure_ a :: ps)) w) (hb : b) : At w0 F0 (stars (pure_ b :: ps)) w := by
  obtain ⟨F, ⟨A, B, ⟨_, rfl⟩, h2, h3, h4⟩, h5⟩ := h
  exact ⟨F, ⟨[], B, ⟨hb, rfl⟩, h2, h3, h4⟩, h5⟩
/-- the directory, as it stands behind a change. -/
structure NowAt (w : World) (fb : List Nat) (m : Nat) (l : Dir) : Prop where
  h : ∃ es ck L, blk w m = some (.map es ck) ∧ MapB (fun s : ByteArray => Value.string s) es ck L ∧ L.Perm (dirL fb l)
section
variable {w0 w : World} {F0 : List Nat} {d : Nat} {s : Dk} {R : Value → World → Prop}
theorem dk_change (h : At w0 F0 (diskHP d s) w) (hw : s.Wf) (hn : s.dirs.length < 1000000000)
    (hR : ∀ w' sv ms fb m, At w0 F0 (stars (dkL d { s with dirs := s.dirs ++ [s.now] } sv ms fb)) w' → ms[s.dirs.length]? = some m → NowAt w' fb m s.now → hsz w ≤ m → R (.map (some m)) w') : CALL PR F_disk_Disk_change [ptrTo d] w R := by
  refine C_disk_Disk_change ?_
  unfold M_disk_Disk_change
  refine dk_now h hw.ne hn fun sv ms fb m es ck L hs hm hf hmm b1 b2 b3 => ?_
  refine dk_clone b1 fun w2 c1 f2 z2 => ?_
  obtain ⟨A, h1, upd⟩ := hs.upd 3 rfl
  have hlt := (stars (dirHPs fb ms s.dirs)).lt h1
  have h2 := stars_snoc (Q := dirHP fb (hsz w) s.now) (G := [hsz w]) (dirHPs fb ms s.dirs) ((stars (dirHPs fb ms s.dirs)).fr h1 f2 (by simp)) ⟨⟨es, ck, L, c1, b2, b3⟩, rfl⟩ (fun c hc hc' => by simp at hc'; subst hc'; have := hlt _ hc; omega)
  have hz : dirHPs fb ms s.dirs ++ [dirHP fb (hsz w) s.now] = dirHPs fb (ms ++ [hsz w]) (s.dirs ++ [s.now]) := (zipWith_snoc _ _ _ _ _ hm).symm
  rw [hz] at h2
  have h5 := upd w2 (A ++ [hsz w]) (stars (dirHPs fb (ms ++ [hsz w]) (s.dirs ++ [s.now]))) h2 f2.nil (fun c hc => by
    rcases List.mem_append.1 hc with hc | hc
    · exact .inl hc
    · simp at hc; subst hc; exact .inr (Nat.le_refl _))
  unfold ptrTo
  obtain ⟨T, c⟩ := h5.cell (i := 1) rfl
  (repeat refine gg ?_)
  refine newone_step (enc := encM) (x := hsz w) encM_len rfl fun u w3 s3 f3 z3 => ?_
  have htl : ms.tail.length = ms.length - 1 := by simp
  refine (h5.fr0 f3).append (i := 2) rfl (s3.loads encM_len) encM_len encM_one rfl (by omega) (by rw [htl]; simp; omega) fun v' w4 h6 one6 => ?_
  (repeat refine gg ?_)
  refine h6.store (i := 1) rfl one6 (by simp [dkC]) fun w5 h7 f7 => ?_
  have hne : ms ≠ [] := by
    intro e; subst e
    have := List.length_pos_iff.2 hw.ne
    simp at hm; omega
  have et : (ms ++ [hsz w]).tail = ms.tail ++ [hsz w] := by cases ms with
    | nil => exact absurd rfl hne
    | cons a r => rfl
  have eh : (ms ++ [hsz w]).headD 0 = ms.headD 0 := by cases ms with
    | nil => exact absurd rfl hne
    | cons a r => rfl
  have h8 : At w0 F0 (stars (dkL d { s with dirs := s.dirs ++ [s.now] } v' (ms ++ [hsz w]) fb)) w5 := by
    have := At.pure0 (b := (ms ++ [hsz w]).length = (s.dirs ++ [s.now]).length ∧ fb.length = s.files.length) h7 ⟨by simp [hm], hf⟩
    unfold dkL
    rw [et, eh]
    exact this
  have hget : (ms ++ [hsz w])[s.dirs.length]? = some (hsz w) := by rw [← hm, List.getElem?_append_right (Nat.le_refl _)]; simp
  refine hR w5 v' (ms ++ [hsz w]) fb (hsz w) h8 hget ?_ (Nat.le_refl _)
  have := dk_dir h8 (i := s.dirs.length) (l := s.now) hget (by simp)
  exact ⟨this⟩
theorem dk_named (n : ByteArray) (hR : ∀ w', Fr [] w w' → R (.bool (named n)) w') : CALL PR F_disk_named [.string n] w R := by
  refine C_disk_named ?_
  unfold M_disk_named
  unfold named at hR
  (repeat refine gg ?_)
  by_cases h0 : n.size = 0
  · (repeat refine gg ?_)
    have := hR _ (Fr.refl _ _)
    simpa [h0] using this
  by_cases h12 : 12 < n.size
  · (repeat refine gg ?_)
    have := hR _ (Fr.refl _ _)
    simpa [show ¬ n.size ≤ 12 by omega] using this
  (repeat refine gg ?_)
  have e0 : (decide (1 ≤ n.size) && decide (n.size ≤ 12)) = true := by simp; omega
  rw [e0, Bool.true_and] at hR
  refine ⟨n, rfl, fun c w1 hc hh hrest => ?_⟩
  have hsz1 : hsz w1 = hsz w := by unfold hsz; rw [hh]
  have hl : n.data.toList.length = n.size := Array.length_toList
  have f1 : Fr [] w (w1.alloc (.cells (n.data.map (fun b => Value.int .u8 b.toNat) ++ Array.replicate (c - n.size) (.int .u8 0)) 5 (c, c + 1))) := ⟨by simp [hsz1], fun b hb _ => by rw [blk_alloc_old (by omega), heap_ext hh], hrest.1, hrest.2.1, hrest.2.2⟩
  have ar : Arr encB 1 (w1.alloc (.cells (n.data.map (fun b => Value.int .u8 b.toNat) ++ Array.replicate (c - n.size) (.int .u8 0)) 5 (c, c + 1))) (.slice (some ⟨w1.heap.size, 0, .none⟩) n.size c) n.data.toList := by
    refine ⟨some ⟨w1.heap.size, 0, .none⟩, c, by rw [hl], .inr ⟨w1.heap.size, 0, _, _, _, rfl, blk_alloc_new _ _, fun i x hx => ⟨?_, fun j hj => ?_⟩⟩⟩
    · have hi := (List.getElem?_eq_some_iff.1 hx).1
      simp only [Array.size_append, Array.size_map, Array.size_replicate]
      have : n.data.size = n.size := rfl
      omega
    · obtain rfl : j = 0 := by omega
      have hi := (List.getElem?_eq_some_iff.1 hx).1
      rw [Array.getElem?_append_left (by simp; omega)]
      rw [Array.getElem?_toList] at hx
      simp [encB, hx]
  generalize w1.alloc (.cells (n.data.map (fun b => Value.int .u8 b.toNat) ++ Array.replicate (c - n.size) (.int .u8 0)) 5 (c, c + 1)) = w2 at f1 ar
  generalize (Value.slice (some ⟨w1.heap.size, 0, .none⟩) n.size c) = bv at ar
  (repeat (first | refine BND_step ar.len ?_ | refine gg ?_))
  refine loop_up 0 n.data.toList.length (fun i w' => w' = w2 ∧ (n.data.toList.take i).all okByte = true) ⟨rfl, rfl⟩ (by omega) ?_
  rintro i w5 - hi ⟨rfl, e⟩ J m hJ
  by_cases hlt : i < n.data.toList.length
  · have hx := List.getElem?_eq_getElem hlt
    generalize n.data.toList[i] = x at hx
    obtain ⟨b, o, ia, _, _, l1⟩ := ar.spot hx rfl .i64
    have l1' := l1 rfl (j := 0) rfl
    have yes : okByte x = true → J (.int .i64 ((i + 1 : Nat) : Int)) w5 ∧ m (.int .i64 ((i + 1 : Nat) : Int)) w5 < m (.int .i64 (i : Int)) w5 := fun hok => hJ w5 hlt ⟨rfl, by rw [List.take_add_one, hx, List.all_append, e]; simp [hok]⟩
    have no : okByte x = false → R (.bool false) w5 := fun hno => by
      have := hR w5 f1
      have e2 : n.data.toList.all okByte = false := by rw [List.all_eq_false]; exact ⟨x, List.mem_of_getElem? hx, by simp [hno]⟩
      rwa [e2] at this
    have hx46 : (x.toNat : Int) = 46 ↔ x = 46 := by
      rw [← UInt8.toNat_inj]; show (x.toNat : Int) = 46 ↔ x.toNat = 46; omega
    have h48 : 48 ≤ x ↔ (48 : Int) ≤ (x.toNat : Int) := by rw [UInt8.le_iff_toNat_le]; show 48 ≤ x.toNat ↔ _; omega
    have h57 : x ≤ 57 ↔ (x.toNat : Int) ≤ 57 := by rw [UInt8.le_iff_toNat_le]; show x.toNat ≤ 57 ↔ _; omega
    have h97 : 97 ≤ x ↔ (97 : Int) ≤ (x.toNat : Int) := by rw [UInt8.le_iff_toNat_le]; show 97 ≤ x.toNat ↔ _; omega
    have h122 : x ≤ 122 ↔ (x.toNat : Int) ≤ 122 := by rw [UInt8.le_iff_toNat_le]; show x.toNat ≤ 122 ↔ _; omega
    have hok : okByte x = true ↔ (x.toNat : Int) = 46 ∨ (48 ≤ (x.toNat : Int) ∧ (x.toNat : Int) ≤ 57) ∨ (97 ≤ (x.toNat : Int) ∧ (x.toNat : Int) ≤ 122) := by
      unfold okByte
      simp only [Bool.or_eq_true, Bool.and_eq_true, decide_eq_true_eq, h48, h57, h97, h122, hx46, or_assoc]
    have hno : okByte x = false ↔ ¬ ((x.toNat : Int) = 46 ∨ (48 ≤ (x.toNat : Int) ∧ (x.toNat : Int) ≤ 57) ∨ (97 ≤ (x.toNat : Int) ∧ (x.toNat : Int) ≤ 122)) := by
      rw [← hok]; simp
    generalize (x.toNat : Int) = z at *
    by_cases q1 : z = 46
    · (repeat refine gg ?_)
      exact yes (hok.2 (by omega))
    by_cases q2 : z < 48
    · by_cases q3 : z < 97
      · (repeat refine gg ?_)
        exact no (hno.2 (by omega))
      · (repeat refine gg ?_)
        omega
    by_cases q4 : 57 < z
    · by_cases q5 : z < 97
      · (repeat refine gg ?_)
        exact no (hno.2 (by omega))
      · by_cases q6 : 122 < z
        · (repeat refine gg ?_)
          exact no (hno.2 (by omega))
        · (repeat refine gg ?_)
          exact yes (hok.2 (by omega))
    · (repeat refine gg ?_)
      exact yes (hok.2 (by omega))
  · (repeat refine gg ?_)
    rw [List.take_of_length_le (by omega)] at e
    have := hR w5 f1
    rwa [e] at this
end
end Go.Proofs.YtofllgbdphakiaaDoor
end

section
namespace Go.Proofs.YtofllgbdphakiaaDoor
open Go.Den Go.Disk
/-! ## Plain -/
theorem can_keep (s : Dk) (e : Int) : (can s e).1.files = s.files ∧ (can s e).1.dirs = s.dirs ∧ (can s e).1.room = s.room := by
  unfold can
  split
  · exact ⟨rfl, rfl, rfl⟩
  · split
    · exact ⟨rfl, rfl, rfl⟩
    · split
      · exact ⟨rfl, rfl, rfl⟩
      · split <;> exact ⟨rfl, rfl, rfl⟩
theorem can_zero {s : Dk} {e : Int} (h : (can s e).2 = 0) : e = 0 := by
  unfold can at h
  split at h
  · simp at h
  · split at h
    · exact h
    · rename_i h2; simpa using h2
theorem wf_can {s : Dk} (h : s.Wf) (e : Int) : (can s e).1.Wf := by
  obtain ⟨h1, h2, h3⟩ := can_keep s e
  refine ⟨by rw [h2]; exact h.ne, by rw [h2]; exact h.rise, by rw [h1, h2]; exact h.idx, by rw [h2]; exact h.many, by rw [h2]; exact h.nm, by rw [h1]; exact h.sure, by rw [h1, h3]; exact h.small, by rw [h3]; exact h.room, ?_⟩
  have hb := h.burn
  unfold can
  split
  · exact hb
  · split
    · exact hb
    · split
      · exact hb
      · split
        · show -1 ≤ s.burn - 1 ∧ s.burn - 1 ≤ _; omega
        · exact hb
theorem can_now (s : Dk) (e : Int) : (can s e).1.now = s.now := by unfold Dk.now; rw [(can_keep s e).2.1]
theorem findD_withD {l : Dir} (hr : riseD l) {x : ByteArray × Nat} (hn : ∀ y ∈ l, y.1 ≠ x.1) (k : ByteArray) : findD (withD l x) k = if k = x.1 then some x.2 else findD l k := by
  have hr' := rise_withD hr hn
  by_cases hk : k = x.1
  · rw [if_pos hk, hk]
    exact findD_of_mem hr' (mem_withD.2 (.inl rfl))
  · rw [if_neg hk]
    cases hf : findD l k with
    | none =>
      rw [findD_none]
      intro y hy
      rcases mem_withD.1 hy with rfl | hy
      · exact fun e => hk e.symm
      · exact findD_none.1 hf y hy
    | some f => exact findD_of_mem hr' (mem_withD.2 (.inr (findD_mem hf)))
theorem findD_without {l : Dir} (hr : riseD l) (n k : ByteArray) : findD (without l n) k = if k = n then none else findD l k := by
  by_cases hk : k = n
  · rw [if_pos hk, findD_none]
    intro y hy e
    exact (mem_without.1 hy).2 (by rw [e, hk])
  · rw [if_neg hk]
    cases hf : findD l k with
    | none =>
      rw [findD_none]
      intro y hy
      exact findD_none.1 hf y (mem_without.1 hy).1
    | some f => exact findD_of_mem (rise_without hr n) (mem_without.2 ⟨findD_mem hf, hk⟩)
theorem without_id {l : Dir} {n : ByteArray} (h : findD l n = none) : without l n = l := by
  unfold without
  refine List.filter_eq_self.2 fun x hx => ?_
  have := findD_none.1 h x hx
  simp [this]
theorem keys_dir {fb : List Nat} {l : Dir} (hr : riseD l) : ((dirL fb l).map (·.1)).Nodup := by
  unfold dirL
  rw [List.map_map, List.nodup_iff_pairwise_ne]
  exact (rise_names hr).imp fun {a b} h e => by subst e; rw [bl_irr] at h; cases h
theorem lk_dirL {fb : List Nat} {l : Dir} (hr : riseD l) (k : ByteArray) : lk (dirL fb l) k = (findD l k).map fun f => ptrTo (fb.getD f 0) := lk_dir hr (.refl _) (keys_dir hr) k
theorem ins_dir {fb : List Nat} {l : Dir} {L : List (ByteArray × Value)} (hr : riseD l) (hp : L.Perm (dirL fb l)) (hL : (L.map (·.1)).Nodup) (n : ByteArray) (f : Nat) : (insL L n (ptrTo (fb.getD f 0))).Perm (dirL fb (withD (without l n) (n, f))) := by
  have hnn : ∀ y ∈ without l n, y.1 ≠ n := fun y hy => (mem_without.1 hy).2
  have hr2 : riseD (withD (without l n) (n, f)) := rise_withD (rise_without hr n) hnn
  refine ins_perm (once_ins hL n _) (keys_dir hr2) fun k => ?_
  rw [lk_ins, lk_dirL hr2, findD_withD (rise_without hr n) hnn, findD_without hr, lk_dir hr hp hL]
  by_cases hk : k = n
  · simp [hk]
  · simp [hk]
theorem del_dir {fb : List Nat} {l : Dir} {L : List (ByteArray × Value)} (hr : riseD l) (hp : L.Perm (dirL fb l)) (hL : (L.map (·.1)).Nodup) (n : ByteArray) : (delL L n).Perm (dirL fb (without l n)) := by
  refine ins_perm (once_del hL n) (keys_dir (rise_without hr n)) fun k => ?_
  rw [lk_del hL, lk_dirL (rise_without hr n), findD_without hr, lk_dir hr hp hL]
  by_cases hk : k = n
  · simp [hk]
  · simp [hk]
theorem set_snoc {α : Type} (l : List α) (a b : α) : (l ++ [a]).set l.length b = l ++ [b] := by
  induction l with
  | nil => rfl
  | cons x l ih => simp only [List.cons_append, List.length_cons, List.set_cons_succ, ih]
set_option linter.unusedSimpArgs false
set_option linter.unusedVariables false
set_option maxRecDepth 20000
set_option maxHeartbeats 4000000
attribute [local congr] BND_cg COND_cg GEF_cg
attribute [local irreducible] capl slicea load1 loadn iaddr iaddra faddr storev newslice binv lookv mupd mdel mlenv mentry mestore slicev slicev3 slices indexs indexav textv rangev nexts clearv shiftv eqaggv convi buildv pickv lens lenl unv nilchk extractv partn JOIN
section
variable {w0 w : World} {F0 : List Nat} {d : Nat} {s : Dk} {R : Value → World → Prop}
theorem dk_Create (h : At w0 F0 (diskHP d s) w) (hw : s.Wf) (hn : s.dirs.length < 1000000000) (n : ByteArray) (hR : ∀ w', At w0 F0 (diskHP d (create s n).1) w' → R (.int .i64 (create s n).2) w') :
    CALL PR F_disk_Disk_Create [ptrTo d, .string n] w R := by
  refine C_disk_Disk_Create ?_
  unfold M_disk_Disk_Create
  refine dk_now h hw.ne hn fun sv ms fb m es ck L hs hm hf hmm b1 b2 b3 => ?_
  have hr : riseD s.now := hw.rise _ (List.mem_of_getElem? (dk_now_get hw.ne))
  refine dk_named n fun w2 f2 => ?_
  have h2 := h.fr0 f2
  have c1 := f2.some (by simp) b1
  have lk1 := dk_lookup c1 b2 b3 hr n
  have ml := mlenv_L c1 b2.l
  have hLl : L.length = s.now.length := by rw [b3.length_eq]; simp [dirL]
  rw [hLl] at ml
  (repeat refine gg ?_)
  refine join_v (fun e w' => e = .int .i64 (createE s n) ∧ w' = w2) (fun K hK => ?_) ?_
  · cases hnm : named n with
    | false =>
      have e : createE s n = 1 := by simp [createE, hnm]
      (repeat refine gg ?_)
      exact hK _ _ ⟨by rw [e], rfl⟩
    | true =>
    cases hfd : findD s.now n with
    | some f =>
      rw [hfd] at lk1
      simp only [ptrTo] at lk1
      have e : createE s n = 6 := by simp [createE, hnm, Dk.find, hfd]
      (repeat refine gg ?_)
      refine join_v (fun e w' => e = .int .i64 (createE s n) ∧ w' = w2) (fun K2 hK2 => ?_) (fun e w' hq => hK e w' hq)
      (repeat refine gg ?_)
      exact hK2 _ _ ⟨by rw [e], rfl⟩
    | none =>
      rw [hfd] at lk1
      simp only at lk1
      (repeat refine gg ?_)
      refine join_v (fun e w' => e = .int .i64 (createE s n) ∧ w' = w2) (fun K2 hK2 => ?_) (fun e w' hq => hK e w' hq)
      by_cases h60 : 60 ≤ s.now.length
      · have e : createE s n = 4 := by simp [createE, hnm, Dk.find, hfd, h60]
        (repeat refine gg ?_)
        refine join_v (fun e w' => e = .int .i64 (createE s n) ∧ w' = w2) (fun K3 hK3 => ?_) (fun e w' hq => hK2 e w' hq)
        (repeat refine gg ?_)
        exact hK3 _ _ ⟨by rw [e], rfl⟩
      · have e : createE s n = 0 := by simp [createE, hnm, Dk.find, hfd, h60]
        (repeat refine gg ?_)
        refine join_v (fun e w' => e = .int .i64 (createE s n) ∧ w' = w2) (fun K3 hK3 => ?_) (fun e w' hq => hK2 e w' hq)
        (repeat refine gg ?_)
        exact hK3 _ _ ⟨by rw [e], rfl⟩
  · rintro _ _ ⟨rfl, rfl⟩
    refine dk_can h2 _ hw.burn fun w4 h4 => ?_
    unfold create at hR
    by_cases hc : (can s (createE s n)).2 = 0
    · simp only [hc, if_true] at hR
      rw [hc]
      (repeat refine gg ?_)
      refine join_w (fun w' => At w0 F0 (diskHP d { (can s (createE s n)).1 with files := s.files ++ [⟨[], 0⟩], dirs := s.dirs ++ [withD s.now (n, s.files.length)] }) w') (fun K hK => ?_) (fun w' hw' => hR w' hw')
      obtain ⟨k1, k2, k3⟩ := can_keep s (createE s n)
      have hcz := can_zero hc
      have hfd : findD s.now n = none := by
        cases hq : findD s.now n with
        | none => rfl
        | some f =>
          exfalso
          unfold createE Dk.find at hcz
          rw [hq] at hcz
          split at hcz <;> simp at hcz
      (repeat refine gg ?_)
      refine dk_change h4 (wf_can hw _) (by rw [k2]; exact hn) fun w6 sv6 ms6 fb6 m6 hs6 hm6 na6 _ => ?_
      rw [can_now, k2] at hs6
      rw [k2] at hm6
      rw [can_now] at na6
      have g6 := hs6.get 0 rfl
      obtain ⟨_, ⟨hlen6, _⟩, _⟩ := g6
      have hfb : fb6.length = s.files.length := by rw [← k1]; exact hlen6.2
      (repeat (first | refine gg ?_ | (apply BND_build ([.slice none 0 0, .int .i64 0]); exact rfl)))
      refine NEW_intro fun w7 b7 f7 z7 => ?_
      have hidx : ∀ l ∈ s.dirs ++ [s.now], ∀ x ∈ l, x.2 < s.files.length := fun l hl x hx => by
        rcases List.mem_append.1 hl with hl | hl
        · exact hw.idx l hl x hx
        · simp at hl; subst hl; exact hw.idx _ (List.mem_of_getElem? (dk_now_get hw.ne)) x hx
      have h7 := dk_newfile hs6 f7 (Nat.le_refl _) b7 (by rw [k1]; exact hidx)
      rw [k1] at h7
      obtain ⟨es6, ck6, L6, q1, q2, q3⟩ := na6.h
      have q1' := f7.some (by simp) q1
      obtain ⟨es8, ck8, e8, m8⟩ := mupd_B keyStr q1' q2 n (ptrTo (hsz w6))
      refine BND_step e8 <| hK _ ?_
      have hget : (fb6 ++ [hsz w6]).getD s.files.length 0 = hsz w6 := by
        rw [List.getD_eq_getElem?_getD, ← hfb, List.getElem?_append_right (Nat.le_refl _)]; simp
      have q3' : L6.Perm (dirL (fb6 ++ [hsz w6]) s.now) := by
        rw [dirL_more _ (fun x hx => by rw [hfb]; exact hw.idx _ (List.mem_of_getElem? (dk_now_get hw.ne)) x hx)]; exact q3
      have hperm := ins_dir (fb := fb6 ++ [hsz w6]) hr q3' q2.l.once n s.files.length
      rw [hget, without_id hfd] at hperm
      have h9 := dk_setdir h7 (i := s.dirs.length) (l := s.now) (l' := withD s.now (n, s.files.length)) hm6 (by simp) (Fr.setB (F := [m6]) (.inl (by simp)) _) (blk_setB_same q1') m8 hperm
      simp only [set_snoc] at h9
      exact dk_shut h9
    · simp only [hc, if_false] at hR
      (repeat refine gg ?_)
      refine join_w (fun w' => At w0 F0 (diskHP d (can s (createE s n)).1) w') (fun K hK => ?_) (fun w' hw' => hR w' hw')
      (repeat refine gg ?_)
      exact hK w4 h4
end
end Go.Proofs.YtofllgbdphakiaaDoor
end

section
namespace Go.Proofs.YtofllgbdphakiaaDoor
open Go.Den Go.Disk
theorem there_zero {s : Dk} {n : ByteArray} (h : there s n = 0) : ∃ f, findD s.now n = some f := by
  unfold there Dk.find at h
  cases hq : findD s.now n with
  | some f => exact ⟨f, rfl⟩
  | none => rw [hq] at h; simp at h
set_option linter.unusedSimpArgs false
set_option linter.unusedVariables false
set_option maxRecDepth 20000
set_option maxHeartbeats 4000000
attribute [local congr] BND_cg COND_cg GEF_cg
attribute [local irreducible] capl slicea load1 loadn iaddr iaddra faddr storev newslice binv lookv mupd mdel mlenv mentry mestore slicev slicev3 slices indexs indexav textv rangev nexts clearv shiftv eqaggv convi buildv pickv lens lenl unv nilchk extractv partn JOIN
section
variable {w0 w : World} {F0 : List Nat} {d : Nat} {s : Dk} {R : Value → World → Prop}
theorem dk_DirSync (h : At w0 F0 (diskHP d s) w) (hw : s.Wf) (hn : s.dirs.length < 1000000000) (hR : ∀ w', At w0 F0 (diskHP d (dirsync s).1) w' → R (.int .i64 (dirsync s).2) w') :
    CALL PR F_disk_Disk_DirSync [ptrTo d] w R := by
  refine C_disk_Disk_DirSync ?_
  unfold M_disk_Disk_DirSync
  refine dk_can h _ hw.burn fun w4 h4 => ?_
  unfold dirsync at hR
  by_cases hc : (can s 0).2 = 0
  · simp only [hc, if_true] at hR
    rw [hc]
    (repeat refine gg ?_)
    refine join_w (fun w' => At w0 F0 (diskHP d { (can s 0).1 with dirs := [s.now] }) w') (fun K hK => ?_) (fun w' hw' => hR w' hw')
    obtain ⟨k1, k2, k3⟩ := can_keep s 0
    (repeat refine gg ?_)
    refine dk_now h4 (by rw [k2]; exact hw.ne) (by rw [k2]; exact hn) fun sv ms fb m es ck L hs hm hf hmm b1 b2 b3 => ?_
    rw [can_now] at b3
    unfold ptrTo
    (repeat refine gg ?_)
    refine hs.store (i := 1) rfl ⟨rfl, rfl⟩ (by simp [dkC]) fun w1 h1 f1 => ?_
    (repeat refine gg ?_)
    refine h1.store (i := 1) rfl ⟨rfl, rfl⟩ (by simp [dkC]) fun w2 h2 f2 => hK _ ?_
    obtain ⟨A, a1, upd⟩ := h2.upd 2 rfl
    have h3 := upd w2 [] (slc encM 1 (.slice none 0 0) []) (Slc.nil _ _ _) (Fr.refl _ _) (by simp)
    obtain ⟨A3, a3, upd3⟩ := h3.upd 3 rfl
    obtain ⟨B, ⟨b4, rfl⟩, hmA⟩ := stars_get (dirHPs fb ms (can s 0).1.dirs) ((can s 0).1.dirs.length - 1) (dirHP fb m s.now) (by
      unfold dirHPs; rw [List.getElem?_zipWith, hmm, dk_now_get (by rw [k2]; exact hw.ne), can_now]) a3
    have h5 := upd3 w2 [m] (stars [dirHP fb m s.now]) ⟨[m], [], ⟨b4, rfl⟩, ⟨trivial, rfl⟩, rfl, by simp⟩ (Fr.refl _ _) (fun c hc => .inl (hmA c hc))
    have h6 := At.pure0 (b := [m].length = [s.now].length ∧ fb.length = (can s 0).1.files.length) h5 ⟨rfl, hf⟩
    exact dk_shut (s := { (can s 0).1 with dirs := [s.now] }) (sv := .slice none 0 0) (ms := [m]) (fb := fb) h6
  · simp only [hc, if_false] at hR
    (repeat refine gg ?_)
    refine join_w (fun w' => At w0 F0 (diskHP d (can s 0).1) w') (fun K hK => ?_) (fun w' hw' => hR w' hw')
    (repeat refine gg ?_)
    exact hK w4 h4
end
end Go.Proofs.YtofllgbdphakiaaDoor
end

section
namespace Go.Proofs.YtofllgbdphakiaaDoor
open Go.Den Go.Disk
theorem isSome_find {s : Dk} {n : ByteArray} {f : Nat} (h : findD s.now n = some f) : (s.find n).isSome = true ∧ (s.find n).getD 0 = f := by
  unfold Dk.find; rw [h]; exact ⟨rfl, rfl⟩
theorem wf_pick {s : Dk} (hw : s.Wf) {n : ByteArray} {f : Nat} (h : findD s.now n = some f) : s.files[f]? = some (fileAt s f) := by
  have hi := hw.idx _ (List.mem_of_getElem? (dk_now_get hw.ne)) _ (findD_mem h)
  unfold fileAt
  rw [List.getD_eq_getElem?_getD, List.getElem?_eq_getElem hi]; rfl
theorem Slc.take0 {α : Type} {enc : α → List Value} {sz : Nat} {w : World} {v : Value} {xs : List α} {F : List Nat} (h : Slc enc sz w v xs F) {n : Nat} (hn : n ≤ xs.length) (k : IntKind) : ∃ v', slicev sz v none (some (.int k (n : Int))) = some v' ∧ Slc enc sz w v' (xs.take n) F := by
  rcases h with ⟨rfl, rfl, rfl⟩ | ⟨b, cap, c, T, rfl, hb, hc, hs, rfl, hel⟩
  · have : n = 0 := by simpa using hn
    subst this
    exact ⟨.slice none 0 0, by simp [slicev, natOf], Slc.nil _ _ _⟩
  · have h1 : n ≤ cap := by omega
    refine ⟨.slice (some ⟨b, 0, none⟩) n cap, ?_, .inr ⟨b, cap, c, T, by simp [Nat.min_eq_left hn], hb, by simp; omega, hs, rfl, fun i x hx j hj => ?_⟩⟩
    · simp [slicev, natOf, h1, Addr.add]
    · rw [List.getElem?_take] at hx
      split at hx
      · exact hel i x hx j hj
      · simp at hx
theorem slc_nil : binv .slc .eql (.slice none 0 0) (.slice none 0 0) = some (.bool true) := rfl
theorem slc_not {a : Addr} {n c : Nat} : binv .slc .eql (.slice (some a) n c) (.slice none 0 0) = some (.bool false) := rfl
set_option linter.unusedSimpArgs false
set_option linter.unusedVariables false
set_option maxRecDepth 20000
set_option maxHeartbeats 4000000
attribute [local congr] BND_cg COND_cg GEF_cg
attribute [local irreducible] capl slicea load1 loadn iaddr iaddra faddr storev newslice binv lookv mupd mdel mlenv mentry mestore slicev slicev3 slices indexs indexav textv rangev nexts clearv shiftv eqaggv convi buildv pickv lens lenl unv nilchk extractv partn JOIN
section
variable {w0 w : World} {F0 : List Nat} {d : Nat} {s : Dk} {R : Value → World → Prop}
theorem dk_New (room : Int) (hR0 : (room < 16 ∨ 1048576 < room) → R (.tuple #[.pointer none, .int .i64 1]) w)
    (hR : 16 ≤ room ∧ room ≤ 1048576 → ∀ w' d, At w [] (diskHP d (empty room)) w' → R (.tuple #[ptrTo d, .int .i64 0]) w') : CALL PR F_disk_New [.int .i64 room] w R := by
  refine C_disk_New ?_
  unfold M_disk_New
  by_cases h1 : room < 16
  · (repeat refine gg ?_)
    exact hR0 (.inl h1)
  by_cases h2 : 1048576 < room
  · (repeat refine gg ?_)
    exact hR0 (.inr h2)
  (repeat refine gg ?_)
  refine NEWMAP_intro fun w1 b1 f1 z1 => ?_
  (repeat (first | refine gg ?_ | (apply BND_build ([.int .i64 room, .map (some (hsz w)), .slice none 0 0, .int .i64 (-1), .bool false]); exact rfl)))
  refine NEW_intro fun w2 b2 f2 z2 => ?_
  (repeat refine gg ?_)
  have hd : (dirHP [] (hsz w) []).p w2 [hsz w] := ⟨⟨#[], 0, [], by rw [f2.keep _ (by omega) (by simp), b1], ⟨⟨rfl, .nil⟩, by simp, by simp⟩, by simp [dirL]⟩, rfl⟩
  refine hR (by omega) w2 (hsz w1) (dk_shut (sv := .slice none 0 0) (ms := [hsz w]) (fb := []) ⟨[hsz w1, hsz w], ?_, fun b hb => ?_, f1.trans' f2⟩)
  · refine ⟨[], _, ⟨⟨rfl, rfl⟩, rfl⟩, ⟨[hsz w1], [hsz w], ⟨⟨_, b2⟩, rfl⟩, ⟨[], [hsz w], Slc.nil _ _ _, ⟨[hsz w], [], ⟨[hsz w], [], hd, ⟨trivial, rfl⟩, rfl, by simp⟩, ⟨[], [], ⟨trivial, rfl⟩, ⟨trivial, rfl⟩, rfl, by simp⟩, rfl, by simp⟩, rfl, by simp⟩, rfl, ?_⟩, rfl, by simp⟩
    intro b hb hb'
    simp at hb hb'
    omega
  · simp at hb
    right; omega
theorem dk_Read (h : At w0 F0 (diskHP d s) w) (hw : s.Wf) (hn : s.dirs.length < 1000000000) (n : ByteArray) (hR : ∀ w' v G, At w0 F0 (diskHP d s) w' → Slc encB 1 w' v (Disk.read s n).1 G → (∀ b ∈ G, hsz w ≤ b) → Fr [] w w' → R (.tuple #[v, .int .i64 (Disk.read s n).2]) w') :
    CALL PR F_disk_Disk_Read [ptrTo d, .string n] w R := by
  refine C_disk_Disk_Read ?_
  unfold M_disk_Disk_Read
  obtain ⟨sv, ms, fb, hs, hm, hf⟩ := dk_open h
  obtain ⟨T, c⟩ := hs.cell (i := 1) rfl
  unfold Disk.read at hR
  cases hg : s.gone with
  | true =>
    simp only [hg, if_true] at hR
    unfold ptrTo
    (repeat refine gg ?_)
    rw [hg]
    (repeat refine gg ?_)
    exact hR w _ [] h (Slc.nil _ _ _) (by simp) (Fr.refl _ _)
  | false =>
    simp only [hg, Bool.false_eq_true, if_false] at hR
    unfold ptrTo
    (repeat refine gg ?_)
    rw [hg]
    (repeat refine gg ?_)
    unfold Dk.find at hR
    refine dk_there h hw hn n ?_
    cases hfd : findD s.now n with
    | none =>
      have e : there s n = 5 := by unfold there Dk.find; rw [hfd]; rfl
      rw [e]
      simp only [hfd] at hR
      (repeat refine gg ?_)
      exact hR w _ [] h (Slc.nil _ _ _) (by simp) (Fr.refl _ _)
    | some f =>
      have e : there s n = 0 := by unfold there Dk.find; rw [hfd]; rfl
      rw [e]
      simp only [hfd] at hR
      have hr : riseD s.now := hw.rise _ (List.mem_of_getElem? (dk_now_get hw.ne))
      (repeat refine gg ?_)
      refine dk_now h hw.ne hn fun sv ms fb m es ck L hs hm hf hmm b1 b2 b3 => ?_
      have lk1 := dk_lookup b1 b2 b3 hr n
      rw [hfd] at lk1
      have hx := wf_pick hw hfd
      have hi : f < fb.length := by rw [hf]; exact (List.getElem?_eq_some_iff.1 hx).1
      have hb := List.getElem?_eq_getElem hi
      have hgd : fb.getD f 0 = fb[f] := by rw [List.getD_eq_getElem?_getD, hb]; rfl
      simp only [hgd] at lk1
      generalize fb[f] = b at hb lk1
      simp only [ptrTo] at lk1
      obtain ⟨bv, T, G, c2, ss⟩ := dk_file hs hb hx
      have hsm := hw.small _ (List.mem_of_getElem? hx)
      have hrm := hw.room
      (repeat refine gg ?_)
      refine C_slices_Clone_byte_byte ?_
      unfold M_slices_Clone_byte_byte
      have ss0 := ss
      rcases ss with ⟨rfl, e3, _⟩ | ⟨b', cap, cc, T', rfl, _, _, _, _, _⟩
      · (repeat (first | refine BND_step slc_nil ?_ | refine BND_step slc_not ?_ | refine gg ?_))
        rw [show (fileAt s f).b = [] from e3] at hR
        exact hR w _ [] h (Slc.nil _ _ _) (by simp) (Fr.refl _ _)
      · (repeat (first | refine BND_step slc_nil ?_ | refine BND_step slc_not ?_ | refine gg ?_))
        refine newnil_step encB fun t w1 s1 f1 z1 => ?_
        refine APPEND_slc s1 (ys := (fileAt s f).b) ((ss0.fr f1 (by simp)).loads encB_len) encB_len encB_one rfl (by simp; omega) (by simp; omega) fun v' w2 F' s2 f2 sub => ?_
        (repeat refine gg ?_)
        have f3 : Fr [] w w2 := f1.trans f2 (by simp)
        exact hR w2 v' F' (h.fr0 f3) s2 (fun b hb => by
          rcases sub b hb with hb | hb
          · simp at hb; omega
          · omega) f3
theorem dk_Sync (h : At w0 F0 (diskHP d s) w) (hw : s.Wf) (hn : s.dirs.length < 1000000000) (n : ByteArray) (hR : ∀ w', At w0 F0 (diskHP d (sync s n).1) w' → R (.int .i64 (sync s n).2) w') :
    CALL PR F_disk_Disk_Sync [ptrTo d, .string n] w R := by
  refine C_disk_Disk_Sync ?_
  unfold M_disk_Disk_Sync
  refine dk_there h hw hn n ?_
  refine dk_can h _ hw.burn fun w4 h4 => ?_
  have hr : riseD s.now := hw.rise _ (List.mem_of_getElem? (dk_now_get hw.ne))
  unfold sync at hR
  by_cases hc : (can s (there s n)).2 = 0
  · simp only [hc, if_true] at hR
    rw [hc]
    obtain ⟨f, hfd⟩ := there_zero (can_zero hc)
    rw [(isSome_find hfd).2] at hR
    (repeat refine gg ?_)
    refine join_w (fun w' => At w0 F0 (diskHP d (setF (can s (there s n)).1 f { fileAt s f with sure := (fileAt s f).b.length })) w') (fun K hK => ?_) (fun w' hw' => hR w' hw')
    obtain ⟨k1, k2, k3⟩ := can_keep s (there s n)
    (repeat refine gg ?_)
    refine dk_now h4 (by rw [k2]; exact hw.ne) (by rw [k2]; exact hn) fun sv ms fb m es ck L hs hm hf hmm b1 b2 b3 => ?_
    rw [can_now] at b3
    have lk1 := dk_lookup b1 b2 b3 hr n
    rw [hfd] at lk1
    have hx : (can s (there s n)).1.files[f]? = some (fileAt s f) := by rw [k1]; exact wf_pick hw hfd
    have hi : f < fb.length := by rw [hf]; exact (List.getElem?_eq_some_iff.1 hx).1
    have hb := List.getElem?_eq_getElem hi
    have hgd : fb.getD f 0 = fb[f] := by rw [List.getD_eq_getElem?_getD, hb]; rfl
    simp only [hgd] at lk1
    generalize fb[f] = b at hb lk1
    simp only [ptrTo] at lk1
    obtain ⟨A, bv, ha, back⟩ := dk_fupd hs hb hx
    obtain ⟨T, c⟩ := ha.cell (i := 0) rfl
    obtain ⟨Fs, ss, _⟩ := ha.slc1 (i := 1) rfl
    (repeat (first | refine BND_step ss.len ?_ | refine gg ?_))
    refine ha.store (i := 0) rfl ⟨rfl, rfl⟩ (by simp) fun w5 h5 f5 => hK _ ?_
    exact dk_shut (back w5 bv { fileAt s f with sure := (fileAt s f).b.length } h5)
  · simp only [hc, if_false] at hR
    (repeat refine gg ?_)
    refine join_w (fun w' => At w0 F0 (diskHP d (can s (there s n)).1) w') (fun K hK => ?_) (fun w' hw' => hR w' hw')
    (repeat refine gg ?_)
    exact hK w4 h4
theorem dk_Cut (h : At w0 F0 (diskHP d s) w) (hw : s.Wf) (hn : s.dirs.length < 1000000000) (n : ByteArray) (k : Int) (hR : ∀ w', At w0 F0 (diskHP d (cut s n k).1) w' → R (.int .i64 (cut s n k).2) w') :
    CALL PR F_disk_Disk_Cut [ptrTo d, .string n, .int .i64 k] w R := by
  refine C_disk_Disk_Cut ?_
  unfold M_disk_Disk_Cut
  refine dk_there h hw hn n ?_
  have hr : riseD s.now := hw.rise _ (List.mem_of_getElem? (dk_now_get hw.ne))
  have rest : ∀ e, e = cutE s n k → (CALL PR F_disk_Disk_can [ptrTo d, .int .i64 e] w fun t32_19 w4 =>
      BND (binv .int .eql t32_19 (Value.int .i64 0)) fun t34_20 =>
      JOIN (α := World → Prop) (fun k_44 => COND t34_20
      (CALL PR F_disk_Disk_now [ptrTo d] w4 fun t36_45 w6 =>
      BND (lookv .string (Value.pointer none) false w6 t36_45 (.string n)) fun t38_46 =>
      BND (nilchk t38_46) fun t42_47 =>
      BND (faddr 0 t42_47) fun t43_48 =>
      BND (nilchk t38_46) fun t48_49 =>
      BND (faddr 1 t48_49) fun t49_50 =>
      BND (load1 w6.drew t43_48) fun t44_51 =>
      BND (slicev 1 t44_51 none (some (.int .i64 k))) fun t46_52 =>
      BND (load1 w6.drew t49_50) fun t50_53 =>
      BND (min2v t50_53 (.int .i64 k)) fun t52_54 =>
      BND (nilchk t38_46) fun t53_55 =>
      BND (faddr 0 t53_55) fun t54_56 =>
      BND (storev 1 w6.drew t54_56 t46_52) fun w7 =>
      BND (nilchk t38_46) fun t55_57 =>
      BND (faddr 1 t55_57) fun t56_58 =>
      BND (storev 1 w7 t56_58 t52_54) fun w8 =>
      k_44 w8)
      (k_44 w4))
      (fun w5 => R t32_19 w5)) := by
    rintro _ rfl
    refine dk_can h _ hw.burn fun w4 h4 => ?_
    unfold cut at hR
    by_cases hc : (can s (cutE s n k)).2 = 0
    · simp only [hc, if_true] at hR
      rw [hc]
      have hcz := can_zero hc
      obtain ⟨f, hfd⟩ : ∃ f, findD s.now n = some f := by
        unfold cutE Dk.find at hcz
        cases hq : findD s.now n with
        | some f => exact ⟨f, rfl⟩
        | none => rw [hq] at hcz; simp at hcz
      have hk : 0 ≤ k ∧ k ≤ ((fileAt s f).b.length : Int) := by
        unfold cutE Dk.find at hcz
        rw [hfd] at hcz
        simp only at hcz
        split at hcz
        · simp at hcz
        · omega
      rw [(isSome_find hfd).2] at hR
      (repeat refine gg ?_)
      refine join_w (fun w' => At w0 F0 (diskHP d (setF (can s (cutE s n k)).1 f ⟨(fileAt s f).b.take k.toNat, min (fileAt s f).sure k.toNat⟩)) w') (fun K hK => ?_) (fun w' hw' => hR w' hw')
      obtain ⟨k1, k2, k3⟩ := can_keep s (cutE s n k)
      (repeat refine gg ?_)
      refine dk_now h4 (by rw [k2]; exact hw.ne) (by rw [k2]; exact hn) fun sv ms fb m es ck L hs hm hf hmm b1 b2 b3 => ?_
      rw [can_now] at b3
      have lk1 := dk_lookup b1 b2 b3 hr n
      rw [hfd] at lk1
      have hx : (can s (cutE s n k)).1.files[f]? = some (fileAt s f) := by rw [k1]; exact wf_pick hw hfd
      have hi : f < fb.length := by rw [hf]; exact (List.getElem?_eq_some_iff.1 hx).1
      have hb := List.getElem?_eq_getElem hi
      have hgd : fb.getD f 0 = fb[f] := by rw [List.getD_eq_getElem?_getD, hb]; rfl
      simp only [hgd] at lk1
      generalize fb[f] = b at hb lk1
      simp only [ptrTo] at lk1
      obtain ⟨A, bv, ha, back⟩ := dk_fupd (hs.fr0 (Fr.drew [] _)) hb hx
      obtain ⟨T, c⟩ := ha.cell (i := 0) rfl
      obtain ⟨Fs, ss, upd⟩ := ha.upd 1 rfl
      obtain ⟨kn, rfl⟩ : ∃ kn : Nat, k = (kn : Int) := ⟨k.toNat, by omega⟩
      obtain ⟨bv', e1, s1⟩ := Slc.take0 ss (n := kn) (by omega) .i64
      have ha2 := upd _ Fs (slc encB 1 bv' ((fileAt s f).b.take kn)) s1 (Fr.refl _ _) (fun c hc => .inl hc)
      have em : min2v (.int .i64 ((fileAt s f).sure : Int)) (.int .i64 (kn : Int)) = some (.int .i64 ((min (fileAt s f).sure kn : Nat) : Int)) := by
        show some (Value.int .i64 (if (kn : Int) < ((fileAt s f).sure : Int) then (kn : Int) else ((fileAt s f).sure : Int))) = _
        congr 2
        split <;> omega
      (repeat refine gg ?_)
      refine ha2.store (i := 0) rfl s1.one (by simp) fun w7 h7 f7 => ?_
      (repeat refine gg ?_)
      refine h7.store (i := 0) rfl ⟨rfl, rfl⟩ (by simp) fun w8 h8 f8 => hK _ ?_
      exact dk_shut (back w8 bv' ⟨(fileAt s f).b.take kn, min (fileAt s f).sure kn⟩ h8)
    · simp only [hc, if_false] at hR
      (repeat refine gg ?_)
      refine join_w (fun w' => At w0 F0 (diskHP d (can s (cutE s n k)).1) w') (fun K hK => ?_) (fun w' hw' => hR w' hw')
      (repeat refine gg ?_)
      exact hK w4 h4
  cases hfd : findD s.now n with
  | none =>
    have e1 : there s n = 5 := by unfold there Dk.find; rw [hfd]; rfl
    have e : cutE s n k = 5 := by unfold cutE Dk.find; rw [hfd]
    rw [e1]
    (repeat refine gg ?_)
    refine join_v (fun e w' => e = .int .i64 (cutE s n k) ∧ w' = w) (fun K hK => ?_) ?_
    · (repeat refine gg ?_)
      exact hK _ _ ⟨by rw [e], rfl⟩
    · rintro _ _ ⟨rfl, rfl⟩
      exact rest _ rfl
  | some f =>
    have e1 : there s n = 0 := by unfold there Dk.find; rw [hfd]; rfl
    have e : cutE s n k = if k < 0 ∨ ((fileAt s f).b.length : Int) < k then 1 else 0 := by unfold cutE Dk.find; rw [hfd]
    rw [e1]
    by_cases hk0 : k < 0
    · (repeat refine gg ?_)
      refine join_v (fun e w' => e = .int .i64 (cutE s n k) ∧ w' = w) (fun K hK => ?_) ?_
      · (repeat refine gg ?_)
        exact hK _ _ ⟨by rw [e, if_pos (.inl hk0)], rfl⟩
      · rintro _ _ ⟨rfl, rfl⟩
        exact rest _ rfl
    · (repeat refine gg ?_)
      refine dk_now h hw.ne hn fun sv ms fb m es ck L hs hm hf hmm b1 b2 b3 => ?_
      have lk1 := dk_lookup b1 b2 b3 hr n
      rw [hfd] at lk1
      have hx := wf_pick hw hfd
      have hi : f < fb.length := by rw [hf]; exact (List.getElem?_eq_some_iff.1 hx).1
      have hb := List.getElem?_eq_getElem hi
      have hgd : fb.getD f 0 = fb[f] := by rw [List.getD_eq_getElem?_getD, hb]; rfl
      simp only [hgd] at lk1
      generalize fb[f] = b at hb lk1
      simp only [ptrTo] at lk1
      obtain ⟨bv, T, G, c2, ss⟩ := dk_file hs hb hx
      (repeat (first | refine BND_step ss.len ?_ | refine gg ?_))
      by_cases hk1 : ((fileAt s f).b.length : Int) < k
      · (repeat refine gg ?_)
        refine join_v (fun e w' => e = .int .i64 (cutE s n k) ∧ w' = w) (fun K hK => ?_) ?_
        · (repeat refine gg ?_)
          exact hK _ _ ⟨by rw [e, if_pos (.inr hk1)], rfl⟩
        · rintro _ _ ⟨rfl, rfl⟩
          exact rest _ rfl
      · (repeat refine gg ?_)
        refine join_v (fun e w' => e = .int .i64 (cutE s n k) ∧ w' = w) (fun K hK => ?_) ?_
        · (repeat refine gg ?_)
          exact hK _ _ ⟨by rw [e, if_neg (by omega)], rfl⟩
        · rintro _ _ ⟨rfl, rfl⟩
          exact rest _ rfl
end
end Go.Proofs.YtofllgbdphakiaaDoor
end

section
set_option linter.unusedSimpArgs false
set_option linter.unusedVariables false
namespace Go.Proofs.YtofllgbdphakiaaDoor
open Go.Den
def itHP (r m ck : Nat) (sn : Array Nat) : HP where
  p w F := blk w r = some (.mapIter (some m) ck sn ck) ∧ F = [r]
  lt := by rintro w F ⟨h, rfl⟩ c hc; simp at hc; subst hc; exact blk_lt h
  st := by rintro w w' F ⟨h, rfl⟩ hk; exact ⟨by rw [hk r (by simp), h], rfl⟩
/-- what was seen, what was not. -/
structure ItAt (es : Array MapEntry) (sn : Array Nat) (A B : List MapEntry) : Prop where
  all : (A ++ B).Perm es.toList
  seen : sn.toList = A.map (·.born)
theorem ItAt.start (es : Array MapEntry) : ItAt es #[] [] es.toList := ⟨by simp, by simp⟩
theorem find_born : ∀ {l : List MapEntry} {e : MapEntry}, (l.map (·.born)).Nodup → e ∈ l → l.find? (fun x => x.born == e.born) = some e
  | [], e, _, h => by simp at h
  | x :: l, e, hn, h => by
    simp only [List.map_cons, List.nodup_cons] at hn
    rcases List.mem_cons.1 h with rfl | h
    · simp
    · have hne : x.born ≠ e.born := fun he => hn.1 (by rw [he]; exact List.mem_map.2 ⟨e, h, rfl⟩)
      rw [List.find?_cons_of_neg (by simpa using hne)]
      exact find_born hn.2 h
section
variable {es : Array MapEntry} {sn : Array Nat} {A B : List MapEntry} {w : World} {r m ck : Nat}
theorem ItAt.nd (h : ItAt es sn A B) (hn : (es.toList.map (·.born)).Nodup) : ((A ++ B).map (·.born)).Nodup := (h.all.map _).nodup_iff.2 hn
theorem RANGEM_step {k : Value → World → Prop} (b1 : blk w m = some (.map es ck)) (h : ∀ w', blk w' (hsz w) = some (.mapIter (some m) ck #[] ck) → Fr [] w w' → hsz w' = hsz w + 1 → k (.pointer (some ⟨hsz w, 0, none⟩)) w') :
    BND (rangemv w (.map (some m))) fun p => NEW p k := by
  have b1' : w.heap[m]? = some (.map es ck) := b1
  refine BND_step (v := (.pointer (some ⟨w.heap.size, 0, none⟩), w.alloc (.mapIter (some m) ck #[] ck))) (by simp [rangemv, b1']) <| (NEW_pair _ _ _).2 ?_
  exact h _ (blk_alloc_new _ _) (Fr.alloc _ _ _) (by simp)
theorem NEXTM_step {k : Value → World → Prop} (b1 : blk w m = some (.map es ck)) (hlt : ∀ x ∈ es.toList, x.born < ck) (hnd : (es.toList.map (·.born)).Nodup) (b2 : blk w r = some (.mapIter (some m) ck sn ck)) (hi : ItAt es sn A B)
    (h0 : B = [] → k (.tuple #[.bool false]) w)
    (h1 : ∀ e B1 B2 w', B = B1 ++ e :: B2 → Fr [r] w w' → (itHP r m ck (sn.push e.born)).p w' [r] → ItAt es (sn.push e.born) (A ++ [e]) (B1 ++ B2) → entryv w' (.pointer (some ⟨r, 0, none⟩)) = some (.tuple #[e.key, e.val]) → k (.tuple #[.bool true, e.key, e.val]) w') :
    NEXTM (.pointer (some ⟨r, 0, none⟩)) w k := by
  refine ⟨?_⟩
  have b1' : w.heap[m]? = some (.map es ck) := b1
  have b2' : w.heap[r]? = some (.mapIter (some m) ck sn ck) := b2
  have hn := hi.nd hnd
  unfold NEXTMS
  simp only [b2', b1']
  refine ⟨hlt, Nat.le_refl _, fun hall => h0 ?_, fun e he hse w1 hh ho => ?_⟩
  · cases hB : B with
    | nil => rfl
    | cons x B' =>
      exfalso
      have hx : x ∈ es.toList := hi.all.mem_iff.1 (by rw [hB]; simp)
      have := hall x hx
      have hc : x.born ∈ A.map (·.born) := by
        rw [← hi.seen]
        simpa using this
      rw [List.map_append, List.nodup_append] at hn
      exact hn.2.2 _ hc _ (List.mem_map.2 ⟨x, by rw [hB]; simp, rfl⟩) rfl
  · have heA : e ∉ A := fun hA => by
      have hc : e.born ∈ sn.toList := by rw [hi.seen]; exact List.mem_map.2 ⟨e, hA, rfl⟩
      have : sn.contains e.born = true := by simpa using hc
      rw [this] at hse; cases hse
    have heB : e ∈ B := by
      rcases List.mem_append.1 (hi.all.mem_iff.2 he) with h | h
      · exact absurd h heA
      · exact h
    obtain ⟨B1, B2, hB⟩ := List.append_of_mem heB
    have hrm : r ≠ m := fun e => by subst e; rw [b1'] at b2'; cases b2'
    have hrlt : r < w.heap.size := blk_lt b2
    have k1 : blk ({ w1 with heap := w1.heap.setIfInBounds r (.mapIter (some m) ck (sn.push e.born) ck) } : World) r = some (.mapIter (some m) ck (sn.push e.born) ck) := by
      show (w1.heap.setIfInBounds r _)[r]? = _
      rw [hh, Array.getElem?_setIfInBounds_self, if_pos hrlt]
    have k2 : blk ({ w1 with heap := w1.heap.setIfInBounds r (.mapIter (some m) ck (sn.push e.born) ck) } : World) m = some (.map es ck) := by
      show (w1.heap.setIfInBounds r _)[m]? = _
      rw [hh, Array.getElem?_setIfInBounds_ne hrm]; exact b1'
    refine h1 e B1 B2 _ hB ⟨?_, fun b hb hb' => ?_, ho.1, ho.2.1, ho.2.2⟩ ⟨k1, rfl⟩ ⟨?_, ?_⟩ ?_
    · show w.heap.size ≤ (w1.heap.setIfInBounds r _).size
      rw [Array.size_setIfInBounds, hh]; exact Nat.le_refl _
    · show (w1.heap.setIfInBounds r _)[b]? = w.heap[b]?
      rw [hh, Array.getElem?_setIfInBounds_ne (fun e => hb' (by simp [e]))]
    · refine List.Perm.trans ?_ hi.all
      rw [hB, List.append_assoc]
      refine List.Perm.append_left A ?_
      rw [List.singleton_append]
      exact List.perm_middle.symm
    · simp [hi.seen]
    · have k1' : ({ w1 with heap := w1.heap.setIfInBounds r (.mapIter (some m) ck (sn.push e.born) ck) } : World).heap[r]? = _ := k1
      have k2' : ({ w1 with heap := w1.heap.setIfInBounds r (.mapIter (some m) ck (sn.push e.born) ck) } : World).heap[m]? = _ := k2
      have hf : es.find? (fun x => x.born == e.born) = some e := by rw [← Array.find?_toList]; exact find_born hnd he
      unfold entryv
      simp only [k1', k2', Array.back?_push, hf, if_true, Option.map_some]
end
/-- pointers of blocks of cells, compared. -/
def ptrB (b : Nat) : Value := .pointer (some ⟨b, 0, none⟩)
theorem ptrv_blk {w : World} {a b : Nat} {c c' : Array Value} {T T' : Nat} (ha : blk w a = some (.cells c T (0, 0))) (hb : blk w b = some (.cells c' T' (0, 0))) :
    ptrv w .eql (.pointer (some ⟨a, 0, none⟩)) (.pointer (some ⟨b, 0, none⟩)) = some (.bool (decide (a = b))) := by
  have ha' : w.heap[a]? = some (.cells c T (0, 0)) := ha
  have hb' : w.heap[b]? = some (.cells c' T' (0, 0)) := hb
  by_cases h : a = b
  · subst h; simp [ptrv, binn]
  · simp [ptrv, binn, cellsAt, ha', hb', h]
instance {x : Value} : Ev (extractv (.tuple #[x]) 0) x := ⟨rfl⟩
theorem loop_up3 {B : (Value → Value → Value → World → Prop) → (Value → Value → Value → World → Nat) → Value → Value → Value → World → Prop} {w : World} {o p : Value} (s n : Nat) (I : Value → Value → Nat → World → Prop) (h0 : I o p s w) (hs : s ≤ n)
    (h : ∀ o p i w1, s ≤ i → i ≤ n → I o p i w1 → ∀ J m, (∀ o' p' w', i < n → I o' p' (i + 1) w' → J o' p' (.int .i64 ((i + 1 : Nat) : Int)) w' ∧ m o' p' (.int .i64 ((i + 1 : Nat) : Int)) w' < m o p (.int .i64 (i : Int)) w1) → B J m o p (.int .i64 (i : Int)) w1) :
    ∃ (J : Value → Value → Value → World → Prop) (m : Value → Value → Value → World → Nat), J o p (.int .i64 (s : Int)) w ∧ ∀ (_d : Env) (o p t : Value) (w1 : World), J o p t w1 → B J m o p t w1 := by
  refine ⟨fun o p t w' => ∃ i : Nat, t = .int .i64 i ∧ s ≤ i ∧ i ≤ n ∧ I o p i w', fun _ _ t _ => match t with | .int _ k => n - k.toNat | _ => 0, ⟨s, rfl, Nat.le_refl _, hs, h0⟩, ?_⟩
  rintro _ o p _ w1 ⟨i, rfl, h1, h2, h3⟩
  exact h o p i w1 h1 h2 h3 _ _ fun o' p' w' h4 h5 => ⟨⟨i + 1, rfl, by omega, by omega, h5⟩, by simp; omega⟩
def seenN (r : Nat) (w : World) : Nat := match blk w r with
  | some (.mapIter _ _ sn _) => sn.size
  | _ => 0
theorem seenN_it {r m ck : Nat} {sn : Array Nat} {w : World} (h : blk w r = some (.mapIter (some m) ck sn ck)) : seenN r w = sn.size := by unfold seenN; rw [h]
/-- a loop over a map, of two variables. -/
theorem loop_it2 {B : (Value → Value → World → Prop) → (Value → Value → World → Nat) → Value → Value → World → Prop} {w : World} {o p : Value} (r n : Nat) (I : Value → Value → World → Prop) (h0 : I o p w)
    (h : ∀ o p w1, I o p w1 → ∀ J m, (∀ o' p' w', seenN r w1 < n → seenN r w' = seenN r w1 + 1 → I o' p' w' → J o' p' w' ∧ m o' p' w' < m o p w1) → B J m o p w1) :
    ∃ (J : Value → Value → World → Prop) (m : Value → Value → World → Nat), J o p w ∧ ∀ (_d : Env) (o p : Value) (w1 : World), J o p w1 → B J m o p w1 := by
  refine ⟨I, fun _ _ w' => n - seenN r w', h0, ?_⟩
  intro _ o p w1 h3
  exact h o p w1 h3 _ _ fun o' p' w' h4 h5 h6 => ⟨h6, by show n - seenN r w' < n - seenN r w1; omega⟩
end Go.Proofs.YtofllgbdphakiaaDoor
end

section
namespace Go.Proofs.YtofllgbdphakiaaDoor
open Go.Den Go.Disk
def encF (fb : List Nat) (f : Nat) : List Value := [ptrTo (fb.getD f 0)]
theorem encF_len (fb : List Nat) (x : Nat) : (encF fb x).length = 1 := rfl
theorem encF_one (fb : List Nat) (x : Nat) : ∀ u ∈ encF fb x, u.oneCell' = true := by intro u hu; simp [encF, ptrTo] at hu; subst hu; rfl
/-- files lie apart. -/
theorem files_apart : ∀ (fb : List Nat) (fs : List Fl) {w : World} {F : List Nat}, fb.length = fs.length → (stars (fileHPs fb fs)).p w F → fb.Nodup ∧ ∀ b ∈ fb, b ∈ F
  | [], _, w, F, _, _ => by simp
  | b :: fb, [], w, F, h, _ => by simp at h
  | b :: fb, x :: fs, w, F, hl, h => by
    obtain ⟨A, B, ⟨bv, A1, B1, ⟨_, rfl⟩, _, rfl, _⟩, h2, rfl, h3⟩ := h
    obtain ⟨n1, n2⟩ := files_apart fb fs (by simpa using hl) h2
    refine ⟨List.nodup_cons.2 ⟨fun hb => h3 b (by simp) (n2 b hb), n1⟩, fun c hc => ?_⟩
    rcases List.mem_cons.1 hc with rfl | hc
    · simp
    · exact List.mem_append.2 (.inr (n2 c hc))
theorem getD_inj {fb : List Nat} (hn : fb.Nodup) {f g : Nat} (hf : f < fb.length) (hg : g < fb.length) (h : fb.getD f 0 = fb.getD g 0) : f = g := by
  rw [List.getD_eq_getElem?_getD, List.getD_eq_getElem?_getD, List.getElem?_eq_getElem hf, List.getElem?_eq_getElem hg] at h
  exact (List.getElem_inj hn).1 h
/-- the sum over files, each once. -/
theorem sum_held {s : Dk} {fs : List Nat} (hn : fs.Nodup) (h : ∀ f, f ∈ fs ↔ isHeld s f = true) (hlt : ∀ f ∈ fs, f < s.files.length) : (fs.map fun f => (fileAt s f).b.length).sum = held s := by
  have hp : fs.Perm ((List.range s.files.length).filter fun f => isHeld s f) := by
    refine (List.perm_ext_iff_of_nodup hn ((List.nodup_range).filter _)).2 fun f => ?_
    rw [List.mem_filter, List.mem_range, h]
    exact ⟨fun hh => ⟨hlt f ((h f).2 hh), hh⟩, fun hh => hh.2⟩
  rw [(hp.map _).sum_nat]
  unfold held
  generalize List.range s.files.length = l
  induction l with
  | nil => rfl
  | cons a l ih =>
    by_cases ha : isHeld s a = true
    · rw [List.filter_cons_of_pos ha]; simp [ha, ih]
    · rw [List.filter_cons_of_neg ha]; simp [ha, ih]
theorem sum_small {fs : List Nat} {g : Nat → Nat} {b : Nat} (h : ∀ f ∈ fs, g f ≤ b) : (fs.map g).sum ≤ fs.length * b := by
  induction fs with
  | nil => simp
  | cons a l ih =>
    have h1 := h a (by simp)
    have h2 := ih fun f hf => h f (by simp [hf])
    simp only [List.map_cons, List.sum_cons, List.length_cons, Nat.add_mul]
    omega
theorem nodup_len {fs : List Nat} {n : Nat} (hn : fs.Nodup) (h : ∀ f ∈ fs, f < n) : fs.length ≤ n := by
  have hp : fs.Perm ((List.range n).filter fun f => decide (f ∈ fs)) := by
    refine (List.perm_ext_iff_of_nodup hn ((List.nodup_range).filter _)).2 fun f => ?_
    rw [List.mem_filter, List.mem_range]
    simp only [decide_eq_true_eq]
    exact ⟨fun hh => ⟨h f hh, hh⟩, fun hh => hh.2⟩
  rw [hp.length_eq]
  exact Nat.le_trans (List.length_filter_le _ _) (by simp)
theorem join_go {α : Type} {f : α → Prop} {k : α} (h : f k) : JOIN f k := h
theorem ents_mem {es : Array MapEntry} {L : List (ByteArray × Value)} (h : MapL (fun s : ByteArray => Value.string s) es L) {e : MapEntry} (he : e ∈ es.toList) : ∃ p ∈ L, e.key = .string p.1 ∧ e.val = p.2 := by
  have : (e.key, e.val) ∈ es.toList.map (fun e => (e.key, e.val)) := List.mem_map.2 ⟨e, he, rfl⟩
  rw [h.ents] at this
  obtain ⟨p, hp, e2⟩ := List.mem_map.1 this
  simp only [Prod.mk.injEq] at e2
  exact ⟨p, hp, e2.1.symm, e2.2.symm⟩
theorem mem_ents {es : Array MapEntry} {L : List (ByteArray × Value)} (h : MapL (fun s : ByteArray => Value.string s) es L) {p : ByteArray × Value} (hp : p ∈ L) : ∃ e ∈ es.toList, e.key = .string p.1 ∧ e.val = p.2 := by
  have : (Value.string p.1, p.2) ∈ L.map (fun p => (Value.string p.1, p.2)) := List.mem_map.2 ⟨p, hp, rfl⟩
  rw [← h.ents] at this
  obtain ⟨e, he, e2⟩ := List.mem_map.1 this
  simp only [Prod.mk.injEq] at e2
  exact ⟨e, he, e2.1, e2.2⟩
theorem ents_len {es : Array MapEntry} {L : List (ByteArray × Value)} (h : MapL (fun s : ByteArray => Value.string s) es L) : es.toList.length = L.length := by
  have := congrArg List.length h.ents
  simpa using this
set_option linter.unusedSimpArgs false
set_option linter.unusedVariables false
set_option maxRecDepth 20000
set_option maxHeartbeats 4000000
attribute [local congr] BND_cg COND_cg GEF_cg
attribute [local irreducible] capl slicea load1 loadn iaddr iaddra faddr storev newslice binv lookv mupd mdel mlenv mentry mestore slicev slicev3 slices indexs indexav textv rangev nexts clearv shiftv eqaggv convi buildv pickv lens lenl unv nilchk extractv partn JOIN
section
variable {w0 w : World} {F0 : List Nat} {d : Nat} {s : Dk} {R : Value → World → Prop}
theorem dk_Index {fb fs : List Nat} {v : Value} {f : Nat} (hn : fb.Nodup) (ha : Arr (encF fb) 1 w v fs) (hf : f < fb.length) (hfs : ∀ g ∈ fs, g < fb.length) (hl : fs.length < 1000000000000) (hc : ∀ b ∈ fb, ∃ c T, blk w b = some (.cells c T (0, 0)))
    (hR : ∀ k : Int, (0 ≤ k ↔ f ∈ fs) → R (.int .i64 k) w) : CALL PR F_slices_Index_disk_file_disk_file [v, ptrTo (fb.getD f 0)] w R := by
  refine C_slices_Index_disk_file_disk_file ?_
  unfold M_slices_Index_disk_file_disk_file
  have hcell : ∀ g, g < fb.length → ∃ c T, blk w (fb.getD g 0) = some (.cells c T (0, 0)) := fun g hg => hc _ (by rw [List.getD_eq_getElem?_getD, List.getElem?_eq_getElem hg]; exact List.getElem_mem hg)
  (repeat (first | refine BND_step ha.len ?_ | refine gg ?_))
  refine loop_up 0 fs.length (fun i w' => w' = w ∧ ∀ g ∈ fs.take i, g ≠ f) ⟨rfl, by simp⟩ (by omega) ?_
  rintro i w1 - hi ⟨rfl, e⟩ J m hJ
  by_cases hlt : i < fs.length
  · have hx := List.getElem?_eq_getElem hlt
    have hmem := List.getElem_mem hlt
    generalize fs[i] = g at hx hmem
    obtain ⟨b, o, ia, _, _, l1⟩ := ha.spot hx rfl .i64
    have l1' := l1 (w' := w1) rfl (j := 0) rfl
    obtain ⟨c1, T1, k1⟩ := hcell f hf
    obtain ⟨c2, T2, k2⟩ := hcell g (hfs g hmem)
    have pv := ptrv_blk k1 k2
    unfold ptrTo at l1' ⊢
    by_cases heq : fb.getD f 0 = fb.getD g 0
    · have hfg := getD_inj hn hf (hfs g hmem) heq
      rw [decide_eq_true heq] at pv
      (repeat refine gg ?_)
      exact hR _ (by subst hfg; simp [hmem])
    · rw [decide_eq_false heq] at pv
      (repeat refine gg ?_)
      refine hJ w1 hlt ⟨rfl, fun g' hg' => ?_⟩
      rw [List.take_add_one, hx] at hg'
      rcases List.mem_append.1 hg' with hg' | hg'
      · exact e g' hg'
      · simp at hg'; subst hg'; exact fun h => heq (by rw [h])
  · (repeat refine gg ?_)
    rw [List.take_of_length_le (by omega)] at e
    exact hR (-1) (by simp; exact fun h => e f h rfl)
theorem dk_Contains {fb fs : List Nat} {v : Value} {f : Nat} (hn : fb.Nodup) (ha : Arr (encF fb) 1 w v fs) (hf : f < fb.length) (hfs : ∀ g ∈ fs, g < fb.length) (hl : fs.length < 1000000000000) (hc : ∀ b ∈ fb, ∃ c T, blk w b = some (.cells c T (0, 0)))
    (hR : R (.bool (decide (f ∈ fs))) w) : CALL PR F_slices_Contains_disk_file_disk_file [v, ptrTo (fb.getD f 0)] w R := by
  refine C_slices_Contains_disk_file_disk_file ?_
  unfold M_slices_Contains_disk_file_disk_file
  refine dk_Index hn ha hf hfs hl hc fun k hk => ?_
  (repeat refine gg ?_)
  have : decide (0 ≤ k) = decide (f ∈ fs) := decide_eq_decide.2 hk
  rw [this]; exact hR
theorem isHeld_iff (s : Dk) (f : Nat) : isHeld s f = true ↔ ∃ l ∈ s.dirs, ∃ x ∈ l, x.2 = f := by unfold isHeld; simp [List.any_eq_true]
theorem dk_Held (h : At w0 F0 (diskHP d s) w) (hw : s.Wf) (hn : s.dirs.length < 1000000000) (hn2 : s.files.length < 1000000000) (hR : ∀ w', Fr [] w w' → R (.int .i64 (held s : Nat)) w') :
    CALL PR F_disk_Disk_Held [ptrTo d] w R := by
  obtain ⟨sv, ms, fb, hs, hm, hf⟩ := dk_open h
  obtain ⟨T, c⟩ := hs.cell (i := 1) rfl
  obtain ⟨Fs, ss, _⟩ := hs.slc1 (i := 2) rfl
  refine C_disk_Disk_Held ?_
  unfold M_disk_Disk_Held
  refine ⟨fun _ w' => blk w' d = some (.cells (dkC s (ms.headD 0) sv).toArray T (0, 0)), c, ?_⟩
  have htl : ms.tail.length = ms.length - 1 := by simp
  unfold ptrTo
  have c0 : blk w.drew d = some (.cells (dkC s (ms.headD 0) sv).toArray T (0, 0)) := c
  (repeat refine gg ?_)
  refine newone_step (enc := encM) (x := ms.headD 0) encM_len rfl fun t13 w1 s3 f3 z3 => ?_
  have f3' : Fr [] w w1 := (Fr.drew [] w).trans' f3
  refine ⟨f3'.some (by simp) c, ?_⟩
  refine APPEND_slc s3 (ys := ms.tail) ((ss.fr f3' (by simp)).loads encM_len) encM_len encM_one rfl (by rw [htl]; simp; omega) (by rw [htl]; simp; omega) fun t18 w2 FT s5 f4 sub => ?_
  have f2 : Fr [] w w2 := f3'.trans f4 (by simp)
  have hne : ms ≠ [] := by
    intro e; subst e
    have := List.length_pos_iff.2 hw.ne
    simp at hm; omega
  have ems : [ms.headD 0] ++ ms.tail = ms := by cases ms with
    | nil => exact absurd rfl hne
    | cons a r => rfl
  rw [ems] at s5
  have hs2 := hs.fr0 f2
  obtain ⟨_, hfl, _⟩ := hs2.get 4 rfl
  obtain ⟨fbn, _⟩ := files_apart fb s.files hf hfl
  have hcells : ∀ w', Fr [] w2 w' → ∀ b ∈ fb, ∃ c T, blk w' b = some (.cells c T (0, 0)) := fun w' f b hb => by
    obtain ⟨i, hi, e⟩ := List.mem_iff_getElem.1 hb
    have hi2 : i < s.files.length := by omega
    obtain ⟨bv, T, G, c2, _⟩ := dk_file (hs2.fr0 f) (List.getElem?_eq_getElem hi) (List.getElem?_eq_getElem hi2)
    rw [e] at c2
    exact ⟨_, _, c2⟩
  have hlen : ∀ f, f < s.files.length → (fileAt s f).b.length ≤ 1048576 := fun f hf => by
    have hx : fileAt s f ∈ s.files := by
      unfold fileAt; rw [List.getD_eq_getElem?_getD, List.getElem?_eq_getElem hf]; exact List.getElem_mem hf
    have := hw.small _ hx
    have := hw.room
    omega
  (repeat (first | refine BND_step s5.len ?_ | refine gg ?_))
  refine loop_up3 0 ms.length (fun seen n i w' => ∃ fs : List Nat, At w2 [] (stars [slc (encF fb) 1 seen fs]) w' ∧ fs.Nodup ∧ (∀ f, f ∈ fs ↔ ∃ l ∈ s.dirs.take i, ∃ x ∈ l, x.2 = f) ∧ n = .int .i64 (((fs.map fun f => (fileAt s f).b.length).sum : Nat) : Int))
    ⟨[], (At.nothing w2).add0 (P := slc (encF fb) 1 (.slice none 0 0) []) (Slc.nil _ _ _), List.nodup_nil, by simp, rfl⟩ (by omega) ?_
  rintro seen n i w3 - hi ⟨fs, ha, nd, hfs, rfl⟩ J m hJ
  have f23 : Fr [] w2 w3 := ha.frame
  have hltd : ∀ f, (∃ l ∈ s.dirs, ∃ x ∈ l, x.2 = f) → f < s.files.length := by
    rintro f ⟨l, hl, x, hx, rfl⟩
    exact hw.idx l hl x hx
  by_cases hlt : i < ms.length
  · have hx := List.getElem?_eq_getElem hlt
    have hl := List.getElem?_eq_getElem (show i < s.dirs.length by omega)
    generalize ms[i] = mm at hx
    generalize s.dirs[i]'(by omega) = l at hl
    have hlm : l ∈ s.dirs := List.mem_of_getElem? hl
    have htk : s.dirs.take (i + 1) = s.dirs.take i ++ [l] := by rw [List.take_add_one, hl]; rfl
    obtain ⟨b, o, ia, _, _, l1⟩ := (s5.fr f23 (by simp)).arr.spot hx rfl .i64
    obtain ⟨es, ck, L, b1, b2, b3⟩ := dk_dir hs2 hx hl
    have hLs := ents_len b2.l
    (repeat (first | (apply BND_step; exact (l1 (w' := w3) rfl (j := 0) rfl)) | refine gg ?_))
    refine RANGEM_step (f23.some (by simp) b1) fun w4 it4 f4 z4 => ?_
    have ha4 := ha.add f4 (P := itHP (hsz w3) mm ck #[]) (A := [hsz w3]) ⟨it4, rfl⟩ (by simp)
    refine loop_it2 (hsz w3) L.length (fun seen n w' => ∃ fs A B sn, At w2 [] (stars [itHP (hsz w3) mm ck sn, slc (encF fb) 1 seen fs]) w' ∧ ItAt es sn A B ∧ fs.Nodup ∧ (∀ f ∈ fs, ∃ l ∈ s.dirs.take (i + 1), ∃ x ∈ l, x.2 = f) ∧
      (∀ l' ∈ s.dirs.take i, ∀ x ∈ l', x.2 ∈ fs) ∧ (∀ e ∈ A, ∃ f ∈ fs, e.val = ptrTo (fb.getD f 0)) ∧ n = .int .i64 (((fs.map fun f => (fileAt s f).b.length).sum : Nat) : Int))
      ⟨fs, [], es.toList, #[], ha4, ItAt.start es, nd, fun f hf => by
        obtain ⟨l', hl', r⟩ := (hfs f).1 hf
        exact ⟨l', by rw [htk]; simp [hl'], r⟩, fun l' hl' x hx => (hfs _).2 ⟨l', hl', x, hx, rfl⟩, by simp, rfl⟩ ?_
    rintro seen2 n2 w5 ⟨fs2, A, B, sn, ha5, hit, nd2, q1, q2, q3, rfl⟩ J2 m2 hJ2
    have f25 : Fr [] w2 w5 := ha5.frame
    have hlt2 : ∀ f ∈ fs2, f < s.files.length := fun f hf => hltd f (by
      obtain ⟨l', hl', r⟩ := q1 f hf
      exact ⟨l', List.mem_of_mem_take hl', r⟩)
    have hlt2' : ∀ f ∈ fs2, f < fb.length := fun f hff => by rw [hf]; exact hlt2 f hff
    have hfl2 := nodup_len nd2 hlt2
    have hsum := sum_small (g := fun f => (fileAt s f).b.length) fun f hf => hlen f (hlt2 f hf)
    have hsum2 : (fs2.map fun f => (fileAt s f).b.length).sum ≤ 1000000000 * 1048576 := Nat.le_trans hsum (Nat.mul_le_mul_right _ (by omega))
    obtain ⟨_, ⟨it5, _⟩, _⟩ := ha5.get 0 rfl
    refine NEXTM_step (f25.some (by simp) b1) b2.lt b2.nd it5 hit (fun hB => ?_) (fun e B1 B2 w6 hB f6 it6 hit6 en => ?_)
    · (repeat refine gg ?_)
      refine hJ seen2 _ w5 hlt ⟨fs2, ha5.tail, nd2, fun f => ⟨q1 f, ?_⟩, rfl⟩
      rintro ⟨l', hl', x, hx, rfl⟩
      rw [htk] at hl'
      rcases List.mem_append.1 hl' with hl' | hl'
      · exact q2 l' hl' x hx
      · simp at hl'; subst hl'
        have hp : (x.1, ptrTo (fb.getD x.2 0)) ∈ L := b3.mem_iff.2 (List.mem_map.2 ⟨x, hx, rfl⟩)
        obtain ⟨e, he, _, ev⟩ := mem_ents b2.l hp
        have heA : e ∈ A := by
          have := hit.all.mem_iff.2 he
          rw [hB] at this; simpa using this
        obtain ⟨g, hg, ev2⟩ := q3 e heA
        rw [ev] at ev2
        have e3 : fb.getD x.2 0 = fb.getD g 0 := by unfold ptrTo at ev2; injection ev2 with e4; injection e4 with e5; injection e5
        have := getD_inj fbn (by rw [hf]; exact hw.idx _ hlm x hx) (hlt2' g hg) e3
        rw [this]; exact hg
    · have he : e ∈ es.toList := hit.all.mem_iff.1 (by rw [hB]; simp)
      obtain ⟨p, hp, _, ev⟩ := ents_mem b2.l he
      obtain ⟨x, hx, rfl⟩ := List.mem_map.1 (b3.mem_iff.1 hp)
      simp only at ev
      have hxf : x.2 < s.files.length := hw.idx _ hlm x hx
      have hxb : x.2 < fb.length := by rw [hf]; exact hxf
      obtain ⟨_, _, upd⟩ := ha5.upd 0 rfl
      have ha6 : At w2 [] (stars [itHP (hsz w3) mm ck (sn.push e.born), slc (encF fb) 1 seen2 fs2]) w6 := by
        obtain ⟨A5, ⟨_, hA5⟩, upd⟩ := ha5.upd 0 rfl
        subst hA5
        exact upd w6 [hsz w3] (itHP (hsz w3) mm ck (sn.push e.born)) it6 f6 (fun b hb => .inl hb)
      have f26 : Fr [] w2 w6 := ha6.frame
      have hcnt : seenN (hsz w3) w5 = sn.size := seenN_it it5
      have hcnt6 : seenN (hsz w3) w6 = sn.size + 1 := by rw [seenN_it it6.1]; simp
      have hsz2 : sn.size = A.length := by have := congrArg List.length hit.seen; simpa using this
      have hall := hit.all.length_eq
      rw [hB] at hall
      simp only [List.length_append, List.length_cons] at hall
      rw [ev] at en ⊢
      (repeat refine gg ?_)
      refine dk_Contains fbn (ha6.arr (i := 1) rfl) hxb hlt2' (by omega) (hcells w6 f26) ?_
      by_cases hin : x.2 ∈ fs2
      · rw [decide_eq_true hin]
        (repeat refine gg ?_)
        refine join_go ?_
        (repeat refine gg ?_)
        refine hJ2 seen2 _ w6 (by omega) (by omega) ⟨fs2, A ++ [e], B1 ++ B2, sn.push e.born, ha6, hit6, nd2, q1, q2, fun e' he' => ?_, rfl⟩
        rcases List.mem_append.1 he' with he' | he'
        · exact q3 e' he'
        · simp at he'; subst he'; exact ⟨x.2, hin, ev⟩
      · rw [decide_eq_false hin]
        (repeat refine gg ?_)
        refine join_go ?_
        (repeat refine gg ?_)
        refine newone_step (enc := encF fb) (x := x.2) (encF_len fb) rfl fun t w9 s9 f9 z9 => ?_
        refine (ha6.fr0 f9).append (i := 1) rfl (s9.loads (encF_len fb)) (encF_len fb) (encF_one fb) rfl (by omega) (by simp; omega) fun v' w10 h10 one10 => ?_
        have hb := List.getElem?_eq_getElem hxb
        have hgd : fb.getD x.2 0 = fb[x.2] := by rw [List.getD_eq_getElem?_getD, hb]; rfl
        have hfx : s.files[x.2]? = some (fileAt s x.2) := by
          unfold fileAt; rw [List.getD_eq_getElem?_getD, List.getElem?_eq_getElem hxf]; rfl
        obtain ⟨bv, T2, G, c2, ss2⟩ := dk_file (hs2.fr0 h10.frame) hb hfx
        have hl2 := hlen _ hxf
        rw [← hgd] at c2
        unfold ptrTo
        (repeat (first | refine BND_step ss2.len ?_ | refine BND_step (addn_ (by omega)) ?_ | refine gg ?_))
        refine hJ2 v' _ w10 (by omega) ?_ ⟨fs2 ++ [x.2], A ++ [e], B1 ++ B2, sn.push e.born, h10, hit6, ?_, ?_, ?_, ?_, ?_⟩
        · obtain ⟨_, ⟨it10, _⟩, _⟩ := h10.get 0 rfl
          rw [seenN_it it10, hcnt]; simp
        · rw [List.nodup_append]
          exact ⟨nd2, by simp, fun a ha b hb => by simp at hb; subst hb; exact fun e => hin (e ▸ ha)⟩
        · intro f hf
          rcases List.mem_append.1 hf with hf | hf
          · exact q1 f hf
          · simp at hf; subst hf; exact ⟨l, by rw [htk]; simp, x, hx, rfl⟩
        · intro l' hl' y hy
          exact List.mem_append.2 (.inl (q2 l' hl' y hy))
        · intro e' he'
          rcases List.mem_append.1 he' with he' | he'
          · obtain ⟨g, hg, r⟩ := q3 e' he'
            exact ⟨g, List.mem_append.2 (.inl hg), r⟩
          · simp at he'; subst he'; exact ⟨x.2, by simp, ev⟩
        · simp
  · (repeat refine gg ?_)
    have hheld := sum_held nd (fun f => by rw [hfs, isHeld_iff, List.take_of_length_le (by omega)]) (fun f hf => hltd f (by
      obtain ⟨l', hl', r⟩ := (hfs f).1 hf
      exact ⟨l', List.mem_of_mem_take hl', r⟩))
    rw [hheld]
    exact hR w3 (f2.trans' f23)
end
end Go.Proofs.YtofllgbdphakiaaDoor
end

section
namespace Go.Proofs.YtofllgbdphakiaaDoor
open Go.Den Go.Disk
theorem held_small {s : Dk} (hw : s.Wf) : held s ≤ s.files.length * 1048576 := by
  unfold held
  have := sum_small (fs := List.range s.files.length) (g := fun f => if isHeld s f = true then (fileAt s f).b.length else 0) (b := 1048576) fun f hf => by
    split
    · have hf := List.mem_range.1 hf
      have hx : fileAt s f ∈ s.files := by
        unfold fileAt; rw [List.getD_eq_getElem?_getD, List.getElem?_eq_getElem hf]; exact List.getElem_mem hf
      have := hw.small _ hx
      have := hw.room
      omega
    · omega
  simpa using this
set_option linter.unusedSimpArgs false
set_option linter.unusedVariables false
set_option maxRecDepth 20000
set_option maxHeartbeats 4000000
attribute [local congr] BND_cg COND_cg GEF_cg
attribute [local irreducible] capl slicea load1 loadn iaddr iaddra faddr storev newslice binv lookv mupd mdel mlenv mentry mestore slicev slicev3 slices indexs indexav textv rangev nexts clearv shiftv eqaggv convi buildv pickv lens lenl unv nilchk extractv partn JOIN
section
variable {w0 w : World} {F0 : List Nat} {d : Nat} {s : Dk} {R : Value → World → Prop}
theorem dk_Append (h : At w0 F0 (diskHP d s) w) (hw : s.Wf) (hn : s.dirs.length < 1000000000) (hn2 : s.files.length < 1000000000) (n : ByteArray) {u : Value} {bs : List UInt8} (hbs : bs.length < 1000000000) (hul : lenl u = some (.int .i64 bs.length))
    (hu : ∀ w', Fr F0 w0 w' → cellsOfArg w' 1 u = some (flat encB bs, bs.length)) (hR : ∀ w', At w0 F0 (diskHP d (append s n bs).1) w' → R (.int .i64 (append s n bs).2) w') :
    CALL PR F_disk_Disk_Append [ptrTo d, .string n, u] w R := by
  refine C_disk_Disk_Append ?_
  unfold M_disk_Disk_Append
  refine dk_there h hw hn n ?_
  have hr : riseD s.now := hw.rise _ (List.mem_of_getElem? (dk_now_get hw.ne))
  have rest : ∀ w2, At w0 F0 (diskHP d s) w2 → ∀ e, e = appendE s n bs.length → (CALL PR F_disk_Disk_can [ptrTo d, .int .i64 e] w2 fun t28_16 w4 =>
      BND (binv .int .eql t28_16 (Value.int .i64 0)) fun t30_17 =>
      JOIN (α := World → Prop) (fun k_32 => COND t30_17
      (CALL PR F_disk_Disk_now [ptrTo d] w4 fun t32_33 w6 =>
      BND (lookv .string (Value.pointer none) false w6 t32_33 (.string n)) fun t34_34 =>
      BND (nilchk t34_34) fun t37_35 =>
      BND (faddr 0 t37_35) fun t38_36 =>
      BND (load1 w6 t38_36) fun t39_37 =>
      APPEND 5 1 1 (Value.int .u8 0) t39_37 u w6 fun t41_38 w7 =>
      BND (nilchk t34_34) fun t42_39 =>
      BND (faddr 0 t42_39) fun t43_40 =>
      BND (storev 1 w7 t43_40 t41_38) fun w8 =>
      k_32 w8)
      (k_32 w4))
      (fun w5 => R t28_16 w5)) := by
    rintro w2 h2 _ rfl
    refine dk_can h2 _ hw.burn fun w4 h4 => ?_
    unfold append at hR
    by_cases hc : (can s (appendE s n bs.length)).2 = 0
    · simp only [hc, if_true] at hR
      rw [hc]
      have hcz := can_zero hc
      obtain ⟨f, hfd⟩ : ∃ f, findD s.now n = some f := by
        unfold appendE Dk.find at hcz
        cases hq : findD s.now n with
        | some f => exact ⟨f, rfl⟩
        | none => rw [hq] at hcz; simp at hcz
      rw [(isSome_find hfd).2] at hR
      (repeat refine gg ?_)
      refine join_w (fun w' => At w0 F0 (diskHP d (setF (can s (appendE s n bs.length)).1 f { fileAt s f with b := (fileAt s f).b ++ bs })) w') (fun K hK => ?_) (fun w' hw' => hR w' hw')
      obtain ⟨k1, k2, k3⟩ := can_keep s (appendE s n bs.length)
      (repeat refine gg ?_)
      refine dk_now h4 (by rw [k2]; exact hw.ne) (by rw [k2]; exact hn) fun sv ms fb m es ck L hs hm hf hmm b1 b2 b3 => ?_
      rw [can_now] at b3
      have lk1 := dk_lookup b1 b2 b3 hr n
      rw [hfd] at lk1
      have hx0 := wf_pick hw hfd
      have hx : (can s (appendE s n bs.length)).1.files[f]? = some (fileAt s f) := by rw [k1]; exact hx0
      have hsm := hw.small _ (List.mem_of_getElem? hx0)
      have hrm := hw.room
      have hi : f < fb.length := by rw [hf]; exact (List.getElem?_eq_some_iff.1 hx).1
      have hb := List.getElem?_eq_getElem hi
      have hgd : fb.getD f 0 = fb[f] := by rw [List.getD_eq_getElem?_getD, hb]; rfl
      simp only [hgd] at lk1
      generalize fb[f] = b at hb lk1
      simp only [ptrTo] at lk1
      obtain ⟨A, bv, ha, back⟩ := dk_fupd hs hb hx
      obtain ⟨T, c⟩ := ha.cell (i := 0) rfl
      (repeat refine gg ?_)
      refine ha.append (i := 1) rfl (hu _ hs.frame) encB_len encB_one rfl (by omega) (by omega) fun v' w7 h7 one7 => ?_
      (repeat refine gg ?_)
      refine h7.store (i := 0) rfl one7 (by simp) fun w8 h8 f8 => hK _ ?_
      exact dk_shut (back w8 v' { fileAt s f with b := (fileAt s f).b ++ bs } h8)
    · simp only [hc, if_false] at hR
      (repeat refine gg ?_)
      refine join_w (fun w' => At w0 F0 (diskHP d (can s (appendE s n bs.length)).1) w') (fun K hK => ?_) (fun w' hw' => hR w' hw')
      (repeat refine gg ?_)
      exact hK w4 h4
  obtain ⟨sv, ms, fb, hs, hm, hf⟩ := dk_open h
  obtain ⟨T, c⟩ := hs.cell (i := 1) rfl
  refine ⟨fun _ w' => blk w' d = some (.cells (dkC s (ms.headD 0) sv).toArray T (0, 0)), c, ?_⟩
  cases hfd : findD s.now n with
  | none =>
    have e1 : there s n = 5 := by unfold there Dk.find; rw [hfd]; rfl
    have e : appendE s n bs.length = 5 := by unfold appendE Dk.find; rw [hfd]; rfl
    rw [e1]
    (repeat (first | refine gg ?_ | refine FLT.mk _ (fun _ hw_ => rfl) ?_))
    refine ⟨c, ?_⟩
    (repeat refine gg ?_)
    refine join_v (fun e w' => e = .int .i64 (appendE s n bs.length) ∧ w' = w.drew) (fun K hK => ?_) ?_
    · (repeat refine gg ?_)
      exact hK _ _ ⟨by rw [e], rfl⟩
    · rintro _ _ ⟨rfl, rfl⟩
      exact rest _ (h.fr0 (Fr.drew [] _)) _ rfl
  | some f =>
    have e1 : there s n = 0 := by unfold there Dk.find; rw [hfd]; rfl
    have e : appendE s n bs.length = if s.room < ((held s + bs.length : Nat) : Int) then 4 else 0 := by unfold appendE Dk.find; rw [hfd]; rfl
    have hhs : held s ≤ 1000000000 * 1048576 := Nat.le_trans (held_small hw) (Nat.mul_le_mul_right _ (by omega))
    rw [e1]
    unfold ptrTo
    (repeat refine gg ?_)
    refine dk_Held (h.fr0 (Fr.drew [] _)) hw hn hn2 fun w2 f2 => ?_
    refine ⟨f2.some (by simp) c, ?_⟩
    have h2 := (h.fr0 (Fr.drew [] _)).fr0 f2
    (repeat (first | refine BND_step (addn_ (by omega)) ?_ | refine gg ?_))
    by_cases hbig : s.room < ((held s + bs.length : Nat) : Int)
    · (repeat refine gg ?_)
      refine join_v (fun e w' => e = .int .i64 (appendE s n bs.length) ∧ w' = w2) (fun K hK => ?_) ?_
      · (repeat refine gg ?_)
        exact hK _ _ ⟨by rw [e, if_pos hbig], rfl⟩
      · rintro _ _ ⟨rfl, rfl⟩
        exact rest _ h2 _ rfl
    · (repeat refine gg ?_)
      refine join_v (fun e w' => e = .int .i64 (appendE s n bs.length) ∧ w' = w2) (fun K hK => ?_) ?_
      · (repeat refine gg ?_)
        exact hK _ _ ⟨by rw [e, if_neg hbig], rfl⟩
      · rintro _ _ ⟨rfl, rfl⟩
        exact rest _ h2 _ rfl
end
end Go.Proofs.YtofllgbdphakiaaDoor
end

section
namespace Go.Proofs.YtofllgbdphakiaaDoor
open Go.Den Go.Disk
def names (l : Dir) : List ByteArray := l.map (·.1)
theorem At.wrap {w0 w : World} {F0 : List Nat} {P : HP} (h : At w0 F0 P w) : At w0 F0 (stars [P]) w := by
  obtain ⟨F, g1, g2, g3⟩ := h
  exact ⟨F, ⟨F, [], g1, ⟨trivial, rfl⟩, by simp, by simp⟩, g2, g3⟩
theorem At.unwrap {w0 w : World} {F0 : List Nat} {P : HP} (h : At w0 F0 (stars [P]) w) : At w0 F0 P w := by
  obtain ⟨F, ⟨A, B, g1, ⟨_, rfl⟩, rfl, _⟩, g2, g3⟩ := h
  exact ⟨A, g1, by simpa using g2, g3⟩
theorem At.zoom {w0 w : World} {F0 : List Nat} {ps : List HP} (h : At w0 F0 (stars ps) w) (i : Nat) {P : HP} (hi : ps[i]? = some P) : ∃ A, At w A P w ∧ ∀ w' P', At w A P' w' → At w0 F0 (stars (ps.set i P')) w' := by
  obtain ⟨A, a1, upd⟩ := h.upd i hi
  exact ⟨A, At.start a1, fun w' P' ⟨F', p1, p2, p3⟩ => upd w' F' P' p1 p3 p2⟩
def encI (x : Int) : List Value := [.int .i64 x]
def crash1 (tails : List Int) (f i : Nat) (fs : List Fl) : List Fl :=
  let x := fs.getD f ⟨[], 0⟩
  fs.set f ⟨x.b.take (x.sure + tailOf x tails i), x.sure + tailOf x tails i⟩
theorem crashF_snoc (tails : List Int) (k : ByteArray) (f : Nat) : ∀ (l : Dir) (i : Nat) (fs : List Fl), crashF tails (l ++ [(k, f)]) i fs = crash1 tails f (i + l.length) (crashF tails l i fs)
  | [], i, fs => rfl
  | (k', f') :: l, i, fs => by
    simp only [List.cons_append, crashF, List.length_cons]
    rw [crashF_snoc tails k f l (i + 1), show i + 1 + l.length = i + (l.length + 1) by omega]
theorem crash1_len (tails : List Int) (f i : Nat) (fs : List Fl) : (crash1 tails f i fs).length = fs.length := by unfold crash1; simp
theorem tailOf_le (x : Fl) (tails : List Int) (i : Nat) : tailOf x tails i ≤ x.b.length - x.sure := by
  unfold tailOf
  split
  · omega
  · exact Nat.min_le_right _ _
/-- what holds of files. -/
def FilesOk (m : Nat) (fs : List Fl) : Prop := ∀ x ∈ fs, x.sure ≤ x.b.length ∧ x.b.length ≤ m
theorem crash1_ok {tails : List Int} {f i m : Nat} {fs : List Fl} (h : FilesOk m fs) (hf : f < fs.length) : FilesOk m (crash1 tails f i fs) := by
  intro x hx
  unfold crash1 at hx
  rcases List.mem_or_eq_of_mem_set hx with hx | rfl
  · exact h x hx
  · have hm : fs.getD f ⟨[], 0⟩ ∈ fs := by rw [List.getD_eq_getElem?_getD, List.getElem?_eq_getElem hf]; exact List.getElem_mem hf
    have h1 := h _ hm
    have h2 := tailOf_le (fs.getD f ⟨[], 0⟩) tails i
    simp only [List.length_take]
    omega
set_option linter.unusedSimpArgs false
set_option linter.unusedVariables false
set_option maxRecDepth 20000
set_option maxHeartbeats 4000000
attribute [local congr] BND_cg COND_cg GEF_cg
attribute [local irreducible] capl slicea load1 loadn iaddr iaddra faddr storev newslice binv lookv mupd mdel mlenv mentry mestore slicev slicev3 slices indexs indexav textv rangev nexts clearv shiftv eqaggv convi buildv pickv lens lenl unv nilchk extractv partn JOIN
section
variable {w0 w : World} {F0 : List Nat} {d : Nat} {s : Dk} {R : Value → World → Prop}
end
end Go.Proofs.YtofllgbdphakiaaDoor
end

section
set_option linter.unusedSimpArgs false
set_option linter.unusedVariables false
namespace Go.Proofs.YtofllgbdphakiaaDoor
open Go.Den Go.Disk
section
variable {s : Dk}
theorem now_mem (h : s.Wf) : s.now ∈ s.dirs := List.mem_of_getElem? (dk_now_get h.ne)
theorem wf_empty {room : Int} (h : 16 ≤ room ∧ room ≤ 1048576) : (empty room).Wf := by
  refine ⟨by simp [empty], by simp [empty, riseD], by simp [empty], by simp [empty], by simp [empty], by simp [empty], by simp [empty], h, ?_⟩
  show (-1 : Int) ≤ -1 ∧ (-1 : Int) ≤ _
  omega
theorem wf_setF (h : s.Wf) (f : Nat) {x : Fl} (h1 : x.sure ≤ x.b.length) (h2 : (x.b.length : Int) ≤ s.room) : (setF s f x).Wf := by
  refine ⟨h.ne, h.rise, fun l hl y hy => ?_, h.many, h.nm, fun y hy => ?_, fun y hy => ?_, h.room, h.burn⟩
  · show y.2 < (s.files.set f x).length
    rw [List.length_set]; exact h.idx l hl y hy
  · rcases List.mem_or_eq_of_mem_set (show y ∈ s.files.set f x from hy) with hy | rfl
    · exact h.sure y hy
    · exact h1
  · rcases List.mem_or_eq_of_mem_set (show y ∈ s.files.set f x from hy) with hy | rfl
    · exact h.small y hy
    · exact h2
theorem wf_dirs (h : s.Wf) {l : Dir} (hr : riseD l) (hi : ∀ x ∈ l, x.2 < s.files.length) (hm : l.length ≤ 60) (hn : ∀ x ∈ l, named x.1 = true) : ({ s with dirs := s.dirs ++ [l] } : Dk).Wf := by
  refine ⟨by simp, fun k hk => ?_, fun k hk => ?_, fun k hk => ?_, fun k hk => ?_, h.sure, h.small, h.room, h.burn⟩
  all_goals rcases List.mem_append.1 (show k ∈ s.dirs ++ [l] from hk) with hk | hk
  · exact h.rise k hk
  · simp at hk; subst hk; exact hr
  · exact h.idx k hk
  · simp at hk; subst hk; exact hi
  · exact h.many k hk
  · simp at hk; subst hk; exact hm
  · exact h.nm k hk
  · simp at hk; subst hk; exact hn
theorem wf_dir1 (h : s.Wf) {l : Dir} (hl : l ∈ s.dirs) : ({ s with dirs := [l] } : Dk).Wf := by
  refine ⟨by simp, fun k hk => ?_, fun k hk => ?_, fun k hk => ?_, fun k hk => ?_, h.sure, h.small, h.room, h.burn⟩
  all_goals (have hk' : k = l := by simpa using hk); subst hk'
  · exact h.rise k hl
  · exact h.idx k hl
  · exact h.many k hl
  · exact h.nm k hl
theorem wf_files (h : s.Wf) : ({ s with files := s.files ++ [⟨[], 0⟩] } : Dk).Wf := by
  refine ⟨h.ne, h.rise, fun l hl y hy => ?_, h.many, h.nm, fun y hy => ?_, fun y hy => ?_, h.room, h.burn⟩
  · have := h.idx l hl y hy
    simp; omega
  · rcases List.mem_append.1 hy with hy | hy
    · exact h.sure y hy
    · simp at hy; subst hy; simp
  · rcases List.mem_append.1 hy with hy | hy
    · exact h.small y hy
    · simp at hy; subst hy
      have := h.room
      show (0 : Int) ≤ s.room
      omega
theorem held_of (h : s.Wf) {f : Nat} (hf : isHeld s f = true) (hl : f < s.files.length) : (fileAt s f).b.length ≤ held s := by
  unfold held
  have : ∀ (l : List Nat) (g : Nat → Nat), f ∈ l → g f ≤ (l.map g).sum := by
    intro l g
    induction l with
    | nil => intro h; simp at h
    | cons a l ih =>
      intro h
      simp only [List.map_cons, List.sum_cons]
      rcases List.mem_cons.1 h with rfl | h
      · omega
      · have := ih h; omega
  have h1 := this (List.range s.files.length) (fun f => if isHeld s f = true then (fileAt s f).b.length else 0) (List.mem_range.2 hl)
  simpa [hf] using h1
theorem can_e {e : Int} (h : (can s e).2 = 0) : e = 0 := can_zero h
theorem wf_create (h : s.Wf) (n : ByteArray) : (create s n).1.Wf := by
  unfold create
  have hc := wf_can h (createE s n)
  obtain ⟨k1, k2, k3⟩ := can_keep s (createE s n)
  by_cases hz : (can s (createE s n)).2 = 0
  · simp only [hz, if_true]
    have he := can_zero hz
    have hnm : named n = true := by
      cases hq : named n with
      | true => rfl
      | false => simp [createE, hq] at he
    have hfd : findD s.now n = none := by
      cases hq : findD s.now n with
      | none => rfl
      | some f => simp [createE, hnm, Dk.find, hq] at he
    have h60 : s.now.length < 60 := by
      unfold createE Dk.find at he
      rw [hfd] at he
      simp only [hnm, Bool.true_eq_false, if_false, Option.isSome_none, Bool.false_eq_true] at he
      split at he
      · simp at he
      · omega
    have h1 := wf_files hc
    have hnn : ∀ y ∈ s.now, y.1 ≠ n := findD_none.1 hfd
    have h2 := wf_dirs h1 (l := withD s.now (n, s.files.length)) (rise_withD (h.rise _ (now_mem h)) hnn) (fun x hx => by
      rcases mem_withD.1 hx with rfl | hx
      · simp [k1]
      · have := h.idx _ (now_mem h) x hx
        simp [k1]; omega) (by rw [len_withD]; omega) (fun x hx => by
      rcases mem_withD.1 hx with rfl | hx
      · exact hnm
      · exact h.nm _ (now_mem h) x hx)
    rw [k1, k2] at h2
    exact h2
  · simp only [hz, if_false]
    exact hc
theorem wf_append (h : s.Wf) (n : ByteArray) (bs : List UInt8) : (append s n bs).1.Wf := by
  unfold append
  have hc := wf_can h (appendE s n bs.length)
  obtain ⟨k1, k2, k3⟩ := can_keep s (appendE s n bs.length)
  by_cases hz : (can s (appendE s n bs.length)).2 = 0
  · simp only [hz, if_true]
    have he := can_zero hz
    obtain ⟨f, hfd⟩ : ∃ f, findD s.now n = some f := by
      unfold appendE Dk.find at he
      cases hq : findD s.now n with
      | some f => exact ⟨f, rfl⟩
      | none => rw [hq] at he; simp at he
    rw [(isSome_find hfd).2]
    have hx := List.mem_of_getElem? (wf_pick h hfd)
    have hfl : f < s.files.length := (List.getElem?_eq_some_iff.1 (wf_pick h hfd)).1
    have hh := held_of h (f := f) ((isHeld_iff s f).2 ⟨_, now_mem h, _, findD_mem hfd, rfl⟩) hfl
    have hr : ((held s + bs.length : Nat) : Int) ≤ s.room := by
      unfold appendE Dk.find at he
      rw [hfd] at he
      simp only [Option.isSome_some, if_true] at he
      split at he
      · simp at he
      · omega
    have hs := h.sure _ hx
    refine wf_setF hc f (by simp; omega) ?_
    rw [k3]
    simp only [List.length_append]
    omega
  · simp only [hz, if_false]
    exact hc
theorem wf_sync (h : s.Wf) (n : ByteArray) : (sync s n).1.Wf := by
  unfold sync
  have hc := wf_can h (there s n)
  obtain ⟨k1, k2, k3⟩ := can_keep s (there s n)
  by_cases hz : (can s (there s n)).2 = 0
  · simp only [hz, if_true]
    obtain ⟨f, hfd⟩ := there_zero (can_zero hz)
    rw [(isSome_find hfd).2]
    have hx := List.mem_of_getElem? (wf_pick h hfd)
    refine wf_setF hc f (by simp) ?_
    rw [k3]
    have := h.small _ hx
    exact this
  · simp only [hz, if_false]
    exact hc
theorem wf_cut (h : s.Wf) (n : ByteArray) (k : Int) : (cut s n k).1.Wf := by
  unfold cut
  have hc := wf_can h (cutE s n k)
  obtain ⟨k1, k2, k3⟩ := can_keep s (cutE s n k)
  by_cases hz : (can s (cutE s n k)).2 = 0
  · simp only [hz, if_true]
    have he := can_zero hz
    obtain ⟨f, hfd⟩ : ∃ f, findD s.now n = some f := by
      unfold cutE Dk.find at he
      cases hq : findD s.now n with
      | some f => exact ⟨f, rfl⟩
      | none => rw [hq] at he; simp at he
    rw [(isSome_find hfd).2]
    have hx := List.mem_of_getElem? (wf_pick h hfd)
    have hs := h.small _ hx
    have hu := h.sure _ hx
    refine wf_setF hc f (by simp only [List.length_take]; omega) ?_
    rw [k3]
    simp only [List.length_take]
    omega
  · simp only [hz, if_false]
    exact hc
theorem wf_rename (h : s.Wf) (a b : ByteArray) : (rename s a b).1.Wf := by
  unfold rename
  have hc := wf_can h (renameE s a b)
  obtain ⟨k1, k2, k3⟩ := can_keep s (renameE s a b)
  by_cases hz : (can s (renameE s a b)).2 = 0
  · simp only [hz, if_true]
    have he := can_zero hz
    obtain ⟨f, hfd⟩ : ∃ f, findD s.now a = some f := by
      unfold renameE Dk.find at he
      cases hq : findD s.now a with
      | some f => exact ⟨f, rfl⟩
      | none => rw [hq] at he; simp at he
    have hnm : named b = true := by
      unfold renameE Dk.find at he
      rw [hfd] at he
      cases hq : named b with
      | true => rfl
      | false => rw [hq] at he; simp at he
    rw [(isSome_find hfd).2]
    have hm := now_mem h
    have hfl : f < s.files.length := (List.getElem?_eq_some_iff.1 (wf_pick h hfd)).1
    have hl1 := len_without_lt hfd
    have hl2 := len_without (without s.now a) b
    have h60 := h.many _ hm
    have h2 := wf_dirs hc (l := withD (without (without s.now a) b) (b, f)) (rise_withD (rise_without (rise_without (h.rise _ hm) a) b) fun y hy => (mem_without.1 hy).2) (fun x hx => by
      rw [k1]
      rcases mem_withD.1 hx with rfl | hx
      · exact hfl
      · exact h.idx _ hm x (mem_without.1 (mem_without.1 hx).1).1) (by rw [len_withD]; omega) (fun x hx => by
      rcases mem_withD.1 hx with rfl | hx
      · exact hnm
      · exact h.nm _ hm x (mem_without.1 (mem_without.1 hx).1).1)
    rw [k2] at h2
    exact h2
  · simp only [hz, if_false]
    exact hc
theorem wf_delete (h : s.Wf) (n : ByteArray) : (delete s n).1.Wf := by
  unfold delete
  have hc := wf_can h (there s n)
  obtain ⟨k1, k2, k3⟩ := can_keep s (there s n)
  by_cases hz : (can s (there s n)).2 = 0
  · simp only [hz, if_true]
    have hm := now_mem h
    have hl := len_without s.now n
    have h60 := h.many _ hm
    have h2 := wf_dirs hc (l := without s.now n) (rise_without (h.rise _ hm) n) (fun x hx => by rw [k1]; exact h.idx _ hm x (mem_without.1 hx).1) (by omega) (fun x hx => h.nm _ hm x (mem_without.1 hx).1)
    rw [k2] at h2
    exact h2
  · simp only [hz, if_false]
    exact hc
theorem wf_dirsync (h : s.Wf) : (dirsync s).1.Wf := by
  unfold dirsync
  have hc := wf_can h 0
  obtain ⟨k1, k2, k3⟩ := can_keep s 0
  by_cases hz : (can s 0).2 = 0
  · simp only [hz, if_true]
    exact wf_dir1 hc (by rw [k2]; exact now_mem h)
  · simp only [hz, if_false]
    exact hc
theorem wf_fuse (h : s.Wf) {n : Int} (hn : n ≤ 9223372036854775807) : (fuse s n).Wf := by
  refine ⟨h.ne, h.rise, h.idx, h.many, h.nm, h.sure, h.small, h.room, ?_⟩
  show -1 ≤ (if n < -1 then -1 else n) ∧ (if n < -1 then -1 else n) ≤ _
  split <;> omega
theorem crashF_keep {tails : List Int} {m : Nat} : ∀ (l : Dir) (i : Nat) (fs : List Fl), (∀ x ∈ l, x.2 < fs.length) → FilesOk m fs → (crashF tails l i fs).length = fs.length ∧ FilesOk m (crashF tails l i fs)
  | [], _, fs, _, h => ⟨rfl, h⟩
  | (k, f) :: r, i, fs, hl, h => by
    have h1 := crash1_ok (tails := tails) (i := i) h (hl (k, f) (by simp))
    have h2 := crash1_len tails f i fs
    obtain ⟨a, b⟩ := crashF_keep (tails := tails) (m := m) r (i + 1) (crash1 tails f i fs) (fun x hx => by rw [h2]; exact hl x (by simp [hx])) h1
    exact ⟨by rw [← h2]; exact a, b⟩
theorem wf_crash (h : s.Wf) (op : Int) (tails : List Int) : (crash s op tails).Wf := by
  unfold crash
  have hpos : 0 < s.dirs.length := List.length_pos_iff.2 h.ne
  have hl : s.dirs.getD (min op.toNat (s.dirs.length - 1)) [] ∈ s.dirs := by
    rw [List.getD_eq_getElem?_getD, List.getElem?_eq_getElem (by omega)]; exact List.getElem_mem _
  generalize s.dirs.getD (min op.toNat (s.dirs.length - 1)) [] = l at hl
  have hrm := h.room
  obtain ⟨a, b⟩ := crashF_keep (tails := tails) (m := s.room.toNat) l 0 s.files (h.idx l hl) (fun x hx => ⟨h.sure x hx, by have := h.small x hx; omega⟩)
  refine ⟨by simp, fun k hk => ?_, fun k hk => ?_, fun k hk => ?_, fun k hk => ?_, fun x hx => (b x hx).1, fun x hx => ?_, h.room, ?_⟩
  · have hk' : k = l := by simpa using hk
    subst hk'; exact h.rise k hl
  · have hk' : k = l := by simpa using hk
    subst hk'
    show ∀ x ∈ k, x.2 < (crashF tails k 0 s.files).length
    rw [a]; exact h.idx k hl
  · have hk' : k = l := by simpa using hk
    subst hk'; exact h.many k hl
  · have hk' : k = l := by simpa using hk
    subst hk'; exact h.nm k hl
  · have := (b x hx).2
    show (x.b.length : Int) ≤ s.room
    omega
  · show (-1 : Int) ≤ -1 ∧ (-1 : Int) ≤ _
    omega
end
end Go.Proofs.YtofllgbdphakiaaDoor
end

section
namespace Go.Proofs.YtofllgbdphakiaaDoor
open Go.Den Go.Disk
structure Act where
  dn : Int
  n : Int
  nm : ByteArray
  to : ByteArray
  bv : Value
  tv : Value
def encA (a : Act) : List Value := [.int .i64 a.dn, .int .i64 a.n, .string a.nm, .string a.to, a.bv, a.tv]
/-- an act's answer: the disk behind it, what is read, the error. -/
def act (s : Dk) (a : Act) (b : List UInt8) (tails : List Int) : Dk × List UInt8 × Int :=
  if a.dn = 0 then ((create s a.nm).1, [], (create s a.nm).2)
  else if a.dn = 1 then ((append s a.nm b).1, [], (append s a.nm b).2)
  else if a.dn = 2 then ((sync s a.nm).1, [], (sync s a.nm).2)
  else if a.dn = 3 then ((cut s a.nm a.n).1, [], (cut s a.nm a.n).2)
  else if a.dn = 4 then ((rename s a.nm a.to).1, [], (rename s a.nm a.to).2)
  else if a.dn = 5 then ((delete s a.nm).1, [], (delete s a.nm).2)
  else if a.dn = 6 then ((dirsync s).1, [], (dirsync s).2)
  else if a.dn = 7 then (fuse s a.n, [], 0)
  else if a.dn = 8 then (crash s a.n tails, [], 0)
  else (s, Disk.read s a.nm)
theorem wf_act {s : Dk} (h : s.Wf) (a : Act) (b : List UInt8) (tails : List Int) (hn : a.n ≤ 9223372036854775807) : (act s a b tails).1.Wf := by
  unfold act
  split; exact wf_create h _
  split; exact wf_append h _ _
  split; exact wf_sync h _
  split; exact wf_cut h _ _
  split; exact wf_rename h _ _
  split; exact wf_delete h _
  split; exact wf_dirsync h
  split; exact wf_fuse h hn
  split; exact wf_crash h _ _
  exact h
/-- how much a call adds. -/
theorem crashF_len (tails : List Int) : ∀ (l : Dir) (i : Nat) (fs : List Fl), (crashF tails l i fs).length = fs.length
  | [], _, _ => rfl
  | (k, f) :: r, i, fs => by
    have h2 := crash1_len tails f i fs
    rw [← h2]; exact crashF_len tails r (i + 1) (crash1 tails f i fs)
theorem more_act (s : Dk) (a : Act) (b : List UInt8) (tails : List Int) (h : s.dirs ≠ []) : (act s a b tails).1.dirs.length ≤ s.dirs.length + 1 ∧ (act s a b tails).1.files.length ≤ s.files.length + 1 := by
  have hp : 0 < s.dirs.length := List.length_pos_iff.2 h
  unfold act
  split
  · obtain ⟨k1, k2, k3⟩ := can_keep s (createE s a.nm)
    simp only [create]; split
    · simp
    · simp only [k1, k2]; omega
  split
  · obtain ⟨k1, k2, k3⟩ := can_keep s (appendE s a.nm b.length)
    simp only [append, setF]; split <;> simp only [List.length_set, k1, k2] <;> omega
  split
  · obtain ⟨k1, k2, k3⟩ := can_keep s (there s a.nm)
    simp only [sync, setF]; split <;> simp only [List.length_set, k1, k2] <;> omega
  split
  · obtain ⟨k1, k2, k3⟩ := can_keep s (cutE s a.nm a.n)
    simp only [cut, setF]; split <;> simp only [List.length_set, k1, k2] <;> omega
  split
  · obtain ⟨k1, k2, k3⟩ := can_keep s (renameE s a.nm a.to)
    simp only [rename]; split
    · simp [k1]
    · simp only [k1, k2]; omega
  split
  · obtain ⟨k1, k2, k3⟩ := can_keep s (there s a.nm)
    simp only [delete]; split
    · simp [k1]
    · simp only [k1, k2]; omega
  split
  · obtain ⟨k1, k2, k3⟩ := can_keep s 0
    simp only [dirsync]; split
    · simp [k1]
    · simp only [k1, k2]; omega
  split
  · simp [fuse]
  split
  · simp [crash, crashF_len]
  simp
end Go.Proofs.YtofllgbdphakiaaDoor
end

section
set_option linter.unusedSimpArgs false
set_option linter.unusedVariables false
namespace Go.Proofs.YtofllgbdphakiaaDoor
open Go.Den Go.Disk
def sumTo (n : Nat) (g : Nat → Nat) : Nat := ((List.range n).map g).sum
theorem sumTo_succ (n : Nat) (g : Nat → Nat) : sumTo (n + 1) g = sumTo n g + g n := by unfold sumTo; rw [List.range_succ]; simp
theorem sumTo_le {n : Nat} {g g' : Nat → Nat} (h : ∀ i, i < n → g i ≤ g' i) : sumTo n g ≤ sumTo n g' := by
  induction n with
  | zero => simp [sumTo]
  | succ n ih =>
    rw [sumTo_succ, sumTo_succ]
    have := ih fun i hi => h i (by omega)
    have := h n (by omega)
    omega
theorem sumTo_one {n f k : Nat} {g g' : Nat → Nat} (hf : f < n) (h : ∀ i, i < n → i ≠ f → g' i ≤ g i) (h1 : g' f ≤ g f + k) : sumTo n g' ≤ sumTo n g + k := by
  induction n with
  | zero => omega
  | succ n ih =>
    rw [sumTo_succ, sumTo_succ]
    by_cases hfn : f = n
    · subst hfn
      have := sumTo_le (n := f) (g := g') (g' := g) fun i hi => h i (by omega) (by omega)
      omega
    · have := ih (by omega) fun i hi hne => h i (by omega) hne
      have := h n (by omega) (fun e => hfn e.symm)
      omega
def heldG (s : Dk) (f : Nat) : Nat := if isHeld s f = true then (fileAt s f).b.length else 0
theorem held_sum (s : Dk) : held s = sumTo s.files.length (heldG s) := rfl
/-- less held. -/
theorem held_mono {s s' : Dk} (hl : s'.files.length = s.files.length) (h1 : ∀ f, isHeld s' f = true → isHeld s f = true) (h2 : ∀ f, f < s.files.length → (fileAt s' f).b.length ≤ (fileAt s f).b.length) : held s' ≤ held s := by
  rw [held_sum, held_sum, hl]
  refine sumTo_le fun f hf => ?_
  unfold heldG
  by_cases q : isHeld s' f = true
  · rw [if_pos q, if_pos (h1 f q)]; exact h2 f hf
  · rw [if_neg q]; omega
theorem fileAt_set {s : Dk} {f : Nat} (hf : f < s.files.length) (x : Fl) (g : Nat) : fileAt (setF s f x) g = if g = f then x else fileAt s g := by
  unfold fileAt setF
  simp only [List.getD_eq_getElem?_getD, List.getElem?_set]
  by_cases h : f = g
  · subst h; simp [hf]
  · rw [if_neg h, if_neg (fun e => h e.symm)]
structure Inv (s : Dk) : Prop where
  wf : s.Wf
  roomy : (held s : Int) ≤ s.room
  one : ∀ l ∈ s.dirs, (l.map (·.2)).Nodup
theorem isHeld_dirs {s s' : Dk} (h : ∀ l' ∈ s'.dirs, ∀ x ∈ l', ∃ l ∈ s.dirs, ∃ y ∈ l, y.2 = x.2) (f : Nat) (hf : isHeld s' f = true) : isHeld s f = true := by
  rw [isHeld_iff] at *
  obtain ⟨l', hl', x, hx, rfl⟩ := hf
  exact h l' hl' x hx
theorem map2_withD (l : Dir) (x : ByteArray × Nat) : ((withD l x).map (·.2)).Perm (x.2 :: l.map (·.2)) := by
  induction l with
  | nil => simp [withD]
  | cons y l ih =>
    simp only [withD]
    split
    · simp only [List.map_cons]
      exact (ih.cons _).trans (List.Perm.swap _ _ _)
    · simp
theorem one_without {l : Dir} (h : (l.map (·.2)).Nodup) (n : ByteArray) : ((without l n).map (·.2)).Nodup := h.sublist ((List.filter_sublist).map _)
theorem one_gone {l : Dir} (h : (l.map (·.2)).Nodup) {n : ByteArray} {f : Nat} (hm : (n, f) ∈ l) : ∀ x ∈ without l n, x.2 ≠ f := by
  intro x hx e
  obtain ⟨h1, h2⟩ := mem_without.1 hx
  have := (List.nodup_iff_pairwise_ne.1 h)
  clear hx
  induction l with
  | nil => simp at hm
  | cons y l ih =>
    simp only [List.map_cons, List.nodup_cons] at h
    rcases List.mem_cons.1 hm with hm | hm
    · rcases List.mem_cons.1 h1 with h1 | h1
      · exact h2 (by rw [h1, ← hm])
      · exact h.1 (by rw [← hm]; exact List.mem_map.2 ⟨x, h1, e⟩)
    · rcases List.mem_cons.1 h1 with h1 | h1
      · exact h.1 (List.mem_map.2 ⟨_, hm, by rw [← h1, e]⟩)
      · exact ih h.2 hm h1 (List.nodup_iff_pairwise_ne.1 h.2)
section
variable {s : Dk}
theorem can_held (s : Dk) (e : Int) : held (can s e).1 = held s := by
  obtain ⟨k1, k2, k3⟩ := can_keep s e
  unfold held isHeld fileAt
  rw [k1, k2]
theorem inv_can (h : Inv s) (e : Int) : Inv (can s e).1 := by
  obtain ⟨k1, k2, k3⟩ := can_keep s e
  exact ⟨wf_can h.wf e, by rw [can_held, k3]; exact h.roomy, by rw [k2]; exact h.one⟩
theorem inv_empty {room : Int} (h : 16 ≤ room ∧ room ≤ 1048576) : Inv (empty room) := by
  refine ⟨wf_empty h, ?_, by simp [empty]⟩
  show ((0 : Nat) : Int) ≤ room
  omega
/-- a directory put behind, of files that are there, or of no bytes. -/
theorem inv_dirs (h : Inv s) {l : Dir} (hw : ({ s with dirs := s.dirs ++ [l] } : Dk).Wf) (ho : (l.map (·.2)).Nodup) (hl : ∀ x ∈ l, (∃ k ∈ s.dirs, ∃ y ∈ k, y.2 = x.2) ∨ (fileAt s x.2).b = []) : Inv { s with dirs := s.dirs ++ [l] } := by
  refine ⟨hw, Int.le_trans ?_ h.roomy, fun k hk => ?_⟩
  · rw [held_sum, held_sum]
    refine Int.ofNat_le.2 (sumTo_le fun f hf => ?_)
    unfold heldG
    by_cases q : isHeld s f = true
    · rw [if_pos q]
      split
      · exact Nat.le_refl _
      · omega
    · split
      · rename_i q2
        rw [isHeld_iff] at q2
        obtain ⟨k, hk, x, hx, rfl⟩ := q2
        rcases List.mem_append.1 (show k ∈ s.dirs ++ [l] from hk) with hk | hk
        · exact absurd ((isHeld_iff s x.2).2 ⟨k, hk, x, hx, rfl⟩) q
        · simp at hk; subst hk
          rcases hl x hx with h1 | h1
          · exact absurd ((isHeld_iff s x.2).2 h1) q
          · show (fileAt s x.2).b.length ≤ _
            rw [h1]; simp
      · omega
  · rcases List.mem_append.1 (show k ∈ s.dirs ++ [l] from hk) with hk | hk
    · exact h.one k hk
    · simp at hk; subst hk; exact ho
theorem inv_setF (h : Inv s) {f : Nat} {x : Fl} (hw : (setF s f x).Wf) (hf : f < s.files.length) {k : Nat} (hx : x.b.length ≤ (fileAt s f).b.length + k) (hk : ((held s + k : Nat) : Int) ≤ s.room) : Inv (setF s f x) := by
  refine ⟨hw, Int.le_trans (Int.ofNat_le.2 ?_) hk, h.one⟩
  rw [held_sum, held_sum]
  have e : (setF s f x).files.length = s.files.length := by unfold setF; simp
  have e2 : ∀ g, isHeld (setF s f x) g = isHeld s g := fun g => rfl
  rw [e]
  refine sumTo_one hf (fun i hi hne => ?_) ?_
  · unfold heldG; rw [e2, fileAt_set hf, if_neg hne]; exact Nat.le_refl _
  · unfold heldG; rw [e2, fileAt_set hf, if_pos rfl]
    split <;> omega
end
end Go.Proofs.YtofllgbdphakiaaDoor
end

section
set_option linter.unusedSimpArgs false
set_option linter.unusedVariables false
namespace Go.Proofs.YtofllgbdphakiaaDoor
open Go.Den Go.Disk
section
variable {s : Dk}
theorem inv_create (h : Inv s) (n : ByteArray) : Inv (create s n).1 := by
  have hwf := wf_create h.wf n
  unfold create at *
  obtain ⟨k1, k2, k3⟩ := can_keep s (createE s n)
  have hc := inv_can h (createE s n)
  by_cases hz : (can s (createE s n)).2 = 0
  · simp only [hz, if_true] at hwf ⊢
    have hm := now_mem h.wf
    generalize hs1 : (can s (createE s n)).1 = s1 at *
    have hi1 : Inv { s1 with files := s1.files ++ [⟨[], 0⟩] } := by
      refine ⟨wf_files hc.wf, Int.le_trans (Int.ofNat_le.2 ?_) hc.roomy, hc.one⟩
      rw [held_sum, held_sum]
      have e : ({ s1 with files := s1.files ++ [⟨[], 0⟩] } : Dk).files.length = s1.files.length + 1 := by simp
      rw [e, sumTo_succ]
      have e1 : heldG { s1 with files := s1.files ++ [⟨[], 0⟩] } s1.files.length = 0 := by
        unfold heldG fileAt
        simp
      rw [e1, Nat.add_zero]
      refine sumTo_le fun f hf => ?_
      unfold heldG fileAt
      have e2 : isHeld { s1 with files := s1.files ++ [⟨[], 0⟩] } f = isHeld s1 f := rfl
      rw [e2]
      simp only [List.getD_eq_getElem?_getD, List.getElem?_append_left hf]
      exact Nat.le_refl _
    have hw2 : ({ ({ s1 with files := s1.files ++ [⟨[], 0⟩] } : Dk) with dirs := ({ s1 with files := s1.files ++ [⟨[], 0⟩] } : Dk).dirs ++ [withD s.now (n, s.files.length)] } : Dk).Wf := by
      have := hwf
      rw [← k1, ← k2] at this
      rw [← k1]
      exact this
    have := inv_dirs hi1 hw2 (by
      refine (map2_withD _ _).nodup_iff.2 (List.nodup_cons.2 ⟨fun hx => ?_, h.one _ hm⟩)
      obtain ⟨x, hx, e⟩ := List.mem_map.1 hx
      have := h.wf.idx _ hm x hx
      simp only at e
      omega) (fun x hx => by
      rcases mem_withD.1 hx with rfl | hx
      · right
        show (List.getD (s1.files ++ [Fl.mk [] 0]) s.files.length (Fl.mk [] 0)).b = []
        rw [← k1, List.getD_eq_getElem?_getD, List.getElem?_append_right (Nat.le_refl _)]; simp
      · exact .inl ⟨s.now, by show s.now ∈ s1.dirs; rw [k2]; exact hm, x, hx, rfl⟩)
    show Inv (Dk.mk s1.room (s.files ++ [Fl.mk [] 0]) (s.dirs ++ [withD s.now (n, s.files.length)]) s1.burn s1.gone)
    rw [← k1, ← k2]
    rw [← k1] at this
    exact this
  · simp only [hz, if_false] at hwf ⊢
    exact hc
theorem fileAt_can (s : Dk) (e : Int) (f : Nat) : fileAt (can s e).1 f = fileAt s f := by unfold fileAt; rw [(can_keep s e).1]
theorem pick_lt (h : s.Wf) {n : ByteArray} {f : Nat} (hf : findD s.now n = some f) : f < s.files.length := (List.getElem?_eq_some_iff.1 (wf_pick h hf)).1
theorem inv_append (h : Inv s) (n : ByteArray) (bs : List UInt8) : Inv (append s n bs).1 := by
  have hwf := wf_append h.wf n bs
  unfold append at *
  obtain ⟨k1, k2, k3⟩ := can_keep s (appendE s n bs.length)
  have hc := inv_can h (appendE s n bs.length)
  by_cases hz : (can s (appendE s n bs.length)).2 = 0
  · simp only [hz, if_true] at hwf ⊢
    have he := can_zero hz
    obtain ⟨f, hfd⟩ : ∃ f, findD s.now n = some f := by
      unfold appendE Dk.find at he
      cases hq : findD s.now n with
      | some f => exact ⟨f, rfl⟩
      | none => rw [hq] at he; simp at he
    rw [(isSome_find hfd).2] at hwf ⊢
    have hr : ((held s + bs.length : Nat) : Int) ≤ s.room := by
      unfold appendE Dk.find at he
      rw [hfd] at he
      simp only [Option.isSome_some, if_true] at he
      split at he
      · simp at he
      · omega
    exact inv_setF hc hwf (by rw [k1]; exact pick_lt h.wf hfd) (k := bs.length) (by rw [fileAt_can]; simp) (by rw [can_held, k3]; exact hr)
  · simp only [hz, if_false] at hwf ⊢
    exact hc
theorem inv_sync (h : Inv s) (n : ByteArray) : Inv (sync s n).1 := by
  have hwf := wf_sync h.wf n
  unfold sync at *
  obtain ⟨k1, k2, k3⟩ := can_keep s (there s n)
  have hc := inv_can h (there s n)
  by_cases hz : (can s (there s n)).2 = 0
  · simp only [hz, if_true] at hwf ⊢
    obtain ⟨f, hfd⟩ := there_zero (can_zero hz)
    rw [(isSome_find hfd).2] at hwf ⊢
    exact inv_setF hc hwf (by rw [k1]; exact pick_lt h.wf hfd) (k := 0) (by rw [fileAt_can]; simp) (by rw [Nat.add_zero]; exact hc.roomy)
  · simp only [hz, if_false] at hwf ⊢
    exact hc
theorem inv_cut (h : Inv s) (n : ByteArray) (k : Int) : Inv (cut s n k).1 := by
  have hwf := wf_cut h.wf n k
  unfold cut at *
  obtain ⟨k1, k2, k3⟩ := can_keep s (cutE s n k)
  have hc := inv_can h (cutE s n k)
  by_cases hz : (can s (cutE s n k)).2 = 0
  · simp only [hz, if_true] at hwf ⊢
    have he := can_zero hz
    obtain ⟨f, hfd⟩ : ∃ f, findD s.now n = some f := by
      unfold cutE Dk.find at he
      cases hq : findD s.now n with
      | some f => exact ⟨f, rfl⟩
      | none => rw [hq] at he; simp at he
    rw [(isSome_find hfd).2] at hwf ⊢
    exact inv_setF hc hwf (by rw [k1]; exact pick_lt h.wf hfd) (k := 0) (by rw [fileAt_can]; simp only [List.length_take]; omega) (by rw [Nat.add_zero]; exact hc.roomy)
  · simp only [hz, if_false] at hwf ⊢
    exact hc
theorem inv_rename (h : Inv s) (a b : ByteArray) : Inv (rename s a b).1 := by
  have hwf := wf_rename h.wf a b
  unfold rename at *
  obtain ⟨k1, k2, k3⟩ := can_keep s (renameE s a b)
  have hc := inv_can h (renameE s a b)
  by_cases hz : (can s (renameE s a b)).2 = 0
  · simp only [hz, if_true] at hwf ⊢
    have he := can_zero hz
    obtain ⟨f, hfd⟩ : ∃ f, findD s.now a = some f := by
      unfold renameE Dk.find at he
      cases hq : findD s.now a with
      | some f => exact ⟨f, rfl⟩
      | none => rw [hq] at he; simp at he
    rw [(isSome_find hfd).2] at hwf ⊢
    have hm := now_mem h.wf
    rw [← k2] at hwf ⊢
    refine inv_dirs hc hwf ?_ fun x hx => .inl ⟨s.now, by rw [k2]; exact hm, ?_⟩
    · refine (map2_withD _ _).nodup_iff.2 (List.nodup_cons.2 ⟨fun hx => ?_, one_without (one_without (h.one _ hm) a) b⟩)
      obtain ⟨x, hx, e⟩ := List.mem_map.1 hx
      exact one_gone (h.one _ hm) (findD_mem hfd) x (mem_without.1 hx).1 e
    · rcases mem_withD.1 hx with rfl | hx
      · exact ⟨_, findD_mem hfd, rfl⟩
      · exact ⟨x, (mem_without.1 (mem_without.1 hx).1).1, rfl⟩
  · simp only [hz, if_false] at hwf ⊢
    exact hc
theorem inv_delete (h : Inv s) (n : ByteArray) : Inv (delete s n).1 := by
  have hwf := wf_delete h.wf n
  unfold delete at *
  obtain ⟨k1, k2, k3⟩ := can_keep s (there s n)
  have hc := inv_can h (there s n)
  by_cases hz : (can s (there s n)).2 = 0
  · simp only [hz, if_true] at hwf ⊢
    have hm := now_mem h.wf
    rw [← k2] at hwf ⊢
    exact inv_dirs hc hwf (one_without (h.one _ hm) n) fun x hx => .inl ⟨s.now, by rw [k2]; exact hm, x, (mem_without.1 hx).1, rfl⟩
  · simp only [hz, if_false] at hwf ⊢
    exact hc
theorem inv_dir1 (h : Inv s) {l : Dir} (hl : l ∈ s.dirs) : Inv { s with dirs := [l] } := by
  refine ⟨wf_dir1 h.wf hl, Int.le_trans (Int.ofNat_le.2 (held_mono (s := s) (s' := { s with dirs := [l] }) rfl (isHeld_dirs (s := s) (s' := { s with dirs := [l] }) fun k hk x hx => ⟨l, hl, x, ?_, rfl⟩) fun f _ => Nat.le_refl _)) h.roomy, fun k hk => ?_⟩
  · have : k = l := by simpa using hk
    subst this; exact hx
  · have : k = l := by simpa using hk
    subst this; exact h.one k hl
theorem inv_dirsync (h : Inv s) : Inv (dirsync s).1 := by
  unfold dirsync
  obtain ⟨k1, k2, k3⟩ := can_keep s 0
  have hc := inv_can h 0
  by_cases hz : (can s 0).2 = 0
  · simp only [hz, if_true]
    exact inv_dir1 hc (by rw [k2]; exact now_mem h.wf)
  · simp only [hz, if_false]
    exact hc
theorem inv_fuse (h : Inv s) {n : Int} (hn : n ≤ 9223372036854775807) : Inv (fuse s n) := ⟨wf_fuse h.wf hn, h.roomy, h.one⟩
theorem crashF_less {tails : List Int} : ∀ (l : Dir) (i : Nat) (fs : List Fl) (f : Nat), ((crashF tails l i fs).getD f ⟨[], 0⟩).b.length ≤ (fs.getD f ⟨[], 0⟩).b.length
  | [], _, _, _ => Nat.le_refl _
  | (k, g) :: r, i, fs, f => by
    refine Nat.le_trans (crashF_less (tails := tails) r (i + 1) (crash1 tails g i fs) f) ?_
    unfold crash1
    simp only [List.getD_eq_getElem?_getD, List.getElem?_set]
    split
    · rename_i h
      subst h
      split
      · simp only [Option.getD_some, List.length_take]; omega
      · rename_i h2
        rw [List.getElem?_eq_none (by omega)]; simp
    · exact Nat.le_refl _
theorem inv_crash (h : Inv s) (op : Int) (tails : List Int) : Inv (crash s op tails) := by
  have hwf := wf_crash h.wf op tails
  have hpos : 0 < s.dirs.length := List.length_pos_iff.2 h.wf.ne
  have hl : s.dirs.getD (min op.toNat (s.dirs.length - 1)) [] ∈ s.dirs := by
    rw [List.getD_eq_getElem?_getD, List.getElem?_eq_getElem (by omega)]; exact List.getElem_mem _
  unfold crash at *
  generalize s.dirs.getD (min op.toNat (s.dirs.length - 1)) [] = l at hl hwf ⊢
  refine ⟨hwf, Int.le_trans (Int.ofNat_le.2 (held_mono (crashF_len tails l 0 s.files) (isHeld_dirs (s := s) fun k hk x hx => ⟨l, hl, x, ?_, rfl⟩) fun f _ => crashF_less l 0 s.files f)) h.roomy, fun k hk => ?_⟩
  · have : k = l := by simpa using hk
    subst this; exact hx
  · have : k = l := by simpa using hk
    subst this; exact h.one k hl
theorem inv_act (h : Inv s) (a : Act) (b : List UInt8) (tails : List Int) (hn : a.n ≤ 9223372036854775807) : Inv (act s a b tails).1 := by
  unfold act
  split; exact inv_create h _
  split; exact inv_append h _ _
  split; exact inv_sync h _
  split; exact inv_cut h _ _
  split; exact inv_rename h _ _
  split; exact inv_delete h _
  split; exact inv_dirsync h
  split; exact inv_fuse h hn
  split; exact inv_crash h _ _
  exact h
/-- of one directory alone, what is held is what its names' files have. -/
theorem held_one (h : Inv s) {l : Dir} (hd : s.dirs = [l]) : held s = (l.map fun x => (fileAt s x.2).b.length).sum := by
  have hl : l ∈ s.dirs := by rw [hd]; simp
  have := sum_held (s := s) (fs := l.map (·.2)) (h.one l hl) (fun f => by
    rw [isHeld_iff, hd]
    simp [List.mem_map]) (fun f hf => by
    obtain ⟨x, hx, rfl⟩ := List.mem_map.1 hf
    exact h.wf.idx l hl x hx)
  rw [← this, List.map_map]; rfl
/-- without power nothing changes. -/
theorem can_gone (hg : s.gone = true) (e : Int) : can s e = (s, 7) := by unfold can; rw [if_pos hg]
theorem act_gone (hg : s.gone = true) (a : Act) (b : List UInt8) (tails : List Int) (h7 : a.dn ≠ 7) (h8 : a.dn ≠ 8) : act s a b tails = (s, [], 7) := by
  unfold act
  split; simp [create, can_gone hg]
  split; simp [append, can_gone hg]
  split; simp [sync, can_gone hg]
  split; simp [cut, can_gone hg]
  split; simp [rename, can_gone hg]
  split; simp [delete, can_gone hg]
  split; simp [dirsync, can_gone hg]
  simp [h7, h8, Disk.read, hg]
end
end Go.Proofs.YtofllgbdphakiaaDoor
end

section
set_option linter.unusedSimpArgs false
set_option linter.unusedVariables false
namespace Go.Ev
open Go.Den Go.Disk Go.Nm Go.Proofs.YtofllgbdphakiaaDoor
structure Ev (s : Dk) (room : Int) (ds : List Dir) (fs : List Fl) : Prop where
  inv : Inv s
  room_ : s.room = room
  dirs : s.dirs = ds
  files : s.files = fs
  gone : s.gone = false
  burn : s.burn = -1
def sumF (fs : List Fl) : Nat := (fs.map fun x => x.b.length).sum
theorem range_getD {α : Type} (l : List α) (d : α) : (List.range l.length).map (fun i => l.getD i d) = l := by
  refine List.ext_getElem (by simp) fun i h1 h2 => ?_
  simp [h2]
theorem held_sumF (s : Dk) : held s ≤ sumF s.files := by
  rw [held_sum]
  refine Nat.le_trans (sumTo_le (g' := fun f => (s.files.getD f ⟨[], 0⟩).b.length) fun i _ => ?_) ?_
  · unfold heldG fileAt
    split <;> omega
  · unfold sumTo sumF
    have := range_getD s.files ⟨[], 0⟩
    conv => { rhs; rw [← this] }
    rw [List.map_map]
    exact Nat.le_refl _
theorem free_can {s : Dk} (hg : s.gone = false) (hb : s.burn = -1) (e : Int) : can s e = (s, e) := by
  unfold can
  by_cases h : e = 0
  · simp [hg, hb, h]
  · simp [hg, h]
section
variable {s : Dk} {room : Int} {ds : List Dir} {fs : List Fl}
theorem Ev.empty {room : Int} (h : 16 ≤ room ∧ room ≤ 1048576) : Ev (empty room) room [[]] [] := ⟨inv_empty h, rfl, rfl, rfl, rfl, rfl⟩
theorem Ev.now (h : Ev s room ds fs) : s.now = ds.getLastD [] := by unfold Dk.now; rw [h.dirs]
theorem Ev.find (h : Ev s room ds fs) (n : ByteArray) : s.find n = findD (ds.getLastD []) n := by unfold Dk.find; rw [h.now]
theorem Ev.at_ (h : Ev s room ds fs) {f : Nat} {x : Fl} (hx : fs[f]? = some x) : fileAt s f = x := by unfold fileAt; rw [h.files, List.getD_eq_getElem?_getD, hx]; rfl
theorem Ev.create (h : Ev s room ds fs) {n : ByteArray} (hn : named n = true) (hf : findD (ds.getLastD []) n = none) (hl : (ds.getLastD []).length < 60) :
    (create s n).2 = 0 ∧ Ev (create s n).1 room (ds ++ [withD (ds.getLastD []) (n, fs.length)]) (fs ++ [⟨[], 0⟩]) := by
  have hi := inv_create h.inv n
  have ce : createE s n = 0 := by
    unfold createE
    rw [hn, h.find, hf, h.now]
    simp only [Option.isSome_none, Bool.false_eq_true, Bool.true_eq_false, if_false]
    rw [if_neg (by omega)]
  have e : Disk.create s n = ({ s with files := s.files ++ [⟨[], 0⟩], dirs := s.dirs ++ [withD s.now (n, s.files.length)] }, 0) := by
    unfold Disk.create; rw [ce]; simp only [free_can h.gone h.burn, if_true]
  rw [e] at hi ⊢
  refine ⟨rfl, hi, h.room_, ?_, ?_, h.gone, h.burn⟩
  · show s.dirs ++ _ = _; rw [h.dirs, h.now, h.files]
  · show s.files ++ _ = _; rw [h.files]
theorem Ev.append (h : Ev s room ds fs) {n : ByteArray} {f : Nat} {x : Fl} {bs : List UInt8} (hf : findD (ds.getLastD []) n = some f) (hx : fs[f]? = some x) (hr : ((sumF fs + bs.length : Nat) : Int) ≤ room) :
    (append s n bs).2 = 0 ∧ Ev (append s n bs).1 room ds (fs.set f ⟨x.b ++ bs, x.sure⟩) := by
  have hi := inv_append h.inv n bs
  have hh := held_sumF s
  rw [h.files] at hh
  have ce : appendE s n bs.length = 0 := by
    unfold appendE
    rw [h.find, hf, h.room_]
    simp only [Option.isSome_some, if_true]
    rw [if_neg (by omega)]
  have e : Disk.append s n bs = (setF s f ⟨x.b ++ bs, x.sure⟩, 0) := by
    unfold Disk.append
    rw [ce]
    simp only [free_can h.gone h.burn, if_true, h.find, hf, Option.getD_some, h.at_ hx]
  rw [e] at hi ⊢
  exact ⟨rfl, hi, h.room_, h.dirs, by show s.files.set f _ = _; rw [h.files], h.gone, h.burn⟩
theorem Ev.sync (h : Ev s room ds fs) {n : ByteArray} {f : Nat} {x : Fl} (hf : findD (ds.getLastD []) n = some f) (hx : fs[f]? = some x) :
    (sync s n).2 = 0 ∧ Ev (sync s n).1 room ds (fs.set f ⟨x.b, x.b.length⟩) := by
  have hi := inv_sync h.inv n
  have ce : there s n = 0 := by
    unfold there
    rw [h.find, hf]; rfl
  have e : Disk.sync s n = (setF s f ⟨x.b, x.b.length⟩, 0) := by
    unfold Disk.sync
    rw [ce]
    simp only [free_can h.gone h.burn, if_true, h.find, hf, Option.getD_some, h.at_ hx]
  rw [e] at hi ⊢
  exact ⟨rfl, hi, h.room_, h.dirs, by show s.files.set f _ = _; rw [h.files], h.gone, h.burn⟩
theorem Ev.cut (h : Ev s room ds fs) {n : ByteArray} {f : Nat} {x : Fl} {k : Nat} (hf : findD (ds.getLastD []) n = some f) (hx : fs[f]? = some x) (hk : k ≤ x.b.length) :
    (cut s n k).2 = 0 ∧ Ev (cut s n k).1 room ds (fs.set f ⟨x.b.take k, min x.sure k⟩) := by
  have hi := inv_cut h.inv n k
  have ce : cutE s n k = 0 := by
    unfold cutE
    rw [h.find, hf]
    simp only
    rw [h.at_ hx, if_neg (by omega)]
  have e : Disk.cut s n k = (setF s f ⟨x.b.take k, min x.sure k⟩, 0) := by
    unfold Disk.cut
    rw [ce]
    simp only [free_can h.gone h.burn, if_true, h.find, hf, Option.getD_some, h.at_ hx, Int.toNat_natCast]
  rw [e] at hi ⊢
  exact ⟨rfl, hi, h.room_, h.dirs, by show s.files.set f _ = _; rw [h.files], h.gone, h.burn⟩
theorem Ev.dirsync (h : Ev s room ds fs) : (dirsync s).2 = 0 ∧ Ev (dirsync s).1 room [ds.getLastD []] fs := by
  have hi := inv_dirsync h.inv
  have e : Disk.dirsync s = ({ s with dirs := [s.now] }, 0) := by unfold Disk.dirsync; simp only [free_can h.gone h.burn, if_true]
  rw [e] at hi ⊢
  exact ⟨rfl, hi, h.room_, by show [s.now] = _; rw [h.now], h.files, h.gone, h.burn⟩
theorem Ev.read (h : Ev s room ds fs) {n : ByteArray} {f : Nat} {x : Fl} (hf : findD (ds.getLastD []) n = some f) (hx : fs[f]? = some x) : Disk.read s n = (x.b, 0) := by
  unfold Disk.read
  rw [h.gone, h.find, hf]
  simp only [Bool.false_eq_true, if_false]
  rw [h.at_ hx]
theorem Ev.read_no (h : Ev s room ds fs) {n : ByteArray} (hf : findD (ds.getLastD []) n = none) : Disk.read s n = ([], 5) := by
  unfold Disk.read
  rw [h.gone, h.find, hf]
  simp
end
theorem Ev.rise {s : Dk} {room : Int} {ds : List Dir} {fs : List Fl} (h : Ev s room ds fs) : riseD (ds.getLastD []) := by
  have := h.inv.wf.rise _ (now_mem h.inv.wf)
  rwa [h.now] at this
theorem findD_not : ∀ {l : Dir} {n : ByteArray}, findD l n = none → ∀ y ∈ l, y.1 ≠ n
  | [], _, _, y, hy => by simp at hy
  | (k, g) :: l, n, h, y, hy => by
    simp only [findD] at h
    by_cases hk : k = n
    · rw [if_pos hk] at h; cases h
    · rw [if_neg hk] at h
      rcases List.mem_cons.1 hy with rfl | hy
      · exact hk
      · exact findD_not h y hy
theorem Ev.found {s : Dk} {room : Int} {ds : List Dir} {fs : List Fl} (h : Ev s room ds fs) {n : ByteArray} (hf : findD (ds.getLastD []) n = none) (f : Nat) (k : ByteArray) :
    findD (withD (ds.getLastD []) (n, f)) k = if k = n then some f else findD (ds.getLastD []) k := findD_withD h.rise (x := (n, f)) (findD_not hf) k
end Go.Ev
end

section
set_option linter.unusedSimpArgs false
set_option linter.unusedVariables false
namespace Go.Sg
open Go.Den Go.Disk Go.Nm Go.Rec Go.Frame Go.Proofs.YtofllgbdphakiaaDoor
structure Lg where
  seg : Nat
  at_ : Nat
  most : Int
  dirty : Nat
  begun : Bool
def sgN (k : Nat) : ByteArray := nmB 109 k
def okS (k : Nat) : Bool := okN 109 k
theorem okS_iff {g : Nat} : okS g = true ↔ g < 10000000000 := by unfold okS okN kindN; simp
theorem sgN_ne {a b : Nat} (h : a ≠ b) : sgN a ≠ sgN b := fun e => h (nmB_inj e).2
theorem nameOf_S {k : Nat} (h : okS k = true) : nameOf 109 k = (sgN k, 0) := by unfold nameOf; rw [if_pos (show okN 109 k = true from h)]; rfl
theorem nameOf_noS {k : Nat} (h : okS k = false) : nameOf 109 k = (ByteArray.empty, 1) := by unfold nameOf; rw [if_neg (by rw [show okN 109 k = false from h]; decide)]
def mayL (seg : Nat) (most : Int) : Bool := decide (64 ≤ most) && decide (most ≤ 65536) && okS seg
def lgBegin (s : Dk) (seg : Nat) (most : Int) : Dk × Option Lg × Int :=
  if mayL seg most = true then (if (create s (sgN seg)).2 = 0 then ((create s (sgN seg)).1, some ⟨seg, 0, most, seg, true⟩, 0) else ((create s (sgN seg)).1, none, (create s (sgN seg)).2)) else (s, none, 1)
def lgOpen (s : Dk) (seg at_ : Nat) (most : Int) : Dk × Option Lg × Int :=
  if mayL seg most = true then
    (if (read s (sgN seg)).2 = 0 then
      (if (read s (sgN seg)).1.length < at_ then (s, none, 3)
       else if at_ < (read s (sgN seg)).1.length then
        (if (cut s (sgN seg) at_).2 = 0 then ((cut s (sgN seg) at_).1, some ⟨seg, at_, most, seg + 1, false⟩, 0) else ((cut s (sgN seg) at_).1, none, (cut s (sgN seg) at_).2))
       else (s, some ⟨seg, at_, most, seg + 1, false⟩, 0))
     else (s, none, (read s (sgN seg)).2))
  else (s, none, 1)
def lgTurn (s : Dk) (l : Lg) : Dk × Lg × Int :=
  if okS (l.seg + 1) = true then (if (create s (sgN (l.seg + 1))).2 = 0 then ((create s (sgN (l.seg + 1))).1, { l with seg := l.seg + 1, at_ := 0, begun := true }, 0) else ((create s (sgN (l.seg + 1))).1, l, (create s (sgN (l.seg + 1))).2)) else (s, l, 4)
def lgPut (s : Dk) (l : Lg) (b : List UInt8) : Dk × Lg × Nat × Nat × Int :=
  if (append s (sgN l.seg) b).2 = 0 then ((append s (sgN l.seg) b).1, { l with at_ := l.at_ + b.length, dirty := min l.dirty l.seg }, l.seg, l.at_, 0) else ((append s (sgN l.seg) b).1, l, 0, 0, (append s (sgN l.seg) b).2)
def lgB (s : Dk) (l : Lg) (b : List UInt8) : Dk × Lg × Nat × Nat × Int :=
  if 0 < l.at_ ∧ l.most < ((l.at_ + b.length : Nat) : Int) then
    (if (lgTurn s l).2.2 = 0 then lgPut (lgTurn s l).1 (lgTurn s l).2.1 b else ((lgTurn s l).1, (lgTurn s l).2.1, 0, 0, (lgTurn s l).2.2))
  else lgPut s l b
def lgAppend (s : Dk) (l : Lg) (k : Int) (ns : List Nat) (t : List UInt8) : Dk × Lg × Nat × Nat × Int :=
  if rightB k ns.length t.length = true then lgB s l (recB k.toNat ns t) else (s, l, 0, 0, 1)
def firstR (r : List Rc × List Nat × Int) : Rc × Nat × Int :=
  match r.1, r.2.1 with
  | x :: _, e :: _ => (x, e, 0)
  | _, _ => if r.2.2 = 0 then (zeroR, 0, 3) else (zeroR, 0, r.2.2)
def lgRead (s : Dk) (seg at_ : Nat) : Rc × Nat × Int :=
  if okS seg = true then
    (if (read s (sgN seg)).2 = 0 then (if (read s (sgN seg)).1.length < at_ then (zeroR, 0, 3) else firstR (recAll ((read s (sgN seg)).1.drop at_))) else (zeroR, 0, (read s (sgN seg)).2))
  else (zeroR, 0, 1)
def syncs : Nat → Nat → Dk → Dk × Int
  | 0, _, s => (s, 0)
  | n + 1, k, s => if (sync s (sgN k)).2 = 0 then syncs n (k + 1) (sync s (sgN k)).1 else sync s (sgN k)
theorem syncs_zero (k : Nat) (s : Dk) : syncs 0 k s = (s, 0) := rfl
theorem syncs_succ (n k : Nat) (s : Dk) : syncs (n + 1) k s = if (sync s (sgN k)).2 = 0 then syncs n (k + 1) (sync s (sgN k)).1 else sync s (sgN k) := rfl
def lgSync (s : Dk) (l : Lg) : Dk × Lg × Int :=
  let r := syncs (l.seg + 1 - l.dirty) l.dirty s
  if r.2 = 0 then
    (if l.begun = true then (if (dirsync r.1).2 = 0 then ((dirsync r.1).1, { l with dirty := l.seg + 1, begun := false }, 0) else ((dirsync r.1).1, l, (dirsync r.1).2))
     else (r.1, { l with dirty := l.seg + 1, begun := false }, 0))
  else (r.1, l, r.2)
structure LgOk (l : Lg) (m : Nat) : Prop where
  seg : okS l.seg = true
  lo : 64 ≤ l.most
  hi : l.most ≤ 65536
  dirty : l.dirty ≤ l.seg + 1
  at_ : l.at_ ≤ m
theorem LgOk.more {l : Lg} {m m' : Nat} (h : LgOk l m) (hm : m ≤ m') : LgOk l m' := ⟨h.seg, h.lo, h.hi, h.dirty, Nat.le_trans h.at_ hm⟩
theorem may_iff {seg : Nat} {most : Int} : mayL seg most = true ↔ okS seg = true ∧ 64 ≤ most ∧ most ≤ 65536 := by
  unfold mayL
  simp only [Bool.and_eq_true, decide_eq_true_eq]
  exact ⟨fun h => ⟨h.2, h.1⟩, fun h => ⟨h.2, h.1⟩⟩
theorem begin_lg {s : Dk} {seg : Nat} {most : Int} {l : Lg} (h : (lgBegin s seg most).2.1 = some l) : LgOk l 0 := by
  unfold lgBegin at h
  split at h
  · rename_i hm
    obtain ⟨h1, h2, h3⟩ := may_iff.1 hm
    split at h
    · cases h; exact ⟨h1, h2, h3, by simp, by simp⟩
    · cases h
  · cases h
theorem open_lg {s : Dk} {seg at_ : Nat} {most : Int} {l : Lg} (h : (lgOpen s seg at_ most).2.1 = some l) : LgOk l (read s (sgN seg)).1.length := by
  unfold lgOpen at h
  split at h
  · rename_i hm
    obtain ⟨h1, h2, h3⟩ := may_iff.1 hm
    split at h
    · split at h
      · cases h
      · split at h
        · split at h
          · cases h; exact ⟨h1, h2, h3, by simp, by simp only; omega⟩
          · cases h
        · cases h; exact ⟨h1, h2, h3, by simp, by simp only; omega⟩
    · cases h
  · cases h
theorem turn_ok {s : Dk} {l : Lg} {m : Nat} (h : LgOk l m) : LgOk (lgTurn s l).2.1 m := by
  have hd := h.dirty
  unfold lgTurn
  split
  · rename_i hs
    split
    · exact ⟨hs, h.lo, h.hi, by simp only; omega, by simp⟩
    · exact h
  · exact h
theorem put_ok {s : Dk} {l : Lg} {m : Nat} (h : LgOk l m) (b : List UInt8) : LgOk (lgPut s l b).2.1 (m + b.length) := by
  have hd := h.dirty
  have ha := h.at_
  unfold lgPut
  split
  · exact ⟨h.seg, h.lo, h.hi, by simp only; omega, by simp only; omega⟩
  · exact h.more (by omega)
theorem lgB_ok {s : Dk} {l : Lg} {m : Nat} (h : LgOk l m) (b : List UInt8) : LgOk (lgB s l b).2.1 (m + b.length) := by
  unfold lgB
  split
  · split
    · exact put_ok (turn_ok h) b
    · exact (turn_ok h).more (by omega)
  · exact put_ok h b
theorem recB_len {k : Int} {ns : List Nat} {t : List UInt8} (h : rightB k ns.length t.length = true) (hs : ∀ n ∈ ns, n < 18446744073709551616) : 11 ≤ (recB k.toNat ns t).length ∧ (recB k.toNat ns t).length ≤ 175 := by
  obtain ⟨h1, h2, h3, h4⟩ := right_known h
  have h' : rightB ((k.toNat : Nat) : Int) ns.length t.length = true := by rw [show ((k.toNat : Nat) : Int) = k by omega]; exact h
  have := body_small h' hs
  unfold recB
  rw [frB_len]
  unfold toFra
  simp only
  omega
theorem append_lg {s : Dk} {l : Lg} {m : Nat} (h : LgOk l m) (k : Int) (ns : List Nat) (t : List UInt8) (hs : ∀ n ∈ ns, n < 18446744073709551616) : LgOk (lgAppend s l k ns t).2.1 (m + 175) := by
  unfold lgAppend
  split
  · rename_i hr
    exact (lgB_ok h _).more (by have := (recB_len hr hs).2; omega)
  · exact h.more (by omega)
theorem sync_lg {s : Dk} {l : Lg} {m : Nat} (h : LgOk l m) : LgOk (lgSync s l).2.1 m := by
  have hd := h.dirty
  unfold lgSync
  simp only
  split
  · split
    · split
      · exact ⟨h.seg, h.lo, h.hi, by simp, h.at_⟩
      · exact h
    · exact ⟨h.seg, h.lo, h.hi, by simp, h.at_⟩
  · exact h
theorem inv_syncs : ∀ (n k : Nat) {s : Dk}, Inv s → Inv (syncs n k s).1
  | 0, _, s, h => h
  | n + 1, k, s, h => by
    unfold syncs
    split
    · exact inv_syncs n (k + 1) (inv_sync h _)
    · exact inv_sync h _
theorem sync_same' (s : Dk) (n : ByteArray) : (sync s n).1.dirs.length = s.dirs.length ∧ (sync s n).1.files.length = s.files.length := by
  obtain ⟨k1, k2, k3⟩ := can_keep s (there s n)
  simp only [sync, setF]; split <;> simp [k1, k2]
theorem syncs_same : ∀ (n k : Nat) (s : Dk), (syncs n k s).1.dirs.length = s.dirs.length ∧ (syncs n k s).1.files.length = s.files.length
  | 0, _, _ => ⟨rfl, rfl⟩
  | n + 1, k, s => by
    unfold syncs
    have h := sync_same' s (sgN k)
    split
    · have h2 := syncs_same n (k + 1) (sync s (sgN k)).1
      omega
    · exact h
theorem inv_lgBegin {s : Dk} (h : Inv s) (seg : Nat) (most : Int) : Inv (lgBegin s seg most).1 := by
  unfold lgBegin
  split
  · split <;> exact inv_create h _
  · exact h
theorem inv_lgOpen {s : Dk} (h : Inv s) (seg at_ : Nat) (most : Int) : Inv (lgOpen s seg at_ most).1 := by
  unfold lgOpen
  split
  · split
    · split
      · exact h
      · split
        · split <;> exact inv_cut h _ _
        · exact h
    · exact h
  · exact h
theorem inv_turn {s : Dk} (h : Inv s) (l : Lg) : Inv (lgTurn s l).1 := by
  unfold lgTurn
  split
  · split <;> exact inv_create h _
  · exact h
theorem inv_put {s : Dk} (h : Inv s) (l : Lg) (b : List UInt8) : Inv (lgPut s l b).1 := by
  unfold lgPut
  split <;> exact inv_append h _ _
theorem inv_lgB {s : Dk} (h : Inv s) (l : Lg) (b : List UInt8) : Inv (lgB s l b).1 := by
  unfold lgB
  split
  · split
    · exact inv_put (inv_turn h l) _ b
    · exact inv_turn h l
  · exact inv_put h l b
theorem inv_lgAppend {s : Dk} (h : Inv s) (l : Lg) (k : Int) (ns : List Nat) (t : List UInt8) : Inv (lgAppend s l k ns t).1 := by
  unfold lgAppend
  split
  · exact inv_lgB h l _
  · exact h
theorem inv_lgSync {s : Dk} (h : Inv s) (l : Lg) : Inv (lgSync s l).1 := by
  have hs := inv_syncs (l.seg + 1 - l.dirty) l.dirty h
  unfold lgSync
  simp only
  split
  · split
    · split <;> exact inv_dirsync hs
    · exact hs
  · exact hs
end Go.Sg
end

section
namespace Go.Proofs.YtofllgbdphakiaaDoor
open Go.Den Go.Disk Go.Vint Go.Crc Go.Frame Go.Rec
def txB (l : List UInt8) : ByteArray := ⟨l.toArray⟩
def encRc (x : Int × SV × ByteArray) : List Value := [.int .i64 x.1, x.2.1.v, .string x.2.2]
theorem encRc_len (x : Int × SV × ByteArray) : (encRc x).length = 3 := rfl
theorem encRc_one (x : Int × SV × ByteArray) : ∀ u ∈ encRc x, u.oneCell' = true := by intro u hu; simp [encRc] at hu; rcases hu with rfl | rfl | rfl <;> rfl
def encO (x : Nat) : List Value := [.int .i64 (x : Int)]
theorem encO_len (x : Nat) : (encO x).length = 1 := rfl
theorem encO_one (x : Nat) : ∀ u ∈ encO x, u.oneCell' = true := by intro u hu; simp [encO] at hu; subst hu; rfl
theorem flat_encB (l : List UInt8) : flat encB l = l.map fun b => Value.int .u8 (b.toNat : Int) := by
  induction l with
  | nil => rfl
  | cons a l ih => simp [flat, encB] at *; exact ih
theorem str_src (w : World) (s : ByteArray) : cellsOfArg w 1 (.string s) = some (flat encB s.data.toList, s.data.toList.length) := by
  rw [flat_encB]
  show some _ = _
  congr 2
theorem intsOf_u8 (l : List UInt8) : intsOf .u8 (l.map fun b => Value.int .u8 (b.toNat : Int)) = some (l.map fun b => (b.toNat : Int)) := by
  induction l with
  | nil => rfl
  | cons a l ih => simp [intsOf, ih]
theorem text_fold : ∀ (l : List UInt8) (r : ByteArray), (l.map fun b => (b.toNat : Int)).foldl (fun r n => r.push (UInt8.ofNat n.toNat)) r = ⟨r.data ++ l.toArray⟩
  | [], r => by simp
  | a :: l, r => by
    simp only [List.map_cons, List.foldl_cons]
    rw [text_fold l]
    apply ByteArray.ext
    simp [ByteArray.push]
theorem textB {w : World} {v : Value} {bs : List UInt8} (h : Arr encB 1 w v bs) : textv .u8 textOfBytes w v = some (.string (txB bs)) := by
  have hs := h.src encB_len (by omega)
  obtain ⟨a, c, rfl, h2⟩ := h
  cases a with
  | none =>
    rcases h2 with rfl | ⟨b, o, cs, T, fz, e, _⟩
    · rfl
    · cases e
  | some a =>
    simp only [cellsOfArg, Nat.mul_one, Option.map_eq_some_iff, Prod.mk.injEq] at hs
    obtain ⟨vs, h1, rfl, _⟩ := hs
    simp only [textv, h1, Option.bind_some, flat_encB, intsOf_u8, Option.map_some]
    congr 2
    unfold textOfBytes
    rw [text_fold]
    apply ByteArray.ext
    simp [txB]
def manyV : List Value := manyL.map fun n : Nat => .int .i64 (n : Int)
theorem many_at {k : Nat} (h : k < 18) : indexav false 18 1 (.agg manyV.toArray) (.int .i64 (k : Int)) = some (.int .i64 ((manyOf k : Nat) : Int)) := by
  simp only [indexav]
  rw [if_pos ⟨by omega, by omega⟩]
  have e : manyV[k]? = some (.int .i64 ((manyOf k : Nat) : Int)) := by
    have hl : k < manyL.length := h
    unfold manyV manyOf
    rw [List.getElem?_map, List.getD_eq_getElem?_getD, List.getElem?_eq_getElem hl]
    rfl
  simpa using e
set_option linter.unusedSimpArgs false
set_option linter.unusedVariables false
set_option maxRecDepth 20000
set_option maxHeartbeats 4000000
attribute [local congr] BND_cg COND_cg GEF_cg
attribute [local irreducible] capl slicea load1 loadn iaddr iaddra faddr storev newslice binv lookv mupd mdel mlenv mentry mestore slicev slicev3 slices indexs indexav textv rangev nexts clearv shiftv eqaggv convi buildv pickv lens lenl unv nilchk extractv partn JOIN
section
variable {w : World} {R : Value → World → Prop}
theorem rec_known (k : Int) (hR : R (.bool (knownB k)) w) : CALL PR F_record_known [.int .i64 k] w R := by
  refine C_record_known ?_
  unfold M_record_known
  unfold knownB at hR
  by_cases h1 : 1 ≤ k
  · (repeat refine gg ?_)
    rw [decide_eq_true h1, Bool.true_and] at hR
    exact hR
  · (repeat refine gg ?_)
    rw [decide_eq_false h1, Bool.false_and] at hR
    exact hR
theorem rec_worded (k : Int) (hR : R (.bool (wordedB k)) w) : CALL PR F_record_worded [.int .i64 k] w R := by
  refine C_record_worded ?_
  unfold M_record_worded
  unfold wordedB at hR
  by_cases h1 : k = 10
  · (repeat refine gg ?_)
    simpa [h1] using hR
  · by_cases h2 : k = 11
    · (repeat refine gg ?_)
      simpa [h1, h2] using hR
    · (repeat refine gg ?_)
      simpa [h1, h2] using hR
theorem rec_fits (k : Int) (m : Nat) (hR : R (.bool (fitsB k m)) w) : CALL PR F_record_fits [.int .i64 k, .int .i64 (m : Int)] w R := by
  refine C_record_fits ?_
  unfold M_record_fits
  unfold fitsB at hR
  by_cases h1 : (m : Int) = 0
  · (repeat refine gg ?_)
    rw [decide_eq_true (show m = 0 by omega), Bool.true_or] at hR
    exact hR
  · rw [decide_eq_false (show ¬ m = 0 by omega), Bool.false_or] at hR
    (repeat refine gg ?_)
    refine rec_worded k ?_
    cases hw : wordedB k with
    | true =>
      rw [hw, Bool.true_and] at hR
      (repeat refine gg ?_)
      have e : decide ((m : Int) ≤ 64) = decide (m ≤ 64) := by rw [decide_eq_decide]; omega
      rw [e]
      exact hR
    | false =>
      rw [hw, Bool.false_and] at hR
      (repeat refine gg ?_)
      exact hR
theorem rec_numbers (hR : ∀ w', Fr [] w w' → R (.agg manyV.toArray) w') : CALL PR F_record_numbers [] w R := by
  refine C_record_numbers ?_
  unfold M_record_numbers
  refine NEW_intro fun w1 b1 f1 z1 => ?_
  (repeat (first | refine gg ?_ | (apply BND_build (manyV); exact rfl)))
  refine put_step (n := 18) (vs := manyV) b1 (by simp [Value.cells]) rfl (by intro u hu; obtain ⟨_, _, rfl⟩ := List.mem_map.1 hu; rfl) (by simp [manyV, manyL]) fun w2 b2 f2 _ => ?_
  (repeat (first | refine BND_step (loadn_all' b2 rfl) ?_ | refine gg ?_))
  exact hR _ (f1.trans f2 (by simp))
theorem rec_Right {nv : SV} {ns : List Nat} (k : Int) (t : ByteArray) (hn : Arr encU 1 w nv.v ns) (hR : ∀ w', Fr [] w w' → R (.bool (rightB k ns.length t.size)) w') : CALL PR F_record_Right [.agg (encRc (k, nv, t)).toArray] w R := by
  refine C_record_Right ?_
  unfold M_record_Right
  refine NEW_intro fun w1 b1 f1 z1 => ?_
  replace b1 : blk w1.drew (hsz w) = some (.cells (encRc (k, nv, t)).toArray 26 (0, 0)) := b1
  have f1d := f1.trans' (Fr.drew [] w1)
  unfold rightB at hR
  refine ⟨fun _ w' => blk w' (hsz w) = some (.cells (encRc (k, nv, t)).toArray 26 (0, 0)), b1, b1, ?_⟩
  (repeat refine gg ?_)
  refine rec_known k ?_
  refine ⟨b1, b1, ?_⟩
  cases hk : knownB k with
  | false =>
    rw [hk, Bool.false_and, Bool.false_and] at hR
    (repeat refine gg ?_)
    refine ⟨undef, fun _ _ => rfl, ?_⟩
    (repeat refine gg ?_)
    refine ⟨undef, fun _ _ => rfl, ?_⟩
    (repeat refine gg ?_)
    refine ⟨b1, b1, ?_⟩
    (repeat refine gg ?_)
    exact hR _ f1d
  | true =>
    rw [hk, Bool.true_and] at hR
    obtain ⟨hk1, hk2⟩ : 1 ≤ k ∧ k ≤ 17 := by unfold knownB at hk; simpa using hk
    obtain ⟨kn, rfl⟩ : ∃ kn : Nat, k = (kn : Int) := ⟨k.toNat, by omega⟩
    (repeat (first | refine BND_step hn.len ?_ | refine gg ?_))
    refine rec_numbers fun w3 f3 => ?_
    have b3 := f3.some (by simp) b1
    refine ⟨b3, b3, ?_⟩
    (repeat (first | refine BND_step (many_at (k := kn) (by omega)) ?_ | refine gg ?_))
    have e : decide ((ns.length : Int) = ((manyOf kn : Nat) : Int)) = decide (ns.length = manyOf (kn : Int).toNat) := by rw [decide_eq_decide]; simp; omega
    rw [e]
    by_cases hm : ns.length = manyOf (kn : Int).toNat
    · rw [decide_eq_true hm, Bool.true_and] at hR
      rw [decide_eq_true hm]
      (repeat refine gg ?_)
      refine rec_fits _ _ ?_
      (repeat refine gg ?_)
      exact hR _ (f1d.trans' f3)
    · rw [decide_eq_false hm, Bool.false_and] at hR
      rw [decide_eq_false hm]
      (repeat refine gg ?_)
      exact hR _ (f1d.trans' f3)
theorem rec_Bytes {nv : SV} {ns : List Nat} (k : Int) (t : ByteArray) (hn : Arr encU 1 w nv.v ns) (hs : ∀ n ∈ ns, n < 18446744073709551616) (hR0 : ∀ w', rightB k ns.length t.size = false → Fr [] w w' → R (.tuple #[.slice none 0 0, .int .i64 1]) w')
    (hR : ∀ w' v G, rightB k ns.length t.size = true → Slc encB 1 w' v (recB k.toNat ns t.data.toList) G → (∀ b ∈ G, hsz w ≤ b) → Fr [] w w' → R (.tuple #[v, .int .i64 0]) w') : CALL PR F_record_Bytes [.agg (encRc (k, nv, t)).toArray] w R := by
  refine C_record_Bytes ?_
  unfold M_record_Bytes
  have htl : t.data.toList.length = t.size := Array.length_toList
  refine NEW_intro fun w1 b1 f1 z1 => ?_
  replace b1 : blk w1 (hsz w) = some (.cells (encRc (k, nv, t)).toArray 26 (0, 0)) := b1
  (repeat (first | refine BND_step (loadn_all' b1 rfl) ?_ | refine gg ?_))
  refine rec_Right k t (hn.fr f1 (by simp)) fun w2 f2 => ?_
  have f02 := f1.trans' f2
  have b2 := f2.some (by simp) b1
  replace b2 : blk w2.drew (hsz w) = some (.cells (encRc (k, nv, t)).toArray 26 (0, 0)) := b2
  cases hr : rightB k ns.length t.size with
  | false =>
    (repeat refine gg ?_)
    exact hR0 _ hr f02
  | true =>
    obtain ⟨hk1, hk2, hm, hf⟩ := right_known hr
    have hsm := body_small (t := t.data.toList) (by rw [htl]; exact hr) hs
    obtain ⟨kn, rfl⟩ : ∃ kn : Nat, k = (kn : Int) := ⟨k.toNat, by omega⟩
    have f02d := f02.trans' (Fr.drew [] w2)
    (repeat refine gg ?_)
    refine ⟨fun _ w' => blk w' (hsz w) = some (.cells (encRc ((kn : Int), nv, t)).toArray 26 (0, 0)), b2, b2, ?_⟩
    have e8 := conv8i kn
    rw [Nat.mod_eq_of_lt (show kn < 256 by omega)] at e8
    have ek : ((kn : Nat) : Int) = ((UInt8.ofNat kn).toNat : Int) := by rw [ofNat_toNat (by omega)]
    (repeat refine gg ?_)
    refine vint_All (hn.fr f02d (by simp)) hs (by have := manyOf_le (kn : Int).toNat; omega) fun w3 v3 G3 s3 g3 f3 => ?_
    have b3 := f3.some (by simp) b2
    refine ⟨b3, b3, ?_⟩
    have hlb : (ns.flatMap layV).length + t.data.toList.length = (bodyOf_ ns t.data.toList).length := by unfold bodyOf_; rw [List.length_append]
    refine APPEND_slc s3 (str_src w3 t) encB_len encB_one rfl (by omega) (by omega) fun v4 w4 G4 s4 f4 sub4 => ?_
    have e2 : hsz w2.drew = hsz w2 := rfl
    have gr2 := f02.grow
    have gr3 := f3.grow
    have b4 := f4.some (fun hb => by have := g3 _ hb; have := blk_lt b2; omega) b3
    refine ⟨b4, ?_⟩
    obtain ⟨x4, rfl⟩ := slc_sv s4
    (repeat (first | refine gg ?_ | (apply BND_build ([.int .u8 (kn : Int), x4.v]); exact rfl)))
    rw [show ([Value.int .u8 (kn : Int), x4.v] : List Value) = encFr (UInt8.ofNat kn, x4) by unfold encFr; rw [← ek]]
    have f24 : Fr [] w2.drew w4 := f3.trans f4 fun b hb => .inr (g3 b hb)
    refine frame_Bytes (body := bodyOf_ ns t.data.toList) s4.arr (by omega) (fun w5 h5 _ => by omega) fun w5 v5 G5 _ s5 g5 f5 => ?_
    (repeat refine gg ?_)
    refine hR _ _ G5 hr s5 (fun b hb => ?_) ((f02d.trans' f24).trans' f5)
    have := g5 b hb; have := f24.grow; omega
end
end Go.Proofs.YtofllgbdphakiaaDoor
end

section
namespace Go.Proofs.YtofllgbdphakiaaDoor
open Go.Den Go.Nm Go.Disk Go.Crc Go.Frame Go.Rec
def encC (b : UInt8) : Value := .int .u8 (b.toNat : Int)
theorem slicea_upto {len b k : Nat} (h : k ≤ len) : slicea len 1 (.pointer (some ⟨b, 0, none⟩)) none (some (.int .i64 (k : Int))) none = some (.slice (some ⟨b, 0, none⟩) k len) := by
  unfold slicea
  simp only [natOf]
  simp [h]
  intro _
  simp [Addr.add]
theorem putRow_blk {w : World} {b n : Nat} {c : Array Value} {T : Nat} (dk : Array UInt8) (h : blk w b = some (.cells c T (0, 0))) :
    blk ((Go.Sort.putRow encC w b 0 dk).drewN n) b = some (.cells (Go.Sort.putCells encC 0 dk c) T (0, 0)) ∧ (∀ i, i ≠ b → blk ((Go.Sort.putRow encC w b 0 dk).drewN n) i = blk w i) ∧ Fr [b] w ((Go.Sort.putRow encC w b 0 dk).drewN n) := by
  have h' : w.heap[b]? = some (.cells c T (0, 0)) := h
  have hh : ((Go.Sort.putRow encC w b 0 dk).drewN n).heap = w.heap.modify b (Go.Sort.onCells (Go.Sort.putCells encC 0 dk)) := rfl
  have h2 : ∀ i, i ≠ b → blk ((Go.Sort.putRow encC w b 0 dk).drewN n) i = blk w i := fun i hi => by
    unfold blk
    rw [hh, Array.getElem?_modify]
    rw [if_neg (fun e => hi e.symm)]
  refine ⟨?_, h2, ?_⟩
  · unfold blk
    rw [hh, Array.getElem?_modify, if_pos rfl, h']
    rfl
  · exact ⟨by unfold hsz; rw [hh]; simp, fun i _ hi => h2 i (by simpa using hi), rfl, rfl, rfl⟩
theorem conv32 (k : UInt8) : convi .i32 (.int .u8 (k.toNat : Int)) = some (.int .i32 (k.toNat : Int)) := by
  have := k.toNat_lt
  have e : ((k.toNat : Int) + 2147483648) % 4294967296 - 2147483648 = k.toNat := by omega
  simp only [convi]
  rw [IntKind.wrap_i32, e]
theorem cat_ {x y : ByteArray} (h : x.size + y.size < 1000000) : binv .str .add (.string x) (.string y) = some (.string (x ++ y)) := by
  have e : binv .str .add (.string x) (.string y) = bins .add x y := rfl
  have m : IntKind.i64.max = 9223372036854775807 := by decide
  rw [e]
  unfold bins
  simp only
  rw [m, if_neg (by omega)]
theorem arr_size (l : List UInt8) : (ByteArray.mk l.toArray).size = l.length := by show l.toArray.size = _; simp
set_option linter.unusedSimpArgs false
set_option linter.unusedVariables false
set_option maxRecDepth 20000
set_option maxHeartbeats 4000000
attribute [local congr] BND_cg COND_cg GEF_cg
attribute [local irreducible] capl slicea load1 loadn iaddr iaddra faddr storev newslice binv lookv mupd mdel mlenv mentry mestore slicev slicev3 slices indexs indexav textv rangev nexts clearv shiftv eqaggv convi buildv pickv lens lenl unv nilchk extractv partn JOIN
section
variable {w : World} {R : Value → World → Prop}
theorem st_small (i : Nat) (h : i < 100) (hR : R (.string ⟨(Lib.decDigits i).toArray⟩) w) : CALL PR F_internal_strconv_small [.int .i64 i] w R :=
  ⟨(Tryd.internal_strconv_small i h w).mono fun e w1 ⟨he, hw⟩ => ⟨_, he, by rw [hw]; exact hR⟩⟩
theorem st_digits (hT : Tab w) (u : Nat) (h1 : 1 ≤ u) (h2 : u < 18446744073709551616) (hR : R (.int .i64 (Lib.nDigits u)) w) : CALL PR F_internal_strconv_numDigits [.int .u64 u] w R :=
  ⟨(Tryd.internal_strconv_numDigits u h1 h2 w hT.is).mono fun e w1 ⟨he, hw⟩ => ⟨_, he, by rw [hw]; exact hR⟩⟩
theorem st_index (s : ByteArray) (c : Int) (hR : R (.int .i64 (Lib.indexByte s.data.toList c.toNat.toUInt8)) w) : CALL PR F_strings_IndexByte [.string s, .int .u8 c] w R :=
  ⟨(Tryd.strings_IndexByte s c w).mono fun e w1 ⟨he, hw⟩ => ⟨_, he, by rw [hw]; exact hR⟩⟩
theorem st_base {b T cap u nd : Nat} {c : Array Value} (hb : blk w b = some (.cells c T (0, 0))) (hc : ∀ j, j < nd → c[j]? = some (.int .u8 0)) (hu : u < 10 ^ nd) (hu64 : u < 18446744073709551616) (hnd : nd < 1000)
    (hR : ∀ w' (dk : Array UInt8) v, blk w' b = some (.cells (Go.Sort.putCells encC 0 dk c) T (0, 0)) → Lib.FmtInv nd u 0 v dk → Fr [b] w w' → R (.tuple #[]) w') :
    CALL PR F_internal_strconv_formatBase10 [.slice (some ⟨b, 0, none⟩) nd cap, .int .u64 u] w R := by
  have hs : (Array.replicate nd (0 : UInt8)).size = nd := Array.size_replicate
  have hh : Go.Sort.Holds (fun (b : UInt8) => Value.int .u8 (b.toNat : Int)) w b 0 (Array.replicate nd (0 : UInt8)) := fun j hj => by
    rw [hs] at hj
    refine ⟨?_, ?_⟩
    · rw [cell?_blk hb, Nat.zero_add, hc j hj, getElem!_pos _ j (by rw [hs]; exact hj)]
      simp
    · have h' : w.heap[b]? = some (.cells c T (0, 0)) := hb
      simp [World.frozen?, h']
  have := Tryd.internal_strconv_formatBase10 b 0 cap u (Array.replicate nd (0 : UInt8)) w hh (by rw [hs]; exact hu) hu64 (by rw [hs]; omega)
  rw [hs] at this
  refine ⟨this.mono fun e w1 ⟨he, n, v, dk, hw, hI⟩ => ⟨_, he, ?_⟩⟩
  obtain ⟨q1, _, q3⟩ := putRow_blk (n := n) dk hb
  rw [hw]
  exact hR _ dk v q1 hI q3
theorem st_FormatUint (hT : Tab w) (u : Nat) (hu : u < 18446744073709551616) (hR : ∀ w', Fr [] w w' → R (.string ⟨(Lib.decDigits u).toArray⟩) w') : CALL PR F_strconv_FormatUint [.int .u64 u, .int .i64 10] w R := by
  refine C_strconv_FormatUint ?_
  unfold M_strconv_FormatUint
  refine C_internal_strconv_FormatUint ?_
  unfold M_internal_strconv_FormatUint
  (repeat (first | refine stp ?_ | (apply BND_inc; omega) | (apply BND_dec; omega) | refine BND_step (rfl : some _ = some _) ?_ | (apply cyes; first | assumption | omega) | (apply cno; first | assumption | omega) | refine (COND_true _ _).2 ?_ | refine (COND_false _ _).2 ?_ | simp (disch := first | assumption | omega) only [gs1, gs2, decide_true, decide_false, eq_self, beq_self_eq_true, Bool.not_true, Bool.not_false]))
  by_cases h1 : u < 100
  · (repeat (first | refine BND_step (convi64 (k := .u64) (x := u) (by omega)) ?_ | refine stp ?_ | (apply BND_inc; omega) | (apply BND_dec; omega) | refine BND_step (rfl : some _ = some _) ?_ | (apply cyes; first | assumption | omega) | (apply cno; first | assumption | omega) | refine (COND_true _ _).2 ?_ | refine (COND_false _ _).2 ?_ | simp (disch := first | assumption | omega) only [gs1, gs2, decide_true, decide_false, eq_self, beq_self_eq_true, Bool.not_true, Bool.not_false]))
    refine st_small u h1 ?_
    exact hR _ (Fr.refl _ _)
  · (repeat (first | refine stp ?_ | (apply BND_inc; omega) | (apply BND_dec; omega) | refine BND_step (rfl : some _ = some _) ?_ | (apply cyes; first | assumption | omega) | (apply cno; first | assumption | omega) | refine (COND_true _ _).2 ?_ | refine (COND_false _ _).2 ?_ | simp (disch := first | assumption | omega) only [gs1, gs2, decide_true, decide_false, eq_self, beq_self_eq_true, Bool.not_true, Bool.not_false]))
    refine NEW_intro fun w1 b1 f1 z1 => ?_
    have hnd := Lib.numDigits_eq u (by omega) hu
    have h20 : Lib.nDigits u ≤ 20 := by split at hnd <;> omega
    refine st_digits (hT.fr f1) u (by omega) hu ?_
    have hlt : u < 10 ^ Lib.nDigits u := by
      have := Lib.lt_pow_nDigits u
      exact this
    (repeat (first | refine BND_step (slicea_upto (len := 24) (b := hsz w) (k := Lib.nDigits u) (by omega)) ?_ | refine stp ?_ | (apply BND_inc; omega) | (apply BND_dec; omega) | refine BND_step (rfl : some _ = some _) ?_ | (apply cyes; first | assumption | omega) | (apply cno; first | assumption | omega) | refine (COND_true _ _).2 ?_ | refine (COND_false _ _).2 ?_ | simp (disch := first | assumption | omega) only [gs1, gs2, decide_true, decide_false, eq_self, beq_self_eq_true, Bool.not_true, Bool.not_false]))
    replace b1 : blk w1 (hsz w) = some (.cells (Array.replicate 24 (.int .u8 0)) 119 (0, 0)) := b1
    refine st_base b1 (fun j hj => ?_) hlt hu (by omega) fun w2 dk v b2 hI f2 => ?_
    · rw [Array.getElem?_replicate, if_pos (by omega)]
    · have ar : Arr encB 1 w2 (.slice (some ⟨hsz w, 0, none⟩) (Lib.nDigits u) 24) (Lib.decDigits u) := by
        refine ⟨_, 24, by rw [Lib.decDigits_length], .inr ⟨hsz w, 0, _, _, _, rfl, b2, fun i x hx => ?_⟩⟩
        have hi := (List.getElem?_eq_some_iff.1 hx).1
        have hx' := (List.getElem?_eq_some_iff.1 hx).2
        have hl := Lib.decDigits_length u
        have hsz' : (Go.Sort.putCells encC 0 dk (Array.replicate 24 (.int .u8 0))).size = 24 := by simp [Go.Sort.putCells]
        refine ⟨by omega, fun j hj => ?_⟩
        obtain rfl : j = 0 := by omega
        have hd := hI.size
        have hr := Lib.row_is_numeral hI i (by omega)
        rw [Array.getElem?_eq_getElem (by omega)]
        simp only [Go.Sort.putCells, Array.getElem_mapIdx, Nat.zero_add, Nat.mul_one, Nat.add_zero, Nat.zero_le, true_and, Nat.sub_zero]
        rw [if_pos (by omega), ← hr, hx']
        rfl
      (repeat (first | refine BND_step (slicea_upto (len := 24) (b := hsz w) (k := Lib.nDigits u) (by omega)) ?_ | refine BND_step (textB ar) ?_ | refine stp ?_ | (apply BND_inc; omega) | (apply BND_dec; omega) | refine BND_step (rfl : some _ = some _) ?_ | (apply cyes; first | assumption | omega) | (apply cno; first | assumption | omega) | refine (COND_true _ _).2 ?_ | refine (COND_false _ _).2 ?_ | simp (disch := first | assumption | omega) only [gs1, gs2, decide_true, decide_false, eq_self, beq_self_eq_true, Bool.not_true, Bool.not_false]))
      refine hR _ (f1.trans f2 fun b hb => .inr (by simp at hb; omega))
theorem idx_kinds (k : UInt8) : (Lib.indexByte [109, 101, 115] k < 0) ↔ kindN k = false := by
  unfold kindN
  by_cases h1 : k = 109
  · subst h1; decide
  · by_cases h2 : k = 101
    · subst h2; decide
    · by_cases h3 : k = 115
      · subst h3; decide
      · have e : Lib.indexByte [109, 101, 115] k = -1 := by
          have a1 : ((109 : UInt8) == k) = false := by simpa using fun e => h1 e.symm
          have a2 : ((101 : UInt8) == k) = false := by simpa using fun e => h2 e.symm
          have a3 : ((115 : UInt8) == k) = false := by simpa using fun e => h3 e.symm
          simp [Lib.indexByte, a1, a2, a3]
        rw [e]
        simp [h1, h2, h3]
theorem rune_kind {k : UInt8} (h : kindN k = true) : runev (.int .i32 (k.toNat : Int)) = some (.string ⟨#[k]⟩) := by
  unfold kindN at h
  simp only [Bool.or_eq_true, decide_eq_true_eq] at h
  rcases h with (rfl | rfl) | rfl
  · exact congrArg (fun x => some (Value.string x)) (by decide +kernel : Utf8.encode ((109 : UInt8).toNat : Int) = ⟨#[109]⟩)
  · exact congrArg (fun x => some (Value.string x)) (by decide +kernel : Utf8.encode ((101 : UInt8).toNat : Int) = ⟨#[101]⟩)
  · exact congrArg (fun x => some (Value.string x)) (by decide +kernel : Utf8.encode ((115 : UInt8).toNat : Int) = ⟨#[115]⟩)
theorem name_Of (hT : Tab w) (k : UInt8) (n : Nat) (hn : n < 18446744073709551616) (hR : ∀ w', Fr [] w w' → R (.tuple #[.string (nameOf k n).1, .int .i64 (nameOf k n).2]) w') : CALL PR F_name_Of [.int .u8 (k.toNat : Int), .int .u64 (n : Int)] w R := by
  refine C_name_Of ?_
  unfold M_name_Of
  refine st_index _ _ ?_
  have hk : ((k.toNat : Int)).toNat.toUInt8 = k := by simp
  rw [hk]
  have hi := idx_kinds k
  unfold nameOf okN at hR
  generalize hx : Lib.indexByte (ByteArray.data ⟨#[109, 101, 115]⟩).toList k = x at *
  obtain ⟨L, hL⟩ : ∃ L : Int, L = 10000000000 := ⟨_, rfl⟩
  rw [← hL]
  cases hb : kindN k with
  | false =>
    have := hi.2 hb
    rw [hb] at hR
    (repeat (first | refine stp ?_ | (apply BND_inc; omega) | (apply BND_dec; omega) | refine BND_step (rfl : some _ = some _) ?_ | (apply cyes; first | assumption | omega) | (apply cno; first | assumption | omega) | refine (COND_true _ _).2 ?_ | refine (COND_false _ _).2 ?_ | simp (disch := first | assumption | omega) only [gs1, gs2, decide_true, decide_false, eq_self, beq_self_eq_true, Bool.not_true, Bool.not_false]))
    exact hR _ (Fr.refl _ _)
  | true =>
    have : ¬ x < 0 := fun h => by rw [hi.1 h] at hb; cases hb
    rw [hb] at hR
    by_cases hm : (n : Int) < L
    · have ec1 := cat_ (x := ⟨#[k]⟩) (y := ⟨#[46]⟩) (by show 1 + 1 < 1000000; omega)
      (repeat (first | refine BND_step (conv32 k) ?_ | refine BND_step (rune_kind hb) ?_ | refine BND_step ec1 ?_ | refine stp ?_ | (apply BND_inc; omega) | (apply BND_dec; omega) | refine BND_step (rfl : some _ = some _) ?_ | (apply cyes; first | assumption | omega) | (apply cno; first | assumption | omega) | refine (COND_true _ _).2 ?_ | refine (COND_false _ _).2 ?_ | simp (disch := first | assumption | omega) only [gs1, gs2, decide_true, decide_false, eq_self, beq_self_eq_true, Bool.not_true, Bool.not_false]))
      refine st_FormatUint hT n hn fun w2 f2 => ?_
      have hsz9 := (dec_len 19 n (by omega)).1
      have ec := cat_ (x := ⟨#[k]⟩ ++ ⟨#[46]⟩) (y := ⟨(Lib.decDigits n).toArray⟩) (by rw [ByteArray.size_append, arr_size (Lib.decDigits n)]; show 1 + 1 + _ < 1000000; omega)
      (repeat (first | refine BND_step ec ?_ | refine stp ?_ | (apply BND_inc; omega) | (apply BND_dec; omega) | refine BND_step (rfl : some _ = some _) ?_ | (apply cyes; first | assumption | omega) | (apply cno; first | assumption | omega) | refine (COND_true _ _).2 ?_ | refine (COND_false _ _).2 ?_ | simp (disch := first | assumption | omega) only [gs1, gs2, decide_true, decide_false, eq_self, beq_self_eq_true, Bool.not_true, Bool.not_false]))
      rw [decide_eq_true (show n < 10000000000 by omega)] at hR
      have e : (ByteArray.mk #[k] ++ ByteArray.mk #[46]) ++ ByteArray.mk (Lib.decDigits n).toArray = nmB k n := by
        refine ByteArray.ext (Array.ext' ?_)
        simp [nmB, nmL]
      have := hR w2 f2
      simp only [Bool.and_true, if_true] at this
      rw [← e] at this
      exact this
    · (repeat (first | refine stp ?_ | (apply BND_inc; omega) | (apply BND_dec; omega) | refine BND_step (rfl : some _ = some _) ?_ | (apply cyes; first | assumption | omega) | (apply cno; first | assumption | omega) | refine (COND_true _ _).2 ?_ | refine (COND_false _ _).2 ?_ | simp (disch := first | assumption | omega) only [gs1, gs2, decide_true, decide_false, eq_self, beq_self_eq_true, Bool.not_true, Bool.not_false]))
      rw [decide_eq_false (show ¬ n < 10000000000 by omega)] at hR
      exact hR _ (Fr.refl _ _)
end
end Go.Proofs.YtofllgbdphakiaaDoor
end

section
namespace Go.Proofs.YtofllgbdphakiaaDoor
open Go.Den Go.Disk
theorem newB_step (xs : List UInt8) {E n : Nat} {zero : Array Value} {ps : List (Nat × Nat × Value)} {w : World} {k : Value → World → Prop} (hn : n = xs.length) (hp : ps = partsAt 1 (fun x : UInt8 => Value.int .u8 (x.toNat : Int)) 0 xs)
    (h : ∀ t w1, Slc encB 1 w1 t xs [hsz w] → Fr [] w w1 → hsz w1 = hsz w + 1 → k t w1) : BND (newslice E zero 1 n ps w) fun p => NEW p k := newparts_step encB_len (fun _ => rfl) xs hn hp h
theorem At.re2 {w0 w w' : World} {F0 : List Nat} {P : HP} (h : At w0 F0 P w) (f : Fr [] w w') : ∃ A, At w' A P w' ∧ (∀ b ∈ A, b < hsz w) ∧ ∀ w2 P', At w' A P' w2 → At w0 F0 P' w2 := by
  obtain ⟨F, h1, h2, h3⟩ := h
  have f' : Fr F0 w0 w' := h3.trans' f.nil
  have gr := f'.grow
  refine ⟨F, At.start (P.fr h1 f (by simp)), P.lt h1, fun w2 P' ⟨F', p1, p2, p3⟩ => ⟨F', p1, fun b hb => ?_, f'.trans p3 h2⟩⟩
  rcases p2 b hb with hb | hb
  · exact h2 b hb
  · exact .inr (by omega)
theorem mkB (n : Nat) (hn : n ≤ 1000000) (E : Nat) (w : World) {k : Value → World → Prop} (h : ∀ t w1, Slc encB 1 w1 t (List.replicate n 0) [hsz w] → Fr [] w w1 → hsz w1 = hsz w + 1 → k t w1) : BND (mkslice E 1 1 (.int .u8 0) w (.int .i64 (n : Int)) (.int .i64 (n : Int))) fun p => NEW p k := by
  have hc : ((Array.range ((n : Int).toNat * 1)).map fun i => (Value.cells (.int .u8 0))[i % (Value.cells (.int .u8 0)).size]!) = (List.replicate n (Value.int .u8 0)).toArray := by
    apply Array.ext
    · simp
    · intro i h1 h2
      simp [Value.cells, Nat.mod_one]
  have e : mkslice E 1 1 (.int .u8 0) w (.int .i64 (n : Int)) (.int .i64 (n : Int)) = some (.slice (some ⟨hsz w, 0, none⟩) n n, w.alloc (.cells (List.replicate n (Value.int .u8 0)).toArray E)) := by
    show (if 0 ≤ (n : Int) ∧ (n : Int) ≤ (n : Int) ∧ (n : Int) * ((1 : Nat) : Int) ≤ 281474976710656 ∧ (n : Int) ≤ 9223372036854775807 then
      some (Value.slice (some ⟨w.heap.size, 0, none⟩) (n : Int).toNat (n : Int).toNat, w.alloc (.cells ((Array.range ((n : Int).toNat * 1)).map fun i => (Value.cells (.int .u8 0))[i % (Value.cells (.int .u8 0)).size]!) E)) else none) = _
    rw [if_pos (by omega), hc]; rfl
  refine BND_step e <| (NEW_pair _ _ _).2 ?_
  refine h _ _ (.inr ⟨hsz w, n, _, E, by simp, blk_alloc_new _ _, by simp, by simp, rfl, fun i x hx j hj => ?_⟩) (Fr.alloc _ _ _) (by simp)
  obtain rfl : j = 0 := by omega
  have hi := (List.getElem?_eq_some_iff.1 hx).1
  have hi' : i < n := by simpa using hi
  rw [List.getElem?_replicate, if_pos hi'] at hx
  cases hx
  rw [List.getElem?_toArray, Nat.mul_one, Nat.add_zero, List.getElem?_replicate, if_pos hi']
  rfl
theorem loadn_all {w : World} {b n : Nat} {c : List Value} {T : Nat} {f : Nat × Nat} (h : blk w b = some (.cells c.toArray T f)) (hn : c.length = n) : loadn n w (.pointer (some ⟨b, 0, none⟩)) = some (.agg c.toArray) := by
  subst hn
  rw [loadn_blk h (by simp)]
  simp
theorem At.re3 {w0 w w' : World} {F0 : List Nat} {P : HP} (h : At w0 F0 P w) (f : Fr [] w w') : ∃ A, At w' A P w' ∧ (∀ b ∈ A, b < hsz w) ∧ (∀ b ∈ A, b ∈ F0 ∨ hsz w0 ≤ b) ∧ ∀ w2 P', At w' A P' w2 → At w0 F0 P' w2 := by
  obtain ⟨F, h1, h2, h3⟩ := h
  have f' : Fr F0 w0 w' := h3.trans' f.nil
  have gr := f'.grow
  refine ⟨F, At.start (P.fr h1 f (by simp)), P.lt h1, h2, fun w2 P' ⟨F', p1, p2, p3⟩ => ⟨F', p1, fun b hb => ?_, f'.trans p3 h2⟩⟩
  rcases p2 b hb with hb | hb
  · exact h2 b hb
  · exact .inr (by omega)
theorem ptr_nil {d : Nat} : binv .ptr .eql (ptrTo d) (.pointer none) = some (.bool false) := rfl
theorem At.zoom3 {w0 w w' : World} {F0 : List Nat} {ps : List HP} (h : At w0 F0 (stars ps) w) (f : Fr [] w w') (i : Nat) {P : HP} (hi : ps[i]? = some P) :
    ∃ A, At w' A P w' ∧ (∀ b ∈ A, b < hsz w) ∧ (∀ b ∈ A, b ∈ F0 ∨ hsz w0 ≤ b) ∧ ∀ w2 P', At w' A P' w2 → At w0 F0 (stars (ps.set i P')) w2 := by
  obtain ⟨F, h1, h2, h3⟩ := h
  have hlt := (stars ps).lt h1
  have h1' := (stars ps).fr h1 f (by simp)
  have h3' : Fr F0 w0 w' := h3.trans' f.nil
  obtain ⟨A, h4, h5, h6⟩ := stars_upd ps i P hi h1'
  have gr := h3'.grow
  refine ⟨A, At.start h4, fun b hb => hlt b (h5 b hb), fun b hb => h2 b (h5 b hb), fun w2 P' ⟨F', p1, p2, p3⟩ => ?_⟩
  obtain ⟨F2, h7, h8⟩ := h6 w2 F' P' p1 p3 p2
  refine ⟨F2, h7, fun b hb => ?_, h3'.trans p3 fun b hb => h2 b (h5 b hb)⟩
  rcases h8 b hb with hx | hx
  · exact h2 b hx
  · exact .inr (by omega)
set_option linter.unusedSimpArgs false
set_option linter.unusedVariables false
set_option maxRecDepth 20000
set_option maxHeartbeats 4000000
attribute [local congr] BND_cg COND_cg GEF_cg
attribute [local irreducible] capl slicea load1 loadn iaddr iaddra faddr storev newslice binv lookv mupd mdel mlenv mentry mestore slicev slicev3 slices indexs indexav textv rangev nexts clearv shiftv eqaggv convi buildv pickv lens lenl unv nilchk extractv partn JOIN
section
variable {w0 w w' : World} {F0 : List Nat} {d : Nat} {s : Dk} {R : Value → World → Prop}
theorem app_step (h : At w0 F0 (diskHP d s) w) (f : Fr [] w w') (hw : s.Wf) (hn : s.dirs.length < 1000000000) (hn2 : s.files.length < 1000000000) (n : ByteArray) {u : Value} {bs : List UInt8} {G : List Nat} (su : Slc encB 1 w' u bs G) (hG : ∀ b ∈ G, hsz w ≤ b) (hbs : bs.length < 1000000000)
    (hR : ∀ w2, At w0 F0 (diskHP d (append s n bs).1) w2 → R (.int .i64 (append s n bs).2) w2) : CALL PR F_disk_Disk_Append [ptrTo d, .string n, u] w' R := by
  obtain ⟨A, ha, hA, back⟩ := At.re2 h f
  exact dk_Append ha hw hn hn2 n hbs su.len (fun w2 f2 => (su.fr f2 fun b hb hb' => by have := hG b hb; have := hA b hb'; omega).loads encB_len) fun w2 h2 => hR w2 (back w2 _ h2)
end
end Go.Proofs.YtofllgbdphakiaaDoor
end

section
namespace Go.Proofs.YtofllgbdphakiaaDoor
open Go.Den Go.Disk Go.Vint Go.Crc Go.Frame Go.Rec
/-- records in memory: the row, and each one's numbers. -/
def RecL (w : World) (v : Value) (xs : List Rc) (G B : List Nat) : Prop :=
  (∃ cs : List (Int × SV × ByteArray), Slc encRc 3 w v cs G ∧ cs.length = xs.length ∧ ∀ (i : Nat) (x : Rc), xs[i]? = some x → ∃ (s : SV) (H : List Nat), cs[i]? = some ((x.kind : Int), s, txB x.text) ∧ Slc encU 1 w s.v x.n H ∧ ∀ b ∈ H, b ∈ B) ∧ ∀ b ∈ B, b ∉ G ∧ b < hsz w
theorem RecL.fr {w w' : World} {v : Value} {xs : List Rc} {G B : List Nat} (h : RecL w v xs G B) (f : Fr [] w w') : RecL w' v xs G B := by
  obtain ⟨⟨cs, h1, h2, h3⟩, h4⟩ := h
  exact ⟨⟨cs, h1.fr f (by simp), h2, fun i x hx => by obtain ⟨s, H, a, b, c⟩ := h3 i x hx; exact ⟨s, H, a, b.fr f (by simp), c⟩⟩, fun b hb => ⟨(h4 b hb).1, Nat.lt_of_lt_of_le (h4 b hb).2 f.grow⟩⟩
/-- what changes lies apart. -/
theorem RecL.far {w w' : World} {v : Value} {xs : List Rc} {G B F : List Nat} (h : RecL w v xs G B) (f : Fr F w w') (hG : ∀ b ∈ G, b ∉ F) (hB : ∀ b ∈ B, b ∉ F) : RecL w' v xs G B := by
  obtain ⟨⟨cs, h1, h2, h3⟩, h4⟩ := h
  exact ⟨⟨cs, h1.fr f hG, h2, fun i x hx => by obtain ⟨s, H, a, b, c⟩ := h3 i x hx; exact ⟨s, H, a, b.fr f fun d hd => hB d (c d hd), c⟩⟩, fun b hb => ⟨(h4 b hb).1, Nat.lt_of_lt_of_le (h4 b hb).2 f.grow⟩⟩
theorem RecL.len {w : World} {v : Value} {xs : List Rc} {G B : List Nat} (h : RecL w v xs G B) : lenl v = some (.int .i64 xs.length) := by
  obtain ⟨⟨cs, h1, h2, _⟩, _⟩ := h
  rw [h1.len, h2]
theorem RecL.nil (w : World) : RecL w (.slice none 0 0) [] [] [] := ⟨⟨[], Slc.nil _ _ _, rfl, by simp⟩, by simp⟩
theorem RecL.lt {w : World} {v : Value} {xs : List Rc} {G B : List Nat} (h : RecL w v xs G B) : ∀ b ∈ G, b < hsz w := by
  obtain ⟨⟨cs, h1, _⟩, _⟩ := h
  exact h1.lt
theorem getV_used {b : List UInt8} (h : (getV b).2.2 = 0) : (getV b).2.1 ≤ b.length := by
  have := getL_used b 0 0 h
  unfold getV; omega
theorem getV_small (b : List UInt8) : (getV b).1 < 18446744073709551616 := getL_small b 0 0 (by simp) (by omega)
theorem readN_step (m : Nat) (b : List UInt8) : readN (m + 1) b = if (getV b).2.2 = 0 then ((getV b).1 :: (readN m (b.drop (getV b).2.1)).1, (readN m (b.drop (getV b).2.1)).2) else ([], [], (getV b).2.2) := rfl
set_option linter.unusedSimpArgs false
set_option linter.unusedVariables false
set_option maxRecDepth 20000
set_option maxHeartbeats 4000000
attribute [local congr] BND_cg COND_cg GEF_cg
attribute [local irreducible] capl slicea load1 loadn iaddr iaddra faddr storev newslice binv lookv mupd mdel mlenv mentry mestore slicev slicev3 slices indexs indexav textv rangev nexts clearv shiftv eqaggv convi buildv pickv lens lenl unv nilchk extractv partn JOIN
section
variable {w : World} {R : Value → World → Prop}
theorem rec_Read {s0 : SV} {x : Fra} (hb : ArrC encB 1 w s0.v x.2) (hn : x.2.length < 1000000)
    (hR : ∀ w' nv G, Slc encU 1 w' (SV.v nv) (recRead x).1.n G → (∀ b ∈ G, hsz w ≤ b) → Fr [] w w' → R (.tuple #[.agg (encRc (((recRead x).1.kind : Int), nv, txB (recRead x).1.text)).toArray, .int .i64 (recRead x).2]) w') : CALL PR F_record_Read [.agg (encFr (x.1, s0)).toArray] w R := by
  refine C_record_Read ?_
  unfold M_record_Read
  refine NEW_intro fun w1 b1 f1 z1 => ?_
  replace b1 : blk w1 (hsz w) = some (.cells (encFr (x.1, s0)).toArray 86 (0, 0)) := b1
  refine NEW_intro fun w2 b2 f2 z2 => ?_
  replace b2 : blk w2 (hsz w1) = some (.cells [Value.int .i64 0, .slice none 0 0, .string .empty].toArray 26 (0, 0)) := b2
  have hkl := x.1.toNat_lt
  have b1' := f2.some (by simp) b1
  have ec := convi64 (k := .u8) (x := x.1.toNat) (by omega)
  (repeat (first | refine gg ?_ | (apply BND_build ([.int .i64 (x.1.toNat : Int), .slice none 0 0, .string .empty]); exact rfl)))
  refine box_step (n := 3) (zs := [_, _, _]) (vs := encRc ((x.1.toNat : Int), ⟨none, 0, 0⟩, .empty)) rfl rfl (encRc_one _) (by simp [encRc]) fun w4 b4 f4 z4 => ?_
  have b1'' := f4.some (by simp) b1'
  have b2' := f4.some (by simp) b2
  have f04 := (f1.trans' f2).trans' f4
  -- what comes of an error
  have bad : ∀ (w6 : World) (e : Int), Fr [] w w6 → blk w6 (hsz w1) = some (.cells [Value.int .i64 0, .slice none 0 0, .string .empty].toArray 26 (0, 0)) → recRead x = (zeroR, e) →
      (BND (buildv #[(Value.int .i64 0), (Value.slice none 0 0), (Value.string ByteArray.empty)] []) fun t => BND (storev 3 w6 (.pointer (some ⟨hsz w1, 0, none⟩)) t) fun w7 => BND (loadn 3 w7 (.pointer (some ⟨hsz w1, 0, none⟩))) fun r => R (.tuple #[r, (Value.int .i64 e)]) w7) := by
    intro w6 e f6 b6 he
    rw [he] at hR
    (repeat (first | refine gg ?_ | (apply BND_build ([.int .i64 0, .slice none 0 0, .string .empty]); exact rfl)))
    refine put_step (n := 3) (vs := [.int .i64 0, .slice none 0 0, .string .empty]) b6 rfl rfl (by intro u hu; simp at hu; rcases hu with rfl | rfl | rfl <;> rfl) (by simp) fun w7 b7 f7 _ => ?_
    (repeat (first | refine BND_step (loadn_all' b7 rfl) ?_ | refine gg ?_))
    exact hR w7 ⟨none, 0, 0⟩ [] (Slc.nil _ _ _) (by simp) (f6.trans f7 fun b hb => .inr (by have := f1.grow; simp at hb; omega))
  (repeat refine gg ?_)
  refine rec_known _ ?_
  unfold recRead at hR
  cases hk : knownB (x.1.toNat : Int) with
  | false =>
    (repeat refine gg ?_)
    exact bad w4 2 f04 b2' (by unfold recRead; rw [if_pos hk])
  | true =>
    have hkn : ¬ knownB (x.1.toNat : Int) = false := by rw [hk]; simp
    rw [if_neg hkn] at hR
    obtain ⟨hk1, hk2⟩ : 1 ≤ (x.1.toNat : Int) ∧ (x.1.toNat : Int) ≤ 17 := by unfold knownB at hk; simpa using hk
    have b4d : blk w4.drew (hsz w2) = some (.cells (encRc ((x.1.toNat : Int), ⟨none, 0, 0⟩, .empty)).toArray 26 (0, 0)) := b4
    (repeat refine gg ?_)
    refine ⟨fun _ w' => blk w' (hsz w2) = some (.cells (encRc ((x.1.toNat : Int), ⟨none, 0, 0⟩, .empty)).toArray 26 (0, 0)), b4d, ?_⟩
    (repeat refine gg ?_)
    refine rec_numbers fun w7 f7 => ?_
    have b7 := f7.some (by simp) b4d
    refine ⟨b7, ?_⟩
    (repeat (first | refine BND_step (many_at (k := x.1.toNat) (by omega)) ?_ | refine gg ?_))
    have f07 := (f04.trans' (Fr.drew [] w4)).trans' f7
    have b27 : blk w7 (hsz w1) = _ := f7.some (by simp) (show blk w4.drew (hsz w1) = _ from b2')
    have h10 := manyOf_le x.1.toNat
    generalize hmany : manyOf x.1.toNat = many at *
    refine loop_up2 (o := s0.v) 0 many (fun o i w' => ∃ (done : List Nat) (rest : List UInt8) (nv : SV) (G : List Nat), ArrC encB 1 w o rest ∧ rest.length ≤ x.2.length ∧ blk w' (hsz w2) = some (.cells (encRc ((x.1.toNat : Int), nv, .empty)).toArray 26 (0, 0)) ∧ Slc encU 1 w' nv.v done G ∧ (∀ b ∈ G, hsz w7 ≤ b) ∧
        Fr [] w w' ∧ hsz w7 ≤ hsz w' ∧ blk w' (hsz w1) = some (.cells [Value.int .i64 0, .slice none 0 0, .string .empty].toArray 26 (0, 0)) ∧ done.length = i ∧ readN many x.2 = (done ++ (readN (many - i) rest).1, (readN (many - i) rest).2))
      ⟨[], x.2, ⟨none, 0, 0⟩, [], hb, Nat.le_refl _, b7, Slc.nil _ _ _, by simp, f07, Nat.le_refl _, b27, rfl, by simp⟩ (by omega) ?_
    rintro o i w8 - hi ⟨done, rest, nv, G, a0, hrl, b8, s8, g8, f8, gr8, b28, hdl, heq⟩ J m hJ
    have a8 := a0.fr f8 (by simp)
    by_cases hlt : i < many
    · obtain ⟨mm, hmm⟩ : ∃ mm, many - i = mm + 1 := ⟨many - i - 1, by omega⟩
      rw [hmm, readN_step] at heq
      (repeat refine gg ?_)
      refine vint_Get a8.arr (by omega) ?_
      (repeat refine gg ?_)
      by_cases he : (getV rest).2.2 = 0
      · rw [if_pos he] at heq
        have hu := getV_used he
        obtain ⟨va, ea, aa⟩ := a0.from (lo := (getV rest).2.1) hu
        have b8d : blk w8.drew (hsz w2) = some (.cells (encRc ((x.1.toNat : Int), nv, .empty)).toArray 26 (0, 0)) := b8
        (repeat refine gg ?_)
        refine ⟨fun _ w' => blk w' (hsz w2) = some (.cells (encRc ((x.1.toNat : Int), nv, .empty)).toArray 26 (0, 0)), b8d, ?_⟩
        (repeat refine gg ?_)
        refine newone_step (enc := encU) (x := (getV rest).1) encU_len rfl fun t w11 s11 f11 z11 => ?_
        have b11 := f11.some (by simp) b8d
        refine ⟨b11, ?_⟩
        have f811 := (Fr.drew [] w8).trans' f11
        have ew8 : hsz w8.drew = hsz w8 := rfl
        refine APPEND_slc (s8.fr f811 (by simp)) (s11.loads encU_len) encU_len encU_one rfl (by simp; omega) (by simp; omega) fun v12 w12 G12 s12 f12 sub12 => ?_
        obtain ⟨x12, rfl⟩ := slc_sv s12
        have hw2 : hsz w2 < hsz w7 := by have := blk_lt b4; have := f7.grow; have e : hsz w4.drew = hsz w4 := rfl; omega
        have hw1 : hsz w1 < hsz w2 := by omega
        have b12 := f12.some (fun hb => by have := g8 _ hb; omega) b11
        (repeat refine gg ?_)
        refine fstore_step b12 ⟨rfl, rfl⟩ (by simp [encRc]) fun w13 b13 f13 _ => ?_
        (repeat refine gg ?_)
        have f812 : Fr [] w w12 := (f8.trans' f811).trans f12 fun b hb => .inr (by have := g8 b hb; have := f07.grow; omega)
        have f813 : Fr [] w w13 := f812.trans f13 fun b hb => .inr (by simp at hb; have := (f1.trans' f2).grow; omega)
        have g12 : ∀ b ∈ G12, hsz w7 ≤ b := fun b hb => by
          rcases sub12 b hb with hq | hq
          · exact g8 b hq
          · have := f811.grow; omega
        refine hJ _ _ hlt ⟨done ++ [(getV rest).1], rest.drop (getV rest).2.1, x12, G12, aa, ?_, b13, s12.fr f13 (fun b hb hb' => ?_), g12, f813, ?_, ?_, by simp [hdl], ?_⟩
        · rw [List.length_drop]; omega
        · have := g12 b hb; simp at hb'; omega
        · have := (f811.grow); have := f12.grow; have := f13.grow; omega
        · have q1 := f11.some (by simp) (show blk w8.drew (hsz w1) = _ from b28)
          have q2 := f12.some (fun hb => by have := g8 _ hb; omega) q1
          exact f13.some (by simp; omega) q2
        · rw [show many - (i + 1) = mm by omega, heq]; simp
      · rw [if_neg he] at heq
        (repeat refine gg ?_)
        refine bad w8 _ f8 b28 ?_
        unfold recRead
        rw [if_neg hkn, hmany, heq, if_neg he]
    · rw [show many - i = 0 by omega] at heq
      simp only [readN, List.append_nil] at heq
      rw [heq] at hR
      simp only [if_true] at hR
      have hrw : recRead x = if fitsB (x.1.toNat : Int) rest.length = true then (⟨x.1.toNat, done, rest⟩, 0) else (zeroR, 2) := by
        unfold recRead
        rw [if_neg hkn, hmany, heq]
        rfl
      (repeat (first | refine BND_step a8.len ?_ | refine gg ?_))
      refine rec_fits _ _ ?_
      cases hf : fitsB (x.1.toNat : Int) rest.length with
      | false =>
        rw [hf] at hrw
        (repeat refine gg ?_)
        exact bad w8 2 f8 b28 hrw
      | true =>
        rw [hf] at hR
        simp only [if_true] at hR
        have hw2 : hsz w2 < hsz w7 := by have := blk_lt b4; have := f7.grow; have e : hsz w4.drew = hsz w4 := rfl; omega
        (repeat (first | refine BND_step (textB a8.arr) ?_ | refine gg ?_))
        refine fstore_step b8 ⟨rfl, rfl⟩ (by simp [encRc]) fun w9 b9 f9 _ => ?_
        replace b9 : blk w9 (hsz w2) = some (.cells (encRc ((x.1.toNat : Int), nv, txB rest)).toArray 26 (0, 0)) := b9
        have b29 := f9.some (by simp; omega) b28
        (repeat (first | refine BND_step (loadn_all' b9 rfl) ?_ | refine gg ?_))
        refine put_step (n := 3) (vs := encRc ((x.1.toNat : Int), nv, txB rest)) b29 rfl rfl (encRc_one _) (by simp [encRc]) fun w10 b10 f10 _ => ?_
        (repeat (first | refine BND_step (loadn_all' b10 rfl) ?_ | refine gg ?_))
        have gg := (f1.trans' f2).grow
        have gg1 := f1.grow
        exact hR w10 nv G ((s8.fr f9 (fun b hb hb' => by have := g8 b hb; simp at hb'; omega)).fr f10 (fun b hb hb' => by have := g8 b hb; simp at hb'; omega)) (fun b hb => by have := g8 b hb; have := f07.grow; omega)
          ((f8.trans f9 fun b hb => .inr (by simp at hb; omega)).trans f10 fun b hb => .inr (by simp at hb; omega))
theorem rec_push {E E' bytes : Nat} {zero : Array Value} {zero' : Value} {k : Value → World → Prop} {o : Value} {xs : List Rc} {G B H : List Nat} {s : SV} {x : Rc} (h : RecL w o xs G B) (hs : Slc encU 1 w s.v x.n H) (hH : ∀ b ∈ H, b ∉ G) (hz : zero'.cells.size = 3) (hb : bytes ≤ 1000) (hn : xs.length < 1000000000)
    (K : ∀ v' w' G', RecL w' v' (xs ++ [x]) G' (H ++ B) → (∀ b ∈ G', b ∈ G ∨ hsz w ≤ b) → Fr G w w' → k v' w') : BND (newslice E zero 3 1 [(0, 3, .agg (encRc ((x.kind : Int), s, txB x.text)).toArray)] w) fun p_ => NEW p_ fun t w1 => APPEND E' 3 bytes zero' o t w1 k := by
  obtain ⟨⟨cs, h1, h2, h3⟩, h4⟩ := h
  refine push_step (enc := encRc) (x := ((x.kind : Int), s, txB x.text)) h1 encRc_len encRc_one rfl hz hb (by omega) fun v' w' G' s' g' f' => ?_
  refine K v' w' G' ⟨⟨cs ++ [((x.kind : Int), s, txB x.text)], s', by simp [h2], fun i y hy => ?_⟩, fun b hb => ?_⟩ g' f'
  · by_cases hi : i < xs.length
    · rw [List.getElem?_append_left hi] at hy
      obtain ⟨s2, H2, a, b, c⟩ := h3 i y hy
      exact ⟨s2, H2, by rw [List.getElem?_append_left (by omega)]; exact a, b.fr f' (fun d hd => (h4 d (c d hd)).1), fun d hd => by simp [c d hd]⟩
    · have : i = xs.length := by have := (List.getElem?_eq_some_iff.1 hy).1; simp at this; omega
      subst this
      simp at hy; subst hy
      exact ⟨s, H, by rw [List.getElem?_append_right (by omega)]; simp [h2], hs.fr f' hH, fun d hd => by simp [hd]⟩
  · have hlt : b < hsz w := by
      rcases List.mem_append.1 hb with hb | hb
      · exact hs.lt b hb
      · exact (h4 b hb).2
    refine ⟨?_, Nat.lt_of_lt_of_le hlt f'.grow⟩
    intro hb'
    rcases g' b hb' with hq | hq
    · rcases List.mem_append.1 hb with hb | hb
      · exact hH b hb hq
      · exact (h4 b hb).1 hq
    · omega
theorem recAllF_cons (x : Fra) (r : List Fra) (k : Nat) (e : Int) : recAllF (x :: r) k e = if (recRead x).2 = 0 then ((recRead x).1 :: (recAllF r (k + (11 + x.2.length)) e).1, (k + (11 + x.2.length)) :: (recAllF r (k + (11 + x.2.length)) e).2.1, (recAllF r (k + (11 + x.2.length)) e).2.2) else ([], [], (recRead x).2) := rfl
theorem loop_up4 {B : (Value → Value → Value → Value → World → Prop) → (Value → Value → Value → Value → World → Nat) → Value → Value → Value → Value → World → Prop} {w : World} {a b c : Value} (s n : Nat) (I : Value → Value → Value → Nat → World → Prop) (h0 : I a b c s w) (hs : s ≤ n)
    (h : ∀ a b c i w1, s ≤ i → i ≤ n → I a b c i w1 → ∀ J m, (∀ a' b' c' w', i < n → I a' b' c' (i + 1) w' → J a' b' c' (.int .i64 ((i + 1 : Nat) : Int)) w' ∧ m a' b' c' (.int .i64 ((i + 1 : Nat) : Int)) w' < m a b c (.int .i64 (i : Int)) w1) → B J m a b c (.int .i64 (i : Int)) w1) :
    ∃ (J : Value → Value → Value → Value → World → Prop) (m : Value → Value → Value → Value → World → Nat), J a b c (.int .i64 (s : Int)) w ∧ ∀ (_d : Env) (a b c t : Value) (w1 : World), J a b c t w1 → B J m a b c t w1 := by
  refine ⟨fun a b c t w' => ∃ i : Nat, t = .int .i64 i ∧ s ≤ i ∧ i ≤ n ∧ I a b c i w', fun _ _ _ t _ => match t with | .int _ k => n - k.toNat | _ => 0, ⟨s, rfl, Nat.le_refl _, hs, h0⟩, ?_⟩
  rintro _ a b c _ w1 ⟨i, rfl, h1, h2, h3⟩
  exact h a b c i w1 h1 h2 h3 _ _ fun a' b' c' w' h4 h5 => ⟨⟨i + 1, rfl, by omega, by omega, h5⟩, by simp; omega⟩
theorem rec_All {bv : Value} {bs : List UInt8} (hb : ArrC encB 1 w bv bs) (hn : bs.length < 10000000)
    (hR : ∀ w' v ev G B E, RecL w' v (recAll bs).1 G B → Slc encO 1 w' ev (recAll bs).2.1 E → (∀ b ∈ G, hsz w ≤ b) → (∀ b ∈ B, hsz w ≤ b) → (∀ b ∈ E, hsz w ≤ b) → Fr [] w w' → R (.tuple #[v, ev, .int .i64 (recAll bs).2.2]) w') : CALL PR F_record_All [bv] w R := by
  refine C_record_All ?_
  unfold M_record_All
  refine frame_All hb (by omega) fun w1 lv G1 B1 h1 gG1 gB1 f1 hle => ?_
  have hsm := frAll_small bs.length bs 0 rfl
  unfold recAll at hR
  generalize hfs : (frAll bs 0).1 = fs at *
  generalize (frAll bs 0).2.2 = e0 at *
  (repeat (first | refine BND_step h1.len ?_ | refine gg ?_))
  refine loop_up4 (a := .slice none 0 0) (b := .slice none 0 0) (c := .int .i64 0) 0 fs.length (fun o ev t i w' => ∃ (k : Nat) (done : List Rc) (ends : List Nat) (G B E : List Nat), t = .int .i64 (k : Int) ∧ RecL w' o done G B ∧ Slc encO 1 w' ev ends E ∧ (∀ b ∈ G, hsz w1 ≤ b ∧ b ∉ E) ∧ (∀ b ∈ B, hsz w1 ≤ b ∧ b ∉ E) ∧ (∀ b ∈ E, hsz w1 ≤ b) ∧
      Fr [] w1 w' ∧ k ≤ i * 500 ∧ done.length = i ∧ ends.length = i ∧ recAllF fs 0 e0 = (done ++ (recAllF (fs.drop i) k e0).1, ends ++ (recAllF (fs.drop i) k e0).2.1, (recAllF (fs.drop i) k e0).2.2))
    ⟨0, [], [], [], [], [], rfl, RecL.nil _, Slc.nil _ _ _, by simp, by simp, by simp, Fr.refl _ _, by omega, rfl, rfl, by simp⟩ (by omega) ?_
  rintro o ev _ i w2 - hi ⟨k, done, ends, G, B, E, rfl, h2, se, gG, gB, gE, f2, hk, hdl, hel, heq⟩ J m hJ
  by_cases hlt : i < fs.length
  · have hx := List.getElem?_eq_getElem hlt
    have hm := List.getElem_mem hlt
    have hdr : fs.drop i = fs[i] :: fs.drop (i + 1) := List.drop_eq_getElem_cons hlt
    generalize fs[i] = x at hx hm hdr
    have hx4 := hsm x hm
    rw [hdr, recAllF_cons] at heq
    obtain ⟨⟨cs, q1, q2, q3⟩, q4⟩ := h1.fr f2
    obtain ⟨s, H, c1, c2, c3⟩ := q3 i x hx
    obtain ⟨bp, op, ia, ln, _, _⟩ := q1.arr.spot c1 rfl .i64
    (repeat refine gg ?_)
    refine box_step (n := 2) (zs := [_, _]) (vs := encFr (x.1, s)) rfl rfl (encFr_one _) (by simp [encFr]) fun w4 b4 f4 z4 => ?_
    (repeat (first | refine BND_step (loadn_all' b4 rfl) ?_ | refine gg ?_))
    have c24 := c2.fr f4 (by simp)
    refine rec_Read c24.arrC (by omega) fun w5 nv Gn sn gn f5 => ?_
    have b5 := f5.some (by simp) b4
    (repeat refine gg ?_)
    refine box_step (n := 3) (zs := [_, _, _]) (vs := encRc (((recRead x).1.kind : Int), nv, txB (recRead x).1.text)) rfl rfl (encRc_one _) (by simp [encRc]) fun w7 b7 f7 z7 => ?_
    have b57 := f7.some (by simp) b5
    have f27 := (f4.trans' f5).trans' f7
    have f17 := f2.trans' f27
    by_cases he : (recRead x).2 = 0
    · rw [if_pos he] at heq
      (repeat (first | refine BND_step (loadn_all' b57 rfl) ?_ | refine gg ?_))
      refine frame_Bytes (body := x.2) ((c24.fr f5 (by simp)).fr f7 (by simp)).arr (by omega) (fun w8 h8 _ => by omega) fun w8 v8 G8 _ s8 g8 f8 => ?_
      have b8 := f8.some (by simp) b7
      have e8 := s8.len
      rw [frB_len] at e8
      replace e8 : lenl v8 = some (.int .i64 ((11 + x.2.length : Nat) : Int)) := e8
      have f28 := f27.trans' f8
      have gr12 := f2.grow
      have gr24 := f4.grow
      (repeat (first | refine BND_step (addn_ (n := k) (by omega)) ?_ | refine BND_step (loadn_all' b8 rfl) ?_ | refine gg ?_))
      refine rec_push (x := (recRead x).1) (h2.fr f28) ((sn.fr f7 (by simp)).fr f8 (by simp)) (fun b hb hb' => by have := gn b hb; have := h2.lt b hb'; omega) rfl (by omega) (by omega) fun v10 w10 G10 h10 g10 f10 => ?_
      have se10 := (se.fr f28 (by simp)).fr f10 (fun b hb hb' => (gG b hb').2 hb)
      refine push_step (enc := encO) (x := k + (11 + x.2.length)) se10 encO_len encO_one rfl rfl (by omega) (by omega) fun v12 w12 E12 s12 g12 f12 => ?_
      have gr28 := f28.grow
      have gr10 := f10.grow
      have gr5 := f5.grow
      have gr7 := f7.grow
      have gr8 := f8.grow
      have nG : ∀ b ∈ G10, hsz w1 ≤ b ∧ b ∉ E12 := fun b hb => by
        rcases g10 b hb with hq | hq
        · refine ⟨(gG b hq).1, fun hb' => ?_⟩
          rcases g12 b hb' with hq2 | hq2
          · exact (gG b hq).2 hq2
          · have := h2.lt b hq; omega
        · refine ⟨by omega, fun hb' => ?_⟩
          rcases g12 b hb' with hq2 | hq2
          · have := se.lt b hq2; omega
          · have := h10.lt b hb; omega
      have nB : ∀ b ∈ Gn ++ B, hsz w1 ≤ b ∧ b ∉ E12 := fun b hb => by
        have hlt10 : b < hsz w10 := by
          obtain ⟨_, q⟩ := h10
          exact (q b hb).2
        rcases List.mem_append.1 hb with hb | hb
        · have hgn := gn b hb
          refine ⟨by omega, fun hb' => ?_⟩
          rcases g12 b hb' with hq2 | hq2
          · have := se.lt b hq2; omega
          · omega
        · refine ⟨(gB b hb).1, fun hb' => ?_⟩
          rcases g12 b hb' with hq2 | hq2
          · exact (gB b hb).2 hq2
          · omega
      (repeat refine gg ?_)
      refine hJ _ _ _ _ hlt ⟨k + (11 + x.2.length), done ++ [(recRead x).1], ends ++ [k + (11 + x.2.length)], G10, Gn ++ B, E12, rfl, h10.far f12 (fun b hb hb' => ?_) (fun b hb hb' => ?_), s12, nG, nB, fun b hb => ?_, ?_, by omega, by simp [hdl], by simp [hel], by rw [heq]; simp⟩
      · rcases g10 b hb with hq | hq
        · exact (gG b hq).2 hb'
        · have := se.lt b hb'; omega
      · rcases List.mem_append.1 hb with hb | hb
        · have := gn b hb; have := se.lt b hb'; omega
        · exact (gB b hb).2 hb'
      · rcases g12 b hb with hq | hq
        · exact gE b hq
        · omega
      · exact ((f2.trans' f28).trans f10 fun b hb => .inr (gG b hb).1).trans f12 fun b hb => .inr (gE b hb)
    · rw [if_neg he] at heq
      (repeat refine gg ?_)
      have gw := f1.grow
      have := hR w7 o ev G B E (by rw [heq]; simpa using h2.fr f27) (by rw [heq]; simpa using se.fr f27 (by simp)) (fun b hb => by have := (gG b hb).1; omega) (fun b hb => by have := (gB b hb).1; omega) (fun b hb => by have := gE b hb; omega) (f1.trans' f17)
      rw [heq] at this
      exact this
  · (repeat refine gg ?_)
    rw [List.drop_eq_nil_of_le (by omega)] at heq
    simp only [recAllF, List.append_nil] at heq
    have gw := f1.grow
    have := hR w2 o ev G B E (by rw [heq]; exact h2) (by rw [heq]; exact se) (fun b hb => by have := (gG b hb).1; omega) (fun b hb => by have := (gB b hb).1; omega) (fun b hb => by have := gE b hb; omega) (f1.trans' f2)
    rw [heq] at this
    exact this
end
end Go.Proofs.YtofllgbdphakiaaDoor
end

section
namespace Go.Proofs.YtofllgbdphakiaaDoor
open Go.Den Go.Disk Go.Nm Go.Rec Go.Frame Go.Vint Go.Crc Go.Sg
def TabS (w0 : World) (F0 : List Nat) : Prop := ∀ w', Fr F0 w0 w' → Tab w'
def lgC (d : Nat) (l : Lg) : List Value := [ptrTo d, .int .u64 (l.seg : Int), .int .u64 (l.at_ : Int), .int .i64 l.most, .int .u64 (l.dirty : Int), .bool l.begun]
theorem lgC_one (d : Nat) (l : Lg) : ∀ u ∈ lgC d l, u.oneCell' = true := by
  intro u hu
  simp only [lgC, List.mem_cons, List.not_mem_nil, or_false] at hu
  rcases hu with rfl | rfl | rfl | rfl | rfl | rfl <;> rfl
def sysL (d : Nat) (s : Dk) : Option (Nat × Lg) → List HP
  | none => [diskHP d s]
  | some (p, l) => [pts p (lgC d l), diskHP d s]
def valL : Option (Nat × Lg) → Value
  | none => .pointer none
  | some (p, _) => ptrTo p
theorem cu64 {n : Nat} (h : n < 18446744073709551616) : convi .u64 (.int .i64 (n : Int)) = some (.int .u64 (n : Int)) := by
  simp only [convi]
  rw [wrap_u64 (by omega) (by omega)]
theorem ci64 {n : Nat} (h : n < 9223372036854775808) : convi .i64 (.int .u64 (n : Int)) = some (.int .i64 (n : Int)) := by
  simp only [convi]
  rw [wrap_i64 (by omega) (by omega)]
theorem add_u {x y : Nat} (h : x + y < 18446744073709551616) : binv .int .add (.int .u64 (x : Int)) (.int .u64 (y : Int)) = some (.int .u64 ((x + y : Nat) : Int)) := by
  rw [binv_add, wrap_u64 (by omega) (by omega)]
  simp
theorem inc_u {x : Nat} (h : x + 1 < 18446744073709551616) : binv .int .add (.int .u64 (x : Int)) (.int .u64 1) = some (.int .u64 ((x + 1 : Nat) : Int)) := add_u (y := 1) h
theorem sub_u {x y : Nat} (hxy : y ≤ x) (h : x < 18446744073709551616) : binv .int .sub (.int .u64 (x : Int)) (.int .u64 (y : Int)) = some (.int .u64 ((x - y : Nat) : Int)) := by
  rw [binv_sub, wrap_u64 (by omega) (by omega)]
  congr 2; omega
theorem min_u (a b : Nat) : min2v (.int .u64 (a : Int)) (.int .u64 (b : Int)) = some (.int .u64 ((min a b : Nat) : Int)) := by
  simp only [min2v]
  split <;> (congr 2; omega)
theorem slicev_u (sz : Nat) (v : Value) (n : Int) : slicev sz v (some (.int .u64 n)) none = slicev sz v (some (.int .i64 n)) none := rfl
theorem ptr_nilS {d : Nat} : binv .ptr .eql (ptrTo d) (.pointer none) = some (.bool false) := rfl
theorem recs_first {w : World} {v ev : Value} {r : List Rc × List Nat × Int} {G B E : List Nat} (h : RecL w v r.1 G B) (se : Slc encO 1 w ev r.2.1 E) (hl : r.1.length = r.2.1.length) (h0 : 0 < r.1.length) :
    ∃ (s : SV) (bv be : Nat) (x : Rc) (e : Nat), r.1[0]? = some x ∧ r.2.1[0]? = some e ∧ iaddr 3 v (.int .i64 0) = some (.pointer (some ⟨bv, 0, none⟩)) ∧ iaddr 1 ev (.int .i64 0) = some (.pointer (some ⟨be, 0, none⟩)) ∧ G = [bv] ∧ E = [be] ∧
      (∀ w', blk w' bv = blk w bv → loadn 3 w' (.pointer (some ⟨bv, 0, none⟩)) = some (.agg (encRc ((x.kind : Int), s, txB x.text)).toArray)) ∧ (∀ w', blk w' be = blk w be → load1 w' (.pointer (some ⟨be, 0, none⟩)) = some (.int .i64 (e : Int))) ∧
      (∃ H, Slc encU 1 w s.v x.n H ∧ ∀ b ∈ H, b ∈ B) := by
  obtain ⟨⟨cs, h1, h2, h3⟩, h4⟩ := h
  obtain ⟨x, hx⟩ : ∃ x, r.1[0]? = some x := ⟨_, List.getElem?_eq_getElem h0⟩
  obtain ⟨e, he⟩ : ∃ e, r.2.1[0]? = some e := ⟨_, List.getElem?_eq_getElem (by omega)⟩
  obtain ⟨s, H, c1, c2, c3⟩ := h3 0 x hx
  obtain ⟨bv, hG, i1⟩ := h1.iaddr (i := 0) (by omega) .i64
  obtain ⟨be, hE, i2⟩ := se.iaddr (i := 0) (by omega) .i64
  subst hG; subst hE
  refine ⟨s, bv, be, x, e, hx, he, by simpa using i1, by simpa using i2, rfl, rfl, fun w' hb => ?_, fun w' hb => ?_, H, c2, c3⟩
  · rw [loadn_congr hb]
    have := h1.loadn c1 (encRc_len _)
    simpa using this
  · have := se.load1 he (j := 0) (by omega)
    rw [Nat.zero_mul, Nat.zero_add] at this
    have hc : load1 w' (.pointer (some ⟨be, 0, none⟩)) = load1 w (.pointer (some ⟨be, 0, none⟩)) := cell?_congr hb
    rw [hc, this]; rfl
theorem recAllF_ends : ∀ (fs : List Fra) (k : Nat) (e : Int), (recAllF fs k e).1.length = (recAllF fs k e).2.1.length
  | [], _, _ => rfl
  | x :: r, k, e => by
    rw [recAllF_cons]
    split
    · simp [recAllF_ends r]
    · rfl
theorem recAll_ends (b : List UInt8) : (recAll b).1.length = (recAll b).2.1.length := recAllF_ends _ _ _
theorem read_sm {s : Dk} (h : Inv s) (n : ByteArray) : (Disk.read s n).1.length ≤ 1048576 := by
  unfold Disk.read
  split
  · simp
  · split
    · simp
    · rename_i f hf
      have h1 := h.wf.small _ (List.mem_of_getElem? (wf_pick h.wf hf))
      have h2 := h.wf.room.2
      simp only; omega
theorem create_mo (s : Dk) (n : ByteArray) : (create s n).1.dirs.length ≤ s.dirs.length + 1 ∧ (create s n).1.files.length ≤ s.files.length + 1 := by
  obtain ⟨h1, h2, _⟩ := can_keep s (createE s n)
  unfold create
  simp only
  split
  · simp
  · rw [h1, h2]; omega
theorem At.re {w0 w w' : World} {F0 : List Nat} {P : HP} (h : At w0 F0 P w) (f : Fr [] w w') : At w0 F0 P w' := h.fr0 f
set_option linter.unusedSimpArgs false
set_option linter.unusedVariables false
set_option maxRecDepth 20000
set_option maxHeartbeats 4000000
attribute [local congr] BND_cg COND_cg GEF_cg
attribute [local irreducible] capl slicea load1 loadn iaddr iaddra faddr storev newslice binv lookv mupd mdel mlenv mentry mestore slicev slicev3 slices indexs indexav textv rangev nexts clearv shiftv eqaggv convi buildv pickv lens lenl unv nilchk extractv partn JOIN
section
variable {w0 w w' : World} {F0 : List Nat} {d p : Nat} {s : Dk} {l : Lg} {R : Value → World → Prop}
theorem sg_disk (h : At w0 F0 (stars [pts p (lgC d l), diskHP d s]) w) : ∃ A, At w A (diskHP d s) w ∧ ∀ w2 s2, At w A (diskHP d s2) w2 → At w0 F0 (stars [pts p (lgC d l), diskHP d s2]) w2 := by
  obtain ⟨A, a, back⟩ := At.zoom h 1 rfl
  exact ⟨A, a, fun w2 s2 h2 => back w2 _ h2⟩
theorem sg_made (hT : TabS w0 F0) (h : At w0 F0 (diskHP d s) w) (seg : Nat) (hs : seg < 18446744073709551616) (most : Int) (hR0 : mayL seg most = false → ∀ w', At w0 F0 (diskHP d s) w' → R (.tuple #[.pointer none, .string ⟨#[]⟩, .int .i64 1]) w')
    (hR : mayL seg most = true → ∀ w' p, At w0 F0 (stars [pts p (lgC d ⟨seg, 0, most, seg, false⟩), diskHP d s]) w' → R (.tuple #[ptrTo p, .string (sgN seg), .int .i64 0]) w') : CALL PR F_seglog_made [ptrTo d, .int .u64 (seg : Int), .int .i64 most] w R := by
  refine C_seglog_made ?_
  unfold M_seglog_made
  refine name_Of (hT _ h.frame) 109 seg hs fun w1 f1 => ?_
  have h1 := h.fr0 f1
  have nil := ptr_nilS (d := d)
  unfold mayL at hR0 hR
  cases hk : okS seg with
  | false =>
    rw [nameOf_noS hk]
    rw [hk, Bool.and_false] at hR0
    by_cases q1 : most < 64
    · (repeat refine gg ?_); exact hR0 rfl _ h1
    by_cases q2 : 65536 < most
    · (repeat refine gg ?_); exact hR0 rfl _ h1
    (repeat refine gg ?_); exact hR0 rfl _ h1
  | true =>
    rw [nameOf_S hk]
    rw [hk, Bool.and_true] at hR0 hR
    by_cases q1 : most < 64
    · (repeat refine gg ?_); exact hR0 (by rw [decide_eq_false (by omega)]; rfl) _ h1
    by_cases q2 : 65536 < most
    · (repeat refine gg ?_); exact hR0 (by rw [decide_eq_false (show ¬ most ≤ 65536 by omega), Bool.and_false]) _ h1
    (repeat (first | refine gg ?_ | (apply BND_build (lgC d ⟨seg, 0, most, seg, false⟩); exact rfl)))
    refine NEW_intro fun w2 b2 f2 z2 => ?_
    refine hR (by rw [decide_eq_true (show 64 ≤ most by omega), decide_eq_true (show most ≤ 65536 by omega)]; rfl) _ _ ((At.wrap h1).add f2 (P := pts (hsz w1) (lgC d ⟨seg, 0, most, seg, false⟩)) (A := [hsz w1]) ⟨⟨_, b2⟩, rfl⟩ (by simp))
theorem sg_Begin (hT : TabS w0 F0) (h : At w0 F0 (diskHP d s) w) (hi : Inv s) (hn : s.dirs.length < 100000000) (hn2 : s.files.length < 100000000) (seg : Nat) (hs : seg < 18446744073709551616) (most : Int)
    (hR : ∀ w' o, o.map (·.2) = (lgBegin s seg most).2.1 → At w0 F0 (stars (sysL d (lgBegin s seg most).1 o)) w' → R (.tuple #[valL o, .int .i64 (lgBegin s seg most).2.2]) w') :
    CALL PR F_seglog_Begin [ptrTo d, .int .u64 (seg : Int), .int .i64 most] w R := by
  refine C_seglog_Begin ?_
  unfold M_seglog_Begin
  unfold lgBegin at hR
  refine sg_made hT h seg hs most (fun hm w1 h1 => ?_) fun hm w1 p h1 => ?_
  · rw [hm] at hR
    (repeat refine gg ?_)
    exact hR _ none rfl (At.wrap h1)
  · rw [hm] at hR
    simp only [if_true] at hR
    obtain ⟨A, z, back⟩ := sg_disk h1
    obtain ⟨T, b1⟩ := h1.cell (i := 0) rfl
    unfold ptrTo lgC at *
    (repeat refine gg ?_)
    refine dk_Create z hi.wf (by omega) (sgN seg) fun w2 z2 => ?_
    have h2 := back _ _ z2
    by_cases he : (create s (sgN seg)).2 = 0
    · rw [if_pos he] at hR
      (repeat refine gg ?_)
      refine h2.store (i := 0) rfl ⟨rfl, rfl⟩ (by simp) fun w3 h3 _ => ?_
      exact hR _ (some (p, ⟨seg, 0, most, seg, true⟩)) rfl h3
    · rw [if_neg he] at hR
      (repeat refine gg ?_)
      exact hR _ none rfl h2.tail
theorem sg_Open (hT : TabS w0 F0) (h : At w0 F0 (diskHP d s) w) (hi : Inv s) (hn : s.dirs.length < 100000000) (seg at_ : Nat) (hs : seg < 18446744073709551616) (ha : at_ < 18446744073709551616) (most : Int)
    (hR : ∀ w' o, o.map (·.2) = (lgOpen s seg at_ most).2.1 → At w0 F0 (stars (sysL d (lgOpen s seg at_ most).1 o)) w' → R (.tuple #[valL o, .int .i64 (lgOpen s seg at_ most).2.2]) w') :
    CALL PR F_seglog_Open [ptrTo d, .int .u64 (seg : Int), .int .u64 (at_ : Int), .int .i64 most] w R := by
  refine C_seglog_Open ?_
  unfold M_seglog_Open
  unfold lgOpen at hR
  have hrs := read_sm hi (sgN seg)
  refine sg_made hT h seg hs most (fun hm w1 h1 => ?_) fun hm w1 p h1 => ?_
  · rw [hm] at hR
    (repeat refine gg ?_)
    exact hR _ none rfl (At.wrap h1)
  · have hseg := okS_iff.1 (may_iff.1 hm).1
    rw [hm] at hR
    simp only [if_true] at hR
    obtain ⟨A, z, back⟩ := sg_disk h1
    obtain ⟨T, b1⟩ := h1.cell (i := 0) rfl
    unfold ptrTo lgC at *
    (repeat refine gg ?_)
    refine dk_Read z hi.wf (by omega) (sgN seg) fun w2 v2 G2 z2 s2 _ _ => ?_
    have h2 := back _ _ z2
    obtain ⟨T2, b2⟩ := h2.cell (i := 0) rfl
    generalize Disk.read s (sgN seg) = rd at *
    obtain ⟨bs, e⟩ := rd
    simp only at hR hrs s2 ⊢
    by_cases he : e = 0
    · rw [if_pos he] at hR
      have l2 := s2.len
      have cl := cu64 (n := bs.length) (by omega)
      have fin : ∀ w' s', At w0 F0 (stars [pts p (lgC d ⟨seg, 0, most, seg, false⟩), diskHP d s']) w' → (∀ w'', At w0 F0 (stars [pts p (lgC d ⟨seg, at_, most, seg + 1, false⟩), diskHP d s']) w'' → R (.tuple #[ptrTo p, .int .i64 0]) w'') →
          BND (binv .int .add (.int .u64 (seg : Int)) (Value.int .u64 1)) fun t66 => BND (nilchk (ptrTo p)) fun t67 => BND (faddr 2 t67) fun t68 => BND (storev 1 w' t68 (.int .u64 (at_ : Int))) fun w4 =>
            BND (nilchk (ptrTo p)) fun t69 => BND (faddr 4 t69) fun t70 => BND (storev 1 w4 t70 t66) fun w5 => R (.tuple #[ptrTo p, (Value.int .i64 0)]) w5 := by
        intro w' s' h' hk
        unfold ptrTo
        (repeat (first | refine BND_step (inc_u (x := seg) (by omega)) ?_ | refine gg ?_))
        refine h'.store (i := 0) rfl ⟨rfl, rfl⟩ (by simp [lgC]) fun w4 h4 _ => ?_
        (repeat refine gg ?_)
        refine h4.store (i := 0) rfl ⟨rfl, rfl⟩ (by simp [lgC]) fun w5 h5 _ => ?_
        exact hk _ h5
      by_cases q1 : bs.length < at_
      · rw [if_pos q1] at hR
        (repeat refine gg ?_)
        exact hR _ none rfl h2.tail
      · rw [if_neg q1] at hR
        by_cases q2 : at_ < bs.length
        · rw [if_pos q2] at hR
          (repeat refine gg ?_)
          refine join_w (fun w' => (cut s (sgN seg) at_).2 = 0 ∧ At w0 F0 (stars [pts p (lgC d ⟨seg, 0, most, seg, false⟩), diskHP d (cut s (sgN seg) at_).1]) w') (fun K hK => ?_) fun w' hq => ?_
          · obtain ⟨A2, z2', back2⟩ := sg_disk h2
            (repeat (first | refine BND_step (ci64 (n := at_) (by omega)) ?_ | refine gg ?_))
            refine dk_Cut z2' hi.wf (by omega) (sgN seg) at_ fun w3 z3 => ?_
            have h3 := back2 _ _ z3
            by_cases hc : (cut s (sgN seg) at_).2 = 0
            · (repeat refine gg ?_)
              exact hK _ ⟨hc, h3⟩
            · rw [if_neg hc] at hR
              (repeat refine gg ?_)
              exact hR _ none rfl h3.tail
          · rw [if_pos hq.1] at hR
            exact fin w' _ hq.2 fun w'' h'' => hR _ (some (p, _)) rfl h''
        · rw [if_neg q2] at hR
          (repeat refine gg ?_)
          refine join_w (fun w' => w' = w2) (fun K hK => ?_) fun w' hq => ?_
          · (repeat refine gg ?_)
            exact hK _ rfl
          · subst hq
            exact fin w' _ h2 fun w'' h'' => hR _ (some (p, _)) rfl h''
    · rw [if_neg he] at hR
      (repeat refine gg ?_)
      exact hR _ none rfl h2.tail
theorem sg_turn (hT : TabS w0 F0) (h : At w0 F0 (stars [pts p (lgC d l), diskHP d s]) w) (hi : Inv s) (hn : s.dirs.length < 100000000) (hn2 : s.files.length < 100000000) {m : Nat} (hl : LgOk l m)
    (hR : ∀ w', At w0 F0 (stars [pts p (lgC d (lgTurn s l).2.1), diskHP d (lgTurn s l).1]) w' → R (.int .i64 (lgTurn s l).2.2) w') : CALL PR F_seglog_Log_turn [ptrTo p] w R := by
  refine C_seglog_Log_turn ?_
  unfold M_seglog_Log_turn
  unfold lgTurn at hR
  have hseg := okS_iff.1 hl.seg
  obtain ⟨T, b⟩ := h.cell (i := 0) rfl
  unfold ptrTo
  unfold lgC ptrTo at b
  (repeat (first | refine BND_step (inc_u (x := l.seg) (by omega)) ?_ | refine gg ?_))
  refine name_Of (hT _ h.frame) 109 (l.seg + 1) (by omega) fun w1 f1 => ?_
  have h1 := h.fr0 f1
  obtain ⟨T1, b1⟩ := h1.cell (i := 0) rfl
  unfold lgC ptrTo at b1
  cases hk : okS (l.seg + 1) with
  | false =>
    rw [nameOf_noS hk]
    rw [hk] at hR
    (repeat refine gg ?_)
    exact hR _ h1
  | true =>
    rw [nameOf_S hk]
    rw [hk] at hR
    simp only [if_true] at hR
    obtain ⟨A, z, back⟩ := sg_disk h1
    (repeat refine gg ?_)
    refine dk_Create z hi.wf (by omega) (sgN (l.seg + 1)) fun w2 z2 => ?_
    have h2 := back _ _ z2
    obtain ⟨T2, b2⟩ := h2.cell (i := 0) rfl
    unfold lgC ptrTo at b2
    by_cases he : (create s (sgN (l.seg + 1))).2 = 0
    · rw [if_pos he] at hR
      (repeat (first | refine BND_step (inc_u (x := l.seg) (by omega)) ?_ | refine gg ?_))
      refine h2.store (i := 0) rfl ⟨rfl, rfl⟩ (by simp [lgC]) fun w3 h3 _ => ?_
      (repeat refine gg ?_)
      refine h3.store (i := 0) rfl ⟨rfl, rfl⟩ (by simp [lgC]) fun w4 h4 _ => ?_
      (repeat refine gg ?_)
      refine h4.store (i := 0) rfl ⟨rfl, rfl⟩ (by simp [lgC]) fun w5 h5 _ => ?_
      exact hR _ h5
    · rw [if_neg he] at hR
      (repeat refine gg ?_)
      exact hR _ h2
/-- bytes are put behind the last segment. -/
theorem sg_put (hT : TabS w0 F0) (h : At w0 F0 (stars [pts p (lgC d l), diskHP d s]) w) (hi : Inv s) (hn : s.dirs.length < 1000000000) (hn2 : s.files.length < 1000000000) {m : Nat} (hl : LgOk l m) (hm : m < 1000000000) {v : Value} {bs : List UInt8} {G : List Nat} (sb : Slc encB 1 w0 v bs G) (hG : ∀ b ∈ G, b ∉ F0) (hb : bs.length < 1000000)
    (hR : ∀ w', At w0 F0 (stars [pts p (lgC d (lgPut s l bs).2.1), diskHP d (lgPut s l bs).1]) w' → R (.tuple #[.int .u64 ((lgPut s l bs).2.2.1 : Int), .int .u64 ((lgPut s l bs).2.2.2.1 : Int), .int .i64 (lgPut s l bs).2.2.2.2]) w') :
  BND (nilchk (ptrTo p)) fun t50_35 =>
  BND (faddr 1 t50_35) fun t51_36 =>
  BND (load1 w t51_36) fun t52_37 =>
  CALL PR F_name_Of [(Value.int .u8 109), t52_37] w fun t53_38 w4 =>
  BND (extractv t53_38 0) fun t54_39 =>
  BND (extractv t53_38 1) fun t55_40 =>
  BND (nilchk (ptrTo p)) fun t57_41 =>
  BND (faddr 0 t57_41) fun t58_42 =>
  BND (load1 w4 t58_42) fun t59_43 =>
  CALL PR F_disk_Disk_Append [t59_43, t54_39, v] w4 fun t62_44 w5 =>
  BND (binv .int .neq t62_44 (Value.int .i64 0)) fun t64_45 =>
  COND t64_45
  (R (.tuple #[(Value.int .u64 0), (Value.int .u64 0), t62_44]) w5)
  (BND (nilchk (ptrTo p)) fun t67_46 =>
  BND (faddr 2 t67_46) fun t68_47 =>
  BND (load1 w5 t68_47) fun t69_48 =>
  BND (nilchk (ptrTo p)) fun t71_49 =>
  BND (faddr 2 t71_49) fun t72_50 =>
  BND (load1 w5 t72_50) fun t73_51 =>
  BND (lenl v) fun t75_52 =>
  BND (convi .u64 t75_52) fun t76_53 =>
  BND (binv .int .add t73_51 t76_53) fun t77_54 =>
  BND (nilchk (ptrTo p)) fun t78_55 =>
  BND (faddr 2 t78_55) fun t79_56 =>
  BND (storev 1 w5 t79_56 t77_54) fun w6 =>
  BND (nilchk (ptrTo p)) fun t82_57 =>
  BND (faddr 4 t82_57) fun t83_58 =>
  BND (nilchk (ptrTo p)) fun t86_59 =>
  BND (faddr 1 t86_59) fun t87_60 =>
  BND (load1 w6.drew t83_58) fun t84_61 =>
  BND (load1 w6.drew t87_60) fun t88_62 =>
  BND (min2v t84_61 t88_62) fun t89_63 =>
  BND (nilchk (ptrTo p)) fun t90_64 =>
  BND (faddr 4 t90_64) fun t91_65 =>
  BND (storev 1 w6.drew t91_65 t89_63) fun w7 =>
  BND (nilchk (ptrTo p)) fun t93_66 =>
  BND (faddr 1 t93_66) fun t94_67 =>
  BND (load1 w7 t94_67) fun t95_68 =>
  R (.tuple #[t95_68, t69_48, (Value.int .i64 0)]) w7) := by
  have hseg := okS_iff.1 hl.seg
  have hat := hl.at_
  have hdd := hl.dirty
  unfold lgPut at hR
  obtain ⟨T, b⟩ := h.cell (i := 0) rfl
  unfold ptrTo
  unfold lgC ptrTo at b
  (repeat refine gg ?_)
  refine name_Of (hT _ h.frame) 109 l.seg (by omega) fun w1 f1 => ?_
  have h1 := h.fr0 f1
  obtain ⟨T1, b1⟩ := h1.cell (i := 0) rfl
  unfold lgC ptrTo at b1
  rw [nameOf_S hl.seg]
  have l2 := sb.len
  obtain ⟨A, za, hAa, hA0, back⟩ := At.zoom3 h1 (Fr.refl _ _) 1 rfl
  (repeat refine gg ?_)
  refine dk_Append za hi.wf (by omega) (by omega) (sgN l.seg) (by omega) l2 (fun w' f => ?_) fun w2 z2 => ?_
  · have fw : Fr F0 w0 w' := h1.frame.trans f hA0
    exact (sb.fr fw hG).loads encB_len
  have h2 := back _ _ z2
  simp only [List.set_cons_succ, List.set_cons_zero] at h2
  obtain ⟨T2, b2⟩ := h2.cell (i := 0) rfl
  unfold lgC ptrTo at b2
  by_cases he : (append s (sgN l.seg) bs).2 = 0
  · rw [if_pos he] at hR
    have cl := cu64 (n := bs.length) (by omega)
    have ea := add_u (x := l.at_) (y := bs.length) (by omega)
    have em := min_u l.dirty l.seg
    (repeat refine gg ?_)
    refine h2.store (i := 0) rfl ⟨rfl, rfl⟩ (by simp [lgC]) fun w3 h3 _ => ?_
    have h3d := h3.fr0 (Fr.drew [] w3)
    obtain ⟨T3, b3⟩ := h3d.cell (i := 0) rfl
    replace b3 : blk w3.drew p = some (.cells [.pointer (some ⟨d, 0, none⟩), .int .u64 (l.seg : Int), .int .u64 ((l.at_ + bs.length : Nat) : Int), .int .i64 l.most, .int .u64 (l.dirty : Int), .bool l.begun].toArray T3 (0, 0)) := b3
    (repeat refine gg ?_)
    refine h3d.store (i := 0) rfl ⟨rfl, rfl⟩ (by simp [lgC]) fun w4 h4 _ => ?_
    obtain ⟨T4, b4⟩ := h4.cell (i := 0) rfl
    replace b4 : blk w4 p = some (.cells [.pointer (some ⟨d, 0, none⟩), .int .u64 (l.seg : Int), .int .u64 ((l.at_ + bs.length : Nat) : Int), .int .i64 l.most, .int .u64 ((min l.dirty l.seg : Nat) : Int), .bool l.begun].toArray T4 (0, 0)) := b4
    (repeat refine gg ?_)
    exact hR _ h4
  · rw [if_neg he] at hR
    (repeat refine gg ?_)
    exact hR _ h2
theorem sg_Append (hT : TabS w0 F0) (h : At w0 F0 (stars [pts p (lgC d l), diskHP d s]) w) (hi : Inv s) (hn : s.dirs.length < 100000000) (hn2 : s.files.length < 100000000) {m : Nat} (hl : LgOk l m) (hm : m < 1000000000) {nv : SV} {ns : List Nat} (k : Int) (t : ByteArray) (hv : Arr encU 1 w nv.v ns) (hs : ∀ n ∈ ns, n < 18446744073709551616)
    (hR : ∀ w', At w0 F0 (stars [pts p (lgC d (lgAppend s l k ns t.data.toList).2.1), diskHP d (lgAppend s l k ns t.data.toList).1]) w' → R (.tuple #[.int .u64 ((lgAppend s l k ns t.data.toList).2.2.1 : Int), .int .u64 ((lgAppend s l k ns t.data.toList).2.2.2.1 : Int), .int .i64 (lgAppend s l k ns t.data.toList).2.2.2.2]) w') :
    CALL PR F_seglog_Log_Append [ptrTo p, .agg (encRc (k, nv, t)).toArray] w R := by
  refine C_seglog_Log_Append ?_
  unfold M_seglog_Log_Append
  have ets : t.data.toList.length = t.size := Array.length_toList
  unfold lgAppend at hR
  rw [ets] at hR
  refine NEW_intro fun w1 b1 f1 z1 => ?_
  replace b1 : blk w1 (hsz w) = some (.cells (encRc (k, nv, t)).toArray 26 (0, 0)) := b1
  (repeat (first | refine BND_step (loadn_all' b1 rfl) ?_ | refine gg ?_))
  refine rec_Bytes k t (hv.fr f1 (by simp)) hs (fun w2 hno f2 => ?_) fun w2 v2 G2 hyes s2 g2 f2 => ?_
  · rw [hno] at hR
    (repeat refine gg ?_)
    exact hR _ ((h.fr0 f1).fr0 f2)
  · rw [hyes] at hR
    simp only [if_true] at hR
    have hlen := recB_len (k := k) (ns := ns) (t := t.data.toList) (by rw [ets]; exact hyes) hs
    generalize recB k.toNat ns t.data.toList = bs at *
    have hz := (f1.trans' f2).grow
    have h2 := (h.fr0 f1).fr0 f2
    have h2d := h2.fr0 (Fr.drew [] w2)
    have s2d := s2.fr (Fr.drew [] w2) (by simp)
    have g2d : ∀ b ∈ G2, hsz w ≤ b := fun b hb => by have := g2 b hb; have := f1.grow; omega
    obtain ⟨T2, b2⟩ := h2d.cell (i := 0) rfl
    have hat := hl.at_
    have hlo := hl.lo
    have hhi := hl.hi
    have l2 := s2.len
    have ncast : l.most = ((l.most.toNat : Nat) : Int) := by omega
    have cm : convi .u64 (.int .i64 l.most) = some (.int .u64 l.most) := by rw [ncast]; exact cu64 (by omega)
    unfold ptrTo
    unfold lgC ptrTo at b2
    obtain ⟨A, hA, hAlt, hA0, back⟩ := At.re3 h ((f1.trans' f2).trans' (Fr.drew [] w2))
    have fb : Fr F0 w0 w2.drew := ((h.fr0 f1).fr0 f2).fr0 (Fr.drew [] w2) |>.frame
    have hTA : TabS w2.drew A := fun w' fr => hT w' (fb.trans fr hA0)
    have hGA : ∀ b ∈ G2, b ∉ A := fun b hb hb' => by have := g2d b hb; have := hAlt b hb'; omega
    replace hR := fun w' h' => hR w' (back _ _ h')
    unfold lgB at hR
    have rest : ∀ {Q : Prop}, (∀ s' l', Inv s' → s'.dirs.length < 1000000000 → s'.files.length < 1000000000 → LgOk l' m → (∀ w', At w2.drew A (stars [pts p (lgC d (lgPut s' l' bs).2.1), diskHP d (lgPut s' l' bs).1]) w' → R (.tuple #[.int .u64 ((lgPut s' l' bs).2.2.1 : Int), .int .u64 ((lgPut s' l' bs).2.2.2.1 : Int), .int .i64 (lgPut s' l' bs).2.2.2.2]) w') → Q) → True := fun _ => trivial
    clear rest
    by_cases q : 0 < l.at_ ∧ l.most < ((l.at_ + bs.length : Nat) : Int)
    · rw [if_pos q] at hR
      have q1 := q.1
      have q2 : l.most < ((l.at_ + bs.length : Nat) : Int) := q.2
      have cl := cu64 (n := bs.length) (by omega)
      have ea := add_u (x := l.at_) (y := bs.length) (by omega)
      (repeat refine gg ?_)
      refine join_w (fun w' => (lgTurn s l).2.2 = 0 ∧ At w2.drew A (stars [pts p (lgC d (lgTurn s l).2.1), diskHP d (lgTurn s l).1]) w') (fun K hK => ?_) fun w' hq => ?_
      · (repeat refine gg ?_)
        refine sg_turn hTA hA hi (by omega) (by omega) hl fun w3 h3 => ?_
        by_cases he : (lgTurn s l).2.2 = 0
        · (repeat refine gg ?_)
          exact hK _ ⟨he, h3⟩
        · rw [if_neg he] at hR
          (repeat refine gg ?_)
          exact hR _ h3
      · rw [if_pos hq.1] at hR
        have hmo := create_mo s (sgN (l.seg + 1))
        have hto : (lgTurn s l).1.dirs.length ≤ s.dirs.length + 1 ∧ (lgTurn s l).1.files.length ≤ s.files.length + 1 := by
          unfold lgTurn
          split
          · split <;> exact hmo
          · simp
        exact sg_put hTA hq.2 (inv_turn hi l) (by omega) (by omega) (turn_ok hl) hm s2d hGA (by omega) hR
    · rw [if_neg q] at hR
      have cl := cu64 (n := bs.length) (by omega)
      have ea := add_u (x := l.at_) (y := bs.length) (by omega)
      have fin : ∀ w', w' = w2.drew → At w2.drew A (stars [pts p (lgC d l), diskHP d s]) w' := fun w' e => by rw [e]; exact hA
      by_cases q1 : 0 < l.at_
      · have q2 : ¬ l.most < ((l.at_ + bs.length : Nat) : Int) := fun h => q ⟨q1, h⟩
        (repeat refine gg ?_)
        refine join_w (fun w' => w' = w2.drew) (fun K hK => ?_) fun w' hq => ?_
        · (repeat refine gg ?_)
          exact hK _ rfl
        · exact sg_put hTA (fin w' hq) hi (by omega) (by omega) hl hm s2d hGA (by omega) hR
      · (repeat refine gg ?_)
        refine join_w (fun w' => w' = w2.drew) (fun K hK => ?_) fun w' hq => ?_
        · (repeat refine gg ?_)
          exact hK _ rfl
        · exact sg_put hTA (fin w' hq) hi (by omega) (by omega) hl hm s2d hGA (by omega) hR
theorem sg_At (hT : TabS w0 F0) (h : At w0 F0 (diskHP d s) w) (hi : Inv s) (hn : s.dirs.length < 100000000) (seg at_ : Nat) (hs : seg < 18446744073709551616) (ha : at_ < 18446744073709551616)
    (hR : ∀ w' (nv : SV) G, At w0 F0 (diskHP d s) w' → Slc encU 1 w' nv.v (lgRead s seg at_).1.n G → (∀ b ∈ G, hsz w ≤ b) → Fr [] w w' → R (.tuple #[.agg (encRc (((lgRead s seg at_).1.kind : Int), nv, txB (lgRead s seg at_).1.text)).toArray, .int .i64 ((lgRead s seg at_).2.1 : Int), .int .i64 (lgRead s seg at_).2.2]) w') :
    CALL PR F_seglog_At [ptrTo d, .int .u64 (seg : Int), .int .u64 (at_ : Int)] w R := by
  refine C_seglog_At ?_
  unfold M_seglog_At
  unfold lgRead at hR
  have hrs := read_sm hi (sgN seg)
  refine NEW_intro fun w1 b1 f1 z1 => ?_
  have h1 := (At.wrap h).add f1 (P := pts (hsz w) [.int .i64 0, .slice none 0 0, .string ByteArray.empty]) (A := [hsz w]) ⟨⟨_, b1⟩, rfl⟩ (by simp)
  have none_ : ∀ {w2} (e : Int), At w0 F0 (stars [pts (hsz w) [.int .i64 0, .slice none 0 0, .string ByteArray.empty], diskHP d s]) w2 → Fr [] w w2 → (∀ w' (nv : SV) G, At w0 F0 (diskHP d s) w' → Slc encU 1 w' nv.v zeroR.n G → (∀ b ∈ G, hsz w ≤ b) → Fr [] w w' → R (.tuple #[.agg (encRc ((zeroR.kind : Int), nv, txB zeroR.text)).toArray, .int .i64 ((0 : Nat) : Int), .int .i64 e]) w') →
      BND (buildv #[(Value.int .i64 0), (Value.slice none 0 0), (Value.string ByteArray.empty)] []) fun t21 => BND (storev 3 w2 (.pointer (some ⟨hsz w, 0, none⟩)) t21) fun w3 => BND (loadn 3 w3 (.pointer (some ⟨hsz w, 0, none⟩))) fun r => R (.tuple #[r, (Value.int .i64 0), .int .i64 e]) w3 := by
    intro w2 e h2 f02 hR
    (repeat (first | refine gg ?_ | (apply BND_build ([.int .i64 0, .slice none 0 0, .string ByteArray.empty]); exact rfl)))
    refine h2.put (i := 0) rfl rfl rfl (by intro u hu; simp at hu; rcases hu with rfl | rfl | rfl <;> rfl) (by simp) fun w3 h3 f3 => ?_
    obtain ⟨T3, b3⟩ := h3.cell (i := 0) rfl
    (repeat (first | refine BND_step (loadn_all' b3 rfl) ?_ | refine gg ?_))
    exact hR w3 ⟨none, 0, 0⟩ [] (At.unwrap h3.tail) (Slc.nil _ _ _) (by simp) (f02.trans f3 fun b hb => .inr (by simp at hb; omega))
  refine name_Of (hT _ h1.frame) 109 seg hs fun w2 f2 => ?_
  have h2 := h1.fr0 f2
  have f02 := f1.trans' f2
  cases hk : okS seg with
  | false =>
    rw [nameOf_noS hk]
    rw [hk] at hR
    (repeat refine gg ?_)
    exact none_ 1 h2 f02 hR
  | true =>
    rw [nameOf_S hk]
    rw [hk] at hR
    simp only [if_true] at hR
    obtain ⟨A, z, back⟩ := At.zoom h2 1 rfl
    (repeat refine gg ?_)
    refine dk_Read z hi.wf (by omega) (sgN seg) fun w4 v4 G4 z4 s4 g4 f4 => ?_
    have h4 := back _ _ z4
    simp only [List.set_cons_succ, List.set_cons_zero] at h4
    have f04 := f02.trans' f4
    generalize Disk.read s (sgN seg) = rd at *
    obtain ⟨bs, e⟩ := rd
    simp only at hR hrs s4 ⊢
    by_cases he : e = 0
    · rw [if_pos he] at hR
      have l4 := s4.len
      have cl := cu64 (n := bs.length) (by omega)
      by_cases q1 : bs.length < at_
      · rw [if_pos q1] at hR
        (repeat refine gg ?_)
        exact none_ 3 h4 f04 hR
      · rw [if_neg q1] at hR
        obtain ⟨pv, ep, sp⟩ : ∃ pv, slicev 1 v4 (some (.int .u64 (at_ : Int))) none = some pv ∧ ArrC encB 1 w4 pv (bs.drop at_) := by
          obtain ⟨pv, e1, e2⟩ := s4.arrC.from (lo := at_) (by omega)
          exact ⟨pv, (slicev_u _ _ _).trans e1, e2⟩
        (repeat refine gg ?_)
        refine rec_All sp (by rw [List.length_drop]; omega) fun w7 v7 ev7 G7 B7 E7 rl se gG gB gE f7 => ?_
        have h7 := h4.fr0 f7
        have f07 := f04.trans' f7
        have hlen := recAll_ends (bs.drop at_)
        have rll := rl.len
        generalize recAll (bs.drop at_) = ra at *
        by_cases q2 : 0 < ra.1.length
        · obtain ⟨sv, bv, be, x, en, ex, ee, i1, i2, rfl, rfl, ld, le, H, sh, hH⟩ := recs_first rl se hlen q2
          have hfirst : firstR ra = (x, en, 0) := by
            obtain ⟨l1, l2, e3⟩ := ra
            unfold firstR
            cases l1 with
            | nil => simp at ex
            | cons a r =>
              cases l2 with
              | nil => simp at ee
              | cons b r2 =>
                simp at ex ee
                subst ex; subst ee
                rfl
          rw [hfirst] at hR
          (repeat refine gg ?_)
          refine ⟨fun _ w' => load1 w' (.pointer (some ⟨be, 0, none⟩)) = some (.int .i64 (en : Int)), le _ rfl, ?_⟩
          (repeat (first | refine BND_step (ld w7.drew rfl) ?_ | refine gg ?_ | refine FLT.mk _ (fun _ hw_ => hw_) ?_))
          have h7d := h7.fr0 (Fr.drew [] w7)
          refine h7d.put (i := 0) rfl rfl (encRc_len _) (encRc_one _) (by simp [encRc]) fun w8 h8 f8 => ?_
          have gr := (f04.trans' f7).grow
          have gr0 := f04.grow
          have gr1 := (f2.trans' f4).grow
          have bne : be ≠ hsz w := fun e => by have := gE be (by simp); have := f1.grow; omega
          refine ⟨?_, ?_⟩
          · exact le w8 (f8.keep be (by have := se.lt be (by simp); exact this) (by simpa using bne))
          obtain ⟨T8, b8⟩ := h8.cell (i := 0) rfl
          (repeat (first | refine BND_step (loadn_all' b8 (encRc_len _)) ?_ | refine gg ?_))
          refine hR w8 sv H (At.unwrap h8.tail) ((sh.fr (Fr.drew [] w7) (by simp)).fr f8 fun b hb hb' => ?_) (fun b hb => ?_) ((f07.trans' (Fr.drew [] w7)).trans f8 fun b hb => .inr (by simp at hb; omega))
          · have := gB b (hH b hb); simp at hb'; omega
          · have := gB b (hH b hb); omega
        · have hz : ra.1 = [] := List.length_eq_zero_iff.1 (by omega)
          have hfirst : firstR ra = if ra.2.2 = 0 then (zeroR, 0, 3) else (zeroR, 0, ra.2.2) := by
            obtain ⟨l1, l2, e3⟩ := ra
            simp at hz; subst hz
            rfl
          rw [hfirst] at hR
          by_cases q3 : ra.2.2 = 0
          · rw [if_pos q3] at hR
            (repeat refine gg ?_)
            exact none_ 3 h7 f07 hR
          · rw [if_neg q3] at hR
            (repeat refine gg ?_)
            exact none_ _ h7 f07 hR
    · rw [if_neg he] at hR
      (repeat refine gg ?_)
      exact none_ e h4 f04 hR
theorem sg_Read (hT : TabS w0 F0) (h : At w0 F0 (stars [pts p (lgC d l), diskHP d s]) w) (hi : Inv s) (hn : s.dirs.length < 100000000) (seg at_ : Nat) (hs : seg < 18446744073709551616) (ha : at_ < 18446744073709551616)
    (hR : ∀ w' (nv : SV) G, At w0 F0 (stars [pts p (lgC d l), diskHP d s]) w' → Slc encU 1 w' nv.v (lgRead s seg at_).1.n G → (∀ b ∈ G, hsz w ≤ b) → Fr [] w w' → R (.tuple #[.agg (encRc (((lgRead s seg at_).1.kind : Int), nv, txB (lgRead s seg at_).1.text)).toArray, .int .i64 ((lgRead s seg at_).2.1 : Int), .int .i64 (lgRead s seg at_).2.2]) w') :
    CALL PR F_seglog_Log_Read [ptrTo p, .int .u64 (seg : Int), .int .u64 (at_ : Int)] w R := by
  refine C_seglog_Log_Read ?_
  unfold M_seglog_Log_Read
  refine NEW_intro fun w1 b1 f1 z1 => ?_
  have h1 := h.add f1 (P := pts (hsz w) [.int .i64 0, .slice none 0 0, .string ByteArray.empty]) (A := [hsz w]) ⟨⟨_, b1⟩, rfl⟩ (by simp)
  obtain ⟨T, c⟩ := h1.cell (i := 1) rfl
  unfold lgC ptrTo at c
  obtain ⟨A, za, hAa, hA0, back⟩ := At.zoom3 h1 (Fr.refl _ _) 2 rfl
  have hTA : TabS w1 A := fun w' fr => hT w' (h1.frame.trans fr hA0)
  unfold ptrTo
  (repeat refine gg ?_)
  refine sg_At hTA za hi hn seg at_ hs ha fun w2 nv G z2 s2 g2 f2 => ?_
  have h2 := back _ _ z2
  simp only [List.set_cons_succ, List.set_cons_zero] at h2
  (repeat refine gg ?_)
  refine h2.put (i := 0) rfl rfl (encRc_len _) (encRc_one _) (by simp [encRc]) fun w3 h3 f3 => ?_
  obtain ⟨T3, b3⟩ := h3.cell (i := 0) rfl
  (repeat (first | refine BND_step (loadn_all' b3 (encRc_len _)) ?_ | refine gg ?_))
  have f02 := f1.trans' f2
  refine hR w3 nv G h3.tail (s2.fr f3 fun b hb hb' => ?_) (fun b hb => ?_) (f02.trans f3 fun b hb => .inr (by simp at hb; omega))
  · have := g2 b hb; simp at hb'; omega
  · have := g2 b hb; omega
theorem sg_End (h : At w0 F0 (stars [pts p (lgC d l), diskHP d s]) w) (hR : R (.tuple #[.int .u64 (l.seg : Int), .int .u64 (l.at_ : Int)]) w.drew) : CALL PR F_seglog_Log_End [ptrTo p] w R := by
  refine C_seglog_Log_End ?_
  unfold M_seglog_Log_End
  have hd := h.fr0 (Fr.drew [] w)
  obtain ⟨T, c⟩ := hd.cell (i := 0) rfl
  unfold lgC ptrTo at c
  unfold ptrTo
  (repeat refine gg ?_)
  exact hR
theorem sg_Sync (hT : TabS w0 F0) (h : At w0 F0 (stars [pts p (lgC d l), diskHP d s]) w) (hi : Inv s) (hn : s.dirs.length < 100000000) {m : Nat} (hl : LgOk l m)
    (hR : ∀ w', At w0 F0 (stars [pts p (lgC d (lgSync s l).2.1), diskHP d (lgSync s l).1]) w' → R (.int .i64 (lgSync s l).2.2) w') : CALL PR F_seglog_Log_Sync [ptrTo p] w R := by
  refine C_seglog_Log_Sync ?_
  unfold M_seglog_Log_Sync
  have hseg := okS_iff.1 hl.seg
  have hdd := hl.dirty
  have hd := h.fr0 (Fr.drew [] w)
  obtain ⟨T, c⟩ := hd.cell (i := 0) rfl
  unfold lgC ptrTo at c
  unfold ptrTo
  have i1 := inc_u (x := l.seg) (by omega)
  have em : min2v (.int .u64 (l.dirty : Int)) (.int .u64 ((l.seg + 1 : Nat) : Int)) = some (.int .u64 (l.dirty : Int)) := by
    have := min_u l.dirty (l.seg + 1)
    rwa [Nat.min_eq_left hdd] at this
  have es := sub_u (x := l.seg + 1) (y := l.dirty) hdd (by omega)
  (repeat refine gg ?_)
  unfold lgSync at hR
  simp only at hR
  generalize hN : l.seg + 1 - l.dirty = N at *
  refine ⟨fun t w' => ∃ (i : Nat) (s' : Dk), t = .int .u64 (i : Int) ∧ i ≤ N ∧ At w0 F0 (stars [pts p (lgC d l), diskHP d s']) w' ∧ Inv s' ∧ s'.dirs.length < 100000000 ∧ syncs N l.dirty s = syncs (N - i) (l.dirty + i) s', fun t _ => match t with | .int _ k => N - k.toNat | _ => 0, ⟨0, s, rfl, by omega, hd, hi, hn, rfl⟩, ?_⟩
  rintro _ _ w1 ⟨i, s', rfl, hiN, h1, hi1, hn1, hsy⟩
  obtain ⟨T1, c1⟩ := h1.cell (i := 0) rfl
  unfold lgC ptrTo at c1
  by_cases hlt : i < N
  · have ei := add_u (x := l.dirty) (y := i) (by omega)
    (repeat refine gg ?_)
    refine name_Of (hT _ h1.frame) 109 (l.dirty + i) (by omega) fun w2 f2 => ?_
    have h2 := h1.fr0 f2
    obtain ⟨T2, c2⟩ := h2.cell (i := 0) rfl
    unfold lgC ptrTo at c2
    rw [nameOf_S (okS_iff.2 (by omega))]
    obtain ⟨A, z, back⟩ := sg_disk h2
    (repeat refine gg ?_)
    refine dk_Sync z hi1.wf (by omega) (sgN (l.dirty + i)) fun w3 z3 => ?_
    have h3 := back _ _ z3
    obtain ⟨j, hj⟩ : ∃ j, N - i = j + 1 := ⟨N - i - 1, by omega⟩
    rw [hj] at hsy
    rw [syncs_succ] at hsy
    by_cases he : (sync s' (sgN (l.dirty + i))).2 = 0
    · rw [if_pos he] at hsy
      (repeat (first | refine BND_step (inc_u (x := i) (by omega)) ?_ | refine gg ?_))
      have := sync_same' s' (sgN (l.dirty + i))
      refine ⟨⟨i + 1, _, rfl, by omega, h3, inv_sync hi1 _, by omega, ?_⟩, by simp only [Int.toNat_natCast]; omega⟩
      rw [hsy, show N - (i + 1) = j by omega, Nat.add_assoc]
    · rw [if_neg he] at hsy
      rw [hsy, if_neg he] at hR
      (repeat refine gg ?_)
      exact hR _ h3
  · have hiN' : i = N := by omega
    subst hiN'
    rw [Nat.sub_self] at hsy
    rw [syncs_zero] at hsy
    rw [hsy] at hR
    simp only [if_true] at hR
    (repeat refine gg ?_)
    have fin : ∀ (s2 : Dk) w', At w0 F0 (stars [pts p (lgC d l), diskHP d s2]) w' → (∀ w'', At w0 F0 (stars [pts p (lgC d { l with dirty := l.seg + 1, begun := false }), diskHP d s2]) w'' → R (.int .i64 0) w'') →
        BND (nilchk (ptrTo p)) fun t62 => BND (faddr 1 t62) fun t63 => BND (load1 w' t63) fun t64 => BND (binv .int .add t64 (Value.int .u64 1)) fun t65 => BND (nilchk (ptrTo p)) fun t66 => BND (faddr 4 t66) fun t67 => BND (storev 1 w' t67 t65) fun w5 =>
          BND (nilchk (ptrTo p)) fun t68 => BND (faddr 5 t68) fun t69 => BND (storev 1 w5 t69 (Value.bool false)) fun w6 => R (Value.int .i64 0) w6 := by
      intro s2 w' h' hk
      obtain ⟨T', c'⟩ := h'.cell (i := 0) rfl
      unfold lgC ptrTo at c'
      unfold ptrTo
      (repeat refine gg ?_)
      refine h'.store (i := 0) rfl ⟨rfl, rfl⟩ (by simp [lgC]) fun w5 h5 _ => ?_
      (repeat refine gg ?_)
      refine h5.store (i := 0) rfl ⟨rfl, rfl⟩ (by simp [lgC]) fun w6 h6 _ => ?_
      exact hk _ h6
    cases hbg : l.begun with
    | false =>
      rw [hbg] at hR
      simp only [Bool.false_eq_true, if_false] at hR
      refine join_w (fun w' => w' = w1) (fun K hK => ?_) fun w' hq => ?_
      · (repeat refine gg ?_)
        exact hK _ rfl
      · rw [hq]
        exact fin s' w1 h1 hR
    | true =>
      rw [hbg] at hR
      simp only [if_true] at hR
      refine join_w (fun w' => (dirsync s').2 = 0 ∧ At w0 F0 (stars [pts p (lgC d l), diskHP d (dirsync s').1]) w') (fun K hK => ?_) fun w' hq => ?_
      · obtain ⟨A, z, back⟩ := sg_disk h1
        (repeat refine gg ?_)
        refine dk_DirSync z hi1.wf (by omega) fun w3 z3 => ?_
        have h3 := back _ _ z3
        by_cases he : (dirsync s').2 = 0
        · (repeat refine gg ?_)
          exact hK _ ⟨he, h3⟩
        · rw [if_neg he] at hR
          (repeat refine gg ?_)
          exact hR _ h3
      · rw [if_pos hq.1] at hR
        exact fin _ w' hq.2 hR
end
end Go.Proofs.YtofllgbdphakiaaDoor
end

section
set_option linter.unusedSimpArgs false
set_option linter.unusedVariables false
namespace Go.Sg
open Go.Den Go.Disk Go.Nm Go.Rec Go.Frame Go.Ev Go.Proofs.YtofllgbdphakiaaDoor
structure Pc where
  k : Int
  ns : List Nat
  t : List UInt8
  seg : Nat
  at_ : Nat
def Pc.b (x : Pc) : List UInt8 := recB x.k.toNat x.ns x.t
def Pc.rc (x : Pc) : Rc := ⟨x.k.toNat, x.ns, x.t⟩
structure OkP (x : Pc) : Prop where
  right : rightB x.k x.ns.length x.t.length = true
  small : ∀ n ∈ x.ns, n < 18446744073709551616
theorem OkP.len {x : Pc} (h : OkP x) : 11 ≤ x.b.length ∧ x.b.length ≤ 175 := recB_len h.right h.small
def segB (ps : List Pc) (k : Nat) : List UInt8 := ps.flatMap fun x => if x.seg = k then x.b else []
theorem segB_app (a b : List Pc) (k : Nat) : segB (a ++ b) k = segB a k ++ segB b k := by unfold segB; rw [List.flatMap_append]
theorem segB_one (x : Pc) (k : Nat) : segB [x] k = if x.seg = k then x.b else [] := by unfold segB; simp
theorem segB_none {ps : List Pc} {k : Nat} (h : ∀ x ∈ ps, x.seg ≠ k) : segB ps k = [] := by
  unfold segB
  rw [List.flatMap_eq_nil_iff]
  intro x hx
  rw [if_neg (h x hx)]
theorem segB_at {ps : List Pc} {i : Nat} {x : Pc} (h : ps[i]? = some x) : segB ps x.seg = segB (ps.take i) x.seg ++ (x.b ++ segB (ps.drop (i + 1)) x.seg) := by
  obtain ⟨hi, he⟩ := List.getElem?_eq_some_iff.1 h
  have e : ps.take i ++ x :: ps.drop (i + 1) = ps := by rw [← he, ← List.drop_eq_getElem_cons hi, List.take_append_drop]
  have q := segB_app (ps.take i) (x :: ps.drop (i + 1)) x.seg
  rw [e] at q
  rw [q, show x :: ps.drop (i + 1) = [x] ++ ps.drop (i + 1) from rfl, segB_app, segB_one, if_pos rfl]
/-! ## What is read -/
theorem recAll_first {k : Nat} {ns : List Nat} {t : List UInt8} (h : rightB k ns.length t.length = true) (hs : ∀ n ∈ ns, n < 18446744073709551616) (r : List UInt8) : firstR (recAll (recB k ns t ++ r)) = (⟨k, ns, t⟩, (recB k ns t).length, 0) := by
  have hb := body_small h hs
  have e := frAll_cons (toFra k ns t) (by unfold toFra; simp only; omega) r 0
  unfold recAll
  rw [show recB k ns t = frB (toFra k ns t) from rfl, e]
  have er : recRead (toFra k ns t) = (⟨k, ns, t⟩, 0) := recRead_of h hs
  simp only [recAllF, er, if_true, frB_len]
  unfold firstR
  simp
theorem first_none : firstR (recAll []) = (zeroR, 0, 3) := by
  unfold recAll
  rw [frAll_nil]
  rfl
theorem OkP.first {x : Pc} (h : OkP x) (r : List UInt8) : firstR (recAll (x.b ++ r)) = (x.rc, x.b.length, 0) := by
  have h1 := right_known h.right
  exact recAll_first (by rw [show ((x.k.toNat : Nat) : Int) = x.k by omega]; exact h.right) h.small r
structure Held (s : Dk) (ps : List Pc) : Prop where
  at_ : ∀ i x, ps[i]? = some x → OkP x ∧ okS x.seg = true ∧ Disk.read s (sgN x.seg) = (segB ps x.seg, 0) ∧ x.at_ = (segB (ps.take i) x.seg).length
theorem Held.read {s : Dk} {ps : List Pc} (h : Held s ps) {i : Nat} {x : Pc} (hx : ps[i]? = some x) : lgRead s x.seg x.at_ = (x.rc, x.b.length, 0) := by
  obtain ⟨h1, h2, h3, h4⟩ := h.at_ i x hx
  unfold lgRead
  rw [if_pos h2, h3]
  simp only [if_true]
  rw [segB_at hx, if_neg (by rw [List.length_append]; omega), h4, List.drop_left]
  exact h1.first _
/-! ## A log on a disk of its own -/
theorem sumF_set {fs : List Fl} {f : Nat} {x y : Fl} (h : fs[f]? = some x) : sumF (fs.set f y) + x.b.length = sumF fs + y.b.length := by
  unfold sumF
  induction fs generalizing f with
  | nil => simp at h
  | cons a fs ih =>
    cases f with
    | zero => simp at h; subst h; simp; omega
    | succ f =>
      have := ih (f := f) (by simpa using h)
      simp only [List.set_cons_succ, List.map_cons, List.sum_cons]; omega
structure Full (s : Dk) (room : Int) (l : Lg) (s0 : Nat) (ps : List Pc) (c m : Nat) : Prop where
  ex : ∃ ds fs, Ev s room ds fs ∧ ds.length ≤ m + 2 ∧ (ds.getLastD []).length = l.seg + 1 - s0 ∧ fs.length = l.seg + 1 - s0 ∧ sumF fs ≤ 175 * c ∧
    (∀ k, s0 ≤ k → k ≤ l.seg → findD (ds.getLastD []) (sgN k) = some (k - s0) ∧ ∃ n, fs[k - s0]? = some ⟨segB ps k, n⟩) ∧ ∀ x ∈ ds.getLastD [], ∃ k, s0 ≤ k ∧ k ≤ l.seg ∧ x.1 = sgN k
  lg : LgOk l (175 * c)
  seg : s0 ≤ l.seg
  most : l.seg ≤ s0 + m
  at_ : l.at_ = (segB ps l.seg).length
  recs : ∀ i x, ps[i]? = some x → OkP x ∧ s0 ≤ x.seg ∧ x.seg ≤ l.seg ∧ x.at_ = (segB (ps.take i) x.seg).length
section
variable {s : Dk} {room : Int} {l : Lg} {s0 c m : Nat} {ps : List Pc}
theorem Full.inv (h : Full s room l s0 ps c m) : Inv s := by obtain ⟨_, _, e, _⟩ := h.ex; exact e.inv
theorem Full.small (h : Full s room l s0 ps c m) : s.dirs.length ≤ m + 2 ∧ s.files.length ≤ m + 1 := by
  obtain ⟨ds, fs, e, h1, _, h2, _⟩ := h.ex
  have := h.most; have := h.seg
  rw [e.dirs, e.files]; omega
theorem okS_le {a b : Nat} (h : okS b = true) (hab : a ≤ b) : okS a = true := by rw [okS_iff] at h ⊢; omega
theorem Full.held (h : Full s room l s0 ps c m) : Held s ps := by
  obtain ⟨ds, fs, e, _, _, _, _, h2, _⟩ := h.ex
  refine ⟨fun i x hx => ?_⟩
  obtain ⟨r1, r2, r3, r4⟩ := h.recs i x hx
  obtain ⟨q1, n, q2⟩ := h2 x.seg r2 r3
  exact ⟨r1, okS_le h.lg.seg r3, e.read q1 q2, r4⟩
theorem named_S {k : Nat} (h : okS k = true) : named (sgN k) = true := (nmB_named (show okN 109 k = true from h)).1
theorem full_start (hroom : 16 ≤ room ∧ room ≤ 1048576) {seg : Nat} {most : Int} (hm : mayL seg most = true) : (lgBegin (empty room) seg most).2 = (some ⟨seg, 0, most, seg, true⟩, 0) ∧ Full (lgBegin (empty room) seg most).1 room ⟨seg, 0, most, seg, true⟩ seg [] 0 0 := by
  obtain ⟨h1, h2, h3⟩ := may_iff.1 hm
  obtain ⟨c1, c2⟩ := (Ev.empty hroom).create (named_S h1) (by simp [findD]) (by simp)
  have e : lgBegin (empty room) seg most = ((create (empty room) (sgN seg)).1, some ⟨seg, 0, most, seg, true⟩, 0) := by unfold lgBegin; rw [if_pos hm, if_pos c1]
  rw [e]
  refine ⟨rfl, ⟨_, _, c2, by simp, ?_, ?_, by simp [sumF], fun k k1 k2 => ?_, fun x hx => ?_⟩, ⟨h1, h2, h3, by simp, by simp⟩, Nat.le_refl _, by simp, rfl, fun i x hx => by simp at hx⟩
  · show (withD [] (sgN seg, 0)).length = _; simp [withD]
  · simp
  · have hk : k = seg := by simp only at k2; omega
    subst hk
    refine ⟨?_, 0, ?_⟩
    · show findD (withD [] (sgN k, 0)) (sgN k) = _; simp [withD, findD]
    · simp [segB]
  · have : x ∈ withD [] (sgN seg, 0) := hx
    simp only [withD, List.mem_singleton] at this
    subst this
    exact ⟨seg, Nat.le_refl _, Nat.le_refl _, rfl⟩
/-- bytes are put behind the last segment. -/
theorem full_put (h : Full s room l s0 ps c m) (hr : ((175 * c + 175 : Nat) : Int) ≤ room) {k : Int} {ns : List Nat} {t : List UInt8} (hp : rightB k ns.length t.length = true) (hs : ∀ n ∈ ns, n < 18446744073709551616) :
    (lgPut s l (recB k.toNat ns t)).2.2 = (l.seg, l.at_, 0) ∧ Full (lgPut s l (recB k.toNat ns t)).1 room (lgPut s l (recB k.toNat ns t)).2.1 s0 (ps ++ [⟨k, ns, t, l.seg, l.at_⟩]) (c + 1) m ∧
      (lgPut s l (recB k.toNat ns t)).2.1 = { l with at_ := l.at_ + (recB k.toNat ns t).length, dirty := min l.dirty l.seg } := by
  obtain ⟨ds, fs, e, hd, hl, hf, hsum, hk, hn⟩ := h.ex
  have hseg := h.seg
  obtain ⟨q1, n, q2⟩ := hk l.seg hseg (Nat.le_refl _)
  have hb := recB_len hp hs
  have hlo := put_ok h.lg (s := s) (recB k.toNat ns t)
  obtain ⟨a1, a2⟩ := e.append q1 q2 (bs := recB k.toNat ns t) (by omega)
  simp only at a2
  have ep : lgPut s l (recB k.toNat ns t) = ((append s (sgN l.seg) (recB k.toNat ns t)).1, { l with at_ := l.at_ + (recB k.toNat ns t).length, dirty := min l.dirty l.seg }, l.seg, l.at_, 0) := by unfold lgPut; rw [if_pos a1]
  rw [ep] at hlo ⊢
  simp only at hlo
  have hset := sumF_set (y := ⟨segB ps l.seg ++ recB k.toNat ns t, n⟩) q2
  simp only [List.length_append] at hset
  refine ⟨rfl, ⟨⟨_, _, a2, by omega, hl, by simpa using hf, by omega, fun j j1 j2 => ?_, hn⟩, hlo.more (by omega), hseg, by have := h.most; simp only; omega, ?_, fun i x hx => ?_⟩, rfl⟩
  · obtain ⟨p1, m1, p2⟩ := hk j j1 j2
    refine ⟨p1, ?_⟩
    rw [segB_app, segB_one]
    simp only
    by_cases hj : l.seg = j
    · subst hj
      rw [if_pos rfl]
      exact ⟨n, by rw [List.getElem?_set_self (List.getElem?_eq_some_iff.1 q2).1]; rfl⟩
    · rw [if_neg hj, List.append_nil]
      simp only at j2
      exact ⟨m1, by rw [List.getElem?_set_ne (by omega)]; exact p2⟩
  · simp only [segB_app, segB_one, if_true, List.length_append, h.at_]; rfl
  · by_cases hi : i < ps.length
    · rw [List.getElem?_append_left hi] at hx
      obtain ⟨r1, r2, r3, r4⟩ := h.recs i x hx
      exact ⟨r1, r2, r3, by rw [List.take_append_of_le_length (by omega)]; exact r4⟩
    · have : i = ps.length := by have := (List.getElem?_eq_some_iff.1 hx).1; simp at this; omega
      subst this
      simp at hx; subst hx
      exact ⟨⟨hp, hs⟩, hseg, Nat.le_refl _, by rw [List.take_left]; exact h.at_⟩
/-- the next segment is begun. -/
theorem full_turn (h : Full s room l s0 ps c m) (hc : m + 1 < 60) (ho : okS (l.seg + 1) = true) :
    (lgTurn s l).2 = ({ l with seg := l.seg + 1, at_ := 0, begun := true }, 0) ∧ ∃ ds fs, Ev (lgTurn s l).1 room ds fs ∧ ds.length ≤ m + 3 ∧ (ds.getLastD []).length = l.seg + 2 - s0 ∧ fs.length = l.seg + 2 - s0 ∧ sumF fs ≤ 175 * c ∧
      (∀ k, s0 ≤ k → k ≤ l.seg + 1 → findD (ds.getLastD []) (sgN k) = some (k - s0) ∧ ∃ n, fs[k - s0]? = some ⟨segB ps k, n⟩) ∧ ∀ x ∈ ds.getLastD [], ∃ k, s0 ≤ k ∧ k ≤ l.seg + 1 ∧ x.1 = sgN k := by
  obtain ⟨ds, fs, e, hd, hl, hf, hsum, hk, hn⟩ := h.ex
  have hseg := h.seg
  have hmost := h.most
  have hnone : findD (ds.getLastD []) (sgN (l.seg + 1)) = none := findD_none.2 fun x hx => by
    obtain ⟨k, k1, k2, k3⟩ := hn x hx
    rw [k3]
    exact sgN_ne (by omega)
  obtain ⟨c1, c2⟩ := e.create (named_S ho) hnone (by omega)
  have et : lgTurn s l = ((create s (sgN (l.seg + 1))).1, { l with seg := l.seg + 1, at_ := 0, begun := true }, 0) := by unfold lgTurn; rw [if_pos ho, if_pos c1]
  rw [et]
  refine ⟨rfl, _, _, c2, by simp; omega, ?_, by simp; omega, by simpa [sumF] using hsum, fun k k1 k2 => ?_, fun x hx => ?_⟩
  · rw [List.getLastD_concat, len_withD]; omega
  · rw [List.getLastD_concat, e.found hnone]
    by_cases hk1 : k = l.seg + 1
    · subst hk1
      rw [if_pos rfl]
      refine ⟨by rw [hf], 0, ?_⟩
      rw [segB_none fun x hx => by
        obtain ⟨i, hi⟩ := List.mem_iff_getElem?.1 hx
        have := (h.recs i x hi).2.2.1
        omega]
      rw [List.getElem?_append_right (by omega), show l.seg + 1 - s0 - fs.length = 0 by omega]; rfl
    · rw [if_neg (sgN_ne hk1)]
      obtain ⟨p1, m1, p2⟩ := hk k k1 (by omega)
      exact ⟨p1, m1, by rw [List.getElem?_append_left (by omega)]; exact p2⟩
  · rw [List.getLastD_concat] at hx
    rcases mem_withD.1 hx with rfl | hx
    · exact ⟨l.seg + 1, by omega, Nat.le_refl _, rfl⟩
    · obtain ⟨k, k1, k2, k3⟩ := hn x hx
      exact ⟨k, k1, by omega, k3⟩
theorem full_turned (h : Full s room l s0 ps c m) (hc : m + 1 < 60) (ho : okS (l.seg + 1) = true) : Full (lgTurn s l).1 room { l with seg := l.seg + 1, at_ := 0, begun := true } s0 ps c (m + 1) := by
  obtain ⟨_, ds, fs, e, hd, hl, hf, hsum, hk, hn⟩ := full_turn h hc ho
  have hseg := h.seg
  have hmost := h.most
  have hdd := h.lg.dirty
  have h0 : segB ps (l.seg + 1) = [] := segB_none fun x hx => by
    obtain ⟨i, hi⟩ := List.mem_iff_getElem?.1 hx
    have := (h.recs i x hi).2.2.1
    omega
  refine ⟨⟨ds, fs, e, by omega, by simp only; omega, by simp only; omega, by omega, hk, hn⟩, ⟨ho, h.lg.lo, h.lg.hi, by simp only; omega, by simp⟩, by simp only; omega, by simp only; omega, by simp only [h0]; rfl, fun i x hx => ?_⟩
  obtain ⟨r1, r2, r3, r4⟩ := h.recs i x hx
  exact ⟨r1, r2, by simp only; omega, r4⟩
end
/-- a record is put behind all. -/
structure Went (l l' : Lg) (x : Pc) : Prop where
  seg : x.seg = l'.seg
  at_ : l'.at_ = x.at_ + x.b.length
  most : l'.most = l.most
  way : (x.seg = l.seg ∧ x.at_ = l.at_ ∧ (l.at_ = 0 ∨ ((x.at_ + x.b.length : Nat) : Int) ≤ l.most)) ∨ (x.seg = l.seg + 1 ∧ x.at_ = 0 ∧ 0 < l.at_)
  dirty : l.dirty ≤ l.seg → l'.dirty = l.dirty
  begun : l.begun = true → l'.begun = true
theorem full_append {s : Dk} {room : Int} {l : Lg} {s0 c m : Nat} {ps : List Pc} (h : Full s room l s0 ps c m) (hc : m + 1 < 60) (hs0 : s0 ≤ 1000) (hr : ((175 * c + 175 : Nat) : Int) ≤ room) {k : Int} {ns : List Nat} {t : List UInt8} (hp : rightB k ns.length t.length = true) (hs : ∀ n ∈ ns, n < 18446744073709551616) :
    ∃ x : Pc, x.k = k ∧ x.ns = ns ∧ x.t = t ∧ (lgAppend s l k ns t).2.2 = (x.seg, x.at_, 0) ∧ (∃ m', m' ≤ m + 1 ∧ Full (lgAppend s l k ns t).1 room (lgAppend s l k ns t).2.1 s0 (ps ++ [x]) (c + 1) m') ∧ Went l (lgAppend s l k ns t).2.1 x := by
  have hmost := h.most
  have hseg := h.seg
  have ho : okS (l.seg + 1) = true := okS_iff.2 (by omega)
  unfold lgAppend
  rw [if_pos hp]
  unfold lgB
  by_cases q : 0 < l.at_ ∧ l.most < ((l.at_ + (recB k.toNat ns t).length : Nat) : Int)
  · rw [if_pos q]
    have ht := full_turned h (by omega) ho
    obtain ⟨e1, _⟩ := full_turn h (by omega) ho
    obtain ⟨p1, p2, p3⟩ := full_put ht (by omega) hp hs
    rw [e1]
    simp only [if_true]
    refine ⟨⟨k, ns, t, l.seg + 1, 0⟩, rfl, rfl, rfl, p1, ⟨m + 1, Nat.le_refl _, p2⟩, ?_⟩
    rw [p3]
    exact ⟨rfl, by simp [Pc.b], rfl, .inr ⟨rfl, rfl, q.1⟩, fun hd => by simp only; omega, fun _ => rfl⟩
  · rw [if_neg q]
    obtain ⟨p1, p2, p3⟩ := full_put h (by omega) hp hs
    refine ⟨⟨k, ns, t, l.seg, l.at_⟩, rfl, rfl, rfl, p1, ⟨m, by omega, p2⟩, ?_⟩
    rw [p3]
    refine ⟨rfl, rfl, rfl, .inl ⟨rfl, rfl, ?_⟩, fun hd => by simp only; omega, fun hb => hb⟩
    by_cases h0 : l.at_ = 0
    · exact .inl h0
    · refine .inr ?_
      show ((l.at_ + (recB k.toNat ns t).length : Nat) : Int) ≤ l.most
      rcases Int.lt_or_le l.most ((l.at_ + (recB k.toNat ns t).length : Nat) : Int) with h1 | h1
      · exact absurd ⟨by omega, h1⟩ q
      · exact h1
end Go.Sg
end

section
set_option linter.unusedSimpArgs false
set_option linter.unusedVariables false
namespace Go.Proofs.YtofllgbdphakiaaDoor
open Go.Den Go.Disk
theorem can_freeP {s : Dk} (hg : s.gone = false) (hb : s.burn = -1) (e : Int) : can s e = (s, e) := by
  unfold can
  by_cases h : e = 0
  · simp [hg, hb, h]
  · simp [hg, h]
structure Kept (nm : ByteArray) (f : Nat) (s : Dk) (all : List UInt8) (n : Nat) : Prop where
  ent : ∀ l ∈ s.dirs, (nm, f) ∈ l
  file : s.files[f]? = some ⟨all, n⟩
section
variable {nm : ByteArray} {f n : Nat} {s : Dk} {all : List UInt8}
theorem Kept.can (k : Kept nm f s all n) (e : Int) : Kept nm f (can s e).1 all n := by
  obtain ⟨k1, k2, _⟩ := can_keep s e
  exact ⟨by rw [k2]; exact k.ent, by rw [k1]; exact k.file⟩
theorem Kept.find (hi : Inv s) (k : Kept nm f s all n) : findD s.now nm = some f := findD_of_mem (hi.wf.rise _ (now_mem hi.wf)) (k.ent _ (now_mem hi.wf))
theorem Kept.at_ (k : Kept nm f s all n) : fileAt s f = ⟨all, n⟩ := by unfold fileAt; rw [List.getD_eq_getElem?_getD, k.file]; rfl
theorem Kept.other (hi : Inv s) (k : Kept nm f s all n) {m : ByteArray} {g : Nat} (hm : m ≠ nm) (hg : findD s.now m = some g) : g ≠ f :=
  one_gone (hi.one _ (now_mem hi.wf)) (k.ent _ (now_mem hi.wf)) (m, g) (mem_without.2 ⟨findD_mem hg, hm⟩)
theorem Kept.dir (hi : Inv s) (k : Kept nm f s all n) {l : Dir} (hl : (nm, f) ∈ l) {r b : Int} {g : Bool} : Kept nm f ⟨r, s.files, s.dirs ++ [l], b, g⟩ all n :=
  ⟨fun l' h => by
    rcases List.mem_append.1 h with h | h
    · exact k.ent _ h
    · rw [List.mem_singleton.1 h]; exact hl, k.file⟩
theorem Kept.set (k : Kept nm f s all n) {g : Nat} (hg : g ≠ f) (x : Fl) : Kept nm f (setF s g x) all n :=
  ⟨k.ent, by show (s.files.set g x)[f]? = _; rw [List.getElem?_set_ne hg]; exact k.file⟩
theorem opt_of {n : ByteArray} {e : Int} (he : e ≠ 0) (h : (match s.find n with | none => e | some _ => 0) = 0) : ∃ g, findD s.now n = some g := by
  unfold Dk.find at h
  cases hx : findD s.now n with
  | none => rw [hx] at h; exact absurd h he
  | some g => exact ⟨g, rfl⟩
theorem there_some {m : ByteArray} (h : there s m = 0) : ∃ g, findD s.now m = some g := by
  unfold there Dk.find at h
  cases hx : findD s.now m with
  | none => rw [hx] at h; simp at h
  | some g => exact ⟨g, rfl⟩
/-- the file's bytes behind an act. -/
def allAt (nm : ByteArray) (s : Dk) (a : Act) (b : List UInt8) (t : List Int) (all : List UInt8) : List UInt8 := if a.dn = 1 ∧ a.nm = nm ∧ (act s a b t).2.2 = 0 then all ++ b else all
theorem kept_act (hi : Inv s) (k : Kept nm f s all n) (a : Act) (b : List UInt8) (t : List Int) (h8 : a.dn ≠ 8) (ho : a.dn ≠ 1 → a.nm ≠ nm ∧ a.to ≠ nm) : Kept nm f (act s a b t).1 (allAt nm s a b t all) n := by
  have hnow := k.ent _ (now_mem hi.wf)
  by_cases q1 : a.dn = 1
  · unfold allAt act
    simp only [q1, Int.reduceEq, if_false, if_true, true_and]
    by_cases hc : (can s (appendE s a.nm b.length)).2 = 0
    · have h0 := can_zero hc
      have e2 : (append s a.nm b).2 = 0 := by simp only [append]; rw [if_pos hc]
      rw [e2]
      simp only [append, hc, if_true, and_true]
      by_cases hn : a.nm = nm
      · rw [if_pos hn, hn, show s.find nm = some f from k.find hi]
        have kc := k.can (appendE s nm b.length)
        refine ⟨kc.ent, ?_⟩
        simp only [Option.getD_some, k.at_]
        show (List.set _ f _)[f]? = _
        rw [List.getElem?_set_self (List.getElem?_eq_some_iff.1 kc.file).1]
      · rw [if_neg hn]
        obtain ⟨g, hg⟩ : ∃ g, findD s.now a.nm = some g := by
          unfold appendE Dk.find at h0
          cases hx : findD s.now a.nm with
          | none => rw [hx] at h0; simp at h0
          | some g => exact ⟨g, rfl⟩
        rw [show s.find a.nm = some g from hg]
        exact (k.can _).set (k.other hi hn hg) _
    · have e2 : append s a.nm b = can s (appendE s a.nm b.length) := by simp only [append]; rw [if_neg hc]
      rw [e2, if_neg (fun h => hc h.2)]
      exact k.can _
  have hal : allAt nm s a b t all = all := by unfold allAt; rw [if_neg (fun h => q1 h.1)]
  rw [hal]
  obtain ⟨hn, hto⟩ := ho q1
  unfold act
  simp only [q1, h8, if_false]
  by_cases q0 : a.dn = 0
  · simp only [q0, if_true, create]
    split
    · obtain ⟨k1, k2, k3⟩ := can_keep s (createE s a.nm)
      refine ⟨fun l h => ?_, ?_⟩
      · rcases List.mem_append.1 h with h | h
        · exact k.ent _ h
        · rw [List.mem_singleton.1 h]; exact mem_withD.2 (.inr hnow)
      · show (s.files ++ _)[f]? = _
        rw [List.getElem?_append_left (List.getElem?_eq_some_iff.1 k.file).1]; exact k.file
    · exact k.can _
  by_cases q2 : a.dn = 2
  · simp only [q2, Int.reduceEq, if_false, if_true, sync]
    split
    · rename_i hc
      obtain ⟨g, hg⟩ := there_some (can_zero hc)
      rw [show s.find a.nm = some g from hg]
      exact (k.can _).set (k.other hi hn hg) _
    · exact k.can _
  by_cases q3 : a.dn = 3
  · simp only [q3, Int.reduceEq, if_false, if_true, cut]
    split
    · rename_i hc
      have h0 := can_zero hc
      obtain ⟨g, hg⟩ : ∃ g, findD s.now a.nm = some g := by
        unfold cutE Dk.find at h0
        cases hx : findD s.now a.nm with
        | none => rw [hx] at h0; simp at h0
        | some g => exact ⟨g, rfl⟩
      rw [show s.find a.nm = some g from hg]
      exact (k.can _).set (k.other hi hn hg) _
    · exact k.can _
  by_cases q4 : a.dn = 4
  · simp only [q4, Int.reduceEq, if_false, if_true, rename]
    split
    · obtain ⟨k1, k2, k3⟩ := can_keep s (renameE s a.nm a.to)
      rw [k1]
      exact k.dir hi (mem_withD.2 (.inr (mem_without.2 ⟨mem_without.2 ⟨hnow, fun e => hn e.symm⟩, fun e => hto e.symm⟩)))
    · exact k.can _
  by_cases q5 : a.dn = 5
  · simp only [q5, Int.reduceEq, if_false, if_true, delete]
    split
    · obtain ⟨k1, k2, k3⟩ := can_keep s (there s a.nm)
      rw [k1]
      exact k.dir hi (mem_without.2 ⟨hnow, fun e => hn e.symm⟩)
    · exact k.can _
  by_cases q6 : a.dn = 6
  · simp only [q6, Int.reduceEq, if_false, if_true, dirsync]
    split
    · obtain ⟨k1, k2, k3⟩ := can_keep s 0
      rw [k1]
      exact ⟨fun l h => by rw [List.mem_singleton.1 h]; exact hnow, k.file⟩
    · exact k.can _
  by_cases q7 : a.dn = 7
  · simp only [q7, Int.reduceEq, if_false, if_true]
    exact ⟨k.ent, k.file⟩
  simp only [q0, q2, q3, q4, q5, q6, q7, if_false]
  exact k
theorem crashF_not {tails : List Int} : ∀ (l : Dir) (i : Nat) (fs : List Fl), (∀ x ∈ l, x.2 ≠ f) → (crashF tails l i fs)[f]? = fs[f]?
  | [], _, _, _ => rfl
  | (k, g) :: r, i, fs, h => by
    simp only [crashF]
    rw [crashF_not r (i + 1) _ fun x hx => h x (by simp [hx]), List.getElem?_set_ne (h (k, g) (by simp))]
theorem crashF_at {tails : List Int} {x : Fl} : ∀ (l : Dir) (i : Nat) (fs : List Fl), (l.map (·.2)).Nodup → (nm, f) ∈ l → fs[f]? = some x → ∃ j, (crashF tails l i fs)[f]? = some ⟨x.b.take (x.sure + tailOf x tails j), x.sure + tailOf x tails j⟩
  | [], _, _, _, h, _ => by simp at h
  | (k, g) :: r, i, fs, hd, hm, hx => by
    simp only [crashF]
    rw [List.map_cons, List.nodup_cons] at hd
    rcases List.mem_cons.1 hm with h | h
    · cases h
      refine ⟨i, ?_⟩
      have hgd : fs.getD f ⟨[], 0⟩ = x := by rw [List.getD_eq_getElem?_getD, hx]; rfl
      rw [crashF_not r (i + 1) _ fun y hy e => hd.1 (List.mem_map.2 ⟨y, hy, e⟩), List.getElem?_set_self (List.getElem?_eq_some_iff.1 hx).1, hgd]
    · have hg : g ≠ f := fun e => hd.1 (List.mem_map.2 ⟨_, h, e.symm⟩)
      exact crashF_at r (i + 1) _ hd.2 h (by rw [List.getElem?_set_ne hg]; exact hx)
theorem kept_crash (hi : Inv s) (k : Kept nm f s all n) (op : Int) (tails : List Int) : ∃ m, n ≤ m ∧ m ≤ all.length ∧ Disk.read (crash s op tails) nm = (all.take m, 0) := by
  have hp : 0 < s.dirs.length := List.length_pos_iff.2 hi.wf.ne
  obtain ⟨l, hl⟩ : ∃ l, s.dirs.getD (min op.toNat (s.dirs.length - 1)) [] = l := ⟨_, rfl⟩
  have hlm : l ∈ s.dirs := by
    rw [← hl, List.getD_eq_getElem?_getD, List.getElem?_eq_getElem (by omega)]
    exact List.getElem_mem _
  have hs := hi.wf.sure _ (List.mem_of_getElem? k.file)
  obtain ⟨j, hj⟩ := crashF_at (tails := tails) l 0 s.files (hi.one l hlm) (k.ent l hlm) k.file
  have ht := tailOf_le ⟨all, n⟩ tails j
  simp only at hs ht hj
  refine ⟨n + tailOf ⟨all, n⟩ tails j, by omega, by omega, ?_⟩
  unfold Disk.read Dk.find
  have hnow : (crash s op tails).now = l := by unfold crash Dk.now; rw [hl]; rfl
  have hfile : (crash s op tails).files[f]? = some ⟨all.take (n + tailOf ⟨all, n⟩ tails j), n + tailOf ⟨all, n⟩ tails j⟩ := by unfold crash; rw [hl]; exact hj
  rw [hnow, findD_of_mem (hi.wf.rise l hlm) (k.ent l hlm)]
  unfold fileAt
  simp only [List.getD_eq_getElem?_getD, hfile]
  rfl
end
/-- the disk that is begun with. -/
def sure4 (nm : ByteArray) (b : List UInt8) : Dk := ⟨131072, [⟨b, b.length⟩], [[(nm, 0)]], -1, false⟩
theorem sure_start {nm : ByteArray} {b : List UInt8} (h : (create (empty 131072) nm).2 = 0) (hb : b.length ≤ 1000) :
    (append (create (empty 131072) nm).1 nm b).2 = 0 ∧ (sync (append (create (empty 131072) nm).1 nm b).1 nm).2 = 0 ∧ (dirsync (sync (append (create (empty 131072) nm).1 nm b).1 nm).1).2 = 0 ∧
      (dirsync (sync (append (create (empty 131072) nm).1 nm b).1 nm).1).1 = sure4 nm b := by
  have c0 : ∀ (r : Int) fs ds e, can ⟨r, fs, ds, -1, false⟩ e = (⟨r, fs, ds, -1, false⟩, e) := fun r fs ds e => can_freeP rfl rfl e
  have e1 : create (empty 131072) nm = (⟨131072, [⟨[], 0⟩], [[], [(nm, 0)]], -1, false⟩, 0) := by
    unfold create empty at *
    simp only [c0] at *
    by_cases hc : createE ⟨131072, [], [[]], -1, false⟩ nm = 0
    · simp only [hc, if_true]; rfl
    · simp only [hc, if_false] at h
  have f1 : ∀ fs, Dk.find ⟨131072, fs, [[], [(nm, 0)]], -1, false⟩ nm = some 0 := fun fs => by simp [Dk.find, Dk.now, findD]
  have e2 : append ⟨131072, [⟨[], 0⟩], [[], [(nm, 0)]], -1, false⟩ nm b = (⟨131072, [⟨b, 0⟩], [[], [(nm, 0)]], -1, false⟩, 0) := by
    have hh : held ⟨131072, [⟨[], 0⟩], [[], [(nm, 0)]], -1, false⟩ = 0 := by
      unfold held
      simp [fileAt, List.range_succ]
    have hE : appendE ⟨131072, [⟨[], 0⟩], [[], [(nm, 0)]], -1, false⟩ nm b.length = 0 := by
      unfold appendE
      rw [f1, hh]
      simp only [Option.isSome_some, if_true]
      rw [if_neg (by omega)]
    unfold append
    simp only [c0, hE, f1]
    simp [setF, fileAt]
  have e3 : sync ⟨131072, [⟨b, 0⟩], [[], [(nm, 0)]], -1, false⟩ nm = (⟨131072, [⟨b, b.length⟩], [[], [(nm, 0)]], -1, false⟩, 0) := by
    unfold sync there
    simp only [f1, c0]
    simp [setF, fileAt]
  have e4 : dirsync ⟨131072, [⟨b, b.length⟩], [[], [(nm, 0)]], -1, false⟩ = (sure4 nm b, 0) := by
    unfold dirsync
    simp only [c0]
    simp [sure4, Dk.now]
  rw [e1]; simp only
  rw [e2]; simp only
  rw [e3]; simp only
  rw [e4]
  refine ⟨?_, ?_, ?_, ?_⟩ <;> first | trivial | rfl
theorem kept_start (nm : ByteArray) (b : List UInt8) : Kept nm 0 (sure4 nm b) b b.length := ⟨fun l h => by simp [sure4] at h; simp [h], rfl⟩
end Go.Proofs.YtofllgbdphakiaaDoor
end
