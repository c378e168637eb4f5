
/- A disk's directory changed, its files changed: what the calls are made of. No condition but sizes. -/
import Derived.Test.YtmefbneoljpbgaaGreatDoorDiskKeys
import Derived.Test.YtmefbneoljpbgaaGreatDoorMa
namespace Go.Proofs.YtmefbneoljpbgaaGreatDoor
open Go.Den Go.Disk

section
variable {κ : Type} [DecidableEq κ] {enc : κ → Value} {kd : TypeDesc} {es : Array MapEntry} {ck : Nat} {L : List (κ × Value)}
theorem mdel_B (hk : KeyOk kd enc) {w : World} {b : Nat} (hb : blk w b = some (.map es ck)) (h : MapB enc es ck L) (k : κ) :
    ∃ es' ck', mdel kd w (.map (some b)) (enc k) = some (setB w b (.map es' ck')) ∧ MapB enc es' ck' (delL L k) := by
  have h' : w.heap[b]? = some (.map es ck) := hb
  obtain ⟨es1, ck1, e1, l1⟩ := mdel_L hk hb h.l k
  have e2 := e1
  unfold mdel at e2
  simp only [h', mfind_L hk h.l] at e2
  have key : ∀ es2 ck2, some ({ w with heap := w.heap.setIfInBounds b (.map es2 ck2) } : World) = some (setB w b (.map es1 ck1)) → es1 = es2 ∧ ck1 = ck2 := by
    intro es2 ck2 e
    have h1 : blk (setB w b (.map es2 ck2)) b = blk (setB w b (.map es1 ck1)) b := congrArg (fun x : World => blk x b) (Option.some.inj e)
    rw [blk_setB_same hb, blk_setB_same hb] at h1
    cases h1
    exact ⟨rfl, rfl⟩
  have hsub : ∀ i, (es.eraseIdxIfInBounds i).toList.Sublist es.toList := fun i => by
    unfold Array.eraseIdxIfInBounds
    split
    · rw [Array.toList_eraseIdx]; exact List.eraseIdx_sublist _ _
    · exact List.Sublist.refl _
  refine ⟨es1, ck1, e1, l1, ?_, ?_⟩
  all_goals
    cases hf : findL L k 0 with
    | none =>
      simp only [hf] at e2
      obtain ⟨rfl, rfl⟩ := key _ _ e2
      first | exact h.lt | exact h.nd
    | some p =>
      obtain ⟨i, u⟩ := p
      simp only [hf] at e2
      obtain ⟨rfl, rfl⟩ := key _ _ e2
      first
        | exact fun x hx => h.lt x ((hsub i).subset hx)
        | exact List.Nodup.sublist ((hsub i).map _) h.nd
omit [DecidableEq κ] in
theorem nodup_of_map {α β : Type} {f : α → β} {L : List α} (h : (L.map f).Nodup) : L.Nodup := by
  rw [List.nodup_iff_pairwise_ne, List.pairwise_map] at h
  rw [List.nodup_iff_pairwise_ne]
  exact h.imp fun h e => h (by rw [e])
theorem ins_perm {L M : List (κ × Value)} (hn : (L.map (·.1)).Nodup) (hm : (M.map (·.1)).Nodup) (h : ∀ k, lk L k = lk M k) : L.Perm M := by
  refine (List.perm_ext_iff_of_nodup ?_ ?_).2 fun ⟨k, v⟩ => ?_
  · exact nodup_of_map hn
  · exact nodup_of_map hm
  · rw [← lk_mem hn, ← lk_mem hm, h]
end
theorem stars_snoc : ∀ (ps : List HP) {w : World} {F G : List Nat} {Q : HP}, (stars ps).p w F → Q.p w G → (∀ b ∈ F, b ∉ G) → (stars (ps ++ [Q])).p w (F ++ G)
  | [], w, F, G, Q, h, hq, _ => by
    obtain ⟨_, rfl⟩ := h
    exact ⟨G, [], hq, ⟨trivial, rfl⟩, by simp, by simp⟩
  | P :: ps, w, F, G, Q, h, hq, hd => by
    obtain ⟨A, B, h1, h2, rfl, h3⟩ := h
    refine ⟨A, B ++ G, h1, stars_snoc ps h2 hq (fun b hb => hd b (by simp [hb])), by simp, fun b hb hb' => ?_⟩
    rcases List.mem_append.1 hb' with hb' | hb'
    · exact h3 b hb hb'
    · exact hd b (by simp [hb]) hb'
theorem zipWith_set {α β γ : Type} (g : α → β → γ) : ∀ (xs : List α) (ys : List β) (i : Nat) (a : α) (b : β), xs[i]? = some a → (List.zipWith g xs ys).set i (g a b) = List.zipWith g xs (ys.set i b)
  | [], _, i, _, _, h => by simp at h
  | a' :: xs, [], i, a, b, _ => by simp
  | a' :: xs, b' :: ys, 0, a, b, h => by simp at h; subst h; rfl
  | a' :: xs, b' :: ys, i + 1, a, b, h => by simp only [List.zipWith_cons_cons, List.set_cons_succ]; rw [zipWith_set g xs ys i a b (by simpa using h)]
theorem zipWith_snoc {α β γ : Type} (g : α → β → γ) (xs : List α) (ys : List β) (a : α) (b : β) (h : xs.length = ys.length) : List.zipWith g (xs ++ [a]) (ys ++ [b]) = List.zipWith g xs ys ++ [g a b] := by
  rw [List.zipWith_append h]; rfl
section
variable {w0 w w' : World} {F0 : List Nat} {d : Nat} {s : Dk} {sv : Value} {ms fb : List Nat}
/-- a directory is given other entries. -/
theorem dk_setdir (h : At w0 F0 (stars (dkL d s sv ms fb)) w) {i m : Nat} {l l' : Dir} (hm : ms[i]? = some m) (hl : s.dirs[i]? = some l) {es' : Array MapEntry} {ck' : Nat} {L' : List (ByteArray × Value)} (f : Fr [m] w w') (b1 : blk w' m = some (.map es' ck'))
    (b2 : MapB (fun s : ByteArray => Value.string s) es' ck' L') (b3 : L'.Perm (dirL fb l')) : At w0 F0 (stars (dkL d { s with dirs := s.dirs.set i l' } sv ms fb)) w' := by
  obtain ⟨A0, ⟨h0, _⟩, _⟩ := h.get 0 rfl
  obtain ⟨A, h1, upd⟩ := h.upd 3 rfl
  obtain ⟨B, ⟨_, rfl⟩, _, upd2⟩ := stars_upd (dirHPs fb ms s.dirs) i (dirHP fb m l) (by unfold dirHPs; rw [List.getElem?_zipWith, hm, hl]) h1
  obtain ⟨A', h2, h3⟩ := upd2 w' [m] (dirHP fb m l') ⟨⟨es', ck', L', b1, b2, b3⟩, rfl⟩ f (fun b hb => .inl hb)
  have hz : (dirHPs fb ms s.dirs).set i (dirHP fb m l') = dirHPs fb ms (s.dirs.set i l') := zipWith_set _ _ _ _ _ _ hm
  rw [hz] at h2
  have hmA : m ∈ A := by
    obtain ⟨B, ⟨_, rfl⟩, h4⟩ := stars_get (dirHPs fb ms s.dirs) i (dirHP fb m l) (by unfold dirHPs; rw [List.getElem?_zipWith, hm, hl]) h1
    exact h4 m (by simp)
  have h5 := upd w' A' (stars (dirHPs fb ms (s.dirs.set i l'))) h2 (f.wider fun b hb => by simp at hb; subst hb; exact hmA) h3
  obtain ⟨F, g1, g2, g3⟩ := h5
  obtain ⟨C, D, ⟨_, rfl⟩, k2, hF, k4⟩ := g1
  exact ⟨F, ⟨[], D, ⟨⟨by simpa using h0.1, h0.2⟩, rfl⟩, k2, hF, by simp⟩, g2, g3⟩
/-- a file is changed. -/
theorem dk_fupd (h : At w0 F0 (stars (dkL d s sv ms fb)) w) {f b : Nat} {x : Fl} (hb : fb[f]? = some b) (hx : s.files[f]? = some x) : ∃ A bv, At w A (stars [pts b [bv, .int .i64 (x.sure : Int)], slc encB 1 bv x.b]) w ∧
    ∀ w' bv' x', At w A (stars [pts b [bv', .int .i64 ((x' : Fl).sure : Int)], slc encB 1 bv' x'.b]) w' → At w0 F0 (stars (dkL d (setF s f x') sv ms fb)) w' := by
  obtain ⟨A0, ⟨h0, _⟩, _⟩ := h.get 0 rfl
  obtain ⟨A, h1, upd⟩ := h.upd 4 rfl
  obtain ⟨B, ⟨bv, hB⟩, hBA, upd2⟩ := stars_upd (fileHPs fb s.files) f (fileHP b x) (by unfold fileHPs; rw [List.getElem?_zipWith, hb, hx]) h1
  refine ⟨B, bv, At.start hB, fun w' bv' x' ⟨F', p1, p2, p3⟩ => ?_⟩
  obtain ⟨A', h2, h3⟩ := upd2 w' F' (fileHP b x') ⟨bv', p1⟩ p3 p2
  have hz : (fileHPs fb s.files).set f (fileHP b x') = fileHPs fb (s.files.set f x') := zipWith_set _ _ _ _ _ _ hb
  rw [hz] at h2
  have h5 := upd w' A' (stars (fileHPs fb (s.files.set f x'))) h2 (p3.wider hBA) h3
  obtain ⟨F, g1, g2, g3⟩ := h5
  obtain ⟨C, D, ⟨_, rfl⟩, k2, hF, k4⟩ := g1
  exact ⟨F, ⟨[], D, ⟨⟨h0.1, by simpa [setF] using h0.2⟩, rfl⟩, k2, hF, by simp⟩, g2, g3⟩
theorem dirL_more {fb : List Nat} {l : Dir} (b : Nat) (h : ∀ x ∈ l, x.2 < fb.length) : dirL (fb ++ [b]) l = dirL fb l := by
  unfold dirL
  refine List.map_congr_left fun x hx => ?_
  have := h x hx
  rw [List.getD_eq_getElem?_getD, List.getD_eq_getElem?_getD, List.getElem?_append_left this]
theorem dirHPs_more {fb ms : List Nat} {ds : List Dir} (b : Nat) (h : ∀ l ∈ ds, ∀ x ∈ l, x.2 < fb.length) : dirHPs (fb ++ [b]) ms ds = dirHPs fb ms ds := by
  unfold dirHPs
  induction ds generalizing ms with
  | nil => simp
  | cons l ds ih =>
    cases ms with
    | nil => rfl
    | cons m ms =>
      simp only [List.zipWith_cons_cons]
      rw [ih fun l hl => h l (by simp [hl])]
      congr 1
      unfold dirHP
      simp only [dirL_more b (h l (by simp))]
/-- a new file. -/
theorem dk_newfile (h : At w0 F0 (stars (dkL d s sv ms fb)) w) (f : Fr [] w w') {b T : Nat} (hb : hsz w ≤ b) (b1 : blk w' b = some (.cells [.slice none 0 0, .int .i64 0].toArray T (0, 0))) (hidx : ∀ l ∈ s.dirs, ∀ x ∈ l, x.2 < s.files.length) :
    At w0 F0 (stars (dkL d { s with files := s.files ++ [⟨[], 0⟩] } sv ms (fb ++ [b]))) w' := by
  obtain ⟨A0, ⟨h0, _⟩, _⟩ := h.get 0 rfl
  have h' := h.fr0 f
  obtain ⟨A, h1, upd⟩ := h.upd 4 rfl
  have hlt := (stars (fileHPs fb s.files)).lt h1
  have hnew : (fileHP b ⟨[], 0⟩).p w' [b] := ⟨.slice none 0 0, [b], [], ⟨⟨T, b1⟩, rfl⟩, ⟨[], [], Slc.nil _ _ _, ⟨trivial, rfl⟩, rfl, by simp⟩, rfl, by simp⟩
  have h2 := stars_snoc (fileHPs fb s.files) ((stars (fileHPs fb s.files)).fr h1 f (by simp)) hnew (fun c hc hc' => by simp at hc'; subst hc'; have := hlt _ hc; omega)
  have hz : fileHPs fb s.files ++ [fileHP b ⟨[], 0⟩] = fileHPs (fb ++ [b]) (s.files ++ [⟨[], 0⟩]) := (zipWith_snoc _ _ _ _ _ h0.2).symm
  rw [hz] at h2
  have h5 := upd w' (A ++ [b]) (stars (fileHPs (fb ++ [b]) (s.files ++ [⟨[], 0⟩]))) h2 f.nil (fun c hc => by
    rcases List.mem_append.1 hc with hc | hc
    · exact .inl hc
    · simp at hc; subst hc; exact .inr hb)
  obtain ⟨F, g1, g2, g3⟩ := h5
  obtain ⟨C, D, ⟨_, rfl⟩, k2, hF, k4⟩ := g1
  have hm : dirHPs (fb ++ [b]) ms s.dirs = dirHPs fb ms s.dirs := dirHPs_more b fun l hl x hx => by rw [h0.2]; exact hidx l hl x hx
  refine ⟨F, ⟨[], D, ⟨⟨h0.1, by simp [h0.2]⟩, rfl⟩, ?_, hF, by simp⟩, g2, g3⟩
  show (stars [pts d (dkC s (ms.headD 0) sv), slc encM 1 sv ms.tail, stars (dirHPs (fb ++ [b]) ms s.dirs), stars (fileHPs (fb ++ [b]) (s.files ++ [⟨[], 0⟩]))]).p w' D
  rw [hm]; exact k2
end
end Go.Proofs.YtmefbneoljpbgaaGreatDoor
