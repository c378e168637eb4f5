/- Whatever crashes while a root is written, in plain words. No condition. -/
import Derived.Test.YthlmkjkjebcpfaaRootP
set_option linter.unusedSimpArgs false
set_option linter.unusedVariables false
namespace Go.Root
open Go.Den Go.Disk Go.Rec Go.Proofs.Ythlmkjkjebcpfaa
theorem ndf : nd ≠ nf := fun h => nfd h.symm
def DirOk (fs : List Fl) (q : Rt) (d : Dir) : Prop := ∃ f, findD d nf = some f ∧ fs[f]? = some ⟨bytesT q, (bytesT q).length⟩
def SmallD (fs : List Fl) (d : Dir) : Prop := (∀ x ∈ d, x.1 = nf ∨ x.1 = nd) ∧ ∀ x ∈ d, (fs.getD x.2 ⟨[], 0⟩).b.length ≤ 22
/-- a disk that has a root, and is sure of it; perhaps a draft. -/
structure Wt (s : Dk) (o : Rt) : Prop where
  inv : Inv s
  gone : s.gone = false
  burn : s.burn = -1
  room : s.room = 4096
  right : RightT o
  one : ∃ l, s.dirs = [l] ∧ DirOk s.files o l ∧ SmallD s.files l
theorem wt_crashF_not {tails : List Int} {f : Nat} : ∀ (l : Dir) (i : Nat) (fs : List Fl), (∀ x ∈ l, x.2 ≠ f) → (crashF tails l i fs)[f]? = fs[f]?
  | [], _, _, _ => rfl
  | (k, g) :: r, i, fs, h => by
    simp only [crashF]
    rw [wt_crashF_not r (i + 1) _ fun x hx => h x (by simp [hx]), List.getElem?_set_ne (h (k, g) (by simp))]
theorem wt_crashF_at {tails : List Int} {nm : ByteArray} {f : Nat} {x : Fl} : ∀ (l : Dir) (i : Nat) (fs : List Fl), (l.map (·.2)).Nodup → (nm, f) ∈ l → fs[f]? = some x → ∃ j, (crashF tails l i fs)[f]? = some ⟨x.b.take (x.sure + tailOf x tails j), x.sure + tailOf x tails j⟩
  | [], _, _, _, h, _ => by simp at h
  | (k, g) :: r, i, fs, hd, hm, hx => by
    simp only [crashF]
    rw [List.map_cons, List.nodup_cons] at hd
    rcases List.mem_cons.1 hm with h | h
    · cases h
      refine ⟨i, ?_⟩
      have hgd : fs.getD f ⟨[], 0⟩ = x := by rw [List.getD_eq_getElem?_getD, hx]; rfl
      rw [wt_crashF_not r (i + 1) _ fun y hy e => hd.1 (List.mem_map.2 ⟨y, hy, e⟩), List.getElem?_set_self (List.getElem?_eq_some_iff.1 hx).1, hgd]
    · have hg : g ≠ f := fun e => hd.1 (List.mem_map.2 ⟨_, h, e.symm⟩)
      exact wt_crashF_at r (i + 1) _ hd.2 h (by rw [List.getElem?_set_ne hg]; exact hx)
theorem crash_wt {t : Dk} {op : Int} {tails : List Int} (hi : Inv t) (hroom : t.room = 4096) {P : Rt → Prop} (h : ∀ d ∈ t.dirs, SmallD t.files d ∧ ∃ q, P q ∧ RightT q ∧ DirOk t.files q d) : ∃ q, P q ∧ Wt (crash t op tails) q := by
  have hp : 0 < t.dirs.length := List.length_pos_iff.2 hi.wf.ne
  obtain ⟨l, hl⟩ : ∃ l, t.dirs.getD (min op.toNat (t.dirs.length - 1)) [] = l := ⟨_, rfl⟩
  have hlm : l ∈ t.dirs := by
    rw [← hl, List.getD_eq_getElem?_getD, List.getElem?_eq_getElem (by omega)]
    exact List.getElem_mem _
  obtain ⟨⟨hs1, hs2⟩, q, hq, hr, f, hf1, hf2⟩ := h l hlm
  obtain ⟨j, hj⟩ := wt_crashF_at (tails := tails) l 0 t.files (hi.one l hlm) (findD_mem hf1) hf2
  have ht := tailOf_le ⟨bytesT q, (bytesT q).length⟩ tails j
  simp only at ht hj
  have h0 : tailOf ⟨bytesT q, (bytesT q).length⟩ tails j = 0 := by omega
  rw [h0, Nat.add_zero, List.take_length] at hj
  have hc : crash t op tails = ⟨t.room, crashF tails l 0 t.files, [l], -1, false⟩ := by unfold crash; rw [hl]
  have hinv := inv_crash hi op tails
  rw [hc] at hinv ⊢
  exact ⟨q, hq, hinv, rfl, rfl, hroom, hr, l, rfl, ⟨f, hf1, hj⟩, hs1, fun x hx => Nat.le_trans (crashF_less l 0 t.files x.2) (hs2 x hx)⟩
theorem can_two (R : Int) (fs : List Fl) (ds : List Dir) (b : Int) : can ⟨R, fs, ds, b, false⟩ 0 = (⟨R, fs, ds, b, true⟩, 7) ∨ ∃ b', can ⟨R, fs, ds, b, false⟩ 0 = (⟨R, fs, ds, b', false⟩, 0) := by
  unfold can
  simp only [Bool.false_eq_true, if_false, ne_eq, not_true_eq_false]
  by_cases h0 : b = 0
  · left; rw [if_pos h0]
  · right
    rw [if_neg h0]
    split
    · exact ⟨_, rfl⟩
    · exact ⟨b, rfl⟩
theorem findD_without {l : Dir} : findD (without l nd) nf = findD l nf := by
  induction l with
  | nil => rfl
  | cons x l ih =>
    obtain ⟨k, g⟩ := x
    by_cases hk : k = nd
    · subst hk
      have : without ((nd, g) :: l) nd = without l nd := by unfold without; rw [List.filter_cons_of_neg (by simp)]
      rw [this, ih]
      simp [findD, ndf]
    · have : without ((k, g) :: l) nd = (k, g) :: without l nd := by unfold without; rw [List.filter_cons_of_pos (by simp [hk])]
      rw [this]
      simp only [findD, ih]
theorem findD_with {l : Dir} {n : Nat} : findD (withD l (nd, n)) nf = findD l nf := by
  induction l with
  | nil => simp [withD, findD, ndf]
  | cons x l ih =>
    obtain ⟨k, g⟩ := x
    simp only [withD]
    split
    · simp only [findD, ih]
    · simp [findD, ndf]
theorem getD_app {fs : List Fl} {x : Fl} {i : Nat} (h : i < fs.length) : (fs ++ [x]).getD i ⟨[], 0⟩ = fs.getD i ⟨[], 0⟩ := by
  rw [List.getD_eq_getElem?_getD, List.getElem?_append_left h, ← List.getD_eq_getElem?_getD]
theorem small_app {fs : List Fl} {x : Fl} {d : Dir} (hi : ∀ y ∈ d, y.2 < fs.length) (h : SmallD fs d) : SmallD (fs ++ [x]) d :=
  ⟨h.1, fun y hy => by rw [getD_app (hi y hy)]; exact h.2 y hy⟩
theorem ok_app {fs : List Fl} {x : Fl} {q : Rt} {d : Dir} (h : DirOk fs q d) : DirOk (fs ++ [x]) q d := by
  obtain ⟨f, h1, h2⟩ := h
  exact ⟨f, h1, by rw [List.getElem?_append_left (List.getElem?_eq_some_iff.1 h2).1]; exact h2⟩
theorem held_22 {s : Dk} (h : ∀ d ∈ s.dirs, ∀ x ∈ d, (s.files.getD x.2 ⟨[], 0⟩).b.length ≤ 22) : held s ≤ s.files.length * 22 := by
  rw [held_sum]
  have : ∀ n, sumTo n (heldG s) ≤ n * 22 := by
    intro n
    induction n with
    | zero => simp [sumTo]
    | succ n ih =>
      rw [sumTo_succ, Nat.add_mul]
      have : heldG s n ≤ 22 := by
        unfold heldG
        split
        · rename_i hh
          rw [isHeld_iff] at hh
          obtain ⟨k, hk, x, hx, rfl⟩ := hh
          exact h k hk x hx
        · omega
      omega
  exact this _
/-- what a write behind a fuse makes, and answers. -/
theorem write_wt {s : Dk} {o r : Rt} (h : Wt s o) (hr : RightT r) (n : Int) (hn : n ≤ 9223372036854775807) (hfl : s.files.length ≤ 100) :
    ∃ t e, writeT (fuse s n) r = (t, e) ∧ Inv t ∧ t.room = 4096 ∧ (e = 0 ∨ e = 7) ∧ t.files.length ≤ s.files.length + 1 ∧ t.dirs.length ≤ 4 ∧ ∀ d ∈ t.dirs, SmallD t.files d ∧ ∃ q, (q = r ∨ (e ≠ 0 ∧ q = o)) ∧ RightT q ∧ DirOk t.files q d := by
  obtain ⟨hb0, hb1⟩ := bytesT_len hr
  obtain ⟨inv, hg, hb, hroom, ho, l, hd, hok, hsm⟩ := h
  have inv0 := inv_fuse inv hn
  obtain ⟨R, fs, ds, bb, gg⟩ := s
  simp only at hd hg hb hroom hfl hok hsm
  subst hd hg hroom
  obtain ⟨b0, hf0⟩ : ∃ b0, fuse ⟨4096, fs, [l], bb, false⟩ n = ⟨4096, fs, [l], b0, false⟩ := ⟨_, rfl⟩
  rw [hf0] at inv0 ⊢
  have hidx : ∀ x ∈ l, x.2 < fs.length := inv0.wf.idx l (by simp)
  have hrise : riseD l := inv0.wf.rise l (by simp)
  have good : SmallD fs l ∧ ∃ q, (q = r ∨ ((7 : Int) ≠ 0 ∧ q = o)) ∧ RightT q ∧ DirOk fs q l := ⟨hsm, o, .inr ⟨by omega, rfl⟩, ho, hok⟩
  have hok1 : DirOk fs o (without l nd) := by obtain ⟨f, h1, h2⟩ := hok; exact ⟨f, by rw [findD_without]; exact h1, h2⟩
  have hsm1 : SmallD fs (without l nd) := ⟨fun x hx => hsm.1 x (mem_without.1 hx).1, fun x hx => hsm.2 x (mem_without.1 hx).1⟩
  have hidx1 : ∀ x ∈ without l nd, x.2 < fs.length := fun x hx => hidx x (mem_without.1 hx).1
  have good1 : SmallD fs (without l nd) ∧ ∃ q, (q = r ∨ ((7 : Int) ≠ 0 ∧ q = o)) ∧ RightT q ∧ DirOk fs q (without l nd) := ⟨hsm1, o, .inr ⟨by omega, rfl⟩, ho, hok1⟩
  have hlen1 : (without l nd).length ≤ 1 := by
    have hr1 := rise_without hrise nd
    match hq : without l nd with
    | [] => simp
    | [_] => simp
    | x :: y :: _ =>
      exfalso
      rw [hq] at hr1
      have hx : x.1 = nf := ((hsm.1 x (mem_without.1 (show x ∈ without l nd by rw [hq]; simp)).1).resolve_right (mem_without.1 (show x ∈ without l nd by rw [hq]; simp)).2)
      have hy : y.1 = nf := ((hsm.1 y (mem_without.1 (show y ∈ without l nd by rw [hq]; simp)).1).resolve_right (mem_without.1 (show y ∈ without l nd by rw [hq]; simp)).2)
      have := (List.pairwise_cons.1 hr1).1 y (by simp)
      rw [hx, hy, bl_irr] at this
      cases this
  -- the draft ahead goes
  have st1 : (∃ b, step1 ⟨4096, fs, [l], b0, false⟩ = (⟨4096, fs, [l], b, true⟩, 7)) ∨ ∃ D b, step1 ⟨4096, fs, [l], b0, false⟩ = (⟨4096, fs, D, b, false⟩, 0) ∧ D.getLastD [] = without l nd ∧ D ≠ [] ∧ D.length ≤ 2 ∧ ∀ d ∈ D, d = l ∨ d = without l nd := by
    unfold step1 Dk.find
    have hnow : ∀ b, (⟨4096, fs, [l], b, false⟩ : Dk).now = l := fun _ => rfl
    rw [hnow]
    cases hq : findD l nd with
    | none =>
      right
      have : without l nd = l := by unfold without; exact List.filter_eq_self.2 fun x hx => by simp [findD_none.1 hq x hx]
      exact ⟨[l], b0, by simp, by rw [this]; rfl, by simp, by simp, fun d hd => .inl (by simpa using hd)⟩
    | some g =>
      have ht : there ⟨4096, fs, [l], b0, false⟩ nd = 0 := by unfold there Dk.find; rw [hnow, hq]; rfl
      simp only [Option.isSome_some, if_true]
      unfold delete
      rw [ht]
      rcases can_two 4096 fs [l] b0 with hc | ⟨b', hc⟩
      · left; exact ⟨b0, by rw [hc]; simp⟩
      · right
        refine ⟨[l, without l nd], b', by rw [hc]; simp [hnow], rfl, by simp, by simp, fun d hd => by simpa using hd⟩
  have hw0 : writeT ⟨4096, fs, [l], b0, false⟩ r = thenT (thenT (thenT (thenT (thenT (step1 ⟨4096, fs, [l], b0, false⟩) fun s => create s nd) fun s => append s nd (bytesT r)) fun s => sync s nd) fun s => rename s nd nf) dirsync := by
    unfold writeT; rw [if_neg (by rw [rightT_iff.2 hr]; simp)]
  have i1 : Inv (step1 ⟨4096, fs, [l], b0, false⟩).1 := by unfold step1; split; exact inv_delete inv0 _; exact inv0
  rcases st1 with ⟨b, hs1⟩ | ⟨D, b1, hs1, hlast, hDne, hDl, hDm⟩
  · rw [hs1] at hw0 i1
    refine ⟨_, 7, by rw [hw0]; simp [thenT], i1, rfl, .inr rfl, by simp, by simp, fun d hd => ?_⟩
    simp only [List.mem_cons, List.not_mem_nil, or_false] at hd
    subst hd; exact good
  rw [hs1] at hw0 i1
  simp only at i1
  have goodD : ∀ d ∈ D, SmallD fs d ∧ ∃ q, (q = r ∨ ((7 : Int) ≠ 0 ∧ q = o)) ∧ RightT q ∧ DirOk fs q d := fun d hd => by
    rcases hDm d hd with rfl | rfl
    · exact good
    · exact good1
  have hidxD : ∀ d ∈ D, ∀ x ∈ d, x.2 < fs.length := fun d hd => by
    rcases hDm d hd with rfl | rfl
    · exact hidx
    · exact hidx1
  have now1 : ∀ F b, (⟨4096, F, D, b, false⟩ : Dk).now = without l nd := fun F b => hlast
  have fnd : findD (without l nd) nd = none := findD_none.2 fun x hx => (mem_without.1 hx).2
  -- a new one is made
  have ce : createE ⟨4096, fs, D, b1, false⟩ nd = 0 := by
    unfold createE Dk.find
    rw [named_d, now1, fnd]
    simp; omega
  have i2 := inv_create i1 nd
  have e2 : create ⟨4096, fs, D, b1, false⟩ nd = (⟨4096, fs, D, b1, true⟩, 7) ∨ ∃ b, create ⟨4096, fs, D, b1, false⟩ nd = (⟨4096, fs ++ [⟨[], 0⟩], D ++ [withD (without l nd) (nd, fs.length)], b, false⟩, 0) := by
    unfold create
    rw [ce]
    rcases can_two 4096 fs D b1 with hc | ⟨b', hc⟩
    · left; rw [hc]; simp
    · right; exact ⟨b', by rw [hc]; simp [now1]⟩
  rcases e2 with e2 | ⟨b2, e2⟩
  · rw [e2] at i2
    refine ⟨_, 7, by rw [hw0]; simp [thenT, e2], i2, rfl, .inr rfl, by simp, by simp; omega, goodD⟩
  rw [e2] at i2
  simp only at i2
  generalize hlc : withD (without l nd) (nd, fs.length) = lc at e2 i2
  have lcf : findD lc nd = some fs.length := by
    rw [← hlc]; exact findD_of_mem (rise_withD (rise_without hrise nd) fun y hy => (mem_without.1 hy).2) (mem_withD.2 (.inl rfl))
  have lcn : findD lc nf = findD (without l nd) nf := by rw [← hlc, findD_with]
  have lcm : ∀ x ∈ lc, x = (nd, fs.length) ∨ x ∈ without l nd := fun x hx => by rw [← hlc] at hx; exact mem_withD.1 hx
  have goodL : ∀ x : Fl, x.b.length ≤ 22 → ∀ d ∈ D ++ [lc], SmallD (fs ++ [x]) d ∧ ∃ q, (q = r ∨ ((7 : Int) ≠ 0 ∧ q = o)) ∧ RightT q ∧ DirOk (fs ++ [x]) q d := fun x hx d hd => by
    rcases List.mem_append.1 hd with hd | hd
    · obtain ⟨g1, q, g2, g3, g4⟩ := goodD d hd
      exact ⟨small_app (hidxD d hd) g1, q, g2, g3, ok_app g4⟩
    · simp only [List.mem_cons, List.not_mem_nil, or_false] at hd
      subst hd
      refine ⟨⟨fun y hy => ?_, fun y hy => ?_⟩, o, .inr ⟨by omega, rfl⟩, ho, ok_app ?_⟩
      · rcases lcm y hy with rfl | hy
        · exact .inr rfl
        · exact hsm1.1 y hy
      · rcases lcm y hy with rfl | hy
        · simp only [List.getD_eq_getElem?_getD]
          rw [List.getElem?_append_right (Nat.le_refl _)]
          simpa using hx
        · rw [getD_app (hidx1 y hy)]; exact hsm1.2 y hy
      · obtain ⟨f, h1, h2⟩ := hok1
        exact ⟨f, by rw [lcn]; exact h1, h2⟩
  have now2 : ∀ F b, (⟨4096, F, D ++ [lc], b, false⟩ : Dk).now = lc := fun F b => by simp [Dk.now]
  have f2 : ∀ F b, Dk.find ⟨4096, F, D ++ [lc], b, false⟩ nd = some fs.length := fun F b => by unfold Dk.find; rw [now2, lcf]
  -- its bytes
  have ae : appendE ⟨4096, fs ++ [⟨[], 0⟩], D ++ [lc], b2, false⟩ nd (bytesT r).length = 0 := by
    have hh := held_22 (s := ⟨4096, fs ++ [⟨[], 0⟩], D ++ [lc], b2, false⟩) fun d hd x hx => (goodL ⟨[], 0⟩ (by simp) d hd).1.2 x hx
    simp only [List.length_append, List.length_cons, List.length_nil] at hh
    unfold appendE; rw [f2]; simp only [Option.isSome_some, if_true]; rw [if_neg (by omega)]
  have i3 := inv_append i2 nd (bytesT r)
  have e3 : append ⟨4096, fs ++ [⟨[], 0⟩], D ++ [lc], b2, false⟩ nd (bytesT r) = (⟨4096, fs ++ [⟨[], 0⟩], D ++ [lc], b2, true⟩, 7) ∨ ∃ b, append ⟨4096, fs ++ [⟨[], 0⟩], D ++ [lc], b2, false⟩ nd (bytesT r) = (⟨4096, fs ++ [⟨bytesT r, 0⟩], D ++ [lc], b, false⟩, 0) := by
    unfold append
    rw [ae]
    rcases can_two 4096 (fs ++ [⟨[], 0⟩]) (D ++ [lc]) b2 with hc | ⟨b', hc⟩
    · left; rw [hc]; simp
    · right; exact ⟨b', by rw [hc]; simp [f2, setF, fileAt]⟩
  rcases e3 with e3 | ⟨b3, e3⟩
  · rw [e3] at i3
    refine ⟨_, 7, by rw [hw0]; simp [thenT, e2, e3], i3, rfl, .inr rfl, by simp, by simp; omega, goodL ⟨[], 0⟩ (by simp)⟩
  rw [e3] at i3
  simp only at i3
  have i4 := inv_sync i3 nd
  have te : there ⟨4096, fs ++ [⟨bytesT r, 0⟩], D ++ [lc], b3, false⟩ nd = 0 := by unfold there; rw [f2]; rfl
  have e4 : sync ⟨4096, fs ++ [⟨bytesT r, 0⟩], D ++ [lc], b3, false⟩ nd = (⟨4096, fs ++ [⟨bytesT r, 0⟩], D ++ [lc], b3, true⟩, 7) ∨ ∃ b, sync ⟨4096, fs ++ [⟨bytesT r, 0⟩], D ++ [lc], b3, false⟩ nd = (⟨4096, fs ++ [⟨bytesT r, (bytesT r).length⟩], D ++ [lc], b, false⟩, 0) := by
    unfold sync
    rw [te]
    rcases can_two 4096 (fs ++ [⟨bytesT r, 0⟩]) (D ++ [lc]) b3 with hc | ⟨b', hc⟩
    · left; rw [hc]; simp
    · right; exact ⟨b', by rw [hc]; simp [f2, setF, fileAt]⟩
  rcases e4 with e4 | ⟨b4, e4⟩
  · rw [e4] at i4
    refine ⟨_, 7, by rw [hw0]; simp [thenT, e2, e3, e4], i4, rfl, .inr rfl, by simp, by simp; omega, goodL ⟨bytesT r, 0⟩ hb1⟩
  rw [e4] at i4
  simp only at i4
  have i5 := inv_rename i4 nd nf
  have hw : withD (without (without lc nd) nf) (nf, fs.length) = [(nf, fs.length)] := by
    have : without (without lc nd) nf = [] := by
      refine List.eq_nil_iff_forall_not_mem.2 fun x hx => ?_
      obtain ⟨hx1, hx2⟩ := mem_without.1 hx
      obtain ⟨hx3, hx4⟩ := mem_without.1 hx1
      rcases lcm x hx3 with rfl | hx5
      · exact hx4 rfl
      · rcases hsm1.1 x hx5 with h | h
        · exact hx2 h
        · exact hx4 h
    rw [this]; rfl
  have re : renameE ⟨4096, fs ++ [⟨bytesT r, (bytesT r).length⟩], D ++ [lc], b4, false⟩ nd nf = 0 := by unfold renameE; rw [f2, named_f]; rfl
  have e5 : rename ⟨4096, fs ++ [⟨bytesT r, (bytesT r).length⟩], D ++ [lc], b4, false⟩ nd nf = (⟨4096, fs ++ [⟨bytesT r, (bytesT r).length⟩], D ++ [lc], b4, true⟩, 7) ∨ ∃ b, rename ⟨4096, fs ++ [⟨bytesT r, (bytesT r).length⟩], D ++ [lc], b4, false⟩ nd nf = (⟨4096, fs ++ [⟨bytesT r, (bytesT r).length⟩], (D ++ [lc]) ++ [[(nf, fs.length)]], b, false⟩, 0) := by
    unfold rename
    rw [re]
    rcases can_two 4096 (fs ++ [⟨bytesT r, (bytesT r).length⟩]) (D ++ [lc]) b4 with hc | ⟨b', hc⟩
    · left; rw [hc]; simp
    · right; exact ⟨b', by rw [hc]; simp only [if_true, f2, now2, Option.getD_some, hw]⟩
  rcases e5 with e5 | ⟨b5, e5⟩
  · rw [e5] at i5
    refine ⟨_, 7, by rw [hw0]; simp [thenT, e2, e3, e4, e5], i5, rfl, .inr rfl, by simp, by simp; omega, goodL _ hb1⟩
  rw [e5] at i5
  simp only at i5
  have goodR : SmallD (fs ++ [⟨bytesT r, (bytesT r).length⟩]) [(nf, fs.length)] ∧ ∀ P : Rt → Prop, P r → ∃ q, P q ∧ RightT q ∧ DirOk (fs ++ [⟨bytesT r, (bytesT r).length⟩]) q [(nf, fs.length)] := by
    refine ⟨⟨fun x hx => by simp at hx; subst hx; exact .inl rfl, fun x hx => ?_⟩, fun P hP => ⟨r, hP, hr, fs.length, by simp [findD], by simp⟩⟩
    simp at hx; subst hx
    simpa [List.getD_eq_getElem?_getD] using hb1
  have i6 := inv_dirsync i5
  have e6 : dirsync ⟨4096, fs ++ [⟨bytesT r, (bytesT r).length⟩], (D ++ [lc]) ++ [[(nf, fs.length)]], b5, false⟩ = (⟨4096, fs ++ [⟨bytesT r, (bytesT r).length⟩], (D ++ [lc]) ++ [[(nf, fs.length)]], b5, true⟩, 7) ∨ ∃ b, dirsync ⟨4096, fs ++ [⟨bytesT r, (bytesT r).length⟩], (D ++ [lc]) ++ [[(nf, fs.length)]], b5, false⟩ = (⟨4096, fs ++ [⟨bytesT r, (bytesT r).length⟩], [[(nf, fs.length)]], b, false⟩, 0) := by
    unfold dirsync
    rcases can_two 4096 (fs ++ [⟨bytesT r, (bytesT r).length⟩]) ((D ++ [lc]) ++ [[(nf, fs.length)]]) b5 with hc | ⟨b', hc⟩
    · left; rw [hc]; simp
    · right; exact ⟨b', by rw [hc]; simp [Dk.now]⟩
  rcases e6 with e6 | ⟨b6, e6⟩
  · rw [e6] at i6
    refine ⟨_, 7, by rw [hw0]; simp only [thenT, if_true, e2, e3, e4, e5, e6], i6, rfl, .inr rfl, by simp, by simp; omega, fun d hd => ?_⟩
    rcases List.mem_append.1 hd with hd | hd
    · exact goodL _ hb1 d hd
    · simp only [List.mem_cons, List.not_mem_nil, or_false] at hd
      subst hd; exact ⟨goodR.1, goodR.2 _ (.inl rfl)⟩
  · rw [e6] at i6
    refine ⟨_, 0, by rw [hw0]; simp only [thenT, if_true, e2, e3, e4, e5, e6], i6, rfl, .inl rfl, by simp, by simp, fun d hd => ?_⟩
    simp only [List.mem_cons, List.not_mem_nil, or_false] at hd
    subst hd; exact ⟨goodR.1, goodR.2 _ (.inl rfl)⟩
theorem read_wt {s : Dk} {o : Rt} (h : Wt s o) : readT s = (o, 0) := by
  obtain ⟨_, hg, _, _, hr, l, hd, ⟨f, h1, h2⟩, _⟩ := h
  unfold readT Disk.read Dk.find Dk.now
  rw [hg, hd]
  have e : (fileAt s f).b = bytesT o := by unfold fileAt; rw [List.getD_eq_getElem?_getD, h2]; rfl
  simp [h1, e, fromB_bytes hr]
theorem wt_of_st {s : Dk} {o : Rt} (h : StT s (some o)) (hroom : s.room = 4096) : Wt s o := by
  obtain ⟨hi, hg, hb, hr, f, h1, h2⟩ := h
  refine ⟨hi, hg, hb, hroom, hr, _, h1, ⟨f, by simp [findD], h2⟩, fun x hx => by simp at hx; subst hx; exact .inl rfl, fun x hx => ?_⟩
  simp at hx; subst hx
  rw [List.getD_eq_getElem?_getD, h2]
  exact (bytesT_len hr).2
end Go.Root
