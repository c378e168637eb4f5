/- A root, in plain words: what is written, and read. No condition. -/
import Derived.Test.YthlmkjkjebcpfaaRec2
import Derived.Test.YthlmkjkjebcpfaaDiskInv2
set_option linter.unusedSimpArgs false
set_option linter.unusedVariables false
namespace Go.Root
open Go.Den Go.Disk Go.Rec Go.Proofs.Ythlmkjkjebcpfaa
structure Rt where
  gen : Nat
  lanes : Int
  pay : Int
  del : Int
  seg : Int
  deriving DecidableEq
def zeroT : Rt := ⟨0, 0, 0, 0, 0⟩
def cfgB (a b c : Int) : Bool := decide (1 ≤ a) && decide (a ≤ 8) && decide (0 ≤ b) && decide (b ≤ 64) && decide (1 ≤ c) && decide (c ≤ 20)
def rightT (r : Rt) : Bool := cfgB r.lanes r.pay r.del && decide (1 ≤ r.gen) && decide (r.gen < 10000000000) && decide (64 ≤ r.seg) && decide (r.seg ≤ 65536)
def nf : ByteArray := ⟨#[114, 111, 111, 116]⟩
def nd : ByteArray := ⟨#[114, 111, 111, 116, 46, 110, 101, 119]⟩
theorem nfd : nf ≠ nd := by intro h; have := congrArg (fun x : ByteArray => x.data.size) h; simp [nf, nd] at this
theorem named_f : named nf = true := by decide +kernel
theorem named_d : named nd = true := by decide +kernel
def numsT (r : Rt) : List Nat := [r.gen, r.lanes.toNat, r.pay.toNat, r.del.toNat, r.seg.toNat]
def bytesT (r : Rt) : List UInt8 := recB 12 (numsT r) []
structure RightT (r : Rt) : Prop where
  g : 1 ≤ r.gen ∧ r.gen < 10000000000
  l : 1 ≤ r.lanes ∧ r.lanes ≤ 8
  p : 0 ≤ r.pay ∧ r.pay ≤ 64
  d : 1 ≤ r.del ∧ r.del ≤ 20
  s : 64 ≤ r.seg ∧ r.seg ≤ 65536
theorem rightT_iff {r : Rt} : rightT r = true ↔ RightT r := by
  unfold rightT cfgB
  simp only [Bool.and_eq_true, decide_eq_true_eq]
  constructor
  · rintro ⟨⟨⟨⟨⟨⟨⟨⟨⟨a, b⟩, c⟩, d⟩, e⟩, f⟩, g⟩, h⟩, i⟩, j⟩
    exact ⟨⟨g, h⟩, ⟨a, b⟩, ⟨c, d⟩, ⟨e, f⟩, ⟨i, j⟩⟩
  · rintro ⟨⟨g, h⟩, ⟨a, b⟩, ⟨c, d⟩, ⟨e, f⟩, ⟨i, j⟩⟩
    exact ⟨⟨⟨⟨⟨⟨⟨⟨⟨a, b⟩, c⟩, d⟩, e⟩, f⟩, g⟩, h⟩, i⟩, j⟩
theorem nums_small {r : Rt} (h : RightT r) : ∀ n ∈ numsT r, n < 18446744073709551616 := by
  obtain ⟨h1, h2, h3, h4, h5⟩ := h
  intro n hn
  simp only [numsT, List.mem_cons, List.not_mem_nil, or_false] at hn
  omega
theorem right12 (ns : List Nat) (h : ns.length = 5) : rightB 12 ns.length ([] : List UInt8).length = true := by
  rw [h]; decide +kernel
theorem bytesT_len {r : Rt} (h : RightT r) : 0 < (bytesT r).length ∧ (bytesT r).length ≤ 22 := by
  obtain ⟨h1, h2, h3, h4, h5⟩ := h
  have l1 := Go.Vint.layV_len 5 r.gen (by omega) (by omega)
  have l2 := Go.Vint.layV_len 1 r.lanes.toNat (by omega) (by omega)
  have l3 := Go.Vint.layV_len 1 r.pay.toNat (by omega) (by omega)
  have l4 := Go.Vint.layV_len 1 r.del.toNat (by omega) (by omega)
  have l5 := Go.Vint.layV_len 3 r.seg.toNat (by omega) (by omega)
  unfold bytesT recB
  rw [Go.Frame.frB_len]
  unfold toFra bodyOf_ numsT
  simp only [List.flatMap_cons, List.flatMap_nil, List.append_nil, List.length_append]
  omega
/-- what comes of acts one behind the other, up to the first error. -/
def thenT (x : Dk × Int) (f : Dk → Dk × Int) : Dk × Int := if x.2 = 0 then f x.1 else x
def step1 (s : Dk) : Dk × Int := if (s.find nd).isSome then delete s nd else (s, 0)
def writeT (s : Dk) (r : Rt) : Dk × Int :=
  if rightT r = false then (s, 1) else
  thenT (thenT (thenT (thenT (thenT (step1 s) fun s => create s nd) fun s => append s nd (bytesT r)) fun s => sync s nd) fun s => rename s nd nf) dirsync
def small (n : Nat) : Int := ((min n 1048576 : Nat) : Int)
def ofRec (x : Rc) : Rt := ⟨x.n.getD 0 0, small (x.n.getD 1 0), small (x.n.getD 2 0), small (x.n.getD 3 0), small (x.n.getD 4 0)⟩
def fromB (b : List UInt8) : Rt × Int :=
  if (recAll b).2.2 ≠ 0 then (zeroT, (recAll b).2.2) else
  match (recAll b).1 with
  | [x] => if x.kind ≠ 12 then (zeroT, 2) else if rightT (ofRec x) = true then (ofRec x, 0) else (zeroT, 2)
  | _ => (zeroT, 2)
def readT (s : Dk) : Rt × Int := if (Disk.read s nf).2 ≠ 0 then (zeroT, (Disk.read s nf).2) else fromB (Disk.read s nf).1
theorem fromB_bytes {r : Rt} (h : RightT r) : fromB (bytesT r) = (r, 0) := by
  unfold fromB bytesT
  rw [recAll_one (right12 _ rfl) (nums_small h)]
  have e : ofRec ⟨12, numsT r, []⟩ = r := by
    obtain ⟨h1, h2, h3, h4, h5⟩ := h
    obtain ⟨g, l, p, d, s⟩ := r
    simp only at h1 h2 h3 h4 h5
    unfold ofRec numsT small
    simp only [List.getD_cons_zero, List.getD_cons_succ]
    congr 1 <;> omega
  simp only [ne_eq, not_true_eq_false, if_false]
  rw [e, if_pos (rightT_iff.2 h)]
/-- a disk that has at most a root, and is sure of it. -/
structure StT (s : Dk) (o : Option Rt) : Prop where
  inv : Inv s
  gone : s.gone = false
  burn : s.burn = -1
  at_ : match o with
    | none => s.dirs = [[]]
    | some r => RightT r ∧ ∃ f, s.dirs = [[(nf, f)]] ∧ s.files[f]? = some ⟨bytesT r, (bytesT r).length⟩
theorem can_freeT {s : Dk} (hg : s.gone = false) (hb : s.burn = -1) (e : Int) : can s e = (s, e) := by
  unfold can
  by_cases h : e = 0
  · simp [hg, hb, h]
  · simp [hg, h]
theorem ind_sum (f k : Nat) : ∀ n, sumTo n (fun g => if g = f then k else 0) ≤ k ∧ (n ≤ f → sumTo n (fun g => if g = f then k else 0) = 0)
  | 0 => by simp [sumTo]
  | n + 1 => by
    obtain ⟨h1, h2⟩ := ind_sum f k n
    rw [sumTo_succ]
    by_cases h : n = f
    · rw [if_pos h, h2 (by omega)]; exact ⟨by omega, fun hh => by omega⟩
    · rw [if_neg h]; exact ⟨by omega, fun hh => by rw [h2 (by omega)]⟩
theorem held_one_le {s : Dk} {f k : Nat} (h : ∀ g, isHeld s g = true → (fileAt s g).b.length ≤ if g = f then k else 0) : held s ≤ k := by
  rw [held_sum]
  refine Nat.le_trans (sumTo_le (g' := fun g => if g = f then k else 0) fun i _ => ?_) (ind_sum f k _).1
  unfold heldG
  split
  · rename_i hh; exact h i hh
  · omega
theorem read_st {s : Dk} {o : Option Rt} (h : StT s o) : readT s = match o with | none => (zeroT, 5) | some r => (r, 0) := by
  have hg := h.gone
  have ha := h.at_
  unfold readT Disk.read Dk.find Dk.now
  cases o with
  | none =>
    simp only at ha
    rw [ha, hg]; simp [findD]
  | some r =>
    obtain ⟨hr, f, h1, h2⟩ := ha
    rw [h1, hg]
    have e : (fileAt s f).b = bytesT r := by unfold fileAt; rw [List.getD_eq_getElem?_getD, h2]; rfl
    simp [findD, e, fromB_bytes hr]
theorem write_st {s : Dk} {o : Option Rt} {r : Rt} (h : StT s o) (hr : RightT r) (hroom : 100 ≤ s.room) : (writeT s r).2 = 0 ∧ StT (writeT s r).1 (some r) ∧ (writeT s r).1.room = s.room := by
  obtain ⟨hb0, hb1⟩ := bytesT_len hr
  obtain ⟨inv, hg, hb, ha⟩ := h
  -- the one directory: nothing, or the root alone
  obtain ⟨l, hd, hl⟩ : ∃ l, s.dirs = [l] ∧ (l = [] ∨ ∃ f, l = [(nf, f)] ∧ f < s.files.length ∧ (fileAt s f).b.length ≤ 22) := by
    cases o with
    | none => exact ⟨[], ha, .inl rfl⟩
    | some q =>
      obtain ⟨hq, f, h1, h2⟩ := ha
      refine ⟨_, h1, .inr ⟨f, rfl, (List.getElem?_eq_some_iff.1 h2).1, ?_⟩⟩
      unfold fileAt; rw [List.getD_eq_getElem?_getD, h2]
      exact (bytesT_len hq).2
  obtain ⟨room, files, dirs, burn, gone⟩ := s
  simp only at hd hg hb hl hroom
  subst hd hg hb
  have c0 : ∀ (fs : List Fl) (ds : List Dir) (e : Int), can ⟨room, fs, ds, -1, false⟩ e = (⟨room, fs, ds, -1, false⟩, e) := fun fs ds e => can_freeT rfl rfl e
  have fnd : findD l nd = none := by
    rcases hl with rfl | ⟨f, rfl, _⟩
    · rfl
    · simp [findD, nfd]
  have hlen : l.length ≤ 1 := by rcases hl with rfl | ⟨f, rfl, _⟩ <;> simp
  have now1 : ∀ fs : List Fl, (⟨room, fs, [l], -1, false⟩ : Dk).now = l := fun _ => rfl
  have e1 : step1 ⟨room, files, [l], -1, false⟩ = (⟨room, files, [l], -1, false⟩, 0) := by
    unfold step1 Dk.find; rw [now1, fnd]; simp
  have ce : createE ⟨room, files, [l], -1, false⟩ nd = 0 := by
    unfold createE Dk.find
    rw [named_d, now1, fnd]
    simp; omega
  have e2 : create ⟨room, files, [l], -1, false⟩ nd = (⟨room, files ++ [⟨[], 0⟩], [l, withD l (nd, files.length)], -1, false⟩, 0) := by
    unfold create; rw [ce]; simp only [c0, if_true, now1]; rfl
  have hwd : findD (withD l (nd, files.length)) nd = some files.length := by
    rcases hl with rfl | ⟨f, rfl, _⟩
    · simp [withD, findD]
    · simp only [withD]; split <;> simp [findD, nfd]
  have now2 : ∀ fs : List Fl, (⟨room, fs, [l, withD l (nd, files.length)], -1, false⟩ : Dk).now = withD l (nd, files.length) := fun _ => rfl
  have f2 : ∀ fs : List Fl, Dk.find ⟨room, fs, [l, withD l (nd, files.length)], -1, false⟩ nd = some files.length := fun fs => by unfold Dk.find; rw [now2, hwd]
  have hh : held ⟨room, files ++ [⟨[], 0⟩], [l, withD l (nd, files.length)], -1, false⟩ ≤ 22 := by
    rcases hl with rfl | ⟨f, rfl, hf, hfl⟩
    · refine held_one_le (f := files.length) fun g hg => ?_
      rw [isHeld_iff] at hg
      obtain ⟨k, hk, x, hx, rfl⟩ := hg
      simp [withD] at hk
      rcases hk with rfl | rfl
      · simp at hx
      · simp at hx; subst hx; simp [fileAt]
    · refine held_one_le (f := f) fun g hg => ?_
      rw [isHeld_iff] at hg
      obtain ⟨k, hk, x, hx, rfl⟩ := hg
      have key : x = (nf, f) ∨ x = (nd, files.length) := by
        simp only [List.mem_cons, List.not_mem_nil, or_false] at hk
        rcases hk with rfl | rfl
        · simp at hx; exact .inl hx
        · rcases mem_withD.1 hx with h | h
          · exact .inr h
          · simp at h; exact .inl h
      rcases key with rfl | rfl
      · rw [if_pos rfl]
        unfold fileAt at hfl ⊢
        simp only at hfl ⊢
        rw [List.getD_eq_getElem?_getD, List.getElem?_append_left hf, ← List.getD_eq_getElem?_getD]
        exact hfl
      · simp only
        unfold fileAt
        simp
  have ae : appendE ⟨room, files ++ [⟨[], 0⟩], [l, withD l (nd, files.length)], -1, false⟩ nd (bytesT r).length = 0 := by
    unfold appendE; rw [f2]; simp only [Option.isSome_some, if_true]; rw [if_neg (by omega)]
  have e3 : append ⟨room, files ++ [⟨[], 0⟩], [l, withD l (nd, files.length)], -1, false⟩ nd (bytesT r) = (⟨room, files ++ [⟨bytesT r, 0⟩], [l, withD l (nd, files.length)], -1, false⟩, 0) := by
    unfold append; rw [ae]; simp only [c0, if_true, f2, Option.getD_some]
    simp [setF, fileAt]
  have e4 : sync ⟨room, files ++ [⟨bytesT r, 0⟩], [l, withD l (nd, files.length)], -1, false⟩ nd = (⟨room, files ++ [⟨bytesT r, (bytesT r).length⟩], [l, withD l (nd, files.length)], -1, false⟩, 0) := by
    unfold sync there; rw [f2]; simp only [c0, Option.isSome_some, if_true, Option.getD_some]
    simp [setF, fileAt]
  have hw : withD (without (without (withD l (nd, files.length)) nd) nf) (nf, files.length) = [(nf, files.length)] := by
    have : without (without (withD l (nd, files.length)) nd) nf = [] := by
      refine List.eq_nil_iff_forall_not_mem.2 fun x hx => ?_
      obtain ⟨hx1, hx2⟩ := mem_without.1 hx
      obtain ⟨hx3, hx4⟩ := mem_without.1 hx1
      rcases mem_withD.1 hx3 with rfl | hx5
      · exact hx4 rfl
      · rcases hl with rfl | ⟨f, rfl, _⟩
        · simp at hx5
        · simp at hx5; subst hx5; exact hx2 rfl
    rw [this]; rfl
  have e5 : rename ⟨room, files ++ [⟨bytesT r, (bytesT r).length⟩], [l, withD l (nd, files.length)], -1, false⟩ nd nf = (⟨room, files ++ [⟨bytesT r, (bytesT r).length⟩], [l, withD l (nd, files.length)] ++ [[(nf, files.length)]], -1, false⟩, 0) := by
    unfold rename renameE; rw [f2, named_f]; simp only [c0, Option.isSome_some, if_true, Option.getD_some, now2, hw]
  have e6 : dirsync ⟨room, files ++ [⟨bytesT r, (bytesT r).length⟩], [l, withD l (nd, files.length)] ++ [[(nf, files.length)]], -1, false⟩ = (⟨room, files ++ [⟨bytesT r, (bytesT r).length⟩], [[(nf, files.length)]], -1, false⟩, 0) := by
    unfold dirsync; simp only [c0, if_true]; rfl
  have hW : writeT ⟨room, files, [l], -1, false⟩ r = (⟨room, files ++ [⟨bytesT r, (bytesT r).length⟩], [[(nf, files.length)]], -1, false⟩, 0) := by
    unfold writeT
    rw [rightT_iff.2 hr, e1]
    simp only [thenT, if_true, e2, e3, e4, e5, e6]
    rfl
  have i6 := inv_dirsync (inv_rename (inv_sync (inv_append (inv_create inv nd) nd (bytesT r)) nd) nd nf)
  rw [e2] at i6
  simp only at i6
  rw [e3] at i6
  simp only at i6
  rw [e4] at i6
  simp only at i6
  rw [e5] at i6
  simp only at i6
  rw [e6] at i6
  rw [hW]
  exact ⟨rfl, ⟨i6, rfl, rfl, hr, files.length, rfl, by simp⟩, rfl⟩
theorem write_no {s : Dk} {r : Rt} (h : rightT r = false) : writeT s r = (s, 1) := by unfold writeT; rw [if_pos h]
theorem st_empty {room : Int} (h : 16 ≤ room ∧ room ≤ 1048576) : StT (empty room) none := ⟨inv_empty h, rfl, rfl, rfl⟩
end Go.Root
