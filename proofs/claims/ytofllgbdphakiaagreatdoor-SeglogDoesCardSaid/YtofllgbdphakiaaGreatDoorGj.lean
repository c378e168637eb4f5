/- A disk's bytes held: each file once. No condition but sizes. A disk's calls: Append. No condition but sizes. A disk's calls: Crash. No condition but sizes. A disk, in plain words: what always holds is kept by each call. No condition. An act upon a disk, in plain words. No condition but sizes. A disk, in plain words: never more held than there is room; a file has one name at a time. No condition. A disk, in plain words: each act keeps what always holds; what is held behind a crash. No condition. A disk of which folders and files are known, in plain words. No condition. A log in segments, in plain words. No condition. Helps for walks upon disks. No condition. Records read, walked. No condition but sizes. A log in segments, walked. Conditions: the table of the powers of ten is laid; numbers are of 64 bits; sizes. A log with records, each at its place, in plain words. No condition. What is sure stays, in plain words. No condition. The laws of logs, in plain words: the order of places; what is cut; what is sure. No condition. What the laws of logs use: records compared; many records put into a log; each read at its place. Conditions: the table of the powers of ten is laid; numbers are of 64 bits; sizes. How records that came in read. No condition. Records put into a new log, and calls whose answers the document fixes, walked. Conditions: as of a log's. One thing worked upon while the others stay. No condition. Behind a Sync it is there whatever crashes: the law walked. Conditions: as of a log's. The document's disk in memory. No condition. The document's disk: directories. No condition. -/
import Derived.Test.YtofllgbdphakiaaGreatDoorGi
import Derived.Test.YtofllgbdphakiaaGreatDoorMa
import Derived.Test.YtofllgbdphakiaaGreatDoorGh
set_option linter.unusedVariables false
set_option linter.unusedSimpArgs false
section
namespace Go.Proofs.YtofllgbdphakiaaGreatDoor
open Go.Den Go.Disk
def encF (fb : List Nat) (f : Nat) : List Value := [ptrTo (fb.getD f 0)]
theorem encF_len (fb : List Nat) (x : Nat) : (encF fb x).length = 1 := rfl
theorem encF_one (fb : List Nat) (x : Nat) : ∀ u ∈ encF fb x, u.oneCell' = true := by intro u hu; simp [encF, ptrTo] at hu; subst hu; rfl
/-- files lie apart. -/
theorem files_apart : ∀ (fb : List Nat) (fs : List Fl) {w : World} {F : List Nat}, fb.length = fs.length → (stars (fileHPs fb fs)).p w F → fb.Nodup ∧ ∀ b ∈ fb, b ∈ F
  | [], _, w, F, _, _ => by simp
  | b :: fb, [], w, F, h, _ => by simp at h
  | b :: fb, x :: fs, w, F, hl, h => by
    obtain ⟨A, B, ⟨bv, A1, B1, ⟨_, rfl⟩, _, rfl, _⟩, h2, rfl, h3⟩ := h
    obtain ⟨n1, n2⟩ := files_apart fb fs (by simpa using hl) h2
    refine ⟨List.nodup_cons.2 ⟨fun hb => h3 b (by simp) (n2 b hb), n1⟩, fun c hc => ?_⟩
    rcases List.mem_cons.1 hc with rfl | hc
    · simp
    · exact List.mem_append.2 (.inr (n2 c hc))
theorem getD_inj {fb : List Nat} (hn : fb.Nodup) {f g : Nat} (hf : f < fb.length) (hg : g < fb.length) (h : fb.getD f 0 = fb.getD g 0) : f = g := by
  rw [List.getD_eq_getElem?_getD, List.getD_eq_getElem?_getD, List.getElem?_eq_getElem hf, List.getElem?_eq_getElem hg] at h
  exact (List.getElem_inj hn).1 h
/-- the sum over files, each once. -/
theorem sum_held {s : Dk} {fs : List Nat} (hn : fs.Nodup) (h : ∀ f, f ∈ fs ↔ isHeld s f = true) (hlt : ∀ f ∈ fs, f < s.files.length) : (fs.map fun f => (fileAt s f).b.length).sum = held s := by
  have hp : fs.Perm ((List.range s.files.length).filter fun f => isHeld s f) := by
    refine (List.perm_ext_iff_of_nodup hn ((List.nodup_range).filter _)).2 fun f => ?_
    rw [List.mem_filter, List.mem_range, h]
    exact ⟨fun hh => ⟨hlt f ((h f).2 hh), hh⟩, fun hh => hh.2⟩
  rw [(hp.map _).sum_nat]
  unfold held
  generalize List.range s.files.length = l
  induction l with
  | nil => rfl
  | cons a l ih =>
    by_cases ha : isHeld s a = true
    · rw [List.filter_cons_of_pos ha]; simp [ha, ih]
    · rw [List.filter_cons_of_neg ha]; simp [ha, ih]
theorem sum_small {fs : List Nat} {g : Nat → Nat} {b : Nat} (h : ∀ f ∈ fs, g f ≤ b) : (fs.map g).sum ≤ fs.length * b := by
  induction fs with
  | nil => simp
  | cons a l ih =>
    have h1 := h a (by simp)
    have h2 := ih fun f hf => h f (by simp [hf])
    simp only [List.map_cons, List.sum_cons, List.length_cons, Nat.add_mul]
    omega
theorem nodup_len {fs : List Nat} {n : Nat} (hn : fs.Nodup) (h : ∀ f ∈ fs, f < n) : fs.length ≤ n := by
  have hp : fs.Perm ((List.range n).filter fun f => decide (f ∈ fs)) := by
    refine (List.perm_ext_iff_of_nodup hn ((List.nodup_range).filter _)).2 fun f => ?_
    rw [List.mem_filter, List.mem_range]
    simp only [decide_eq_true_eq]
    exact ⟨fun hh => ⟨h f hh, hh⟩, fun hh => hh.2⟩
  rw [hp.length_eq]
  exact Nat.le_trans (List.length_filter_le _ _) (by simp)
theorem join_go {α : Type} {f : α → Prop} {k : α} (h : f k) : JOIN f k := h
theorem ents_mem {es : Array MapEntry} {L : List (ByteArray × Value)} (h : MapL (fun s : ByteArray => Value.string s) es L) {e : MapEntry} (he : e ∈ es.toList) : ∃ p ∈ L, e.key = .string p.1 ∧ e.val = p.2 := by
  have : (e.key, e.val) ∈ es.toList.map (fun e => (e.key, e.val)) := List.mem_map.2 ⟨e, he, rfl⟩
  rw [h.ents] at this
  obtain ⟨p, hp, e2⟩ := List.mem_map.1 this
  simp only [Prod.mk.injEq] at e2
  exact ⟨p, hp, e2.1.symm, e2.2.symm⟩
theorem mem_ents {es : Array MapEntry} {L : List (ByteArray × Value)} (h : MapL (fun s : ByteArray => Value.string s) es L) {p : ByteArray × Value} (hp : p ∈ L) : ∃ e ∈ es.toList, e.key = .string p.1 ∧ e.val = p.2 := by
  have : (Value.string p.1, p.2) ∈ L.map (fun p => (Value.string p.1, p.2)) := List.mem_map.2 ⟨p, hp, rfl⟩
  rw [← h.ents] at this
  obtain ⟨e, he, e2⟩ := List.mem_map.1 this
  simp only [Prod.mk.injEq] at e2
  exact ⟨e, he, e2.1, e2.2⟩
theorem ents_len {es : Array MapEntry} {L : List (ByteArray × Value)} (h : MapL (fun s : ByteArray => Value.string s) es L) : es.toList.length = L.length := by
  have := congrArg List.length h.ents
  simpa using this
set_option linter.unusedSimpArgs false
set_option linter.unusedVariables false
set_option maxRecDepth 20000
set_option maxHeartbeats 4000000
attribute [local congr] BND_cg COND_cg GEF_cg
attribute [local irreducible] capl slicea load1 loadn iaddr iaddra faddr storev newslice binv lookv mupd mdel mlenv mentry mestore slicev slicev3 slices indexs indexav textv rangev nexts clearv shiftv eqaggv convi buildv pickv lens lenl unv nilchk extractv partn JOIN
section
variable {w0 w : World} {F0 : List Nat} {d : Nat} {s : Dk} {R : Value → World → Prop}
theorem dk_Index {fb fs : List Nat} {v : Value} {f : Nat} (hn : fb.Nodup) (ha : Arr (encF fb) 1 w v fs) (hf : f < fb.length) (hfs : ∀ g ∈ fs, g < fb.length) (hl : fs.length < 1000000000000) (hc : ∀ b ∈ fb, ∃ c T, blk w b = some (.cells c T (0, 0)))
    (hR : ∀ k : Int, (0 ≤ k ↔ f ∈ fs) → R (.int .i64 k) w) : CALL PR F_slices_Index_disk_file_disk_file [v, ptrTo (fb.getD f 0)] w R := by
  refine C_slices_Index_disk_file_disk_file ?_
  unfold M_slices_Index_disk_file_disk_file
  have hcell : ∀ g, g < fb.length → ∃ c T, blk w (fb.getD g 0) = some (.cells c T (0, 0)) := fun g hg => hc _ (by rw [List.getD_eq_getElem?_getD, List.getElem?_eq_getElem hg]; exact List.getElem_mem hg)
  (repeat (first | refine BND_step ha.len ?_ | refine gg ?_))
  refine loop_up 0 fs.length (fun i w' => w' = w ∧ ∀ g ∈ fs.take i, g ≠ f) ⟨rfl, by simp⟩ (by omega) ?_
  rintro i w1 - hi ⟨rfl, e⟩ J m hJ
  by_cases hlt : i < fs.length
  · have hx := List.getElem?_eq_getElem hlt
    have hmem := List.getElem_mem hlt
    generalize fs[i] = g at hx hmem
    obtain ⟨b, o, ia, _, _, l1⟩ := ha.spot hx rfl .i64
    have l1' := l1 (w' := w1) rfl (j := 0) rfl
    obtain ⟨c1, T1, k1⟩ := hcell f hf
    obtain ⟨c2, T2, k2⟩ := hcell g (hfs g hmem)
    have pv := ptrv_blk k1 k2
    unfold ptrTo at l1' ⊢
    by_cases heq : fb.getD f 0 = fb.getD g 0
    · have hfg := getD_inj hn hf (hfs g hmem) heq
      rw [decide_eq_true heq] at pv
      (repeat refine gg ?_)
      exact hR _ (by subst hfg; simp [hmem])
    · rw [decide_eq_false heq] at pv
      (repeat refine gg ?_)
      refine hJ w1 hlt ⟨rfl, fun g' hg' => ?_⟩
      rw [List.take_add_one, hx] at hg'
      rcases List.mem_append.1 hg' with hg' | hg'
      · exact e g' hg'
      · simp at hg'; subst hg'; exact fun h => heq (by rw [h])
  · (repeat refine gg ?_)
    rw [List.take_of_length_le (by omega)] at e
    exact hR (-1) (by simp; exact fun h => e f h rfl)
theorem dk_Contains {fb fs : List Nat} {v : Value} {f : Nat} (hn : fb.Nodup) (ha : Arr (encF fb) 1 w v fs) (hf : f < fb.length) (hfs : ∀ g ∈ fs, g < fb.length) (hl : fs.length < 1000000000000) (hc : ∀ b ∈ fb, ∃ c T, blk w b = some (.cells c T (0, 0)))
    (hR : R (.bool (decide (f ∈ fs))) w) : CALL PR F_slices_Contains_disk_file_disk_file [v, ptrTo (fb.getD f 0)] w R := by
  refine C_slices_Contains_disk_file_disk_file ?_
  unfold M_slices_Contains_disk_file_disk_file
  refine dk_Index hn ha hf hfs hl hc fun k hk => ?_
  (repeat refine gg ?_)
  have : decide (0 ≤ k) = decide (f ∈ fs) := decide_eq_decide.2 hk
  rw [this]; exact hR
theorem isHeld_iff (s : Dk) (f : Nat) : isHeld s f = true ↔ ∃ l ∈ s.dirs, ∃ x ∈ l, x.2 = f := by unfold isHeld; simp [List.any_eq_true]
theorem dk_Held (h : At w0 F0 (diskHP d s) w) (hw : s.Wf) (hn : s.dirs.length < 1000000000) (hn2 : s.files.length < 1000000000) (hR : ∀ w', Fr [] w w' → R (.int .i64 (held s : Nat)) w') :
    CALL PR F_disk_Disk_Held [ptrTo d] w R := by
  obtain ⟨sv, ms, fb, hs, hm, hf⟩ := dk_open h
  obtain ⟨T, c⟩ := hs.cell (i := 1) rfl
  obtain ⟨Fs, ss, _⟩ := hs.slc1 (i := 2) rfl
  refine C_disk_Disk_Held ?_
  unfold M_disk_Disk_Held
  refine ⟨fun _ w' => blk w' d = some (.cells (dkC s (ms.headD 0) sv).toArray T (0, 0)), c, ?_⟩
  have htl : ms.tail.length = ms.length - 1 := by simp
  unfold ptrTo
  have c0 : blk w.drew d = some (.cells (dkC s (ms.headD 0) sv).toArray T (0, 0)) := c
  (repeat refine gg ?_)
  refine newone_step (enc := encM) (x := ms.headD 0) encM_len rfl fun t13 w1 s3 f3 z3 => ?_
  have f3' : Fr [] w w1 := (Fr.drew [] w).trans' f3
  refine ⟨f3'.some (by simp) c, ?_⟩
  refine APPEND_slc s3 (ys := ms.tail) ((ss.fr f3' (by simp)).loads encM_len) encM_len encM_one rfl (by rw [htl]; simp; omega) (by rw [htl]; simp; omega) fun t18 w2 FT s5 f4 sub => ?_
  have f2 : Fr [] w w2 := f3'.trans f4 (by simp)
  have hne : ms ≠ [] := by
    intro e; subst e
    have := List.length_pos_iff.2 hw.ne
    simp at hm; omega
  have ems : [ms.headD 0] ++ ms.tail = ms := by cases ms with
    | nil => exact absurd rfl hne
    | cons a r => rfl
  rw [ems] at s5
  have hs2 := hs.fr0 f2
  obtain ⟨_, hfl, _⟩ := hs2.get 4 rfl
  obtain ⟨fbn, _⟩ := files_apart fb s.files hf hfl
  have hcells : ∀ w', Fr [] w2 w' → ∀ b ∈ fb, ∃ c T, blk w' b = some (.cells c T (0, 0)) := fun w' f b hb => by
    obtain ⟨i, hi, e⟩ := List.mem_iff_getElem.1 hb
    have hi2 : i < s.files.length := by omega
    obtain ⟨bv, T, G, c2, _⟩ := dk_file (hs2.fr0 f) (List.getElem?_eq_getElem hi) (List.getElem?_eq_getElem hi2)
    rw [e] at c2
    exact ⟨_, _, c2⟩
  have hlen : ∀ f, f < s.files.length → (fileAt s f).b.length ≤ 1048576 := fun f hf => by
    have hx : fileAt s f ∈ s.files := by
      unfold fileAt; rw [List.getD_eq_getElem?_getD, List.getElem?_eq_getElem hf]; exact List.getElem_mem hf
    have := hw.small _ hx
    have := hw.room
    omega
  (repeat (first | refine BND_step s5.len ?_ | refine gg ?_))
  refine loop_up3 0 ms.length (fun seen n i w' => ∃ fs : List Nat, At w2 [] (stars [slc (encF fb) 1 seen fs]) w' ∧ fs.Nodup ∧ (∀ f, f ∈ fs ↔ ∃ l ∈ s.dirs.take i, ∃ x ∈ l, x.2 = f) ∧ n = .int .i64 (((fs.map fun f => (fileAt s f).b.length).sum : Nat) : Int))
    ⟨[], (At.nothing w2).add0 (P := slc (encF fb) 1 (.slice none 0 0) []) (Slc.nil _ _ _), List.nodup_nil, by simp, rfl⟩ (by omega) ?_
  rintro seen n i w3 - hi ⟨fs, ha, nd, hfs, rfl⟩ J m hJ
  have f23 : Fr [] w2 w3 := ha.frame
  have hltd : ∀ f, (∃ l ∈ s.dirs, ∃ x ∈ l, x.2 = f) → f < s.files.length := by
    rintro f ⟨l, hl, x, hx, rfl⟩
    exact hw.idx l hl x hx
  by_cases hlt : i < ms.length
  · have hx := List.getElem?_eq_getElem hlt
    have hl := List.getElem?_eq_getElem (show i < s.dirs.length by omega)
    generalize ms[i] = mm at hx
    generalize s.dirs[i]'(by omega) = l at hl
    have hlm : l ∈ s.dirs := List.mem_of_getElem? hl
    have htk : s.dirs.take (i + 1) = s.dirs.take i ++ [l] := by rw [List.take_add_one, hl]; rfl
    obtain ⟨b, o, ia, _, _, l1⟩ := (s5.fr f23 (by simp)).arr.spot hx rfl .i64
    obtain ⟨es, ck, L, b1, b2, b3⟩ := dk_dir hs2 hx hl
    have hLs := ents_len b2.l
    (repeat (first | (apply BND_step; exact (l1 (w' := w3) rfl (j := 0) rfl)) | refine gg ?_))
    refine RANGEM_step (f23.some (by simp) b1) fun w4 it4 f4 z4 => ?_
    have ha4 := ha.add f4 (P := itHP (hsz w3) mm ck #[]) (A := [hsz w3]) ⟨it4, rfl⟩ (by simp)
    refine loop_it2 (hsz w3) L.length (fun seen n w' => ∃ fs A B sn, At w2 [] (stars [itHP (hsz w3) mm ck sn, slc (encF fb) 1 seen fs]) w' ∧ ItAt es sn A B ∧ fs.Nodup ∧ (∀ f ∈ fs, ∃ l ∈ s.dirs.take (i + 1), ∃ x ∈ l, x.2 = f) ∧
      (∀ l' ∈ s.dirs.take i, ∀ x ∈ l', x.2 ∈ fs) ∧ (∀ e ∈ A, ∃ f ∈ fs, e.val = ptrTo (fb.getD f 0)) ∧ n = .int .i64 (((fs.map fun f => (fileAt s f).b.length).sum : Nat) : Int))
      ⟨fs, [], es.toList, #[], ha4, ItAt.start es, nd, fun f hf => by
        obtain ⟨l', hl', r⟩ := (hfs f).1 hf
        exact ⟨l', by rw [htk]; simp [hl'], r⟩, fun l' hl' x hx => (hfs _).2 ⟨l', hl', x, hx, rfl⟩, by simp, rfl⟩ ?_
    rintro seen2 n2 w5 ⟨fs2, A, B, sn, ha5, hit, nd2, q1, q2, q3, rfl⟩ J2 m2 hJ2
    have f25 : Fr [] w2 w5 := ha5.frame
    have hlt2 : ∀ f ∈ fs2, f < s.files.length := fun f hf => hltd f (by
      obtain ⟨l', hl', r⟩ := q1 f hf
      exact ⟨l', List.mem_of_mem_take hl', r⟩)
    have hlt2' : ∀ f ∈ fs2, f < fb.length := fun f hff => by rw [hf]; exact hlt2 f hff
    have hfl2 := nodup_len nd2 hlt2
    have hsum := sum_small (g := fun f => (fileAt s f).b.length) fun f hf => hlen f (hlt2 f hf)
    have hsum2 : (fs2.map fun f => (fileAt s f).b.length).sum ≤ 1000000000 * 1048576 := Nat.le_trans hsum (Nat.mul_le_mul_right _ (by omega))
    obtain ⟨_, ⟨it5, _⟩, _⟩ := ha5.get 0 rfl
    refine NEXTM_step (f25.some (by simp) b1) b2.lt b2.nd it5 hit (fun hB => ?_) (fun e B1 B2 w6 hB f6 it6 hit6 en => ?_)
    · (repeat refine gg ?_)
      refine hJ seen2 _ w5 hlt ⟨fs2, ha5.tail, nd2, fun f => ⟨q1 f, ?_⟩, rfl⟩
      rintro ⟨l', hl', x, hx, rfl⟩
      rw [htk] at hl'
      rcases List.mem_append.1 hl' with hl' | hl'
      · exact q2 l' hl' x hx
      · simp at hl'; subst hl'
        have hp : (x.1, ptrTo (fb.getD x.2 0)) ∈ L := b3.mem_iff.2 (List.mem_map.2 ⟨x, hx, rfl⟩)
        obtain ⟨e, he, _, ev⟩ := mem_ents b2.l hp
        have heA : e ∈ A := by
          have := hit.all.mem_iff.2 he
          rw [hB] at this; simpa using this
        obtain ⟨g, hg, ev2⟩ := q3 e heA
        rw [ev] at ev2
        have e3 : fb.getD x.2 0 = fb.getD g 0 := by unfold ptrTo at ev2; injection ev2 with e4; injection e4 with e5; injection e5
        have := getD_inj fbn (by rw [hf]; exact hw.idx _ hlm x hx) (hlt2' g hg) e3
        rw [this]; exact hg
    · have he : e ∈ es.toList := hit.all.mem_iff.1 (by rw [hB]; simp)
      obtain ⟨p, hp, _, ev⟩ := ents_mem b2.l he
      obtain ⟨x, hx, rfl⟩ := List.mem_map.1 (b3.mem_iff.1 hp)
      simp only at ev
      have hxf : x.2 < s.files.length := hw.idx _ hlm x hx
      have hxb : x.2 < fb.length := by rw [hf]; exact hxf
      obtain ⟨_, _, upd⟩ := ha5.upd 0 rfl
      have ha6 : At w2 [] (stars [itHP (hsz w3) mm ck (sn.push e.born), slc (encF fb) 1 seen2 fs2]) w6 := by
        obtain ⟨A5, ⟨_, hA5⟩, upd⟩ := ha5.upd 0 rfl
        subst hA5
        exact upd w6 [hsz w3] (itHP (hsz w3) mm ck (sn.push e.born)) it6 f6 (fun b hb => .inl hb)
      have f26 : Fr [] w2 w6 := ha6.frame
      have hcnt : seenN (hsz w3) w5 = sn.size := seenN_it it5
      have hcnt6 : seenN (hsz w3) w6 = sn.size + 1 := by rw [seenN_it it6.1]; simp
      have hsz2 : sn.size = A.length := by have := congrArg List.length hit.seen; simpa using this
      have hall := hit.all.length_eq
      rw [hB] at hall
      simp only [List.length_append, List.length_cons] at hall
      rw [ev] at en ⊢
      (repeat refine gg ?_)
      refine dk_Contains fbn (ha6.arr (i := 1) rfl) hxb hlt2' (by omega) (hcells w6 f26) ?_
      by_cases hin : x.2 ∈ fs2
      · rw [decide_eq_true hin]
        (repeat refine gg ?_)
        refine join_go ?_
        (repeat refine gg ?_)
        refine hJ2 seen2 _ w6 (by omega) (by omega) ⟨fs2, A ++ [e], B1 ++ B2, sn.push e.born, ha6, hit6, nd2, q1, q2, fun e' he' => ?_, rfl⟩
        rcases List.mem_append.1 he' with he' | he'
        · exact q3 e' he'
        · simp at he'; subst he'; exact ⟨x.2, hin, ev⟩
      · rw [decide_eq_false hin]
        (repeat refine gg ?_)
        refine join_go ?_
        (repeat refine gg ?_)
        refine newone_step (enc := encF fb) (x := x.2) (encF_len fb) rfl fun t w9 s9 f9 z9 => ?_
        refine (ha6.fr0 f9).append (i := 1) rfl (s9.loads (encF_len fb)) (encF_len fb) (encF_one fb) rfl (by omega) (by simp; omega) fun v' w10 h10 one10 => ?_
        have hb := List.getElem?_eq_getElem hxb
        have hgd : fb.getD x.2 0 = fb[x.2] := by rw [List.getD_eq_getElem?_getD, hb]; rfl
        have hfx : s.files[x.2]? = some (fileAt s x.2) := by
          unfold fileAt; rw [List.getD_eq_getElem?_getD, List.getElem?_eq_getElem hxf]; rfl
        obtain ⟨bv, T2, G, c2, ss2⟩ := dk_file (hs2.fr0 h10.frame) hb hfx
        have hl2 := hlen _ hxf
        rw [← hgd] at c2
        unfold ptrTo
        (repeat (first | refine BND_step ss2.len ?_ | refine BND_step (addn_ (by omega)) ?_ | refine gg ?_))
        refine hJ2 v' _ w10 (by omega) ?_ ⟨fs2 ++ [x.2], A ++ [e], B1 ++ B2, sn.push e.born, h10, hit6, ?_, ?_, ?_, ?_, ?_⟩
        · obtain ⟨_, ⟨it10, _⟩, _⟩ := h10.get 0 rfl
          rw [seenN_it it10, hcnt]; simp
        · rw [List.nodup_append]
          exact ⟨nd2, by simp, fun a ha b hb => by simp at hb; subst hb; exact fun e => hin (e ▸ ha)⟩
        · intro f hf
          rcases List.mem_append.1 hf with hf | hf
          · exact q1 f hf
          · simp at hf; subst hf; exact ⟨l, by rw [htk]; simp, x, hx, rfl⟩
        · intro l' hl' y hy
          exact List.mem_append.2 (.inl (q2 l' hl' y hy))
        · intro e' he'
          rcases List.mem_append.1 he' with he' | he'
          · obtain ⟨g, hg, r⟩ := q3 e' he'
            exact ⟨g, List.mem_append.2 (.inl hg), r⟩
          · simp at he'; subst he'; exact ⟨x.2, by simp, ev⟩
        · simp
  · (repeat refine gg ?_)
    have hheld := sum_held nd (fun f => by rw [hfs, isHeld_iff, List.take_of_length_le (by omega)]) (fun f hf => hltd f (by
      obtain ⟨l', hl', r⟩ := (hfs f).1 hf
      exact ⟨l', List.mem_of_mem_take hl', r⟩))
    rw [hheld]
    exact hR w3 (f2.trans' f23)
end
end Go.Proofs.YtofllgbdphakiaaGreatDoor
end

section
namespace Go.Proofs.YtofllgbdphakiaaGreatDoor
open Go.Den Go.Disk
theorem held_small {s : Dk} (hw : s.Wf) : held s ≤ s.files.length * 1048576 := by
  unfold held
  have := sum_small (fs := List.range s.files.length) (g := fun f => if isHeld s f = true then (fileAt s f).b.length else 0) (b := 1048576) fun f hf => by
    split
    · have hf := List.mem_range.1 hf
      have hx : fileAt s f ∈ s.files := by
        unfold fileAt; rw [List.getD_eq_getElem?_getD, List.getElem?_eq_getElem hf]; exact List.getElem_mem hf
      have := hw.small _ hx
      have := hw.room
      omega
    · omega
  simpa using this
set_option linter.unusedSimpArgs false
set_option linter.unusedVariables false
set_option maxRecDepth 20000
set_option maxHeartbeats 4000000
attribute [local congr] BND_cg COND_cg GEF_cg
attribute [local irreducible] capl slicea load1 loadn iaddr iaddra faddr storev newslice binv lookv mupd mdel mlenv mentry mestore slicev slicev3 slices indexs indexav textv rangev nexts clearv shiftv eqaggv convi buildv pickv lens lenl unv nilchk extractv partn JOIN
section
variable {w0 w : World} {F0 : List Nat} {d : Nat} {s : Dk} {R : Value → World → Prop}
theorem dk_Append (h : At w0 F0 (diskHP d s) w) (hw : s.Wf) (hn : s.dirs.length < 1000000000) (hn2 : s.files.length < 1000000000) (n : ByteArray) {u : Value} {bs : List UInt8} (hbs : bs.length < 1000000000) (hul : lenl u = some (.int .i64 bs.length))
    (hu : ∀ w', Fr F0 w0 w' → cellsOfArg w' 1 u = some (flat encB bs, bs.length)) (hR : ∀ w', At w0 F0 (diskHP d (append s n bs).1) w' → R (.int .i64 (append s n bs).2) w') :
    CALL PR F_disk_Disk_Append [ptrTo d, .string n, u] w R := by
  refine C_disk_Disk_Append ?_
  unfold M_disk_Disk_Append
  refine dk_there h hw hn n ?_
  have hr : riseD s.now := hw.rise _ (List.mem_of_getElem? (dk_now_get hw.ne))
  have rest : ∀ w2, At w0 F0 (diskHP d s) w2 → ∀ e, e = appendE s n bs.length → (CALL PR F_disk_Disk_can [ptrTo d, .int .i64 e] w2 fun t28_16 w4 =>
      BND (binv .int .eql t28_16 (Value.int .i64 0)) fun t30_17 =>
      JOIN (α := World → Prop) (fun k_32 => COND t30_17
      (CALL PR F_disk_Disk_now [ptrTo d] w4 fun t32_33 w6 =>
      BND (lookv .string (Value.pointer none) false w6 t32_33 (.string n)) fun t34_34 =>
      BND (nilchk t34_34) fun t37_35 =>
      BND (faddr 0 t37_35) fun t38_36 =>
      BND (load1 w6 t38_36) fun t39_37 =>
      APPEND 5 1 1 (Value.int .u8 0) t39_37 u w6 fun t41_38 w7 =>
      BND (nilchk t34_34) fun t42_39 =>
      BND (faddr 0 t42_39) fun t43_40 =>
      BND (storev 1 w7 t43_40 t41_38) fun w8 =>
      k_32 w8)
      (k_32 w4))
      (fun w5 => R t28_16 w5)) := by
    rintro w2 h2 _ rfl
    refine dk_can h2 _ hw.burn fun w4 h4 => ?_
    unfold append at hR
    by_cases hc : (can s (appendE s n bs.length)).2 = 0
    · simp only [hc, if_true] at hR
      rw [hc]
      have hcz := can_zero hc
      obtain ⟨f, hfd⟩ : ∃ f, findD s.now n = some f := by
        unfold appendE Dk.find at hcz
        cases hq : findD s.now n with
        | some f => exact ⟨f, rfl⟩
        | none => rw [hq] at hcz; simp at hcz
      rw [(isSome_find hfd).2] at hR
      (repeat refine gg ?_)
      refine join_w (fun w' => At w0 F0 (diskHP d (setF (can s (appendE s n bs.length)).1 f { fileAt s f with b := (fileAt s f).b ++ bs })) w') (fun K hK => ?_) (fun w' hw' => hR w' hw')
      obtain ⟨k1, k2, k3⟩ := can_keep s (appendE s n bs.length)
      (repeat refine gg ?_)
      refine dk_now h4 (by rw [k2]; exact hw.ne) (by rw [k2]; exact hn) fun sv ms fb m es ck L hs hm hf hmm b1 b2 b3 => ?_
      rw [can_now] at b3
      have lk1 := dk_lookup b1 b2 b3 hr n
      rw [hfd] at lk1
      have hx0 := wf_pick hw hfd
      have hx : (can s (appendE s n bs.length)).1.files[f]? = some (fileAt s f) := by rw [k1]; exact hx0
      have hsm := hw.small _ (List.mem_of_getElem? hx0)
      have hrm := hw.room
      have hi : f < fb.length := by rw [hf]; exact (List.getElem?_eq_some_iff.1 hx).1
      have hb := List.getElem?_eq_getElem hi
      have hgd : fb.getD f 0 = fb[f] := by rw [List.getD_eq_getElem?_getD, hb]; rfl
      simp only [hgd] at lk1
      generalize fb[f] = b at hb lk1
      simp only [ptrTo] at lk1
      obtain ⟨A, bv, ha, back⟩ := dk_fupd hs hb hx
      obtain ⟨T, c⟩ := ha.cell (i := 0) rfl
      (repeat refine gg ?_)
      refine ha.append (i := 1) rfl (hu _ hs.frame) encB_len encB_one rfl (by omega) (by omega) fun v' w7 h7 one7 => ?_
      (repeat refine gg ?_)
      refine h7.store (i := 0) rfl one7 (by simp) fun w8 h8 f8 => hK _ ?_
      exact dk_shut (back w8 v' { fileAt s f with b := (fileAt s f).b ++ bs } h8)
    · simp only [hc, if_false] at hR
      (repeat refine gg ?_)
      refine join_w (fun w' => At w0 F0 (diskHP d (can s (appendE s n bs.length)).1) w') (fun K hK => ?_) (fun w' hw' => hR w' hw')
      (repeat refine gg ?_)
      exact hK w4 h4
  obtain ⟨sv, ms, fb, hs, hm, hf⟩ := dk_open h
  obtain ⟨T, c⟩ := hs.cell (i := 1) rfl
  refine ⟨fun _ w' => blk w' d = some (.cells (dkC s (ms.headD 0) sv).toArray T (0, 0)), c, ?_⟩
  cases hfd : findD s.now n with
  | none =>
    have e1 : there s n = 5 := by unfold there Dk.find; rw [hfd]; rfl
    have e : appendE s n bs.length = 5 := by unfold appendE Dk.find; rw [hfd]; rfl
    rw [e1]
    (repeat (first | refine gg ?_ | refine FLT.mk _ (fun _ hw_ => rfl) ?_))
    refine ⟨c, ?_⟩
    (repeat refine gg ?_)
    refine join_v (fun e w' => e = .int .i64 (appendE s n bs.length) ∧ w' = w.drew) (fun K hK => ?_) ?_
    · (repeat refine gg ?_)
      exact hK _ _ ⟨by rw [e], rfl⟩
    · rintro _ _ ⟨rfl, rfl⟩
      exact rest _ (h.fr0 (Fr.drew [] _)) _ rfl
  | some f =>
    have e1 : there s n = 0 := by unfold there Dk.find; rw [hfd]; rfl
    have e : appendE s n bs.length = if s.room < ((held s + bs.length : Nat) : Int) then 4 else 0 := by unfold appendE Dk.find; rw [hfd]; rfl
    have hhs : held s ≤ 1000000000 * 1048576 := Nat.le_trans (held_small hw) (Nat.mul_le_mul_right _ (by omega))
    rw [e1]
    unfold ptrTo
    (repeat refine gg ?_)
    refine dk_Held (h.fr0 (Fr.drew [] _)) hw hn hn2 fun w2 f2 => ?_
    refine ⟨f2.some (by simp) c, ?_⟩
    have h2 := (h.fr0 (Fr.drew [] _)).fr0 f2
    (repeat (first | refine BND_step (addn_ (by omega)) ?_ | refine gg ?_))
    by_cases hbig : s.room < ((held s + bs.length : Nat) : Int)
    · (repeat refine gg ?_)
      refine join_v (fun e w' => e = .int .i64 (appendE s n bs.length) ∧ w' = w2) (fun K hK => ?_) ?_
      · (repeat refine gg ?_)
        exact hK _ _ ⟨by rw [e, if_pos hbig], rfl⟩
      · rintro _ _ ⟨rfl, rfl⟩
        exact rest _ h2 _ rfl
    · (repeat refine gg ?_)
      refine join_v (fun e w' => e = .int .i64 (appendE s n bs.length) ∧ w' = w2) (fun K hK => ?_) ?_
      · (repeat refine gg ?_)
        exact hK _ _ ⟨by rw [e, if_neg hbig], rfl⟩
      · rintro _ _ ⟨rfl, rfl⟩
        exact rest _ h2 _ rfl
end
end Go.Proofs.YtofllgbdphakiaaGreatDoor
end

section
namespace Go.Proofs.YtofllgbdphakiaaGreatDoor
open Go.Den Go.Disk
def names (l : Dir) : List ByteArray := l.map (·.1)
theorem At.wrap {w0 w : World} {F0 : List Nat} {P : HP} (h : At w0 F0 P w) : At w0 F0 (stars [P]) w := by
  obtain ⟨F, g1, g2, g3⟩ := h
  exact ⟨F, ⟨F, [], g1, ⟨trivial, rfl⟩, by simp, by simp⟩, g2, g3⟩
theorem At.unwrap {w0 w : World} {F0 : List Nat} {P : HP} (h : At w0 F0 (stars [P]) w) : At w0 F0 P w := by
  obtain ⟨F, ⟨A, B, g1, ⟨_, rfl⟩, rfl, _⟩, g2, g3⟩ := h
  exact ⟨A, g1, by simpa using g2, g3⟩
theorem At.zoom {w0 w : World} {F0 : List Nat} {ps : List HP} (h : At w0 F0 (stars ps) w) (i : Nat) {P : HP} (hi : ps[i]? = some P) : ∃ A, At w A P w ∧ ∀ w' P', At w A P' w' → At w0 F0 (stars (ps.set i P')) w' := by
  obtain ⟨A, a1, upd⟩ := h.upd i hi
  exact ⟨A, At.start a1, fun w' P' ⟨F', p1, p2, p3⟩ => upd w' F' P' p1 p3 p2⟩
def encI (x : Int) : List Value := [.int .i64 x]
def crash1 (tails : List Int) (f i : Nat) (fs : List Fl) : List Fl :=
  let x := fs.getD f ⟨[], 0⟩
  fs.set f ⟨x.b.take (x.sure + tailOf x tails i), x.sure + tailOf x tails i⟩
theorem crashF_snoc (tails : List Int) (k : ByteArray) (f : Nat) : ∀ (l : Dir) (i : Nat) (fs : List Fl), crashF tails (l ++ [(k, f)]) i fs = crash1 tails f (i + l.length) (crashF tails l i fs)
  | [], i, fs => rfl
  | (k', f') :: l, i, fs => by
    simp only [List.cons_append, crashF, List.length_cons]
    rw [crashF_snoc tails k f l (i + 1), show i + 1 + l.length = i + (l.length + 1) by omega]
theorem crash1_len (tails : List Int) (f i : Nat) (fs : List Fl) : (crash1 tails f i fs).length = fs.length := by unfold crash1; simp
theorem tailOf_le (x : Fl) (tails : List Int) (i : Nat) : tailOf x tails i ≤ x.b.length - x.sure := by
  unfold tailOf
  split
  · omega
  · exact Nat.min_le_right _ _
/-- what holds of files. -/
def FilesOk (m : Nat) (fs : List Fl) : Prop := ∀ x ∈ fs, x.sure ≤ x.b.length ∧ x.b.length ≤ m
theorem crash1_ok {tails : List Int} {f i m : Nat} {fs : List Fl} (h : FilesOk m fs) (hf : f < fs.length) : FilesOk m (crash1 tails f i fs) := by
  intro x hx
  unfold crash1 at hx
  rcases List.mem_or_eq_of_mem_set hx with hx | rfl
  · exact h x hx
  · have hm : fs.getD f ⟨[], 0⟩ ∈ fs := by rw [List.getD_eq_getElem?_getD, List.getElem?_eq_getElem hf]; exact List.getElem_mem hf
    have h1 := h _ hm
    have h2 := tailOf_le (fs.getD f ⟨[], 0⟩) tails i
    simp only [List.length_take]
    omega
set_option linter.unusedSimpArgs false
set_option linter.unusedVariables false
set_option maxRecDepth 20000
set_option maxHeartbeats 4000000
attribute [local congr] BND_cg COND_cg GEF_cg
attribute [local irreducible] capl slicea load1 loadn iaddr iaddra faddr storev newslice binv lookv mupd mdel mlenv mentry mestore slicev slicev3 slices indexs indexav textv rangev nexts clearv shiftv eqaggv convi buildv pickv lens lenl unv nilchk extractv partn JOIN
section
variable {w0 w : World} {F0 : List Nat} {d : Nat} {s : Dk} {R : Value → World → Prop}
theorem dk_Crash (h : At w0 F0 (diskHP d s) w) (hw : s.Wf) (hn : s.dirs.length < 1000000000) (op : Int) {tv : Value} {tails : List Int} (hta : ∀ w', Fr F0 w0 w' → Arr encI 1 w' tv tails) (hR : ∀ w', At w0 F0 (diskHP d (crash s op tails)) w' → R (.tuple #[]) w') :
    CALL PR F_disk_Disk_Crash [ptrTo d, .int .i64 op, tv] w R := by
  obtain ⟨sv, ms, fb, hs, hm, hf⟩ := dk_open h
  obtain ⟨T, c⟩ := hs.cell (i := 1) rfl
  obtain ⟨Fs, ss, _⟩ := hs.slc1 (i := 2) rfl
  refine C_disk_Disk_Crash ?_
  unfold M_disk_Disk_Crash
  have htl : ms.tail.length = ms.length - 1 := by simp
  have hpos : 0 < s.dirs.length := List.length_pos_iff.2 hw.ne
  obtain ⟨j, hj⟩ : ∃ j, j = min op.toNat (s.dirs.length - 1) := ⟨_, rfl⟩
  have hjl : j < s.dirs.length := by omega
  have hjm : j < ms.length := by omega
  have hl := List.getElem?_eq_getElem hjl
  have hmj := List.getElem?_eq_getElem hjm
  generalize s.dirs[j] = l at hl
  generalize ms[j] = mj at hmj
  have hlm : l ∈ s.dirs := List.mem_of_getElem? hl
  have hld : s.dirs.getD (min op.toNat (s.dirs.length - 1)) [] = l := by rw [← hj, List.getD_eq_getElem?_getD, hl]; rfl
  unfold crash at hR
  rw [hld] at hR
  have em : min2v (.int .i64 op) (.int .i64 (ms.tail.length : Int)) = some (.int .i64 (if (ms.tail.length : Int) < op then (ms.tail.length : Int) else op)) := rfl
  unfold ptrTo
  (repeat (first | refine BND_step ss.len ?_ | refine gg ?_))
  refine join_w (fun w' => At w0 F0 (stars [pure_ (ms.length = s.dirs.length ∧ fb.length = s.files.length), pts d (dkC s mj sv), slc encM 1 sv ms.tail, stars (dirHPs fb ms s.dirs), stars (fileHPs fb s.files)]) w') (fun K hK => ?_) (fun w1 h1 => ?_)
  · by_cases h0 : 0 < (if (ms.tail.length : Int) < op then (ms.tail.length : Int) else op)
    · have hj1 : (if (ms.tail.length : Int) < op then (ms.tail.length : Int) else op) = (j : Int) := by split <;> omega
      rw [hj1] at h0
      rw [hj1]
      have hx : ms.tail[j - 1]? = some mj := by rw [List.getElem?_tail, show j - 1 + 1 = j by omega, hmj]
      obtain ⟨bb, oo, ia, _, _, l1⟩ := ss.arr.spot hx rfl .i64
      (repeat (first | (apply BND_step; exact (l1 (w' := w) rfl (j := 0) rfl)) | refine gg ?_))
      refine hs.store (i := 1) rfl ⟨rfl, rfl⟩ (by simp [dkC]) fun w1 h1 f1 => hK w1 h1
    · have hj0 : j = 0 := by
        split at h0 <;> omega
      (repeat refine gg ?_)
      refine hK w ?_
      have : ms.headD 0 = mj := by
        subst hj0
        cases ms with
        | nil => simp at hjm
        | cons a r => simpa using hmj
      rw [← this]; exact hs
  · (repeat refine gg ?_)
    refine h1.store (i := 1) rfl ⟨rfl, rfl⟩ (by simp [dkC]) fun w2 h2 _ => ?_
    (repeat refine gg ?_)
    refine h2.store (i := 1) rfl ⟨rfl, rfl⟩ (by simp [dkC]) fun w3 h3 _ => ?_
    (repeat refine gg ?_)
    refine h3.store (i := 1) rfl ⟨rfl, rfl⟩ (by simp [dkC]) fun w4 h4 _ => ?_
    have hA : At w0 F0 (stars (dkL d { s with dirs := [l], burn := -1, gone := false } (.slice none 0 0) [mj] fb)) w4 := by
      obtain ⟨A, a1, upd⟩ := h4.upd 2 rfl
      have h5 := upd w4 [] (slc encM 1 (.slice none 0 0) []) (Slc.nil _ _ _) (Fr.refl _ _) (by simp)
      obtain ⟨A3, a3, upd3⟩ := h5.upd 3 rfl
      obtain ⟨B, ⟨b4, rfl⟩, hmA⟩ := stars_get (dirHPs fb ms s.dirs) j (dirHP fb mj l) (by unfold dirHPs; rw [List.getElem?_zipWith, hmj, hl]) a3
      have h6 := upd3 w4 [mj] (stars [dirHP fb mj l]) ⟨[mj], [], ⟨b4, rfl⟩, ⟨trivial, rfl⟩, rfl, by simp⟩ (Fr.refl _ _) (fun c hc => .inl (hmA c hc))
      exact At.pure0 (b := [mj].length = [l].length ∧ fb.length = s.files.length) h6 ⟨rfl, hf⟩
    obtain ⟨T4, c4⟩ := hA.cell (i := 1) rfl
    obtain ⟨es, ck, L, b1, b2, b3⟩ := dk_dir hA (i := 0) (m := mj) (l := l) rfl rfl
    have hr : riseD l := hw.rise _ hlm
    (repeat refine gg ?_)
    refine dk_keys b1 b2 b3 hr (hw.many _ hlm) (hw.nm _ hlm) fun w6 nv G sN hG f6 => ?_
    replace sN : Slc encN 1 w6 nv (names l) G := sN
    have hB := (At.wrap hA).add f6 (P := slc encN 1 nv (names l)) (A := G) sN hG
    have h60 := hw.many _ hlm
    (repeat (first | refine BND_step sN.len ?_ | refine gg ?_))
    have hok0 : FilesOk 1048576 s.files := fun x hx => ⟨hw.sure x hx, by have := hw.small x hx; have := hw.room; omega⟩
    refine loop_up 0 (names l).length (fun i w' => At w0 F0 (stars [slc encN 1 nv (names l), stars (dkL d { s with files := crashF tails (l.take i) 0 s.files, dirs := [l], burn := -1, gone := false } (.slice none 0 0) [mj] fb)]) w' ∧ FilesOk 1048576 (crashF tails (l.take i) 0 s.files) ∧ (crashF tails (l.take i) 0 s.files).length = s.files.length)
      ⟨hB, hok0, rfl⟩ (by omega) ?_
    rintro i w7 - hi ⟨h7, hok, hlen⟩ J m hJ
    have hll : (names l).length = l.length := by simp [names]
    by_cases hlt : i < (names l).length
    · have hlt' : i < l.length := by omega
      have hxi := List.getElem?_eq_getElem hlt'
      obtain ⟨⟨k, f⟩, hp⟩ : ∃ p, p = l[i] := ⟨_, rfl⟩
      rw [← hp] at hxi
      have hni : (names l)[i]? = some k := by unfold names; rw [List.getElem?_map, hxi]; rfl
      have hmem : (k, f) ∈ l := List.mem_of_getElem? hxi
      have hfd := findD_of_mem hr hmem
      have hfl : f < s.files.length := hw.idx _ hlm _ hmem
      generalize hfs : crashF tails (l.take i) 0 s.files = fs at h7 hok hlen
      have hstep : crashF tails (l.take (i + 1)) 0 s.files = crash1 tails f i fs := by
        rw [List.take_add_one, hxi]
        show crashF tails (l.take i ++ [(k, f)]) 0 s.files = _
        rw [crashF_snoc, hfs]
        congr 1
        rw [List.length_take]; omega
      have hfl2 : f < fs.length := by omega
      have hx : fs[f]? = some (fs.getD f ⟨[], 0⟩) := by rw [List.getD_eq_getElem?_getD, List.getElem?_eq_getElem hfl2]; rfl
      have hxo := hok _ (List.mem_of_getElem? hx)
      have hok2 := crash1_ok (tails := tails) (i := i) hok hfl2
      have hlen2 := crash1_len tails f i fs
      have htail := tailOf_le (fs.getD f ⟨[], 0⟩) tails i
      have hc1 : crash1 tails f i fs = fs.set f ⟨(fs.getD f ⟨[], 0⟩).b.take ((fs.getD f ⟨[], 0⟩).sure + tailOf (fs.getD f ⟨[], 0⟩) tails i), (fs.getD f ⟨[], 0⟩).sure + tailOf (fs.getD f ⟨[], 0⟩) tails i⟩ := rfl
      generalize fs.getD f ⟨[], 0⟩ = x at hx hxo htail hc1
      obtain ⟨Fn, sn, _⟩ := h7.slc1 (i := 0) rfl
      obtain ⟨bn, on, ian, _, _, ln⟩ := sn.arr.spot hni rfl .i64
      obtain ⟨A1, hz, backz⟩ := At.zoom h7 1 rfl
      obtain ⟨T7, c7⟩ := hz.cell (i := 1) rfl
      obtain ⟨es7, ck7, L7, b17, b27, b37⟩ := dk_dir hz (i := 0) (m := mj) (l := l) rfl rfl
      have lk1 := dk_lookup b17 b27 b37 hr k
      rw [hfd] at lk1
      have hib : f < fb.length := by omega
      have hb := List.getElem?_eq_getElem hib
      have hgd : fb.getD f 0 = fb[f] := by rw [List.getD_eq_getElem?_getD, hb]; rfl
      simp only [hgd] at lk1
      generalize fb[f] = b at hb lk1
      simp only [ptrTo] at lk1
      obtain ⟨A, bv, ha, back⟩ := dk_fupd hz hb hx
      obtain ⟨T8, c8⟩ := ha.cell (i := 0) rfl
      have c8' : blk w7.drew b = some (.cells [bv, .int .i64 (x.sure : Int)].toArray T8 (0, 0)) := c8
      obtain ⟨Fb, sb, _⟩ := ha.slc1 (i := 1) rfl
      have hta7 := hta w7 h7.frame
      (repeat (first | (apply BND_step; exact (ln (w' := w7) rfl (j := 0) rfl)) | refine BND_step hta7.len ?_ | refine gg ?_))
      refine join_v (fun v w' => v = .int .i64 ((tailOf x tails i : Nat) : Int) ∧ Fr [] w7 w') (fun K hK => ?_) ?_
      · by_cases hit : i < tails.length
        · have htx := List.getElem?_eq_getElem hit
          generalize htv : tails[i] = t at htx
          obtain ⟨bt, ot, iat, _, _, lt⟩ := hta7.spot htx rfl .i64
          have e1 : max2v (.int .i64 t) (.int .i64 0) = some (.int .i64 (if t < 0 then 0 else t)) := rfl
          have e2 : binv .int .sub (.int .i64 (x.b.length : Int)) (.int .i64 (x.sure : Int)) = some (.int .i64 ((x.b.length - x.sure : Nat) : Int)) := by
            rw [binv_sub, wrap_i64 (by omega) (by omega)]; congr 2; omega
          have e3 : min2v (.int .i64 (if t < 0 then 0 else t)) (.int .i64 ((x.b.length - x.sure : Nat) : Int)) = some (.int .i64 ((tailOf x tails i : Nat) : Int)) := by
            show some (Value.int .i64 (if ((x.b.length - x.sure : Nat) : Int) < (if t < 0 then 0 else t) then ((x.b.length - x.sure : Nat) : Int) else (if t < 0 then 0 else t))) = _
            unfold tailOf
            rw [htx]
            congr 2
            simp only
            split <;> split <;> omega
          (repeat (first | (apply BND_step; exact (lt (w' := w7.drew) rfl (j := 0) rfl)) | refine BND_step sb.len ?_ | refine gg ?_))
          exact hK _ _ ⟨rfl, Fr.drew [] _⟩
        · (repeat refine gg ?_)
          have e0 : tailOf x tails i = 0 := by unfold tailOf; rw [List.getElem?_eq_none (by omega)]
          exact hK _ _ ⟨by rw [e0]; rfl, Fr.refl _ _⟩
      · rintro _ w8 ⟨rfl, f8⟩
        have f8' : Fr [] w7 w8.drew := f8.trans' (Fr.drew [] _)
        have ha8 := ha.fr0 f8'
        obtain ⟨T9, c9⟩ := ha8.cell (i := 0) rfl
        obtain ⟨Fs9, ss9, upd9⟩ := ha8.upd 1 rfl
        obtain ⟨bv', et, s1⟩ := Slc.take0 ss9 (n := x.sure + tailOf x tails i) (by omega) .i64
        have ha9 := upd9 _ Fs9 (slc encB 1 bv' (x.b.take (x.sure + tailOf x tails i))) s1 (Fr.refl _ _) (fun c hc => .inl hc)
        (repeat (first | refine BND_step (addn_ (by omega)) ?_ | refine gg ?_))
        refine ha9.store (i := 0) rfl s1.one (by simp) fun w9 h9 f9 => ?_
        obtain ⟨T10, c10⟩ := h9.cell (i := 0) rfl
        obtain ⟨Fs10, ss10, _⟩ := h9.slc1 (i := 1) rfl
        have eln : (x.b.take (x.sure + tailOf x tails i)).length = x.sure + tailOf x tails i := by rw [List.length_take]; omega
        have el := ss10.len
        rw [eln] at el
        (repeat refine gg ?_)
        refine h9.store (i := 0) rfl ⟨rfl, rfl⟩ (by simp) fun w10 h10 f10 => ?_
        (repeat refine gg ?_)
        refine hJ w10 hlt ?_
        rw [hstep]
        refine ⟨?_, hok2, by omega⟩
        have hz10 := back w10 bv' ⟨x.b.take (x.sure + tailOf x tails i), x.sure + tailOf x tails i⟩ h10
        rw [hc1]
        exact backz w10 _ hz10
    · (repeat refine gg ?_)
      rw [List.take_of_length_le (by omega)] at h7
      exact hR w7 (dk_shut (At.unwrap h7.tail))
end
end Go.Proofs.YtofllgbdphakiaaGreatDoor
end

section
set_option linter.unusedSimpArgs false
set_option linter.unusedVariables false
namespace Go.Proofs.YtofllgbdphakiaaGreatDoor
open Go.Den Go.Disk
section
variable {s : Dk}
theorem now_mem (h : s.Wf) : s.now ∈ s.dirs := List.mem_of_getElem? (dk_now_get h.ne)
theorem wf_empty {room : Int} (h : 16 ≤ room ∧ room ≤ 1048576) : (empty room).Wf := by
  refine ⟨by simp [empty], by simp [empty, riseD], by simp [empty], by simp [empty], by simp [empty], by simp [empty], by simp [empty], h, ?_⟩
  show (-1 : Int) ≤ -1 ∧ (-1 : Int) ≤ _
  omega
theorem wf_setF (h : s.Wf) (f : Nat) {x : Fl} (h1 : x.sure ≤ x.b.length) (h2 : (x.b.length : Int) ≤ s.room) : (setF s f x).Wf := by
  refine ⟨h.ne, h.rise, fun l hl y hy => ?_, h.many, h.nm, fun y hy => ?_, fun y hy => ?_, h.room, h.burn⟩
  · show y.2 < (s.files.set f x).length
    rw [List.length_set]; exact h.idx l hl y hy
  · rcases List.mem_or_eq_of_mem_set (show y ∈ s.files.set f x from hy) with hy | rfl
    · exact h.sure y hy
    · exact h1
  · rcases List.mem_or_eq_of_mem_set (show y ∈ s.files.set f x from hy) with hy | rfl
    · exact h.small y hy
    · exact h2
theorem wf_dirs (h : s.Wf) {l : Dir} (hr : riseD l) (hi : ∀ x ∈ l, x.2 < s.files.length) (hm : l.length ≤ 60) (hn : ∀ x ∈ l, named x.1 = true) : ({ s with dirs := s.dirs ++ [l] } : Dk).Wf := by
  refine ⟨by simp, fun k hk => ?_, fun k hk => ?_, fun k hk => ?_, fun k hk => ?_, h.sure, h.small, h.room, h.burn⟩
  all_goals rcases List.mem_append.1 (show k ∈ s.dirs ++ [l] from hk) with hk | hk
  · exact h.rise k hk
  · simp at hk; subst hk; exact hr
  · exact h.idx k hk
  · simp at hk; subst hk; exact hi
  · exact h.many k hk
  · simp at hk; subst hk; exact hm
  · exact h.nm k hk
  · simp at hk; subst hk; exact hn
theorem wf_dir1 (h : s.Wf) {l : Dir} (hl : l ∈ s.dirs) : ({ s with dirs := [l] } : Dk).Wf := by
  refine ⟨by simp, fun k hk => ?_, fun k hk => ?_, fun k hk => ?_, fun k hk => ?_, h.sure, h.small, h.room, h.burn⟩
  all_goals (have hk' : k = l := by simpa using hk); subst hk'
  · exact h.rise k hl
  · exact h.idx k hl
  · exact h.many k hl
  · exact h.nm k hl
theorem wf_files (h : s.Wf) : ({ s with files := s.files ++ [⟨[], 0⟩] } : Dk).Wf := by
  refine ⟨h.ne, h.rise, fun l hl y hy => ?_, h.many, h.nm, fun y hy => ?_, fun y hy => ?_, h.room, h.burn⟩
  · have := h.idx l hl y hy
    simp; omega
  · rcases List.mem_append.1 hy with hy | hy
    · exact h.sure y hy
    · simp at hy; subst hy; simp
  · rcases List.mem_append.1 hy with hy | hy
    · exact h.small y hy
    · simp at hy; subst hy
      have := h.room
      show (0 : Int) ≤ s.room
      omega
theorem held_of (h : s.Wf) {f : Nat} (hf : isHeld s f = true) (hl : f < s.files.length) : (fileAt s f).b.length ≤ held s := by
  unfold held
  have : ∀ (l : List Nat) (g : Nat → Nat), f ∈ l → g f ≤ (l.map g).sum := by
    intro l g
    induction l with
    | nil => intro h; simp at h
    | cons a l ih =>
      intro h
      simp only [List.map_cons, List.sum_cons]
      rcases List.mem_cons.1 h with rfl | h
      · omega
      · have := ih h; omega
  have h1 := this (List.range s.files.length) (fun f => if isHeld s f = true then (fileAt s f).b.length else 0) (List.mem_range.2 hl)
  simpa [hf] using h1
theorem can_e {e : Int} (h : (can s e).2 = 0) : e = 0 := can_zero h
theorem wf_create (h : s.Wf) (n : ByteArray) : (create s n).1.Wf := by
  unfold create
  have hc := wf_can h (createE s n)
  obtain ⟨k1, k2, k3⟩ := can_keep s (createE s n)
  by_cases hz : (can s (createE s n)).2 = 0
  · simp only [hz, if_true]
    have he := can_zero hz
    have hnm : named n = true := by
      cases hq : named n with
      | true => rfl
      | false => simp [createE, hq] at he
    have hfd : findD s.now n = none := by
      cases hq : findD s.now n with
      | none => rfl
      | some f => simp [createE, hnm, Dk.find, hq] at he
    have h60 : s.now.length < 60 := by
      unfold createE Dk.find at he
      rw [hfd] at he
      simp only [hnm, Bool.true_eq_false, if_false, Option.isSome_none, Bool.false_eq_true] at he
      split at he
      · simp at he
      · omega
    have h1 := wf_files hc
    have hnn : ∀ y ∈ s.now, y.1 ≠ n := findD_none.1 hfd
    have h2 := wf_dirs h1 (l := withD s.now (n, s.files.length)) (rise_withD (h.rise _ (now_mem h)) hnn) (fun x hx => by
      rcases mem_withD.1 hx with rfl | hx
      · simp [k1]
      · have := h.idx _ (now_mem h) x hx
        simp [k1]; omega) (by rw [len_withD]; omega) (fun x hx => by
      rcases mem_withD.1 hx with rfl | hx
      · exact hnm
      · exact h.nm _ (now_mem h) x hx)
    rw [k1, k2] at h2
    exact h2
  · simp only [hz, if_false]
    exact hc
theorem wf_append (h : s.Wf) (n : ByteArray) (bs : List UInt8) : (append s n bs).1.Wf := by
  unfold append
  have hc := wf_can h (appendE s n bs.length)
  obtain ⟨k1, k2, k3⟩ := can_keep s (appendE s n bs.length)
  by_cases hz : (can s (appendE s n bs.length)).2 = 0
  · simp only [hz, if_true]
    have he := can_zero hz
    obtain ⟨f, hfd⟩ : ∃ f, findD s.now n = some f := by
      unfold appendE Dk.find at he
      cases hq : findD s.now n with
      | some f => exact ⟨f, rfl⟩
      | none => rw [hq] at he; simp at he
    rw [(isSome_find hfd).2]
    have hx := List.mem_of_getElem? (wf_pick h hfd)
    have hfl : f < s.files.length := (List.getElem?_eq_some_iff.1 (wf_pick h hfd)).1
    have hh := held_of h (f := f) ((isHeld_iff s f).2 ⟨_, now_mem h, _, findD_mem hfd, rfl⟩) hfl
    have hr : ((held s + bs.length : Nat) : Int) ≤ s.room := by
      unfold appendE Dk.find at he
      rw [hfd] at he
      simp only [Option.isSome_some, if_true] at he
      split at he
      · simp at he
      · omega
    have hs := h.sure _ hx
    refine wf_setF hc f (by simp; omega) ?_
    rw [k3]
    simp only [List.length_append]
    omega
  · simp only [hz, if_false]
    exact hc
theorem wf_sync (h : s.Wf) (n : ByteArray) : (sync s n).1.Wf := by
  unfold sync
  have hc := wf_can h (there s n)
  obtain ⟨k1, k2, k3⟩ := can_keep s (there s n)
  by_cases hz : (can s (there s n)).2 = 0
  · simp only [hz, if_true]
    obtain ⟨f, hfd⟩ := there_zero (can_zero hz)
    rw [(isSome_find hfd).2]
    have hx := List.mem_of_getElem? (wf_pick h hfd)
    refine wf_setF hc f (by simp) ?_
    rw [k3]
    have := h.small _ hx
    exact this
  · simp only [hz, if_false]
    exact hc
theorem wf_cut (h : s.Wf) (n : ByteArray) (k : Int) : (cut s n k).1.Wf := by
  unfold cut
  have hc := wf_can h (cutE s n k)
  obtain ⟨k1, k2, k3⟩ := can_keep s (cutE s n k)
  by_cases hz : (can s (cutE s n k)).2 = 0
  · simp only [hz, if_true]
    have he := can_zero hz
    obtain ⟨f, hfd⟩ : ∃ f, findD s.now n = some f := by
      unfold cutE Dk.find at he
      cases hq : findD s.now n with
      | some f => exact ⟨f, rfl⟩
      | none => rw [hq] at he; simp at he
    rw [(isSome_find hfd).2]
    have hx := List.mem_of_getElem? (wf_pick h hfd)
    have hs := h.small _ hx
    have hu := h.sure _ hx
    refine wf_setF hc f (by simp only [List.length_take]; omega) ?_
    rw [k3]
    simp only [List.length_take]
    omega
  · simp only [hz, if_false]
    exact hc
theorem wf_rename (h : s.Wf) (a b : ByteArray) : (rename s a b).1.Wf := by
  unfold rename
  have hc := wf_can h (renameE s a b)
  obtain ⟨k1, k2, k3⟩ := can_keep s (renameE s a b)
  by_cases hz : (can s (renameE s a b)).2 = 0
  · simp only [hz, if_true]
    have he := can_zero hz
    obtain ⟨f, hfd⟩ : ∃ f, findD s.now a = some f := by
      unfold renameE Dk.find at he
      cases hq : findD s.now a with
      | some f => exact ⟨f, rfl⟩
      | none => rw [hq] at he; simp at he
    have hnm : named b = true := by
      unfold renameE Dk.find at he
      rw [hfd] at he
      cases hq : named b with
      | true => rfl
      | false => rw [hq] at he; simp at he
    rw [(isSome_find hfd).2]
    have hm := now_mem h
    have hfl : f < s.files.length := (List.getElem?_eq_some_iff.1 (wf_pick h hfd)).1
    have hl1 := len_without_lt hfd
    have hl2 := len_without (without s.now a) b
    have h60 := h.many _ hm
    have h2 := wf_dirs hc (l := withD (without (without s.now a) b) (b, f)) (rise_withD (rise_without (rise_without (h.rise _ hm) a) b) fun y hy => (mem_without.1 hy).2) (fun x hx => by
      rw [k1]
      rcases mem_withD.1 hx with rfl | hx
      · exact hfl
      · exact h.idx _ hm x (mem_without.1 (mem_without.1 hx).1).1) (by rw [len_withD]; omega) (fun x hx => by
      rcases mem_withD.1 hx with rfl | hx
      · exact hnm
      · exact h.nm _ hm x (mem_without.1 (mem_without.1 hx).1).1)
    rw [k2] at h2
    exact h2
  · simp only [hz, if_false]
    exact hc
theorem wf_delete (h : s.Wf) (n : ByteArray) : (delete s n).1.Wf := by
  unfold delete
  have hc := wf_can h (there s n)
  obtain ⟨k1, k2, k3⟩ := can_keep s (there s n)
  by_cases hz : (can s (there s n)).2 = 0
  · simp only [hz, if_true]
    have hm := now_mem h
    have hl := len_without s.now n
    have h60 := h.many _ hm
    have h2 := wf_dirs hc (l := without s.now n) (rise_without (h.rise _ hm) n) (fun x hx => by rw [k1]; exact h.idx _ hm x (mem_without.1 hx).1) (by omega) (fun x hx => h.nm _ hm x (mem_without.1 hx).1)
    rw [k2] at h2
    exact h2
  · simp only [hz, if_false]
    exact hc
theorem wf_dirsync (h : s.Wf) : (dirsync s).1.Wf := by
  unfold dirsync
  have hc := wf_can h 0
  obtain ⟨k1, k2, k3⟩ := can_keep s 0
  by_cases hz : (can s 0).2 = 0
  · simp only [hz, if_true]
    exact wf_dir1 hc (by rw [k2]; exact now_mem h)
  · simp only [hz, if_false]
    exact hc
theorem wf_fuse (h : s.Wf) {n : Int} (hn : n ≤ 9223372036854775807) : (fuse s n).Wf := by
  refine ⟨h.ne, h.rise, h.idx, h.many, h.nm, h.sure, h.small, h.room, ?_⟩
  show -1 ≤ (if n < -1 then -1 else n) ∧ (if n < -1 then -1 else n) ≤ _
  split <;> omega
theorem crashF_keep {tails : List Int} {m : Nat} : ∀ (l : Dir) (i : Nat) (fs : List Fl), (∀ x ∈ l, x.2 < fs.length) → FilesOk m fs → (crashF tails l i fs).length = fs.length ∧ FilesOk m (crashF tails l i fs)
  | [], _, fs, _, h => ⟨rfl, h⟩
  | (k, f) :: r, i, fs, hl, h => by
    have h1 := crash1_ok (tails := tails) (i := i) h (hl (k, f) (by simp))
    have h2 := crash1_len tails f i fs
    obtain ⟨a, b⟩ := crashF_keep (tails := tails) (m := m) r (i + 1) (crash1 tails f i fs) (fun x hx => by rw [h2]; exact hl x (by simp [hx])) h1
    exact ⟨by rw [← h2]; exact a, b⟩
theorem wf_crash (h : s.Wf) (op : Int) (tails : List Int) : (crash s op tails).Wf := by
  unfold crash
  have hpos : 0 < s.dirs.length := List.length_pos_iff.2 h.ne
  have hl : s.dirs.getD (min op.toNat (s.dirs.length - 1)) [] ∈ s.dirs := by
    rw [List.getD_eq_getElem?_getD, List.getElem?_eq_getElem (by omega)]; exact List.getElem_mem _
  generalize s.dirs.getD (min op.toNat (s.dirs.length - 1)) [] = l at hl
  have hrm := h.room
  obtain ⟨a, b⟩ := crashF_keep (tails := tails) (m := s.room.toNat) l 0 s.files (h.idx l hl) (fun x hx => ⟨h.sure x hx, by have := h.small x hx; omega⟩)
  refine ⟨by simp, fun k hk => ?_, fun k hk => ?_, fun k hk => ?_, fun k hk => ?_, fun x hx => (b x hx).1, fun x hx => ?_, h.room, ?_⟩
  · have hk' : k = l := by simpa using hk
    subst hk'; exact h.rise k hl
  · have hk' : k = l := by simpa using hk
    subst hk'
    show ∀ x ∈ k, x.2 < (crashF tails k 0 s.files).length
    rw [a]; exact h.idx k hl
  · have hk' : k = l := by simpa using hk
    subst hk'; exact h.many k hl
  · have hk' : k = l := by simpa using hk
    subst hk'; exact h.nm k hl
  · have := (b x hx).2
    show (x.b.length : Int) ≤ s.room
    omega
  · show (-1 : Int) ≤ -1 ∧ (-1 : Int) ≤ _
    omega
end
end Go.Proofs.YtofllgbdphakiaaGreatDoor
end

section
namespace Go.Proofs.YtofllgbdphakiaaGreatDoor
open Go.Den Go.Disk
structure Act where
  dn : Int
  n : Int
  nm : ByteArray
  to : ByteArray
  bv : Value
  tv : Value
def encA (a : Act) : List Value := [.int .i64 a.dn, .int .i64 a.n, .string a.nm, .string a.to, a.bv, a.tv]
/-- an act's answer: the disk behind it, what is read, the error. -/
def act (s : Dk) (a : Act) (b : List UInt8) (tails : List Int) : Dk × List UInt8 × Int :=
  if a.dn = 0 then ((create s a.nm).1, [], (create s a.nm).2)
  else if a.dn = 1 then ((append s a.nm b).1, [], (append s a.nm b).2)
  else if a.dn = 2 then ((sync s a.nm).1, [], (sync s a.nm).2)
  else if a.dn = 3 then ((cut s a.nm a.n).1, [], (cut s a.nm a.n).2)
  else if a.dn = 4 then ((rename s a.nm a.to).1, [], (rename s a.nm a.to).2)
  else if a.dn = 5 then ((delete s a.nm).1, [], (delete s a.nm).2)
  else if a.dn = 6 then ((dirsync s).1, [], (dirsync s).2)
  else if a.dn = 7 then (fuse s a.n, [], 0)
  else if a.dn = 8 then (crash s a.n tails, [], 0)
  else (s, Disk.read s a.nm)
theorem wf_act {s : Dk} (h : s.Wf) (a : Act) (b : List UInt8) (tails : List Int) (hn : a.n ≤ 9223372036854775807) : (act s a b tails).1.Wf := by
  unfold act
  split; exact wf_create h _
  split; exact wf_append h _ _
  split; exact wf_sync h _
  split; exact wf_cut h _ _
  split; exact wf_rename h _ _
  split; exact wf_delete h _
  split; exact wf_dirsync h
  split; exact wf_fuse h hn
  split; exact wf_crash h _ _
  exact h
/-- how much a call adds. -/
theorem crashF_len (tails : List Int) : ∀ (l : Dir) (i : Nat) (fs : List Fl), (crashF tails l i fs).length = fs.length
  | [], _, _ => rfl
  | (k, f) :: r, i, fs => by
    have h2 := crash1_len tails f i fs
    rw [← h2]; exact crashF_len tails r (i + 1) (crash1 tails f i fs)
theorem more_act (s : Dk) (a : Act) (b : List UInt8) (tails : List Int) (h : s.dirs ≠ []) : (act s a b tails).1.dirs.length ≤ s.dirs.length + 1 ∧ (act s a b tails).1.files.length ≤ s.files.length + 1 := by
  have hp : 0 < s.dirs.length := List.length_pos_iff.2 h
  unfold act
  split
  · obtain ⟨k1, k2, k3⟩ := can_keep s (createE s a.nm)
    simp only [create]; split
    · simp
    · simp only [k1, k2]; omega
  split
  · obtain ⟨k1, k2, k3⟩ := can_keep s (appendE s a.nm b.length)
    simp only [append, setF]; split <;> simp only [List.length_set, k1, k2] <;> omega
  split
  · obtain ⟨k1, k2, k3⟩ := can_keep s (there s a.nm)
    simp only [sync, setF]; split <;> simp only [List.length_set, k1, k2] <;> omega
  split
  · obtain ⟨k1, k2, k3⟩ := can_keep s (cutE s a.nm a.n)
    simp only [cut, setF]; split <;> simp only [List.length_set, k1, k2] <;> omega
  split
  · obtain ⟨k1, k2, k3⟩ := can_keep s (renameE s a.nm a.to)
    simp only [rename]; split
    · simp [k1]
    · simp only [k1, k2]; omega
  split
  · obtain ⟨k1, k2, k3⟩ := can_keep s (there s a.nm)
    simp only [delete]; split
    · simp [k1]
    · simp only [k1, k2]; omega
  split
  · obtain ⟨k1, k2, k3⟩ := can_keep s 0
    simp only [dirsync]; split
    · simp [k1]
    · simp only [k1, k2]; omega
  split
  · simp [fuse]
  split
  · simp [crash, crashF_len]
  simp
end Go.Proofs.YtofllgbdphakiaaGreatDoor
end

section
set_option linter.unusedSimpArgs false
set_option linter.unusedVariables false
namespace Go.Proofs.YtofllgbdphakiaaGreatDoor
open Go.Den Go.Disk
def sumTo (n : Nat) (g : Nat → Nat) : Nat := ((List.range n).map g).sum
theorem sumTo_succ (n : Nat) (g : Nat → Nat) : sumTo (n + 1) g = sumTo n g + g n := by unfold sumTo; rw [List.range_succ]; simp
theorem sumTo_le {n : Nat} {g g' : Nat → Nat} (h : ∀ i, i < n → g i ≤ g' i) : sumTo n g ≤ sumTo n g' := by
  induction n with
  | zero => simp [sumTo]
  | succ n ih =>
    rw [sumTo_succ, sumTo_succ]
    have := ih fun i hi => h i (by omega)
    have := h n (by omega)
    omega
theorem sumTo_one {n f k : Nat} {g g' : Nat → Nat} (hf : f < n) (h : ∀ i, i < n → i ≠ f → g' i ≤ g i) (h1 : g' f ≤ g f + k) : sumTo n g' ≤ sumTo n g + k := by
  induction n with
  | zero => omega
  | succ n ih =>
    rw [sumTo_succ, sumTo_succ]
    by_cases hfn : f = n
    · subst hfn
      have := sumTo_le (n := f) (g := g') (g' := g) fun i hi => h i (by omega) (by omega)
      omega
    · have := ih (by omega) fun i hi hne => h i (by omega) hne
      have := h n (by omega) (fun e => hfn e.symm)
      omega
def heldG (s : Dk) (f : Nat) : Nat := if isHeld s f = true then (fileAt s f).b.length else 0
theorem held_sum (s : Dk) : held s = sumTo s.files.length (heldG s) := rfl
/-- less held. -/
theorem held_mono {s s' : Dk} (hl : s'.files.length = s.files.length) (h1 : ∀ f, isHeld s' f = true → isHeld s f = true) (h2 : ∀ f, f < s.files.length → (fileAt s' f).b.length ≤ (fileAt s f).b.length) : held s' ≤ held s := by
  rw [held_sum, held_sum, hl]
  refine sumTo_le fun f hf => ?_
  unfold heldG
  by_cases q : isHeld s' f = true
  · rw [if_pos q, if_pos (h1 f q)]; exact h2 f hf
  · rw [if_neg q]; omega
theorem fileAt_set {s : Dk} {f : Nat} (hf : f < s.files.length) (x : Fl) (g : Nat) : fileAt (setF s f x) g = if g = f then x else fileAt s g := by
  unfold fileAt setF
  simp only [List.getD_eq_getElem?_getD, List.getElem?_set]
  by_cases h : f = g
  · subst h; simp [hf]
  · rw [if_neg h, if_neg (fun e => h e.symm)]
structure Inv (s : Dk) : Prop where
  wf : s.Wf
  roomy : (held s : Int) ≤ s.room
  one : ∀ l ∈ s.dirs, (l.map (·.2)).Nodup
theorem isHeld_dirs {s s' : Dk} (h : ∀ l' ∈ s'.dirs, ∀ x ∈ l', ∃ l ∈ s.dirs, ∃ y ∈ l, y.2 = x.2) (f : Nat) (hf : isHeld s' f = true) : isHeld s f = true := by
  rw [isHeld_iff] at *
  obtain ⟨l', hl', x, hx, rfl⟩ := hf
  exact h l' hl' x hx
theorem map2_withD (l : Dir) (x : ByteArray × Nat) : ((withD l x).map (·.2)).Perm (x.2 :: l.map (·.2)) := by
  induction l with
  | nil => simp [withD]
  | cons y l ih =>
    simp only [withD]
    split
    · simp only [List.map_cons]
      exact (ih.cons _).trans (List.Perm.swap _ _ _)
    · simp
theorem one_without {l : Dir} (h : (l.map (·.2)).Nodup) (n : ByteArray) : ((without l n).map (·.2)).Nodup := h.sublist ((List.filter_sublist).map _)
theorem one_gone {l : Dir} (h : (l.map (·.2)).Nodup) {n : ByteArray} {f : Nat} (hm : (n, f) ∈ l) : ∀ x ∈ without l n, x.2 ≠ f := by
  intro x hx e
  obtain ⟨h1, h2⟩ := mem_without.1 hx
  have := (List.nodup_iff_pairwise_ne.1 h)
  clear hx
  induction l with
  | nil => simp at hm
  | cons y l ih =>
    simp only [List.map_cons, List.nodup_cons] at h
    rcases List.mem_cons.1 hm with hm | hm
    · rcases List.mem_cons.1 h1 with h1 | h1
      · exact h2 (by rw [h1, ← hm])
      · exact h.1 (by rw [← hm]; exact List.mem_map.2 ⟨x, h1, e⟩)
    · rcases List.mem_cons.1 h1 with h1 | h1
      · exact h.1 (List.mem_map.2 ⟨_, hm, by rw [← h1, e]⟩)
      · exact ih h.2 hm h1 (List.nodup_iff_pairwise_ne.1 h.2)
section
variable {s : Dk}
theorem can_held (s : Dk) (e : Int) : held (can s e).1 = held s := by
  obtain ⟨k1, k2, k3⟩ := can_keep s e
  unfold held isHeld fileAt
  rw [k1, k2]
theorem inv_can (h : Inv s) (e : Int) : Inv (can s e).1 := by
  obtain ⟨k1, k2, k3⟩ := can_keep s e
  exact ⟨wf_can h.wf e, by rw [can_held, k3]; exact h.roomy, by rw [k2]; exact h.one⟩
theorem inv_empty {room : Int} (h : 16 ≤ room ∧ room ≤ 1048576) : Inv (empty room) := by
  refine ⟨wf_empty h, ?_, by simp [empty]⟩
  show ((0 : Nat) : Int) ≤ room
  omega
/-- a directory put behind, of files that are there, or of no bytes. -/
theorem inv_dirs (h : Inv s) {l : Dir} (hw : ({ s with dirs := s.dirs ++ [l] } : Dk).Wf) (ho : (l.map (·.2)).Nodup) (hl : ∀ x ∈ l, (∃ k ∈ s.dirs, ∃ y ∈ k, y.2 = x.2) ∨ (fileAt s x.2).b = []) : Inv { s with dirs := s.dirs ++ [l] } := by
  refine ⟨hw, Int.le_trans ?_ h.roomy, fun k hk => ?_⟩
  · rw [held_sum, held_sum]
    refine Int.ofNat_le.2 (sumTo_le fun f hf => ?_)
    unfold heldG
    by_cases q : isHeld s f = true
    · rw [if_pos q]
      split
      · exact Nat.le_refl _
      · omega
    · split
      · rename_i q2
        rw [isHeld_iff] at q2
        obtain ⟨k, hk, x, hx, rfl⟩ := q2
        rcases List.mem_append.1 (show k ∈ s.dirs ++ [l] from hk) with hk | hk
        · exact absurd ((isHeld_iff s x.2).2 ⟨k, hk, x, hx, rfl⟩) q
        · simp at hk; subst hk
          rcases hl x hx with h1 | h1
          · exact absurd ((isHeld_iff s x.2).2 h1) q
          · show (fileAt s x.2).b.length ≤ _
            rw [h1]; simp
      · omega
  · rcases List.mem_append.1 (show k ∈ s.dirs ++ [l] from hk) with hk | hk
    · exact h.one k hk
    · simp at hk; subst hk; exact ho
theorem inv_setF (h : Inv s) {f : Nat} {x : Fl} (hw : (setF s f x).Wf) (hf : f < s.files.length) {k : Nat} (hx : x.b.length ≤ (fileAt s f).b.length + k) (hk : ((held s + k : Nat) : Int) ≤ s.room) : Inv (setF s f x) := by
  refine ⟨hw, Int.le_trans (Int.ofNat_le.2 ?_) hk, h.one⟩
  rw [held_sum, held_sum]
  have e : (setF s f x).files.length = s.files.length := by unfold setF; simp
  have e2 : ∀ g, isHeld (setF s f x) g = isHeld s g := fun g => rfl
  rw [e]
  refine sumTo_one hf (fun i hi hne => ?_) ?_
  · unfold heldG; rw [e2, fileAt_set hf, if_neg hne]; exact Nat.le_refl _
  · unfold heldG; rw [e2, fileAt_set hf, if_pos rfl]
    split <;> omega
end
end Go.Proofs.YtofllgbdphakiaaGreatDoor
end

section
set_option linter.unusedSimpArgs false
set_option linter.unusedVariables false
namespace Go.Proofs.YtofllgbdphakiaaGreatDoor
open Go.Den Go.Disk
section
variable {s : Dk}
theorem inv_create (h : Inv s) (n : ByteArray) : Inv (create s n).1 := by
  have hwf := wf_create h.wf n
  unfold create at *
  obtain ⟨k1, k2, k3⟩ := can_keep s (createE s n)
  have hc := inv_can h (createE s n)
  by_cases hz : (can s (createE s n)).2 = 0
  · simp only [hz, if_true] at hwf ⊢
    have hm := now_mem h.wf
    generalize hs1 : (can s (createE s n)).1 = s1 at *
    have hi1 : Inv { s1 with files := s1.files ++ [⟨[], 0⟩] } := by
      refine ⟨wf_files hc.wf, Int.le_trans (Int.ofNat_le.2 ?_) hc.roomy, hc.one⟩
      rw [held_sum, held_sum]
      have e : ({ s1 with files := s1.files ++ [⟨[], 0⟩] } : Dk).files.length = s1.files.length + 1 := by simp
      rw [e, sumTo_succ]
      have e1 : heldG { s1 with files := s1.files ++ [⟨[], 0⟩] } s1.files.length = 0 := by
        unfold heldG fileAt
        simp
      rw [e1, Nat.add_zero]
      refine sumTo_le fun f hf => ?_
      unfold heldG fileAt
      have e2 : isHeld { s1 with files := s1.files ++ [⟨[], 0⟩] } f = isHeld s1 f := rfl
      rw [e2]
      simp only [List.getD_eq_getElem?_getD, List.getElem?_append_left hf]
      exact Nat.le_refl _
    have hw2 : ({ ({ s1 with files := s1.files ++ [⟨[], 0⟩] } : Dk) with dirs := ({ s1 with files := s1.files ++ [⟨[], 0⟩] } : Dk).dirs ++ [withD s.now (n, s.files.length)] } : Dk).Wf := by
      have := hwf
      rw [← k1, ← k2] at this
      rw [← k1]
      exact this
    have := inv_dirs hi1 hw2 (by
      refine (map2_withD _ _).nodup_iff.2 (List.nodup_cons.2 ⟨fun hx => ?_, h.one _ hm⟩)
      obtain ⟨x, hx, e⟩ := List.mem_map.1 hx
      have := h.wf.idx _ hm x hx
      simp only at e
      omega) (fun x hx => by
      rcases mem_withD.1 hx with rfl | hx
      · right
        show (List.getD (s1.files ++ [Fl.mk [] 0]) s.files.length (Fl.mk [] 0)).b = []
        rw [← k1, List.getD_eq_getElem?_getD, List.getElem?_append_right (Nat.le_refl _)]; simp
      · exact .inl ⟨s.now, by show s.now ∈ s1.dirs; rw [k2]; exact hm, x, hx, rfl⟩)
    show Inv (Dk.mk s1.room (s.files ++ [Fl.mk [] 0]) (s.dirs ++ [withD s.now (n, s.files.length)]) s1.burn s1.gone)
    rw [← k1, ← k2]
    rw [← k1] at this
    exact this
  · simp only [hz, if_false] at hwf ⊢
    exact hc
theorem fileAt_can (s : Dk) (e : Int) (f : Nat) : fileAt (can s e).1 f = fileAt s f := by unfold fileAt; rw [(can_keep s e).1]
theorem pick_lt (h : s.Wf) {n : ByteArray} {f : Nat} (hf : findD s.now n = some f) : f < s.files.length := (List.getElem?_eq_some_iff.1 (wf_pick h hf)).1
theorem inv_append (h : Inv s) (n : ByteArray) (bs : List UInt8) : Inv (append s n bs).1 := by
  have hwf := wf_append h.wf n bs
  unfold append at *
  obtain ⟨k1, k2, k3⟩ := can_keep s (appendE s n bs.length)
  have hc := inv_can h (appendE s n bs.length)
  by_cases hz : (can s (appendE s n bs.length)).2 = 0
  · simp only [hz, if_true] at hwf ⊢
    have he := can_zero hz
    obtain ⟨f, hfd⟩ : ∃ f, findD s.now n = some f := by
      unfold appendE Dk.find at he
      cases hq : findD s.now n with
      | some f => exact ⟨f, rfl⟩
      | none => rw [hq] at he; simp at he
    rw [(isSome_find hfd).2] at hwf ⊢
    have hr : ((held s + bs.length : Nat) : Int) ≤ s.room := by
      unfold appendE Dk.find at he
      rw [hfd] at he
      simp only [Option.isSome_some, if_true] at he
      split at he
      · simp at he
      · omega
    exact inv_setF hc hwf (by rw [k1]; exact pick_lt h.wf hfd) (k := bs.length) (by rw [fileAt_can]; simp) (by rw [can_held, k3]; exact hr)
  · simp only [hz, if_false] at hwf ⊢
    exact hc
theorem inv_sync (h : Inv s) (n : ByteArray) : Inv (sync s n).1 := by
  have hwf := wf_sync h.wf n
  unfold sync at *
  obtain ⟨k1, k2, k3⟩ := can_keep s (there s n)
  have hc := inv_can h (there s n)
  by_cases hz : (can s (there s n)).2 = 0
  · simp only [hz, if_true] at hwf ⊢
    obtain ⟨f, hfd⟩ := there_zero (can_zero hz)
    rw [(isSome_find hfd).2] at hwf ⊢
    exact inv_setF hc hwf (by rw [k1]; exact pick_lt h.wf hfd) (k := 0) (by rw [fileAt_can]; simp) (by rw [Nat.add_zero]; exact hc.roomy)
  · simp only [hz, if_false] at hwf ⊢
    exact hc
theorem inv_cut (h : Inv s) (n : ByteArray) (k : Int) : Inv (cut s n k).1 := by
  have hwf := wf_cut h.wf n k
  unfold cut at *
  obtain ⟨k1, k2, k3⟩ := can_keep s (cutE s n k)
  have hc := inv_can h (cutE s n k)
  by_cases hz : (can s (cutE s n k)).2 = 0
  · simp only [hz, if_true] at hwf ⊢
    have he := can_zero hz
    obtain ⟨f, hfd⟩ : ∃ f, findD s.now n = some f := by
      unfold cutE Dk.find at he
      cases hq : findD s.now n with
      | some f => exact ⟨f, rfl⟩
      | none => rw [hq] at he; simp at he
    rw [(isSome_find hfd).2] at hwf ⊢
    exact inv_setF hc hwf (by rw [k1]; exact pick_lt h.wf hfd) (k := 0) (by rw [fileAt_can]; simp only [List.length_take]; omega) (by rw [Nat.add_zero]; exact hc.roomy)
  · simp only [hz, if_false] at hwf ⊢
    exact hc
theorem inv_rename (h : Inv s) (a b : ByteArray) : Inv (rename s a b).1 := by
  have hwf := wf_rename h.wf a b
  unfold rename at *
  obtain ⟨k1, k2, k3⟩ := can_keep s (renameE s a b)
  have hc := inv_can h (renameE s a b)
  by_cases hz : (can s (renameE s a b)).2 = 0
  · simp only [hz, if_true] at hwf ⊢
    have he := can_zero hz
    obtain ⟨f, hfd⟩ : ∃ f, findD s.now a = some f := by
      unfold renameE Dk.find at he
      cases hq : findD s.now a with
      | some f => exact ⟨f, rfl⟩
      | none => rw [hq] at he; simp at he
    rw [(isSome_find hfd).2] at hwf ⊢
    have hm := now_mem h.wf
    rw [← k2] at hwf ⊢
    refine inv_dirs hc hwf ?_ fun x hx => .inl ⟨s.now, by rw [k2]; exact hm, ?_⟩
    · refine (map2_withD _ _).nodup_iff.2 (List.nodup_cons.2 ⟨fun hx => ?_, one_without (one_without (h.one _ hm) a) b⟩)
      obtain ⟨x, hx, e⟩ := List.mem_map.1 hx
      exact one_gone (h.one _ hm) (findD_mem hfd) x (mem_without.1 hx).1 e
    · rcases mem_withD.1 hx with rfl | hx
      · exact ⟨_, findD_mem hfd, rfl⟩
      · exact ⟨x, (mem_without.1 (mem_without.1 hx).1).1, rfl⟩
  · simp only [hz, if_false] at hwf ⊢
    exact hc
theorem inv_delete (h : Inv s) (n : ByteArray) : Inv (delete s n).1 := by
  have hwf := wf_delete h.wf n
  unfold delete at *
  obtain ⟨k1, k2, k3⟩ := can_keep s (there s n)
  have hc := inv_can h (there s n)
  by_cases hz : (can s (there s n)).2 = 0
  · simp only [hz, if_true] at hwf ⊢
    have hm := now_mem h.wf
    rw [← k2] at hwf ⊢
    exact inv_dirs hc hwf (one_without (h.one _ hm) n) fun x hx => .inl ⟨s.now, by rw [k2]; exact hm, x, (mem_without.1 hx).1, rfl⟩
  · simp only [hz, if_false] at hwf ⊢
    exact hc
theorem inv_dir1 (h : Inv s) {l : Dir} (hl : l ∈ s.dirs) : Inv { s with dirs := [l] } := by
  refine ⟨wf_dir1 h.wf hl, Int.le_trans (Int.ofNat_le.2 (held_mono (s := s) (s' := { s with dirs := [l] }) rfl (isHeld_dirs (s := s) (s' := { s with dirs := [l] }) fun k hk x hx => ⟨l, hl, x, ?_, rfl⟩) fun f _ => Nat.le_refl _)) h.roomy, fun k hk => ?_⟩
  · have : k = l := by simpa using hk
    subst this; exact hx
  · have : k = l := by simpa using hk
    subst this; exact h.one k hl
theorem inv_dirsync (h : Inv s) : Inv (dirsync s).1 := by
  unfold dirsync
  obtain ⟨k1, k2, k3⟩ := can_keep s 0
  have hc := inv_can h 0
  by_cases hz : (can s 0).2 = 0
  · simp only [hz, if_true]
    exact inv_dir1 hc (by rw [k2]; exact now_mem h.wf)
  · simp only [hz, if_false]
    exact hc
theorem inv_fuse (h : Inv s) {n : Int} (hn : n ≤ 9223372036854775807) : Inv (fuse s n) := ⟨wf_fuse h.wf hn, h.roomy, h.one⟩
theorem crashF_less {tails : List Int} : ∀ (l : Dir) (i : Nat) (fs : List Fl) (f : Nat), ((crashF tails l i fs).getD f ⟨[], 0⟩).b.length ≤ (fs.getD f ⟨[], 0⟩).b.length
  | [], _, _, _ => Nat.le_refl _
  | (k, g) :: r, i, fs, f => by
    refine Nat.le_trans (crashF_less (tails := tails) r (i + 1) (crash1 tails g i fs) f) ?_
    unfold crash1
    simp only [List.getD_eq_getElem?_getD, List.getElem?_set]
    split
    · rename_i h
      subst h
      split
      · simp only [Option.getD_some, List.length_take]; omega
      · rename_i h2
        rw [List.getElem?_eq_none (by omega)]; simp
    · exact Nat.le_refl _
theorem inv_crash (h : Inv s) (op : Int) (tails : List Int) : Inv (crash s op tails) := by
  have hwf := wf_crash h.wf op tails
  have hpos : 0 < s.dirs.length := List.length_pos_iff.2 h.wf.ne
  have hl : s.dirs.getD (min op.toNat (s.dirs.length - 1)) [] ∈ s.dirs := by
    rw [List.getD_eq_getElem?_getD, List.getElem?_eq_getElem (by omega)]; exact List.getElem_mem _
  unfold crash at *
  generalize s.dirs.getD (min op.toNat (s.dirs.length - 1)) [] = l at hl hwf ⊢
  refine ⟨hwf, Int.le_trans (Int.ofNat_le.2 (held_mono (crashF_len tails l 0 s.files) (isHeld_dirs (s := s) fun k hk x hx => ⟨l, hl, x, ?_, rfl⟩) fun f _ => crashF_less l 0 s.files f)) h.roomy, fun k hk => ?_⟩
  · have : k = l := by simpa using hk
    subst this; exact hx
  · have : k = l := by simpa using hk
    subst this; exact h.one k hl
theorem inv_act (h : Inv s) (a : Act) (b : List UInt8) (tails : List Int) (hn : a.n ≤ 9223372036854775807) : Inv (act s a b tails).1 := by
  unfold act
  split; exact inv_create h _
  split; exact inv_append h _ _
  split; exact inv_sync h _
  split; exact inv_cut h _ _
  split; exact inv_rename h _ _
  split; exact inv_delete h _
  split; exact inv_dirsync h
  split; exact inv_fuse h hn
  split; exact inv_crash h _ _
  exact h
/-- of one directory alone, what is held is what its names' files have. -/
theorem held_one (h : Inv s) {l : Dir} (hd : s.dirs = [l]) : held s = (l.map fun x => (fileAt s x.2).b.length).sum := by
  have hl : l ∈ s.dirs := by rw [hd]; simp
  have := sum_held (s := s) (fs := l.map (·.2)) (h.one l hl) (fun f => by
    rw [isHeld_iff, hd]
    simp [List.mem_map]) (fun f hf => by
    obtain ⟨x, hx, rfl⟩ := List.mem_map.1 hf
    exact h.wf.idx l hl x hx)
  rw [← this, List.map_map]; rfl
/-- without power nothing changes. -/
theorem can_gone (hg : s.gone = true) (e : Int) : can s e = (s, 7) := by unfold can; rw [if_pos hg]
theorem act_gone (hg : s.gone = true) (a : Act) (b : List UInt8) (tails : List Int) (h7 : a.dn ≠ 7) (h8 : a.dn ≠ 8) : act s a b tails = (s, [], 7) := by
  unfold act
  split; simp [create, can_gone hg]
  split; simp [append, can_gone hg]
  split; simp [sync, can_gone hg]
  split; simp [cut, can_gone hg]
  split; simp [rename, can_gone hg]
  split; simp [delete, can_gone hg]
  split; simp [dirsync, can_gone hg]
  simp [h7, h8, Disk.read, hg]
end
end Go.Proofs.YtofllgbdphakiaaGreatDoor
end

section
set_option linter.unusedSimpArgs false
set_option linter.unusedVariables false
namespace Go.Ev
open Go.Den Go.Disk Go.Nm Go.Proofs.YtofllgbdphakiaaGreatDoor
structure Ev (s : Dk) (room : Int) (ds : List Dir) (fs : List Fl) : Prop where
  inv : Inv s
  room_ : s.room = room
  dirs : s.dirs = ds
  files : s.files = fs
  gone : s.gone = false
  burn : s.burn = -1
def sumF (fs : List Fl) : Nat := (fs.map fun x => x.b.length).sum
theorem range_getD {α : Type} (l : List α) (d : α) : (List.range l.length).map (fun i => l.getD i d) = l := by
  refine List.ext_getElem (by simp) fun i h1 h2 => ?_
  simp [h2]
theorem held_sumF (s : Dk) : held s ≤ sumF s.files := by
  rw [held_sum]
  refine Nat.le_trans (sumTo_le (g' := fun f => (s.files.getD f ⟨[], 0⟩).b.length) fun i _ => ?_) ?_
  · unfold heldG fileAt
    split <;> omega
  · unfold sumTo sumF
    have := range_getD s.files ⟨[], 0⟩
    conv => { rhs; rw [← this] }
    rw [List.map_map]
    exact Nat.le_refl _
theorem free_can {s : Dk} (hg : s.gone = false) (hb : s.burn = -1) (e : Int) : can s e = (s, e) := by
  unfold can
  by_cases h : e = 0
  · simp [hg, hb, h]
  · simp [hg, h]
section
variable {s : Dk} {room : Int} {ds : List Dir} {fs : List Fl}
theorem Ev.empty {room : Int} (h : 16 ≤ room ∧ room ≤ 1048576) : Ev (empty room) room [[]] [] := ⟨inv_empty h, rfl, rfl, rfl, rfl, rfl⟩
theorem Ev.now (h : Ev s room ds fs) : s.now = ds.getLastD [] := by unfold Dk.now; rw [h.dirs]
theorem Ev.find (h : Ev s room ds fs) (n : ByteArray) : s.find n = findD (ds.getLastD []) n := by unfold Dk.find; rw [h.now]
theorem Ev.at_ (h : Ev s room ds fs) {f : Nat} {x : Fl} (hx : fs[f]? = some x) : fileAt s f = x := by unfold fileAt; rw [h.files, List.getD_eq_getElem?_getD, hx]; rfl
theorem Ev.create (h : Ev s room ds fs) {n : ByteArray} (hn : named n = true) (hf : findD (ds.getLastD []) n = none) (hl : (ds.getLastD []).length < 60) :
    (create s n).2 = 0 ∧ Ev (create s n).1 room (ds ++ [withD (ds.getLastD []) (n, fs.length)]) (fs ++ [⟨[], 0⟩]) := by
  have hi := inv_create h.inv n
  have ce : createE s n = 0 := by
    unfold createE
    rw [hn, h.find, hf, h.now]
    simp only [Option.isSome_none, Bool.false_eq_true, Bool.true_eq_false, if_false]
    rw [if_neg (by omega)]
  have e : Disk.create s n = ({ s with files := s.files ++ [⟨[], 0⟩], dirs := s.dirs ++ [withD s.now (n, s.files.length)] }, 0) := by
    unfold Disk.create; rw [ce]; simp only [free_can h.gone h.burn, if_true]
  rw [e] at hi ⊢
  refine ⟨rfl, hi, h.room_, ?_, ?_, h.gone, h.burn⟩
  · show s.dirs ++ _ = _; rw [h.dirs, h.now, h.files]
  · show s.files ++ _ = _; rw [h.files]
theorem Ev.append (h : Ev s room ds fs) {n : ByteArray} {f : Nat} {x : Fl} {bs : List UInt8} (hf : findD (ds.getLastD []) n = some f) (hx : fs[f]? = some x) (hr : ((sumF fs + bs.length : Nat) : Int) ≤ room) :
    (append s n bs).2 = 0 ∧ Ev (append s n bs).1 room ds (fs.set f ⟨x.b ++ bs, x.sure⟩) := by
  have hi := inv_append h.inv n bs
  have hh := held_sumF s
  rw [h.files] at hh
  have ce : appendE s n bs.length = 0 := by
    unfold appendE
    rw [h.find, hf, h.room_]
    simp only [Option.isSome_some, if_true]
    rw [if_neg (by omega)]
  have e : Disk.append s n bs = (setF s f ⟨x.b ++ bs, x.sure⟩, 0) := by
    unfold Disk.append
    rw [ce]
    simp only [free_can h.gone h.burn, if_true, h.find, hf, Option.getD_some, h.at_ hx]
  rw [e] at hi ⊢
  exact ⟨rfl, hi, h.room_, h.dirs, by show s.files.set f _ = _; rw [h.files], h.gone, h.burn⟩
theorem Ev.sync (h : Ev s room ds fs) {n : ByteArray} {f : Nat} {x : Fl} (hf : findD (ds.getLastD []) n = some f) (hx : fs[f]? = some x) :
    (sync s n).2 = 0 ∧ Ev (sync s n).1 room ds (fs.set f ⟨x.b, x.b.length⟩) := by
  have hi := inv_sync h.inv n
  have ce : there s n = 0 := by
    unfold there
    rw [h.find, hf]; rfl
  have e : Disk.sync s n = (setF s f ⟨x.b, x.b.length⟩, 0) := by
    unfold Disk.sync
    rw [ce]
    simp only [free_can h.gone h.burn, if_true, h.find, hf, Option.getD_some, h.at_ hx]
  rw [e] at hi ⊢
  exact ⟨rfl, hi, h.room_, h.dirs, by show s.files.set f _ = _; rw [h.files], h.gone, h.burn⟩
theorem Ev.cut (h : Ev s room ds fs) {n : ByteArray} {f : Nat} {x : Fl} {k : Nat} (hf : findD (ds.getLastD []) n = some f) (hx : fs[f]? = some x) (hk : k ≤ x.b.length) :
    (cut s n k).2 = 0 ∧ Ev (cut s n k).1 room ds (fs.set f ⟨x.b.take k, min x.sure k⟩) := by
  have hi := inv_cut h.inv n k
  have ce : cutE s n k = 0 := by
    unfold cutE
    rw [h.find, hf]
    simp only
    rw [h.at_ hx, if_neg (by omega)]
  have e : Disk.cut s n k = (setF s f ⟨x.b.take k, min x.sure k⟩, 0) := by
    unfold Disk.cut
    rw [ce]
    simp only [free_can h.gone h.burn, if_true, h.find, hf, Option.getD_some, h.at_ hx, Int.toNat_natCast]
  rw [e] at hi ⊢
  exact ⟨rfl, hi, h.room_, h.dirs, by show s.files.set f _ = _; rw [h.files], h.gone, h.burn⟩
theorem Ev.dirsync (h : Ev s room ds fs) : (dirsync s).2 = 0 ∧ Ev (dirsync s).1 room [ds.getLastD []] fs := by
  have hi := inv_dirsync h.inv
  have e : Disk.dirsync s = ({ s with dirs := [s.now] }, 0) := by unfold Disk.dirsync; simp only [free_can h.gone h.burn, if_true]
  rw [e] at hi ⊢
  exact ⟨rfl, hi, h.room_, by show [s.now] = _; rw [h.now], h.files, h.gone, h.burn⟩
theorem Ev.read (h : Ev s room ds fs) {n : ByteArray} {f : Nat} {x : Fl} (hf : findD (ds.getLastD []) n = some f) (hx : fs[f]? = some x) : Disk.read s n = (x.b, 0) := by
  unfold Disk.read
  rw [h.gone, h.find, hf]
  simp only [Bool.false_eq_true, if_false]
  rw [h.at_ hx]
theorem Ev.read_no (h : Ev s room ds fs) {n : ByteArray} (hf : findD (ds.getLastD []) n = none) : Disk.read s n = ([], 5) := by
  unfold Disk.read
  rw [h.gone, h.find, hf]
  simp
end
theorem Ev.rise {s : Dk} {room : Int} {ds : List Dir} {fs : List Fl} (h : Ev s room ds fs) : riseD (ds.getLastD []) := by
  have := h.inv.wf.rise _ (now_mem h.inv.wf)
  rwa [h.now] at this
theorem findD_not : ∀ {l : Dir} {n : ByteArray}, findD l n = none → ∀ y ∈ l, y.1 ≠ n
  | [], _, _, y, hy => by simp at hy
  | (k, g) :: l, n, h, y, hy => by
    simp only [findD] at h
    by_cases hk : k = n
    · rw [if_pos hk] at h; cases h
    · rw [if_neg hk] at h
      rcases List.mem_cons.1 hy with rfl | hy
      · exact hk
      · exact findD_not h y hy
theorem Ev.found {s : Dk} {room : Int} {ds : List Dir} {fs : List Fl} (h : Ev s room ds fs) {n : ByteArray} (hf : findD (ds.getLastD []) n = none) (f : Nat) (k : ByteArray) :
    findD (withD (ds.getLastD []) (n, f)) k = if k = n then some f else findD (ds.getLastD []) k := findD_withD h.rise (x := (n, f)) (findD_not hf) k
end Go.Ev
end

section
set_option linter.unusedSimpArgs false
set_option linter.unusedVariables false
namespace Go.Sg
open Go.Den Go.Disk Go.Nm Go.Rec Go.Frame Go.Proofs.YtofllgbdphakiaaGreatDoor
structure Lg where
  seg : Nat
  at_ : Nat
  most : Int
  dirty : Nat
  begun : Bool
def sgN (k : Nat) : ByteArray := nmB 109 k
def okS (k : Nat) : Bool := okN 109 k
theorem okS_iff {g : Nat} : okS g = true ↔ g < 10000000000 := by unfold okS okN kindN; simp
theorem sgN_ne {a b : Nat} (h : a ≠ b) : sgN a ≠ sgN b := fun e => h (nmB_inj e).2
theorem nameOf_S {k : Nat} (h : okS k = true) : nameOf 109 k = (sgN k, 0) := by unfold nameOf; rw [if_pos (show okN 109 k = true from h)]; rfl
theorem nameOf_noS {k : Nat} (h : okS k = false) : nameOf 109 k = (ByteArray.empty, 1) := by unfold nameOf; rw [if_neg (by rw [show okN 109 k = false from h]; decide)]
def mayL (seg : Nat) (most : Int) : Bool := decide (64 ≤ most) && decide (most ≤ 65536) && okS seg
def lgBegin (s : Dk) (seg : Nat) (most : Int) : Dk × Option Lg × Int :=
  if mayL seg most = true then (if (create s (sgN seg)).2 = 0 then ((create s (sgN seg)).1, some ⟨seg, 0, most, seg, true⟩, 0) else ((create s (sgN seg)).1, none, (create s (sgN seg)).2)) else (s, none, 1)
def lgOpen (s : Dk) (seg at_ : Nat) (most : Int) : Dk × Option Lg × Int :=
  if mayL seg most = true then
    (if (read s (sgN seg)).2 = 0 then
      (if (read s (sgN seg)).1.length < at_ then (s, none, 3)
       else if at_ < (read s (sgN seg)).1.length then
        (if (cut s (sgN seg) at_).2 = 0 then ((cut s (sgN seg) at_).1, some ⟨seg, at_, most, seg + 1, false⟩, 0) else ((cut s (sgN seg) at_).1, none, (cut s (sgN seg) at_).2))
       else (s, some ⟨seg, at_, most, seg + 1, false⟩, 0))
     else (s, none, (read s (sgN seg)).2))
  else (s, none, 1)
def lgTurn (s : Dk) (l : Lg) : Dk × Lg × Int :=
  if okS (l.seg + 1) = true then (if (create s (sgN (l.seg + 1))).2 = 0 then ((create s (sgN (l.seg + 1))).1, { l with seg := l.seg + 1, at_ := 0, begun := true }, 0) else ((create s (sgN (l.seg + 1))).1, l, (create s (sgN (l.seg + 1))).2)) else (s, l, 4)
def lgPut (s : Dk) (l : Lg) (b : List UInt8) : Dk × Lg × Nat × Nat × Int :=
  if (append s (sgN l.seg) b).2 = 0 then ((append s (sgN l.seg) b).1, { l with at_ := l.at_ + b.length, dirty := min l.dirty l.seg }, l.seg, l.at_, 0) else ((append s (sgN l.seg) b).1, l, 0, 0, (append s (sgN l.seg) b).2)
def lgB (s : Dk) (l : Lg) (b : List UInt8) : Dk × Lg × Nat × Nat × Int :=
  if 0 < l.at_ ∧ l.most < ((l.at_ + b.length : Nat) : Int) then
    (if (lgTurn s l).2.2 = 0 then lgPut (lgTurn s l).1 (lgTurn s l).2.1 b else ((lgTurn s l).1, (lgTurn s l).2.1, 0, 0, (lgTurn s l).2.2))
  else lgPut s l b
def lgAppend (s : Dk) (l : Lg) (k : Int) (ns : List Nat) (t : List UInt8) : Dk × Lg × Nat × Nat × Int :=
  if rightB k ns.length t.length = true then lgB s l (recB k.toNat ns t) else (s, l, 0, 0, 1)
def firstR (r : List Rc × List Nat × Int) : Rc × Nat × Int :=
  match r.1, r.2.1 with
  | x :: _, e :: _ => (x, e, 0)
  | _, _ => if r.2.2 = 0 then (zeroR, 0, 3) else (zeroR, 0, r.2.2)
def lgRead (s : Dk) (seg at_ : Nat) : Rc × Nat × Int :=
  if okS seg = true then
    (if (read s (sgN seg)).2 = 0 then (if (read s (sgN seg)).1.length < at_ then (zeroR, 0, 3) else firstR (recAll ((read s (sgN seg)).1.drop at_))) else (zeroR, 0, (read s (sgN seg)).2))
  else (zeroR, 0, 1)
def syncs : Nat → Nat → Dk → Dk × Int
  | 0, _, s => (s, 0)
  | n + 1, k, s => if (sync s (sgN k)).2 = 0 then syncs n (k + 1) (sync s (sgN k)).1 else sync s (sgN k)
theorem syncs_zero (k : Nat) (s : Dk) : syncs 0 k s = (s, 0) := rfl
theorem syncs_succ (n k : Nat) (s : Dk) : syncs (n + 1) k s = if (sync s (sgN k)).2 = 0 then syncs n (k + 1) (sync s (sgN k)).1 else sync s (sgN k) := rfl
def lgSync (s : Dk) (l : Lg) : Dk × Lg × Int :=
  let r := syncs (l.seg + 1 - l.dirty) l.dirty s
  if r.2 = 0 then
    (if l.begun = true then (if (dirsync r.1).2 = 0 then ((dirsync r.1).1, { l with dirty := l.seg + 1, begun := false }, 0) else ((dirsync r.1).1, l, (dirsync r.1).2))
     else (r.1, { l with dirty := l.seg + 1, begun := false }, 0))
  else (r.1, l, r.2)
structure LgOk (l : Lg) (m : Nat) : Prop where
  seg : okS l.seg = true
  lo : 64 ≤ l.most
  hi : l.most ≤ 65536
  dirty : l.dirty ≤ l.seg + 1
  at_ : l.at_ ≤ m
theorem LgOk.more {l : Lg} {m m' : Nat} (h : LgOk l m) (hm : m ≤ m') : LgOk l m' := ⟨h.seg, h.lo, h.hi, h.dirty, Nat.le_trans h.at_ hm⟩
theorem may_iff {seg : Nat} {most : Int} : mayL seg most = true ↔ okS seg = true ∧ 64 ≤ most ∧ most ≤ 65536 := by
  unfold mayL
  simp only [Bool.and_eq_true, decide_eq_true_eq]
  exact ⟨fun h => ⟨h.2, h.1⟩, fun h => ⟨h.2, h.1⟩⟩
theorem begin_lg {s : Dk} {seg : Nat} {most : Int} {l : Lg} (h : (lgBegin s seg most).2.1 = some l) : LgOk l 0 := by
  unfold lgBegin at h
  split at h
  · rename_i hm
    obtain ⟨h1, h2, h3⟩ := may_iff.1 hm
    split at h
    · cases h; exact ⟨h1, h2, h3, by simp, by simp⟩
    · cases h
  · cases h
theorem open_lg {s : Dk} {seg at_ : Nat} {most : Int} {l : Lg} (h : (lgOpen s seg at_ most).2.1 = some l) : LgOk l (read s (sgN seg)).1.length := by
  unfold lgOpen at h
  split at h
  · rename_i hm
    obtain ⟨h1, h2, h3⟩ := may_iff.1 hm
    split at h
    · split at h
      · cases h
      · split at h
        · split at h
          · cases h; exact ⟨h1, h2, h3, by simp, by simp only; omega⟩
          · cases h
        · cases h; exact ⟨h1, h2, h3, by simp, by simp only; omega⟩
    · cases h
  · cases h
theorem turn_ok {s : Dk} {l : Lg} {m : Nat} (h : LgOk l m) : LgOk (lgTurn s l).2.1 m := by
  have hd := h.dirty
  unfold lgTurn
  split
  · rename_i hs
    split
    · exact ⟨hs, h.lo, h.hi, by simp only; omega, by simp⟩
    · exact h
  · exact h
theorem put_ok {s : Dk} {l : Lg} {m : Nat} (h : LgOk l m) (b : List UInt8) : LgOk (lgPut s l b).2.1 (m + b.length) := by
  have hd := h.dirty
  have ha := h.at_
  unfold lgPut
  split
  · exact ⟨h.seg, h.lo, h.hi, by simp only; omega, by simp only; omega⟩
  · exact h.more (by omega)
theorem lgB_ok {s : Dk} {l : Lg} {m : Nat} (h : LgOk l m) (b : List UInt8) : LgOk (lgB s l b).2.1 (m + b.length) := by
  unfold lgB
  split
  · split
    · exact put_ok (turn_ok h) b
    · exact (turn_ok h).more (by omega)
  · exact put_ok h b
theorem recB_len {k : Int} {ns : List Nat} {t : List UInt8} (h : rightB k ns.length t.length = true) (hs : ∀ n ∈ ns, n < 18446744073709551616) : 11 ≤ (recB k.toNat ns t).length ∧ (recB k.toNat ns t).length ≤ 175 := by
  obtain ⟨h1, h2, h3, h4⟩ := right_known h
  have h' : rightB ((k.toNat : Nat) : Int) ns.length t.length = true := by rw [show ((k.toNat : Nat) : Int) = k by omega]; exact h
  have := body_small h' hs
  unfold recB
  rw [frB_len]
  unfold toFra
  simp only
  omega
theorem append_lg {s : Dk} {l : Lg} {m : Nat} (h : LgOk l m) (k : Int) (ns : List Nat) (t : List UInt8) (hs : ∀ n ∈ ns, n < 18446744073709551616) : LgOk (lgAppend s l k ns t).2.1 (m + 175) := by
  unfold lgAppend
  split
  · rename_i hr
    exact (lgB_ok h _).more (by have := (recB_len hr hs).2; omega)
  · exact h.more (by omega)
theorem sync_lg {s : Dk} {l : Lg} {m : Nat} (h : LgOk l m) : LgOk (lgSync s l).2.1 m := by
  have hd := h.dirty
  unfold lgSync
  simp only
  split
  · split
    · split
      · exact ⟨h.seg, h.lo, h.hi, by simp, h.at_⟩
      · exact h
    · exact ⟨h.seg, h.lo, h.hi, by simp, h.at_⟩
  · exact h
theorem inv_syncs : ∀ (n k : Nat) {s : Dk}, Inv s → Inv (syncs n k s).1
  | 0, _, s, h => h
  | n + 1, k, s, h => by
    unfold syncs
    split
    · exact inv_syncs n (k + 1) (inv_sync h _)
    · exact inv_sync h _
theorem sync_same' (s : Dk) (n : ByteArray) : (sync s n).1.dirs.length = s.dirs.length ∧ (sync s n).1.files.length = s.files.length := by
  obtain ⟨k1, k2, k3⟩ := can_keep s (there s n)
  simp only [sync, setF]; split <;> simp [k1, k2]
theorem syncs_same : ∀ (n k : Nat) (s : Dk), (syncs n k s).1.dirs.length = s.dirs.length ∧ (syncs n k s).1.files.length = s.files.length
  | 0, _, _ => ⟨rfl, rfl⟩
  | n + 1, k, s => by
    unfold syncs
    have h := sync_same' s (sgN k)
    split
    · have h2 := syncs_same n (k + 1) (sync s (sgN k)).1
      omega
    · exact h
theorem inv_lgBegin {s : Dk} (h : Inv s) (seg : Nat) (most : Int) : Inv (lgBegin s seg most).1 := by
  unfold lgBegin
  split
  · split <;> exact inv_create h _
  · exact h
theorem inv_lgOpen {s : Dk} (h : Inv s) (seg at_ : Nat) (most : Int) : Inv (lgOpen s seg at_ most).1 := by
  unfold lgOpen
  split
  · split
    · split
      · exact h
      · split
        · split <;> exact inv_cut h _ _
        · exact h
    · exact h
  · exact h
theorem inv_turn {s : Dk} (h : Inv s) (l : Lg) : Inv (lgTurn s l).1 := by
  unfold lgTurn
  split
  · split <;> exact inv_create h _
  · exact h
theorem inv_put {s : Dk} (h : Inv s) (l : Lg) (b : List UInt8) : Inv (lgPut s l b).1 := by
  unfold lgPut
  split <;> exact inv_append h _ _
theorem inv_lgB {s : Dk} (h : Inv s) (l : Lg) (b : List UInt8) : Inv (lgB s l b).1 := by
  unfold lgB
  split
  · split
    · exact inv_put (inv_turn h l) _ b
    · exact inv_turn h l
  · exact inv_put h l b
theorem inv_lgAppend {s : Dk} (h : Inv s) (l : Lg) (k : Int) (ns : List Nat) (t : List UInt8) : Inv (lgAppend s l k ns t).1 := by
  unfold lgAppend
  split
  · exact inv_lgB h l _
  · exact h
theorem inv_lgSync {s : Dk} (h : Inv s) (l : Lg) : Inv (lgSync s l).1 := by
  have hs := inv_syncs (l.seg + 1 - l.dirty) l.dirty h
  unfold lgSync
  simp only
  split
  · split
    · split <;> exact inv_dirsync hs
    · exact hs
  · exact hs
end Go.Sg
end

section
namespace Go.Proofs.YtofllgbdphakiaaGreatDoor
open Go.Den Go.Disk
theorem newB_step (xs : List UInt8) {E n : Nat} {zero : Array Value} {ps : List (Nat × Nat × Value)} {w : World} {k : Value → World → Prop} (hn : n = xs.length) (hp : ps = partsAt 1 (fun x : UInt8 => Value.int .u8 (x.toNat : Int)) 0 xs)
    (h : ∀ t w1, Slc encB 1 w1 t xs [hsz w] → Fr [] w w1 → hsz w1 = hsz w + 1 → k t w1) : BND (newslice E zero 1 n ps w) fun p => NEW p k := newparts_step encB_len (fun _ => rfl) xs hn hp h
theorem At.re2 {w0 w w' : World} {F0 : List Nat} {P : HP} (h : At w0 F0 P w) (f : Fr [] w w') : ∃ A, At w' A P w' ∧ (∀ b ∈ A, b < hsz w) ∧ ∀ w2 P', At w' A P' w2 → At w0 F0 P' w2 := by
  obtain ⟨F, h1, h2, h3⟩ := h
  have f' : Fr F0 w0 w' := h3.trans' f.nil
  have gr := f'.grow
  refine ⟨F, At.start (P.fr h1 f (by simp)), P.lt h1, fun w2 P' ⟨F', p1, p2, p3⟩ => ⟨F', p1, fun b hb => ?_, f'.trans p3 h2⟩⟩
  rcases p2 b hb with hb | hb
  · exact h2 b hb
  · exact .inr (by omega)
theorem mkB (n : Nat) (hn : n ≤ 1000000) (E : Nat) (w : World) {k : Value → World → Prop} (h : ∀ t w1, Slc encB 1 w1 t (List.replicate n 0) [hsz w] → Fr [] w w1 → hsz w1 = hsz w + 1 → k t w1) : BND (mkslice E 1 1 (.int .u8 0) w (.int .i64 (n : Int)) (.int .i64 (n : Int))) fun p => NEW p k := by
  have hc : ((Array.range ((n : Int).toNat * 1)).map fun i => (Value.cells (.int .u8 0))[i % (Value.cells (.int .u8 0)).size]!) = (List.replicate n (Value.int .u8 0)).toArray := by
    apply Array.ext
    · simp
    · intro i h1 h2
      simp [Value.cells, Nat.mod_one]
  have e : mkslice E 1 1 (.int .u8 0) w (.int .i64 (n : Int)) (.int .i64 (n : Int)) = some (.slice (some ⟨hsz w, 0, none⟩) n n, w.alloc (.cells (List.replicate n (Value.int .u8 0)).toArray E)) := by
    show (if 0 ≤ (n : Int) ∧ (n : Int) ≤ (n : Int) ∧ (n : Int) * ((1 : Nat) : Int) ≤ 281474976710656 ∧ (n : Int) ≤ 9223372036854775807 then
      some (Value.slice (some ⟨w.heap.size, 0, none⟩) (n : Int).toNat (n : Int).toNat, w.alloc (.cells ((Array.range ((n : Int).toNat * 1)).map fun i => (Value.cells (.int .u8 0))[i % (Value.cells (.int .u8 0)).size]!) E)) else none) = _
    rw [if_pos (by omega), hc]; rfl
  refine BND_step e <| (NEW_pair _ _ _).2 ?_
  refine h _ _ (.inr ⟨hsz w, n, _, E, by simp, blk_alloc_new _ _, by simp, by simp, rfl, fun i x hx j hj => ?_⟩) (Fr.alloc _ _ _) (by simp)
  obtain rfl : j = 0 := by omega
  have hi := (List.getElem?_eq_some_iff.1 hx).1
  have hi' : i < n := by simpa using hi
  rw [List.getElem?_replicate, if_pos hi'] at hx
  cases hx
  rw [List.getElem?_toArray, Nat.mul_one, Nat.add_zero, List.getElem?_replicate, if_pos hi']
  rfl
theorem loadn_all {w : World} {b n : Nat} {c : List Value} {T : Nat} {f : Nat × Nat} (h : blk w b = some (.cells c.toArray T f)) (hn : c.length = n) : loadn n w (.pointer (some ⟨b, 0, none⟩)) = some (.agg c.toArray) := by
  subst hn
  rw [loadn_blk h (by simp)]
  simp
theorem At.re3 {w0 w w' : World} {F0 : List Nat} {P : HP} (h : At w0 F0 P w) (f : Fr [] w w') : ∃ A, At w' A P w' ∧ (∀ b ∈ A, b < hsz w) ∧ (∀ b ∈ A, b ∈ F0 ∨ hsz w0 ≤ b) ∧ ∀ w2 P', At w' A P' w2 → At w0 F0 P' w2 := by
  obtain ⟨F, h1, h2, h3⟩ := h
  have f' : Fr F0 w0 w' := h3.trans' f.nil
  have gr := f'.grow
  refine ⟨F, At.start (P.fr h1 f (by simp)), P.lt h1, h2, fun w2 P' ⟨F', p1, p2, p3⟩ => ⟨F', p1, fun b hb => ?_, f'.trans p3 h2⟩⟩
  rcases p2 b hb with hb | hb
  · exact h2 b hb
  · exact .inr (by omega)
theorem ptr_nil {d : Nat} : binv .ptr .eql (ptrTo d) (.pointer none) = some (.bool false) := rfl
theorem At.zoom3 {w0 w w' : World} {F0 : List Nat} {ps : List HP} (h : At w0 F0 (stars ps) w) (f : Fr [] w w') (i : Nat) {P : HP} (hi : ps[i]? = some P) :
    ∃ A, At w' A P w' ∧ (∀ b ∈ A, b < hsz w) ∧ (∀ b ∈ A, b ∈ F0 ∨ hsz w0 ≤ b) ∧ ∀ w2 P', At w' A P' w2 → At w0 F0 (stars (ps.set i P')) w2 := by
  obtain ⟨F, h1, h2, h3⟩ := h
  have hlt := (stars ps).lt h1
  have h1' := (stars ps).fr h1 f (by simp)
  have h3' : Fr F0 w0 w' := h3.trans' f.nil
  obtain ⟨A, h4, h5, h6⟩ := stars_upd ps i P hi h1'
  have gr := h3'.grow
  refine ⟨A, At.start h4, fun b hb => hlt b (h5 b hb), fun b hb => h2 b (h5 b hb), fun w2 P' ⟨F', p1, p2, p3⟩ => ?_⟩
  obtain ⟨F2, h7, h8⟩ := h6 w2 F' P' p1 p3 p2
  refine ⟨F2, h7, fun b hb => ?_, h3'.trans p3 fun b hb => h2 b (h5 b hb)⟩
  rcases h8 b hb with hx | hx
  · exact h2 b hx
  · exact .inr (by omega)
set_option linter.unusedSimpArgs false
set_option linter.unusedVariables false
set_option maxRecDepth 20000
set_option maxHeartbeats 4000000
attribute [local congr] BND_cg COND_cg GEF_cg
attribute [local irreducible] capl slicea load1 loadn iaddr iaddra faddr storev newslice binv lookv mupd mdel mlenv mentry mestore slicev slicev3 slices indexs indexav textv rangev nexts clearv shiftv eqaggv convi buildv pickv lens lenl unv nilchk extractv partn JOIN
section
variable {w0 w w' : World} {F0 : List Nat} {d : Nat} {s : Dk} {R : Value → World → Prop}
theorem app_step (h : At w0 F0 (diskHP d s) w) (f : Fr [] w w') (hw : s.Wf) (hn : s.dirs.length < 1000000000) (hn2 : s.files.length < 1000000000) (n : ByteArray) {u : Value} {bs : List UInt8} {G : List Nat} (su : Slc encB 1 w' u bs G) (hG : ∀ b ∈ G, hsz w ≤ b) (hbs : bs.length < 1000000000)
    (hR : ∀ w2, At w0 F0 (diskHP d (append s n bs).1) w2 → R (.int .i64 (append s n bs).2) w2) : CALL PR F_disk_Disk_Append [ptrTo d, .string n, u] w' R := by
  obtain ⟨A, ha, hA, back⟩ := At.re2 h f
  exact dk_Append ha hw hn hn2 n hbs su.len (fun w2 f2 => (su.fr f2 fun b hb hb' => by have := hG b hb; have := hA b hb'; omega).loads encB_len) fun w2 h2 => hR w2 (back w2 _ h2)
end
end Go.Proofs.YtofllgbdphakiaaGreatDoor
end

section
namespace Go.Proofs.YtofllgbdphakiaaGreatDoor
open Go.Den Go.Disk Go.Vint Go.Crc Go.Frame Go.Rec
/-- records in memory: the row, and each one's numbers. -/
def RecL (w : World) (v : Value) (xs : List Rc) (G B : List Nat) : Prop :=
  (∃ cs : List (Int × SV × ByteArray), Slc encRc 3 w v cs G ∧ cs.length = xs.length ∧ ∀ (i : Nat) (x : Rc), xs[i]? = some x → ∃ (s : SV) (H : List Nat), cs[i]? = some ((x.kind : Int), s, txB x.text) ∧ Slc encU 1 w s.v x.n H ∧ ∀ b ∈ H, b ∈ B) ∧ ∀ b ∈ B, b ∉ G ∧ b < hsz w
theorem RecL.fr {w w' : World} {v : Value} {xs : List Rc} {G B : List Nat} (h : RecL w v xs G B) (f : Fr [] w w') : RecL w' v xs G B := by
  obtain ⟨⟨cs, h1, h2, h3⟩, h4⟩ := h
  exact ⟨⟨cs, h1.fr f (by simp), h2, fun i x hx => by obtain ⟨s, H, a, b, c⟩ := h3 i x hx; exact ⟨s, H, a, b.fr f (by simp), c⟩⟩, fun b hb => ⟨(h4 b hb).1, Nat.lt_of_lt_of_le (h4 b hb).2 f.grow⟩⟩
/-- what changes lies apart. -/
theorem RecL.far {w w' : World} {v : Value} {xs : List Rc} {G B F : List Nat} (h : RecL w v xs G B) (f : Fr F w w') (hG : ∀ b ∈ G, b ∉ F) (hB : ∀ b ∈ B, b ∉ F) : RecL w' v xs G B := by
  obtain ⟨⟨cs, h1, h2, h3⟩, h4⟩ := h
  exact ⟨⟨cs, h1.fr f hG, h2, fun i x hx => by obtain ⟨s, H, a, b, c⟩ := h3 i x hx; exact ⟨s, H, a, b.fr f fun d hd => hB d (c d hd), c⟩⟩, fun b hb => ⟨(h4 b hb).1, Nat.lt_of_lt_of_le (h4 b hb).2 f.grow⟩⟩
theorem RecL.len {w : World} {v : Value} {xs : List Rc} {G B : List Nat} (h : RecL w v xs G B) : lenl v = some (.int .i64 xs.length) := by
  obtain ⟨⟨cs, h1, h2, _⟩, _⟩ := h
  rw [h1.len, h2]
theorem RecL.nil (w : World) : RecL w (.slice none 0 0) [] [] [] := ⟨⟨[], Slc.nil _ _ _, rfl, by simp⟩, by simp⟩
theorem RecL.lt {w : World} {v : Value} {xs : List Rc} {G B : List Nat} (h : RecL w v xs G B) : ∀ b ∈ G, b < hsz w := by
  obtain ⟨⟨cs, h1, _⟩, _⟩ := h
  exact h1.lt
theorem getV_used {b : List UInt8} (h : (getV b).2.2 = 0) : (getV b).2.1 ≤ b.length := by
  have := getL_used b 0 0 h
  unfold getV; omega
theorem getV_small (b : List UInt8) : (getV b).1 < 18446744073709551616 := getL_small b 0 0 (by simp) (by omega)
theorem readN_step (m : Nat) (b : List UInt8) : readN (m + 1) b = if (getV b).2.2 = 0 then ((getV b).1 :: (readN m (b.drop (getV b).2.1)).1, (readN m (b.drop (getV b).2.1)).2) else ([], [], (getV b).2.2) := rfl
set_option linter.unusedSimpArgs false
set_option linter.unusedVariables false
set_option maxRecDepth 20000
set_option maxHeartbeats 4000000
attribute [local congr] BND_cg COND_cg GEF_cg
attribute [local irreducible] capl slicea load1 loadn iaddr iaddra faddr storev newslice binv lookv mupd mdel mlenv mentry mestore slicev slicev3 slices indexs indexav textv rangev nexts clearv shiftv eqaggv convi buildv pickv lens lenl unv nilchk extractv partn JOIN
section
variable {w : World} {R : Value → World → Prop}
theorem rec_Read {s0 : SV} {x : Fra} (hb : ArrC encB 1 w s0.v x.2) (hn : x.2.length < 1000000)
    (hR : ∀ w' nv G, Slc encU 1 w' (SV.v nv) (recRead x).1.n G → (∀ b ∈ G, hsz w ≤ b) → Fr [] w w' → R (.tuple #[.agg (encRc (((recRead x).1.kind : Int), nv, txB (recRead x).1.text)).toArray, .int .i64 (recRead x).2]) w') : CALL PR F_record_Read [.agg (encFr (x.1, s0)).toArray] w R := by
  refine C_record_Read ?_
  unfold M_record_Read
  refine NEW_intro fun w1 b1 f1 z1 => ?_
  replace b1 : blk w1 (hsz w) = some (.cells (encFr (x.1, s0)).toArray 133 (0, 0)) := b1
  refine NEW_intro fun w2 b2 f2 z2 => ?_
  replace b2 : blk w2 (hsz w1) = some (.cells [Value.int .i64 0, .slice none 0 0, .string .empty].toArray 37 (0, 0)) := b2
  have hkl := x.1.toNat_lt
  have b1' := f2.some (by simp) b1
  have ec := convi64 (k := .u8) (x := x.1.toNat) (by omega)
  (repeat (first | refine gg ?_ | (apply BND_build ([.int .i64 (x.1.toNat : Int), .slice none 0 0, .string .empty]); exact rfl)))
  refine box_step (n := 3) (zs := [_, _, _]) (vs := encRc ((x.1.toNat : Int), ⟨none, 0, 0⟩, .empty)) rfl rfl (encRc_one _) (by simp [encRc]) fun w4 b4 f4 z4 => ?_
  have b1'' := f4.some (by simp) b1'
  have b2' := f4.some (by simp) b2
  have f04 := (f1.trans' f2).trans' f4
  -- what comes of an error
  have bad : ∀ (w6 : World) (e : Int), Fr [] w w6 → blk w6 (hsz w1) = some (.cells [Value.int .i64 0, .slice none 0 0, .string .empty].toArray 37 (0, 0)) → recRead x = (zeroR, e) →
      (BND (buildv #[(Value.int .i64 0), (Value.slice none 0 0), (Value.string ByteArray.empty)] []) fun t => BND (storev 3 w6 (.pointer (some ⟨hsz w1, 0, none⟩)) t) fun w7 => BND (loadn 3 w7 (.pointer (some ⟨hsz w1, 0, none⟩))) fun r => R (.tuple #[r, (Value.int .i64 e)]) w7) := by
    intro w6 e f6 b6 he
    rw [he] at hR
    (repeat (first | refine gg ?_ | (apply BND_build ([.int .i64 0, .slice none 0 0, .string .empty]); exact rfl)))
    refine put_step (n := 3) (vs := [.int .i64 0, .slice none 0 0, .string .empty]) b6 rfl rfl (by intro u hu; simp at hu; rcases hu with rfl | rfl | rfl <;> rfl) (by simp) fun w7 b7 f7 _ => ?_
    (repeat (first | refine BND_step (loadn_all' b7 rfl) ?_ | refine gg ?_))
    exact hR w7 ⟨none, 0, 0⟩ [] (Slc.nil _ _ _) (by simp) (f6.trans f7 fun b hb => .inr (by have := f1.grow; simp at hb; omega))
  (repeat refine gg ?_)
  refine rec_known _ ?_
  unfold recRead at hR
  cases hk : knownB (x.1.toNat : Int) with
  | false =>
    (repeat refine gg ?_)
    exact bad w4 2 f04 b2' (by unfold recRead; rw [if_pos hk])
  | true =>
    have hkn : ¬ knownB (x.1.toNat : Int) = false := by rw [hk]; simp
    rw [if_neg hkn] at hR
    obtain ⟨hk1, hk2⟩ : 1 ≤ (x.1.toNat : Int) ∧ (x.1.toNat : Int) ≤ 17 := by unfold knownB at hk; simpa using hk
    have b4d : blk w4.drew (hsz w2) = some (.cells (encRc ((x.1.toNat : Int), ⟨none, 0, 0⟩, .empty)).toArray 37 (0, 0)) := b4
    (repeat refine gg ?_)
    refine ⟨fun _ w' => blk w' (hsz w2) = some (.cells (encRc ((x.1.toNat : Int), ⟨none, 0, 0⟩, .empty)).toArray 37 (0, 0)), b4d, ?_⟩
    (repeat refine gg ?_)
    refine rec_numbers fun w7 f7 => ?_
    have b7 := f7.some (by simp) b4d
    refine ⟨b7, ?_⟩
    (repeat (first | refine BND_step (many_at (k := x.1.toNat) (by omega)) ?_ | refine gg ?_))
    have f07 := (f04.trans' (Fr.drew [] w4)).trans' f7
    have b27 : blk w7 (hsz w1) = _ := f7.some (by simp) (show blk w4.drew (hsz w1) = _ from b2')
    have h10 := manyOf_le x.1.toNat
    generalize hmany : manyOf x.1.toNat = many at *
    refine loop_up2 (o := s0.v) 0 many (fun o i w' => ∃ (done : List Nat) (rest : List UInt8) (nv : SV) (G : List Nat), ArrC encB 1 w o rest ∧ rest.length ≤ x.2.length ∧ blk w' (hsz w2) = some (.cells (encRc ((x.1.toNat : Int), nv, .empty)).toArray 37 (0, 0)) ∧ Slc encU 1 w' nv.v done G ∧ (∀ b ∈ G, hsz w7 ≤ b) ∧
        Fr [] w w' ∧ hsz w7 ≤ hsz w' ∧ blk w' (hsz w1) = some (.cells [Value.int .i64 0, .slice none 0 0, .string .empty].toArray 37 (0, 0)) ∧ done.length = i ∧ readN many x.2 = (done ++ (readN (many - i) rest).1, (readN (many - i) rest).2))
      ⟨[], x.2, ⟨none, 0, 0⟩, [], hb, Nat.le_refl _, b7, Slc.nil _ _ _, by simp, f07, Nat.le_refl _, b27, rfl, by simp⟩ (by omega) ?_
    rintro o i w8 - hi ⟨done, rest, nv, G, a0, hrl, b8, s8, g8, f8, gr8, b28, hdl, heq⟩ J m hJ
    have a8 := a0.fr f8 (by simp)
    by_cases hlt : i < many
    · obtain ⟨mm, hmm⟩ : ∃ mm, many - i = mm + 1 := ⟨many - i - 1, by omega⟩
      rw [hmm, readN_step] at heq
      (repeat refine gg ?_)
      refine vint_Get a8.arr (by omega) ?_
      (repeat refine gg ?_)
      by_cases he : (getV rest).2.2 = 0
      · rw [if_pos he] at heq
        have hu := getV_used he
        obtain ⟨va, ea, aa⟩ := a0.from (lo := (getV rest).2.1) hu
        have b8d : blk w8.drew (hsz w2) = some (.cells (encRc ((x.1.toNat : Int), nv, .empty)).toArray 37 (0, 0)) := b8
        (repeat refine gg ?_)
        refine ⟨fun _ w' => blk w' (hsz w2) = some (.cells (encRc ((x.1.toNat : Int), nv, .empty)).toArray 37 (0, 0)), b8d, ?_⟩
        (repeat refine gg ?_)
        refine newone_step (enc := encU) (x := (getV rest).1) encU_len rfl fun t w11 s11 f11 z11 => ?_
        have b11 := f11.some (by simp) b8d
        refine ⟨b11, ?_⟩
        have f811 := (Fr.drew [] w8).trans' f11
        have ew8 : hsz w8.drew = hsz w8 := rfl
        refine APPEND_slc (s8.fr f811 (by simp)) (s11.loads encU_len) encU_len encU_one rfl (by simp; omega) (by simp; omega) fun v12 w12 G12 s12 f12 sub12 => ?_
        obtain ⟨x12, rfl⟩ := slc_sv s12
        have hw2 : hsz w2 < hsz w7 := by have := blk_lt b4; have := f7.grow; have e : hsz w4.drew = hsz w4 := rfl; omega
        have hw1 : hsz w1 < hsz w2 := by omega
        have b12 := f12.some (fun hb => by have := g8 _ hb; omega) b11
        (repeat refine gg ?_)
        refine fstore_step b12 ⟨rfl, rfl⟩ (by simp [encRc]) fun w13 b13 f13 _ => ?_
        (repeat refine gg ?_)
        have f812 : Fr [] w w12 := (f8.trans' f811).trans f12 fun b hb => .inr (by have := g8 b hb; have := f07.grow; omega)
        have f813 : Fr [] w w13 := f812.trans f13 fun b hb => .inr (by simp at hb; have := (f1.trans' f2).grow; omega)
        have g12 : ∀ b ∈ G12, hsz w7 ≤ b := fun b hb => by
          rcases sub12 b hb with hq | hq
          · exact g8 b hq
          · have := f811.grow; omega
        refine hJ _ _ hlt ⟨done ++ [(getV rest).1], rest.drop (getV rest).2.1, x12, G12, aa, ?_, b13, s12.fr f13 (fun b hb hb' => ?_), g12, f813, ?_, ?_, by simp [hdl], ?_⟩
        · rw [List.length_drop]; omega
        · have := g12 b hb; simp at hb'; omega
        · have := (f811.grow); have := f12.grow; have := f13.grow; omega
        · have q1 := f11.some (by simp) (show blk w8.drew (hsz w1) = _ from b28)
          have q2 := f12.some (fun hb => by have := g8 _ hb; omega) q1
          exact f13.some (by simp; omega) q2
        · rw [show many - (i + 1) = mm by omega, heq]; simp
      · rw [if_neg he] at heq
        (repeat refine gg ?_)
        refine bad w8 _ f8 b28 ?_
        unfold recRead
        rw [if_neg hkn, hmany, heq, if_neg he]
    · rw [show many - i = 0 by omega] at heq
      simp only [readN, List.append_nil] at heq
      rw [heq] at hR
      simp only [if_true] at hR
      have hrw : recRead x = if fitsB (x.1.toNat : Int) rest.length = true then (⟨x.1.toNat, done, rest⟩, 0) else (zeroR, 2) := by
        unfold recRead
        rw [if_neg hkn, hmany, heq]
        rfl
      (repeat (first | refine BND_step a8.len ?_ | refine gg ?_))
      refine rec_fits _ _ ?_
      cases hf : fitsB (x.1.toNat : Int) rest.length with
      | false =>
        rw [hf] at hrw
        (repeat refine gg ?_)
        exact bad w8 2 f8 b28 hrw
      | true =>
        rw [hf] at hR
        simp only [if_true] at hR
        have hw2 : hsz w2 < hsz w7 := by have := blk_lt b4; have := f7.grow; have e : hsz w4.drew = hsz w4 := rfl; omega
        (repeat (first | refine BND_step (textB a8.arr) ?_ | refine gg ?_))
        refine fstore_step b8 ⟨rfl, rfl⟩ (by simp [encRc]) fun w9 b9 f9 _ => ?_
        replace b9 : blk w9 (hsz w2) = some (.cells (encRc ((x.1.toNat : Int), nv, txB rest)).toArray 37 (0, 0)) := b9
        have b29 := f9.some (by simp; omega) b28
        (repeat (first | refine BND_step (loadn_all' b9 rfl) ?_ | refine gg ?_))
        refine put_step (n := 3) (vs := encRc ((x.1.toNat : Int), nv, txB rest)) b29 rfl rfl (encRc_one _) (by simp [encRc]) fun w10 b10 f10 _ => ?_
        (repeat (first | refine BND_step (loadn_all' b10 rfl) ?_ | refine gg ?_))
        have gg := (f1.trans' f2).grow
        have gg1 := f1.grow
        exact hR w10 nv G ((s8.fr f9 (fun b hb hb' => by have := g8 b hb; simp at hb'; omega)).fr f10 (fun b hb hb' => by have := g8 b hb; simp at hb'; omega)) (fun b hb => by have := g8 b hb; have := f07.grow; omega)
          ((f8.trans f9 fun b hb => .inr (by simp at hb; omega)).trans f10 fun b hb => .inr (by simp at hb; omega))
theorem rec_push {E E' bytes : Nat} {zero : Array Value} {zero' : Value} {k : Value → World → Prop} {o : Value} {xs : List Rc} {G B H : List Nat} {s : SV} {x : Rc} (h : RecL w o xs G B) (hs : Slc encU 1 w s.v x.n H) (hH : ∀ b ∈ H, b ∉ G) (hz : zero'.cells.size = 3) (hb : bytes ≤ 1000) (hn : xs.length < 1000000000)
    (K : ∀ v' w' G', RecL w' v' (xs ++ [x]) G' (H ++ B) → (∀ b ∈ G', b ∈ G ∨ hsz w ≤ b) → Fr G w w' → k v' w') : BND (newslice E zero 3 1 [(0, 3, .agg (encRc ((x.kind : Int), s, txB x.text)).toArray)] w) fun p_ => NEW p_ fun t w1 => APPEND E' 3 bytes zero' o t w1 k := by
  obtain ⟨⟨cs, h1, h2, h3⟩, h4⟩ := h
  refine push_step (enc := encRc) (x := ((x.kind : Int), s, txB x.text)) h1 encRc_len encRc_one rfl hz hb (by omega) fun v' w' G' s' g' f' => ?_
  refine K v' w' G' ⟨⟨cs ++ [((x.kind : Int), s, txB x.text)], s', by simp [h2], fun i y hy => ?_⟩, fun b hb => ?_⟩ g' f'
  · by_cases hi : i < xs.length
    · rw [List.getElem?_append_left hi] at hy
      obtain ⟨s2, H2, a, b, c⟩ := h3 i y hy
      exact ⟨s2, H2, by rw [List.getElem?_append_left (by omega)]; exact a, b.fr f' (fun d hd => (h4 d (c d hd)).1), fun d hd => by simp [c d hd]⟩
    · have : i = xs.length := by have := (List.getElem?_eq_some_iff.1 hy).1; simp at this; omega
      subst this
      simp at hy; subst hy
      exact ⟨s, H, by rw [List.getElem?_append_right (by omega)]; simp [h2], hs.fr f' hH, fun d hd => by simp [hd]⟩
  · have hlt : b < hsz w := by
      rcases List.mem_append.1 hb with hb | hb
      · exact hs.lt b hb
      · exact (h4 b hb).2
    refine ⟨?_, Nat.lt_of_lt_of_le hlt f'.grow⟩
    intro hb'
    rcases g' b hb' with hq | hq
    · rcases List.mem_append.1 hb with hb | hb
      · exact hH b hb hq
      · exact (h4 b hb).1 hq
    · omega
theorem recAllF_cons (x : Fra) (r : List Fra) (k : Nat) (e : Int) : recAllF (x :: r) k e = if (recRead x).2 = 0 then ((recRead x).1 :: (recAllF r (k + (11 + x.2.length)) e).1, (k + (11 + x.2.length)) :: (recAllF r (k + (11 + x.2.length)) e).2.1, (recAllF r (k + (11 + x.2.length)) e).2.2) else ([], [], (recRead x).2) := rfl
theorem loop_up4 {B : (Value → Value → Value → Value → World → Prop) → (Value → Value → Value → Value → World → Nat) → Value → Value → Value → Value → World → Prop} {w : World} {a b c : Value} (s n : Nat) (I : Value → Value → Value → Nat → World → Prop) (h0 : I a b c s w) (hs : s ≤ n)
    (h : ∀ a b c i w1, s ≤ i → i ≤ n → I a b c i w1 → ∀ J m, (∀ a' b' c' w', i < n → I a' b' c' (i + 1) w' → J a' b' c' (.int .i64 ((i + 1 : Nat) : Int)) w' ∧ m a' b' c' (.int .i64 ((i + 1 : Nat) : Int)) w' < m a b c (.int .i64 (i : Int)) w1) → B J m a b c (.int .i64 (i : Int)) w1) :
    ∃ (J : Value → Value → Value → Value → World → Prop) (m : Value → Value → Value → Value → World → Nat), J a b c (.int .i64 (s : Int)) w ∧ ∀ (_d : Env) (a b c t : Value) (w1 : World), J a b c t w1 → B J m a b c t w1 := by
  refine ⟨fun a b c t w' => ∃ i : Nat, t = .int .i64 i ∧ s ≤ i ∧ i ≤ n ∧ I a b c i w', fun _ _ _ t _ => match t with | .int _ k => n - k.toNat | _ => 0, ⟨s, rfl, Nat.le_refl _, hs, h0⟩, ?_⟩
  rintro _ a b c _ w1 ⟨i, rfl, h1, h2, h3⟩
  exact h a b c i w1 h1 h2 h3 _ _ fun a' b' c' w' h4 h5 => ⟨⟨i + 1, rfl, by omega, by omega, h5⟩, by simp; omega⟩
theorem rec_All {bv : Value} {bs : List UInt8} (hb : ArrC encB 1 w bv bs) (hn : bs.length < 10000000)
    (hR : ∀ w' v ev G B E, RecL w' v (recAll bs).1 G B → Slc encO 1 w' ev (recAll bs).2.1 E → (∀ b ∈ G, hsz w ≤ b) → (∀ b ∈ B, hsz w ≤ b) → (∀ b ∈ E, hsz w ≤ b) → Fr [] w w' → R (.tuple #[v, ev, .int .i64 (recAll bs).2.2]) w') : CALL PR F_record_All [bv] w R := by
  refine C_record_All ?_
  unfold M_record_All
  refine frame_All hb (by omega) fun w1 lv G1 B1 h1 gG1 gB1 f1 hle => ?_
  have hsm := frAll_small bs.length bs 0 rfl
  unfold recAll at hR
  generalize hfs : (frAll bs 0).1 = fs at *
  generalize (frAll bs 0).2.2 = e0 at *
  (repeat (first | refine BND_step h1.len ?_ | refine gg ?_))
  refine loop_up4 (a := .slice none 0 0) (b := .slice none 0 0) (c := .int .i64 0) 0 fs.length (fun o ev t i w' => ∃ (k : Nat) (done : List Rc) (ends : List Nat) (G B E : List Nat), t = .int .i64 (k : Int) ∧ RecL w' o done G B ∧ Slc encO 1 w' ev ends E ∧ (∀ b ∈ G, hsz w1 ≤ b ∧ b ∉ E) ∧ (∀ b ∈ B, hsz w1 ≤ b ∧ b ∉ E) ∧ (∀ b ∈ E, hsz w1 ≤ b) ∧
      Fr [] w1 w' ∧ k ≤ i * 500 ∧ done.length = i ∧ ends.length = i ∧ recAllF fs 0 e0 = (done ++ (recAllF (fs.drop i) k e0).1, ends ++ (recAllF (fs.drop i) k e0).2.1, (recAllF (fs.drop i) k e0).2.2))
    ⟨0, [], [], [], [], [], rfl, RecL.nil _, Slc.nil _ _ _, by simp, by simp, by simp, Fr.refl _ _, by omega, rfl, rfl, by simp⟩ (by omega) ?_
  rintro o ev _ i w2 - hi ⟨k, done, ends, G, B, E, rfl, h2, se, gG, gB, gE, f2, hk, hdl, hel, heq⟩ J m hJ
  by_cases hlt : i < fs.length
  · have hx := List.getElem?_eq_getElem hlt
    have hm := List.getElem_mem hlt
    have hdr : fs.drop i = fs[i] :: fs.drop (i + 1) := List.drop_eq_getElem_cons hlt
    generalize fs[i] = x at hx hm hdr
    have hx4 := hsm x hm
    rw [hdr, recAllF_cons] at heq
    obtain ⟨⟨cs, q1, q2, q3⟩, q4⟩ := h1.fr f2
    obtain ⟨s, H, c1, c2, c3⟩ := q3 i x hx
    obtain ⟨bp, op, ia, ln, _, _⟩ := q1.arr.spot c1 rfl .i64
    (repeat refine gg ?_)
    refine box_step (n := 2) (zs := [_, _]) (vs := encFr (x.1, s)) rfl rfl (encFr_one _) (by simp [encFr]) fun w4 b4 f4 z4 => ?_
    (repeat (first | refine BND_step (loadn_all' b4 rfl) ?_ | refine gg ?_))
    have c24 := c2.fr f4 (by simp)
    refine rec_Read c24.arrC (by omega) fun w5 nv Gn sn gn f5 => ?_
    have b5 := f5.some (by simp) b4
    (repeat refine gg ?_)
    refine box_step (n := 3) (zs := [_, _, _]) (vs := encRc (((recRead x).1.kind : Int), nv, txB (recRead x).1.text)) rfl rfl (encRc_one _) (by simp [encRc]) fun w7 b7 f7 z7 => ?_
    have b57 := f7.some (by simp) b5
    have f27 := (f4.trans' f5).trans' f7
    have f17 := f2.trans' f27
    by_cases he : (recRead x).2 = 0
    · rw [if_pos he] at heq
      (repeat (first | refine BND_step (loadn_all' b57 rfl) ?_ | refine gg ?_))
      refine frame_Bytes (body := x.2) ((c24.fr f5 (by simp)).fr f7 (by simp)).arr (by omega) (fun w8 h8 _ => by omega) fun w8 v8 G8 _ s8 g8 f8 => ?_
      have b8 := f8.some (by simp) b7
      have e8 := s8.len
      rw [frB_len] at e8
      replace e8 : lenl v8 = some (.int .i64 ((11 + x.2.length : Nat) : Int)) := e8
      have f28 := f27.trans' f8
      have gr12 := f2.grow
      have gr24 := f4.grow
      (repeat (first | refine BND_step (addn_ (n := k) (by omega)) ?_ | refine BND_step (loadn_all' b8 rfl) ?_ | refine gg ?_))
      refine rec_push (x := (recRead x).1) (h2.fr f28) ((sn.fr f7 (by simp)).fr f8 (by simp)) (fun b hb hb' => by have := gn b hb; have := h2.lt b hb'; omega) rfl (by omega) (by omega) fun v10 w10 G10 h10 g10 f10 => ?_
      have se10 := (se.fr f28 (by simp)).fr f10 (fun b hb hb' => (gG b hb').2 hb)
      refine push_step (enc := encO) (x := k + (11 + x.2.length)) se10 encO_len encO_one rfl rfl (by omega) (by omega) fun v12 w12 E12 s12 g12 f12 => ?_
      have gr28 := f28.grow
      have gr10 := f10.grow
      have gr5 := f5.grow
      have gr7 := f7.grow
      have gr8 := f8.grow
      have nG : ∀ b ∈ G10, hsz w1 ≤ b ∧ b ∉ E12 := fun b hb => by
        rcases g10 b hb with hq | hq
        · refine ⟨(gG b hq).1, fun hb' => ?_⟩
          rcases g12 b hb' with hq2 | hq2
          · exact (gG b hq).2 hq2
          · have := h2.lt b hq; omega
        · refine ⟨by omega, fun hb' => ?_⟩
          rcases g12 b hb' with hq2 | hq2
          · have := se.lt b hq2; omega
          · have := h10.lt b hb; omega
      have nB : ∀ b ∈ Gn ++ B, hsz w1 ≤ b ∧ b ∉ E12 := fun b hb => by
        have hlt10 : b < hsz w10 := by
          obtain ⟨_, q⟩ := h10
          exact (q b hb).2
        rcases List.mem_append.1 hb with hb | hb
        · have hgn := gn b hb
          refine ⟨by omega, fun hb' => ?_⟩
          rcases g12 b hb' with hq2 | hq2
          · have := se.lt b hq2; omega
          · omega
        · refine ⟨(gB b hb).1, fun hb' => ?_⟩
          rcases g12 b hb' with hq2 | hq2
          · exact (gB b hb).2 hq2
          · omega
      (repeat refine gg ?_)
      refine hJ _ _ _ _ hlt ⟨k + (11 + x.2.length), done ++ [(recRead x).1], ends ++ [k + (11 + x.2.length)], G10, Gn ++ B, E12, rfl, h10.far f12 (fun b hb hb' => ?_) (fun b hb hb' => ?_), s12, nG, nB, fun b hb => ?_, ?_, by omega, by simp [hdl], by simp [hel], by rw [heq]; simp⟩
      · rcases g10 b hb with hq | hq
        · exact (gG b hq).2 hb'
        · have := se.lt b hb'; omega
      · rcases List.mem_append.1 hb with hb | hb
        · have := gn b hb; have := se.lt b hb'; omega
        · exact (gB b hb).2 hb'
      · rcases g12 b hb with hq | hq
        · exact gE b hq
        · omega
      · exact ((f2.trans' f28).trans f10 fun b hb => .inr (gG b hb).1).trans f12 fun b hb => .inr (gE b hb)
    · rw [if_neg he] at heq
      (repeat refine gg ?_)
      have gw := f1.grow
      have := hR w7 o ev G B E (by rw [heq]; simpa using h2.fr f27) (by rw [heq]; simpa using se.fr f27 (by simp)) (fun b hb => by have := (gG b hb).1; omega) (fun b hb => by have := (gB b hb).1; omega) (fun b hb => by have := gE b hb; omega) (f1.trans' f17)
      rw [heq] at this
      exact this
  · (repeat refine gg ?_)
    rw [List.drop_eq_nil_of_le (by omega)] at heq
    simp only [recAllF, List.append_nil] at heq
    have gw := f1.grow
    have := hR w2 o ev G B E (by rw [heq]; exact h2) (by rw [heq]; exact se) (fun b hb => by have := (gG b hb).1; omega) (fun b hb => by have := (gB b hb).1; omega) (fun b hb => by have := gE b hb; omega) (f1.trans' f2)
    rw [heq] at this
    exact this
end
end Go.Proofs.YtofllgbdphakiaaGreatDoor
end

section
namespace Go.Proofs.YtofllgbdphakiaaGreatDoor
open Go.Den Go.Disk Go.Nm Go.Rec Go.Frame Go.Vint Go.Crc Go.Sg
def TabS (w0 : World) (F0 : List Nat) : Prop := ∀ w', Fr F0 w0 w' → Tab w'
def lgC (d : Nat) (l : Lg) : List Value := [ptrTo d, .int .u64 (l.seg : Int), .int .u64 (l.at_ : Int), .int .i64 l.most, .int .u64 (l.dirty : Int), .bool l.begun]
theorem lgC_one (d : Nat) (l : Lg) : ∀ u ∈ lgC d l, u.oneCell' = true := by
  intro u hu
  simp only [lgC, List.mem_cons, List.not_mem_nil, or_false] at hu
  rcases hu with rfl | rfl | rfl | rfl | rfl | rfl <;> rfl
def sysL (d : Nat) (s : Dk) : Option (Nat × Lg) → List HP
  | none => [diskHP d s]
  | some (p, l) => [pts p (lgC d l), diskHP d s]
def valL : Option (Nat × Lg) → Value
  | none => .pointer none
  | some (p, _) => ptrTo p
theorem cu64 {n : Nat} (h : n < 18446744073709551616) : convi .u64 (.int .i64 (n : Int)) = some (.int .u64 (n : Int)) := by
  simp only [convi]
  rw [wrap_u64 (by omega) (by omega)]
theorem ci64 {n : Nat} (h : n < 9223372036854775808) : convi .i64 (.int .u64 (n : Int)) = some (.int .i64 (n : Int)) := by
  simp only [convi]
  rw [wrap_i64 (by omega) (by omega)]
theorem add_u {x y : Nat} (h : x + y < 18446744073709551616) : binv .int .add (.int .u64 (x : Int)) (.int .u64 (y : Int)) = some (.int .u64 ((x + y : Nat) : Int)) := by
  rw [binv_add, wrap_u64 (by omega) (by omega)]
  simp
theorem inc_u {x : Nat} (h : x + 1 < 18446744073709551616) : binv .int .add (.int .u64 (x : Int)) (.int .u64 1) = some (.int .u64 ((x + 1 : Nat) : Int)) := add_u (y := 1) h
theorem sub_u {x y : Nat} (hxy : y ≤ x) (h : x < 18446744073709551616) : binv .int .sub (.int .u64 (x : Int)) (.int .u64 (y : Int)) = some (.int .u64 ((x - y : Nat) : Int)) := by
  rw [binv_sub, wrap_u64 (by omega) (by omega)]
  congr 2; omega
theorem min_u (a b : Nat) : min2v (.int .u64 (a : Int)) (.int .u64 (b : Int)) = some (.int .u64 ((min a b : Nat) : Int)) := by
  simp only [min2v]
  split <;> (congr 2; omega)
theorem slicev_u (sz : Nat) (v : Value) (n : Int) : slicev sz v (some (.int .u64 n)) none = slicev sz v (some (.int .i64 n)) none := rfl
theorem ptr_nilS {d : Nat} : binv .ptr .eql (ptrTo d) (.pointer none) = some (.bool false) := rfl
theorem recs_first {w : World} {v ev : Value} {r : List Rc × List Nat × Int} {G B E : List Nat} (h : RecL w v r.1 G B) (se : Slc encO 1 w ev r.2.1 E) (hl : r.1.length = r.2.1.length) (h0 : 0 < r.1.length) :
    ∃ (s : SV) (bv be : Nat) (x : Rc) (e : Nat), r.1[0]? = some x ∧ r.2.1[0]? = some e ∧ iaddr 3 v (.int .i64 0) = some (.pointer (some ⟨bv, 0, none⟩)) ∧ iaddr 1 ev (.int .i64 0) = some (.pointer (some ⟨be, 0, none⟩)) ∧ G = [bv] ∧ E = [be] ∧
      (∀ w', blk w' bv = blk w bv → loadn 3 w' (.pointer (some ⟨bv, 0, none⟩)) = some (.agg (encRc ((x.kind : Int), s, txB x.text)).toArray)) ∧ (∀ w', blk w' be = blk w be → load1 w' (.pointer (some ⟨be, 0, none⟩)) = some (.int .i64 (e : Int))) ∧
      (∃ H, Slc encU 1 w s.v x.n H ∧ ∀ b ∈ H, b ∈ B) := by
  obtain ⟨⟨cs, h1, h2, h3⟩, h4⟩ := h
  obtain ⟨x, hx⟩ : ∃ x, r.1[0]? = some x := ⟨_, List.getElem?_eq_getElem h0⟩
  obtain ⟨e, he⟩ : ∃ e, r.2.1[0]? = some e := ⟨_, List.getElem?_eq_getElem (by omega)⟩
  obtain ⟨s, H, c1, c2, c3⟩ := h3 0 x hx
  obtain ⟨bv, hG, i1⟩ := h1.iaddr (i := 0) (by omega) .i64
  obtain ⟨be, hE, i2⟩ := se.iaddr (i := 0) (by omega) .i64
  subst hG; subst hE
  refine ⟨s, bv, be, x, e, hx, he, by simpa using i1, by simpa using i2, rfl, rfl, fun w' hb => ?_, fun w' hb => ?_, H, c2, c3⟩
  · rw [loadn_congr hb]
    have := h1.loadn c1 (encRc_len _)
    simpa using this
  · have := se.load1 he (j := 0) (by omega)
    rw [Nat.zero_mul, Nat.zero_add] at this
    have hc : load1 w' (.pointer (some ⟨be, 0, none⟩)) = load1 w (.pointer (some ⟨be, 0, none⟩)) := cell?_congr hb
    rw [hc, this]; rfl
theorem recAllF_ends : ∀ (fs : List Fra) (k : Nat) (e : Int), (recAllF fs k e).1.length = (recAllF fs k e).2.1.length
  | [], _, _ => rfl
  | x :: r, k, e => by
    rw [recAllF_cons]
    split
    · simp [recAllF_ends r]
    · rfl
theorem recAll_ends (b : List UInt8) : (recAll b).1.length = (recAll b).2.1.length := recAllF_ends _ _ _
theorem read_sm {s : Dk} (h : Inv s) (n : ByteArray) : (Disk.read s n).1.length ≤ 1048576 := by
  unfold Disk.read
  split
  · simp
  · split
    · simp
    · rename_i f hf
      have h1 := h.wf.small _ (List.mem_of_getElem? (wf_pick h.wf hf))
      have h2 := h.wf.room.2
      simp only; omega
theorem create_mo (s : Dk) (n : ByteArray) : (create s n).1.dirs.length ≤ s.dirs.length + 1 ∧ (create s n).1.files.length ≤ s.files.length + 1 := by
  obtain ⟨h1, h2, _⟩ := can_keep s (createE s n)
  unfold create
  simp only
  split
  · simp
  · rw [h1, h2]; omega
theorem At.re {w0 w w' : World} {F0 : List Nat} {P : HP} (h : At w0 F0 P w) (f : Fr [] w w') : At w0 F0 P w' := h.fr0 f
set_option linter.unusedSimpArgs false
set_option linter.unusedVariables false
set_option maxRecDepth 20000
set_option maxHeartbeats 4000000
attribute [local congr] BND_cg COND_cg GEF_cg
attribute [local irreducible] capl slicea load1 loadn iaddr iaddra faddr storev newslice binv lookv mupd mdel mlenv mentry mestore slicev slicev3 slices indexs indexav textv rangev nexts clearv shiftv eqaggv convi buildv pickv lens lenl unv nilchk extractv partn JOIN
section
variable {w0 w w' : World} {F0 : List Nat} {d p : Nat} {s : Dk} {l : Lg} {R : Value → World → Prop}
theorem sg_disk (h : At w0 F0 (stars [pts p (lgC d l), diskHP d s]) w) : ∃ A, At w A (diskHP d s) w ∧ ∀ w2 s2, At w A (diskHP d s2) w2 → At w0 F0 (stars [pts p (lgC d l), diskHP d s2]) w2 := by
  obtain ⟨A, a, back⟩ := At.zoom h 1 rfl
  exact ⟨A, a, fun w2 s2 h2 => back w2 _ h2⟩
theorem sg_made (hT : TabS w0 F0) (h : At w0 F0 (diskHP d s) w) (seg : Nat) (hs : seg < 18446744073709551616) (most : Int) (hR0 : mayL seg most = false → ∀ w', At w0 F0 (diskHP d s) w' → R (.tuple #[.pointer none, .string ⟨#[]⟩, .int .i64 1]) w')
    (hR : mayL seg most = true → ∀ w' p, At w0 F0 (stars [pts p (lgC d ⟨seg, 0, most, seg, false⟩), diskHP d s]) w' → R (.tuple #[ptrTo p, .string (sgN seg), .int .i64 0]) w') : CALL PR F_seglog_made [ptrTo d, .int .u64 (seg : Int), .int .i64 most] w R := by
  refine C_seglog_made ?_
  unfold M_seglog_made
  refine name_Of (hT _ h.frame) 109 seg hs fun w1 f1 => ?_
  have h1 := h.fr0 f1
  have nil := ptr_nilS (d := d)
  unfold mayL at hR0 hR
  cases hk : okS seg with
  | false =>
    rw [nameOf_noS hk]
    rw [hk, Bool.and_false] at hR0
    by_cases q1 : most < 64
    · (repeat refine gg ?_); exact hR0 rfl _ h1
    by_cases q2 : 65536 < most
    · (repeat refine gg ?_); exact hR0 rfl _ h1
    (repeat refine gg ?_); exact hR0 rfl _ h1
  | true =>
    rw [nameOf_S hk]
    rw [hk, Bool.and_true] at hR0 hR
    by_cases q1 : most < 64
    · (repeat refine gg ?_); exact hR0 (by rw [decide_eq_false (by omega)]; rfl) _ h1
    by_cases q2 : 65536 < most
    · (repeat refine gg ?_); exact hR0 (by rw [decide_eq_false (show ¬ most ≤ 65536 by omega), Bool.and_false]) _ h1
    (repeat (first | refine gg ?_ | (apply BND_build (lgC d ⟨seg, 0, most, seg, false⟩); exact rfl)))
    refine NEW_intro fun w2 b2 f2 z2 => ?_
    refine hR (by rw [decide_eq_true (show 64 ≤ most by omega), decide_eq_true (show most ≤ 65536 by omega)]; rfl) _ _ ((At.wrap h1).add f2 (P := pts (hsz w1) (lgC d ⟨seg, 0, most, seg, false⟩)) (A := [hsz w1]) ⟨⟨_, b2⟩, rfl⟩ (by simp))
theorem sg_Begin (hT : TabS w0 F0) (h : At w0 F0 (diskHP d s) w) (hi : Inv s) (hn : s.dirs.length < 100000000) (hn2 : s.files.length < 100000000) (seg : Nat) (hs : seg < 18446744073709551616) (most : Int)
    (hR : ∀ w' o, o.map (·.2) = (lgBegin s seg most).2.1 → At w0 F0 (stars (sysL d (lgBegin s seg most).1 o)) w' → R (.tuple #[valL o, .int .i64 (lgBegin s seg most).2.2]) w') :
    CALL PR F_seglog_Begin [ptrTo d, .int .u64 (seg : Int), .int .i64 most] w R := by
  refine C_seglog_Begin ?_
  unfold M_seglog_Begin
  unfold lgBegin at hR
  refine sg_made hT h seg hs most (fun hm w1 h1 => ?_) fun hm w1 p h1 => ?_
  · rw [hm] at hR
    (repeat refine gg ?_)
    exact hR _ none rfl (At.wrap h1)
  · rw [hm] at hR
    simp only [if_true] at hR
    obtain ⟨A, z, back⟩ := sg_disk h1
    obtain ⟨T, b1⟩ := h1.cell (i := 0) rfl
    unfold ptrTo lgC at *
    (repeat refine gg ?_)
    refine dk_Create z hi.wf (by omega) (sgN seg) fun w2 z2 => ?_
    have h2 := back _ _ z2
    by_cases he : (create s (sgN seg)).2 = 0
    · rw [if_pos he] at hR
      (repeat refine gg ?_)
      refine h2.store (i := 0) rfl ⟨rfl, rfl⟩ (by simp) fun w3 h3 _ => ?_
      exact hR _ (some (p, ⟨seg, 0, most, seg, true⟩)) rfl h3
    · rw [if_neg he] at hR
      (repeat refine gg ?_)
      exact hR _ none rfl h2.tail
theorem sg_Open (hT : TabS w0 F0) (h : At w0 F0 (diskHP d s) w) (hi : Inv s) (hn : s.dirs.length < 100000000) (seg at_ : Nat) (hs : seg < 18446744073709551616) (ha : at_ < 18446744073709551616) (most : Int)
    (hR : ∀ w' o, o.map (·.2) = (lgOpen s seg at_ most).2.1 → At w0 F0 (stars (sysL d (lgOpen s seg at_ most).1 o)) w' → R (.tuple #[valL o, .int .i64 (lgOpen s seg at_ most).2.2]) w') :
    CALL PR F_seglog_Open [ptrTo d, .int .u64 (seg : Int), .int .u64 (at_ : Int), .int .i64 most] w R := by
  refine C_seglog_Open ?_
  unfold M_seglog_Open
  unfold lgOpen at hR
  have hrs := read_sm hi (sgN seg)
  refine sg_made hT h seg hs most (fun hm w1 h1 => ?_) fun hm w1 p h1 => ?_
  · rw [hm] at hR
    (repeat refine gg ?_)
    exact hR _ none rfl (At.wrap h1)
  · have hseg := okS_iff.1 (may_iff.1 hm).1
    rw [hm] at hR
    simp only [if_true] at hR
    obtain ⟨A, z, back⟩ := sg_disk h1
    obtain ⟨T, b1⟩ := h1.cell (i := 0) rfl
    unfold ptrTo lgC at *
    (repeat refine gg ?_)
    refine dk_Read z hi.wf (by omega) (sgN seg) fun w2 v2 G2 z2 s2 _ _ => ?_
    have h2 := back _ _ z2
    obtain ⟨T2, b2⟩ := h2.cell (i := 0) rfl
    generalize Disk.read s (sgN seg) = rd at *
    obtain ⟨bs, e⟩ := rd
    simp only at hR hrs s2 ⊢
    by_cases he : e = 0
    · rw [if_pos he] at hR
      have l2 := s2.len
      have cl := cu64 (n := bs.length) (by omega)
      have fin : ∀ w' s', At w0 F0 (stars [pts p (lgC d ⟨seg, 0, most, seg, false⟩), diskHP d s']) w' → (∀ w'', At w0 F0 (stars [pts p (lgC d ⟨seg, at_, most, seg + 1, false⟩), diskHP d s']) w'' → R (.tuple #[ptrTo p, .int .i64 0]) w'') →
          BND (binv .int .add (.int .u64 (seg : Int)) (Value.int .u64 1)) fun t66 => BND (nilchk (ptrTo p)) fun t67 => BND (faddr 2 t67) fun t68 => BND (storev 1 w' t68 (.int .u64 (at_ : Int))) fun w4 =>
            BND (nilchk (ptrTo p)) fun t69 => BND (faddr 4 t69) fun t70 => BND (storev 1 w4 t70 t66) fun w5 => R (.tuple #[ptrTo p, (Value.int .i64 0)]) w5 := by
        intro w' s' h' hk
        unfold ptrTo
        (repeat (first | refine BND_step (inc_u (x := seg) (by omega)) ?_ | refine gg ?_))
        refine h'.store (i := 0) rfl ⟨rfl, rfl⟩ (by simp [lgC]) fun w4 h4 _ => ?_
        (repeat refine gg ?_)
        refine h4.store (i := 0) rfl ⟨rfl, rfl⟩ (by simp [lgC]) fun w5 h5 _ => ?_
        exact hk _ h5
      by_cases q1 : bs.length < at_
      · rw [if_pos q1] at hR
        (repeat refine gg ?_)
        exact hR _ none rfl h2.tail
      · rw [if_neg q1] at hR
        by_cases q2 : at_ < bs.length
        · rw [if_pos q2] at hR
          (repeat refine gg ?_)
          refine join_w (fun w' => (cut s (sgN seg) at_).2 = 0 ∧ At w0 F0 (stars [pts p (lgC d ⟨seg, 0, most, seg, false⟩), diskHP d (cut s (sgN seg) at_).1]) w') (fun K hK => ?_) fun w' hq => ?_
          · obtain ⟨A2, z2', back2⟩ := sg_disk h2
            (repeat (first | refine BND_step (ci64 (n := at_) (by omega)) ?_ | refine gg ?_))
            refine dk_Cut z2' hi.wf (by omega) (sgN seg) at_ fun w3 z3 => ?_
            have h3 := back2 _ _ z3
            by_cases hc : (cut s (sgN seg) at_).2 = 0
            · (repeat refine gg ?_)
              exact hK _ ⟨hc, h3⟩
            · rw [if_neg hc] at hR
              (repeat refine gg ?_)
              exact hR _ none rfl h3.tail
          · rw [if_pos hq.1] at hR
            exact fin w' _ hq.2 fun w'' h'' => hR _ (some (p, _)) rfl h''
        · rw [if_neg q2] at hR
          (repeat refine gg ?_)
          refine join_w (fun w' => w' = w2) (fun K hK => ?_) fun w' hq => ?_
          · (repeat refine gg ?_)
            exact hK _ rfl
          · subst hq
            exact fin w' _ h2 fun w'' h'' => hR _ (some (p, _)) rfl h''
    · rw [if_neg he] at hR
      (repeat refine gg ?_)
      exact hR _ none rfl h2.tail
theorem sg_turn (hT : TabS w0 F0) (h : At w0 F0 (stars [pts p (lgC d l), diskHP d s]) w) (hi : Inv s) (hn : s.dirs.length < 100000000) (hn2 : s.files.length < 100000000) {m : Nat} (hl : LgOk l m)
    (hR : ∀ w', At w0 F0 (stars [pts p (lgC d (lgTurn s l).2.1), diskHP d (lgTurn s l).1]) w' → R (.int .i64 (lgTurn s l).2.2) w') : CALL PR F_seglog_Log_turn [ptrTo p] w R := by
  refine C_seglog_Log_turn ?_
  unfold M_seglog_Log_turn
  unfold lgTurn at hR
  have hseg := okS_iff.1 hl.seg
  obtain ⟨T, b⟩ := h.cell (i := 0) rfl
  unfold ptrTo
  unfold lgC ptrTo at b
  (repeat (first | refine BND_step (inc_u (x := l.seg) (by omega)) ?_ | refine gg ?_))
  refine name_Of (hT _ h.frame) 109 (l.seg + 1) (by omega) fun w1 f1 => ?_
  have h1 := h.fr0 f1
  obtain ⟨T1, b1⟩ := h1.cell (i := 0) rfl
  unfold lgC ptrTo at b1
  cases hk : okS (l.seg + 1) with
  | false =>
    rw [nameOf_noS hk]
    rw [hk] at hR
    (repeat refine gg ?_)
    exact hR _ h1
  | true =>
    rw [nameOf_S hk]
    rw [hk] at hR
    simp only [if_true] at hR
    obtain ⟨A, z, back⟩ := sg_disk h1
    (repeat refine gg ?_)
    refine dk_Create z hi.wf (by omega) (sgN (l.seg + 1)) fun w2 z2 => ?_
    have h2 := back _ _ z2
    obtain ⟨T2, b2⟩ := h2.cell (i := 0) rfl
    unfold lgC ptrTo at b2
    by_cases he : (create s (sgN (l.seg + 1))).2 = 0
    · rw [if_pos he] at hR
      (repeat (first | refine BND_step (inc_u (x := l.seg) (by omega)) ?_ | refine gg ?_))
      refine h2.store (i := 0) rfl ⟨rfl, rfl⟩ (by simp [lgC]) fun w3 h3 _ => ?_
      (repeat refine gg ?_)
      refine h3.store (i := 0) rfl ⟨rfl, rfl⟩ (by simp [lgC]) fun w4 h4 _ => ?_
      (repeat refine gg ?_)
      refine h4.store (i := 0) rfl ⟨rfl, rfl⟩ (by simp [lgC]) fun w5 h5 _ => ?_
      exact hR _ h5
    · rw [if_neg he] at hR
      (repeat refine gg ?_)
      exact hR _ h2
/-- bytes are put behind the last segment. -/
theorem sg_put (hT : TabS w0 F0) (h : At w0 F0 (stars [pts p (lgC d l), diskHP d s]) w) (hi : Inv s) (hn : s.dirs.length < 1000000000) (hn2 : s.files.length < 1000000000) {m : Nat} (hl : LgOk l m) (hm : m < 1000000000) {v : Value} {bs : List UInt8} {G : List Nat} (sb : Slc encB 1 w0 v bs G) (hG : ∀ b ∈ G, b ∉ F0) (hb : bs.length < 1000000)
    (hR : ∀ w', At w0 F0 (stars [pts p (lgC d (lgPut s l bs).2.1), diskHP d (lgPut s l bs).1]) w' → R (.tuple #[.int .u64 ((lgPut s l bs).2.2.1 : Int), .int .u64 ((lgPut s l bs).2.2.2.1 : Int), .int .i64 (lgPut s l bs).2.2.2.2]) w') :
  BND (nilchk (ptrTo p)) fun t50_35 =>
  BND (faddr 1 t50_35) fun t51_36 =>
  BND (load1 w t51_36) fun t52_37 =>
  CALL PR F_name_Of [(Value.int .u8 109), t52_37] w fun t53_38 w4 =>
  BND (extractv t53_38 0) fun t54_39 =>
  BND (extractv t53_38 1) fun t55_40 =>
  BND (nilchk (ptrTo p)) fun t57_41 =>
  BND (faddr 0 t57_41) fun t58_42 =>
  BND (load1 w4 t58_42) fun t59_43 =>
  CALL PR F_disk_Disk_Append [t59_43, t54_39, v] w4 fun t62_44 w5 =>
  BND (binv .int .neq t62_44 (Value.int .i64 0)) fun t64_45 =>
  COND t64_45
  (R (.tuple #[(Value.int .u64 0), (Value.int .u64 0), t62_44]) w5)
  (BND (nilchk (ptrTo p)) fun t67_46 =>
  BND (faddr 2 t67_46) fun t68_47 =>
  BND (load1 w5 t68_47) fun t69_48 =>
  BND (nilchk (ptrTo p)) fun t71_49 =>
  BND (faddr 2 t71_49) fun t72_50 =>
  BND (load1 w5 t72_50) fun t73_51 =>
  BND (lenl v) fun t75_52 =>
  BND (convi .u64 t75_52) fun t76_53 =>
  BND (binv .int .add t73_51 t76_53) fun t77_54 =>
  BND (nilchk (ptrTo p)) fun t78_55 =>
  BND (faddr 2 t78_55) fun t79_56 =>
  BND (storev 1 w5 t79_56 t77_54) fun w6 =>
  BND (nilchk (ptrTo p)) fun t82_57 =>
  BND (faddr 4 t82_57) fun t83_58 =>
  BND (nilchk (ptrTo p)) fun t86_59 =>
  BND (faddr 1 t86_59) fun t87_60 =>
  BND (load1 w6.drew t83_58) fun t84_61 =>
  BND (load1 w6.drew t87_60) fun t88_62 =>
  BND (min2v t84_61 t88_62) fun t89_63 =>
  BND (nilchk (ptrTo p)) fun t90_64 =>
  BND (faddr 4 t90_64) fun t91_65 =>
  BND (storev 1 w6.drew t91_65 t89_63) fun w7 =>
  BND (nilchk (ptrTo p)) fun t93_66 =>
  BND (faddr 1 t93_66) fun t94_67 =>
  BND (load1 w7 t94_67) fun t95_68 =>
  R (.tuple #[t95_68, t69_48, (Value.int .i64 0)]) w7) := by
  have hseg := okS_iff.1 hl.seg
  have hat := hl.at_
  have hdd := hl.dirty
  unfold lgPut at hR
  obtain ⟨T, b⟩ := h.cell (i := 0) rfl
  unfold ptrTo
  unfold lgC ptrTo at b
  (repeat refine gg ?_)
  refine name_Of (hT _ h.frame) 109 l.seg (by omega) fun w1 f1 => ?_
  have h1 := h.fr0 f1
  obtain ⟨T1, b1⟩ := h1.cell (i := 0) rfl
  unfold lgC ptrTo at b1
  rw [nameOf_S hl.seg]
  have l2 := sb.len
  obtain ⟨A, za, hAa, hA0, back⟩ := At.zoom3 h1 (Fr.refl _ _) 1 rfl
  (repeat refine gg ?_)
  refine dk_Append za hi.wf (by omega) (by omega) (sgN l.seg) (by omega) l2 (fun w' f => ?_) fun w2 z2 => ?_
  · have fw : Fr F0 w0 w' := h1.frame.trans f hA0
    exact (sb.fr fw hG).loads encB_len
  have h2 := back _ _ z2
  simp only [List.set_cons_succ, List.set_cons_zero] at h2
  obtain ⟨T2, b2⟩ := h2.cell (i := 0) rfl
  unfold lgC ptrTo at b2
  by_cases he : (append s (sgN l.seg) bs).2 = 0
  · rw [if_pos he] at hR
    have cl := cu64 (n := bs.length) (by omega)
    have ea := add_u (x := l.at_) (y := bs.length) (by omega)
    have em := min_u l.dirty l.seg
    (repeat refine gg ?_)
    refine h2.store (i := 0) rfl ⟨rfl, rfl⟩ (by simp [lgC]) fun w3 h3 _ => ?_
    have h3d := h3.fr0 (Fr.drew [] w3)
    obtain ⟨T3, b3⟩ := h3d.cell (i := 0) rfl
    replace b3 : blk w3.drew p = some (.cells [.pointer (some ⟨d, 0, none⟩), .int .u64 (l.seg : Int), .int .u64 ((l.at_ + bs.length : Nat) : Int), .int .i64 l.most, .int .u64 (l.dirty : Int), .bool l.begun].toArray T3 (0, 0)) := b3
    (repeat refine gg ?_)
    refine h3d.store (i := 0) rfl ⟨rfl, rfl⟩ (by simp [lgC]) fun w4 h4 _ => ?_
    obtain ⟨T4, b4⟩ := h4.cell (i := 0) rfl
    replace b4 : blk w4 p = some (.cells [.pointer (some ⟨d, 0, none⟩), .int .u64 (l.seg : Int), .int .u64 ((l.at_ + bs.length : Nat) : Int), .int .i64 l.most, .int .u64 ((min l.dirty l.seg : Nat) : Int), .bool l.begun].toArray T4 (0, 0)) := b4
    (repeat refine gg ?_)
    exact hR _ h4
  · rw [if_neg he] at hR
    (repeat refine gg ?_)
    exact hR _ h2
theorem sg_Append (hT : TabS w0 F0) (h : At w0 F0 (stars [pts p (lgC d l), diskHP d s]) w) (hi : Inv s) (hn : s.dirs.length < 100000000) (hn2 : s.files.length < 100000000) {m : Nat} (hl : LgOk l m) (hm : m < 1000000000) {nv : SV} {ns : List Nat} (k : Int) (t : ByteArray) (hv : Arr encU 1 w nv.v ns) (hs : ∀ n ∈ ns, n < 18446744073709551616)
    (hR : ∀ w', At w0 F0 (stars [pts p (lgC d (lgAppend s l k ns t.data.toList).2.1), diskHP d (lgAppend s l k ns t.data.toList).1]) w' → R (.tuple #[.int .u64 ((lgAppend s l k ns t.data.toList).2.2.1 : Int), .int .u64 ((lgAppend s l k ns t.data.toList).2.2.2.1 : Int), .int .i64 (lgAppend s l k ns t.data.toList).2.2.2.2]) w') :
    CALL PR F_seglog_Log_Append [ptrTo p, .agg (encRc (k, nv, t)).toArray] w R := by
  refine C_seglog_Log_Append ?_
  unfold M_seglog_Log_Append
  have ets : t.data.toList.length = t.size := Array.length_toList
  unfold lgAppend at hR
  rw [ets] at hR
  refine NEW_intro fun w1 b1 f1 z1 => ?_
  replace b1 : blk w1 (hsz w) = some (.cells (encRc (k, nv, t)).toArray 37 (0, 0)) := b1
  (repeat (first | refine BND_step (loadn_all' b1 rfl) ?_ | refine gg ?_))
  refine rec_Bytes k t (hv.fr f1 (by simp)) hs (fun w2 hno f2 => ?_) fun w2 v2 G2 hyes s2 g2 f2 => ?_
  · rw [hno] at hR
    (repeat refine gg ?_)
    exact hR _ ((h.fr0 f1).fr0 f2)
  · rw [hyes] at hR
    simp only [if_true] at hR
    have hlen := recB_len (k := k) (ns := ns) (t := t.data.toList) (by rw [ets]; exact hyes) hs
    generalize recB k.toNat ns t.data.toList = bs at *
    have hz := (f1.trans' f2).grow
    have h2 := (h.fr0 f1).fr0 f2
    have h2d := h2.fr0 (Fr.drew [] w2)
    have s2d := s2.fr (Fr.drew [] w2) (by simp)
    have g2d : ∀ b ∈ G2, hsz w ≤ b := fun b hb => by have := g2 b hb; have := f1.grow; omega
    obtain ⟨T2, b2⟩ := h2d.cell (i := 0) rfl
    have hat := hl.at_
    have hlo := hl.lo
    have hhi := hl.hi
    have l2 := s2.len
    have ncast : l.most = ((l.most.toNat : Nat) : Int) := by omega
    have cm : convi .u64 (.int .i64 l.most) = some (.int .u64 l.most) := by rw [ncast]; exact cu64 (by omega)
    unfold ptrTo
    unfold lgC ptrTo at b2
    obtain ⟨A, hA, hAlt, hA0, back⟩ := At.re3 h ((f1.trans' f2).trans' (Fr.drew [] w2))
    have fb : Fr F0 w0 w2.drew := ((h.fr0 f1).fr0 f2).fr0 (Fr.drew [] w2) |>.frame
    have hTA : TabS w2.drew A := fun w' fr => hT w' (fb.trans fr hA0)
    have hGA : ∀ b ∈ G2, b ∉ A := fun b hb hb' => by have := g2d b hb; have := hAlt b hb'; omega
    replace hR := fun w' h' => hR w' (back _ _ h')
    unfold lgB at hR
    have rest : ∀ {Q : Prop}, (∀ s' l', Inv s' → s'.dirs.length < 1000000000 → s'.files.length < 1000000000 → LgOk l' m → (∀ w', At w2.drew A (stars [pts p (lgC d (lgPut s' l' bs).2.1), diskHP d (lgPut s' l' bs).1]) w' → R (.tuple #[.int .u64 ((lgPut s' l' bs).2.2.1 : Int), .int .u64 ((lgPut s' l' bs).2.2.2.1 : Int), .int .i64 (lgPut s' l' bs).2.2.2.2]) w') → Q) → True := fun _ => trivial
    clear rest
    by_cases q : 0 < l.at_ ∧ l.most < ((l.at_ + bs.length : Nat) : Int)
    · rw [if_pos q] at hR
      have q1 := q.1
      have q2 : l.most < ((l.at_ + bs.length : Nat) : Int) := q.2
      have cl := cu64 (n := bs.length) (by omega)
      have ea := add_u (x := l.at_) (y := bs.length) (by omega)
      (repeat refine gg ?_)
      refine join_w (fun w' => (lgTurn s l).2.2 = 0 ∧ At w2.drew A (stars [pts p (lgC d (lgTurn s l).2.1), diskHP d (lgTurn s l).1]) w') (fun K hK => ?_) fun w' hq => ?_
      · (repeat refine gg ?_)
        refine sg_turn hTA hA hi (by omega) (by omega) hl fun w3 h3 => ?_
        by_cases he : (lgTurn s l).2.2 = 0
        · (repeat refine gg ?_)
          exact hK _ ⟨he, h3⟩
        · rw [if_neg he] at hR
          (repeat refine gg ?_)
          exact hR _ h3
      · rw [if_pos hq.1] at hR
        have hmo := create_mo s (sgN (l.seg + 1))
        have hto : (lgTurn s l).1.dirs.length ≤ s.dirs.length + 1 ∧ (lgTurn s l).1.files.length ≤ s.files.length + 1 := by
          unfold lgTurn
          split
          · split <;> exact hmo
          · simp
        exact sg_put hTA hq.2 (inv_turn hi l) (by omega) (by omega) (turn_ok hl) hm s2d hGA (by omega) hR
    · rw [if_neg q] at hR
      have cl := cu64 (n := bs.length) (by omega)
      have ea := add_u (x := l.at_) (y := bs.length) (by omega)
      have fin : ∀ w', w' = w2.drew → At w2.drew A (stars [pts p (lgC d l), diskHP d s]) w' := fun w' e => by rw [e]; exact hA
      by_cases q1 : 0 < l.at_
      · have q2 : ¬ l.most < ((l.at_ + bs.length : Nat) : Int) := fun h => q ⟨q1, h⟩
        (repeat refine gg ?_)
        refine join_w (fun w' => w' = w2.drew) (fun K hK => ?_) fun w' hq => ?_
        · (repeat refine gg ?_)
          exact hK _ rfl
        · exact sg_put hTA (fin w' hq) hi (by omega) (by omega) hl hm s2d hGA (by omega) hR
      · (repeat refine gg ?_)
        refine join_w (fun w' => w' = w2.drew) (fun K hK => ?_) fun w' hq => ?_
        · (repeat refine gg ?_)
          exact hK _ rfl
        · exact sg_put hTA (fin w' hq) hi (by omega) (by omega) hl hm s2d hGA (by omega) hR
theorem sg_At (hT : TabS w0 F0) (h : At w0 F0 (diskHP d s) w) (hi : Inv s) (hn : s.dirs.length < 100000000) (seg at_ : Nat) (hs : seg < 18446744073709551616) (ha : at_ < 18446744073709551616)
    (hR : ∀ w' (nv : SV) G, At w0 F0 (diskHP d s) w' → Slc encU 1 w' nv.v (lgRead s seg at_).1.n G → (∀ b ∈ G, hsz w ≤ b) → Fr [] w w' → R (.tuple #[.agg (encRc (((lgRead s seg at_).1.kind : Int), nv, txB (lgRead s seg at_).1.text)).toArray, .int .i64 ((lgRead s seg at_).2.1 : Int), .int .i64 (lgRead s seg at_).2.2]) w') :
    CALL PR F_seglog_At [ptrTo d, .int .u64 (seg : Int), .int .u64 (at_ : Int)] w R := by
  refine C_seglog_At ?_
  unfold M_seglog_At
  unfold lgRead at hR
  have hrs := read_sm hi (sgN seg)
  refine NEW_intro fun w1 b1 f1 z1 => ?_
  have h1 := (At.wrap h).add f1 (P := pts (hsz w) [.int .i64 0, .slice none 0 0, .string ByteArray.empty]) (A := [hsz w]) ⟨⟨_, b1⟩, rfl⟩ (by simp)
  have none_ : ∀ {w2} (e : Int), At w0 F0 (stars [pts (hsz w) [.int .i64 0, .slice none 0 0, .string ByteArray.empty], diskHP d s]) w2 → Fr [] w w2 → (∀ w' (nv : SV) G, At w0 F0 (diskHP d s) w' → Slc encU 1 w' nv.v zeroR.n G → (∀ b ∈ G, hsz w ≤ b) → Fr [] w w' → R (.tuple #[.agg (encRc ((zeroR.kind : Int), nv, txB zeroR.text)).toArray, .int .i64 ((0 : Nat) : Int), .int .i64 e]) w') →
      BND (buildv #[(Value.int .i64 0), (Value.slice none 0 0), (Value.string ByteArray.empty)] []) fun t21 => BND (storev 3 w2 (.pointer (some ⟨hsz w, 0, none⟩)) t21) fun w3 => BND (loadn 3 w3 (.pointer (some ⟨hsz w, 0, none⟩))) fun r => R (.tuple #[r, (Value.int .i64 0), .int .i64 e]) w3 := by
    intro w2 e h2 f02 hR
    (repeat (first | refine gg ?_ | (apply BND_build ([.int .i64 0, .slice none 0 0, .string ByteArray.empty]); exact rfl)))
    refine h2.put (i := 0) rfl rfl rfl (by intro u hu; simp at hu; rcases hu with rfl | rfl | rfl <;> rfl) (by simp) fun w3 h3 f3 => ?_
    obtain ⟨T3, b3⟩ := h3.cell (i := 0) rfl
    (repeat (first | refine BND_step (loadn_all' b3 rfl) ?_ | refine gg ?_))
    exact hR w3 ⟨none, 0, 0⟩ [] (At.unwrap h3.tail) (Slc.nil _ _ _) (by simp) (f02.trans f3 fun b hb => .inr (by simp at hb; omega))
  refine name_Of (hT _ h1.frame) 109 seg hs fun w2 f2 => ?_
  have h2 := h1.fr0 f2
  have f02 := f1.trans' f2
  cases hk : okS seg with
  | false =>
    rw [nameOf_noS hk]
    rw [hk] at hR
    (repeat refine gg ?_)
    exact none_ 1 h2 f02 hR
  | true =>
    rw [nameOf_S hk]
    rw [hk] at hR
    simp only [if_true] at hR
    obtain ⟨A, z, back⟩ := At.zoom h2 1 rfl
    (repeat refine gg ?_)
    refine dk_Read z hi.wf (by omega) (sgN seg) fun w4 v4 G4 z4 s4 g4 f4 => ?_
    have h4 := back _ _ z4
    simp only [List.set_cons_succ, List.set_cons_zero] at h4
    have f04 := f02.trans' f4
    generalize Disk.read s (sgN seg) = rd at *
    obtain ⟨bs, e⟩ := rd
    simp only at hR hrs s4 ⊢
    by_cases he : e = 0
    · rw [if_pos he] at hR
      have l4 := s4.len
      have cl := cu64 (n := bs.length) (by omega)
      by_cases q1 : bs.length < at_
      · rw [if_pos q1] at hR
        (repeat refine gg ?_)
        exact none_ 3 h4 f04 hR
      · rw [if_neg q1] at hR
        obtain ⟨pv, ep, sp⟩ : ∃ pv, slicev 1 v4 (some (.int .u64 (at_ : Int))) none = some pv ∧ ArrC encB 1 w4 pv (bs.drop at_) := by
          obtain ⟨pv, e1, e2⟩ := s4.arrC.from (lo := at_) (by omega)
          exact ⟨pv, (slicev_u _ _ _).trans e1, e2⟩
        (repeat refine gg ?_)
        refine rec_All sp (by rw [List.length_drop]; omega) fun w7 v7 ev7 G7 B7 E7 rl se gG gB gE f7 => ?_
        have h7 := h4.fr0 f7
        have f07 := f04.trans' f7
        have hlen := recAll_ends (bs.drop at_)
        have rll := rl.len
        generalize recAll (bs.drop at_) = ra at *
        by_cases q2 : 0 < ra.1.length
        · obtain ⟨sv, bv, be, x, en, ex, ee, i1, i2, rfl, rfl, ld, le, H, sh, hH⟩ := recs_first rl se hlen q2
          have hfirst : firstR ra = (x, en, 0) := by
            obtain ⟨l1, l2, e3⟩ := ra
            unfold firstR
            cases l1 with
            | nil => simp at ex
            | cons a r =>
              cases l2 with
              | nil => simp at ee
              | cons b r2 =>
                simp at ex ee
                subst ex; subst ee
                rfl
          rw [hfirst] at hR
          (repeat refine gg ?_)
          refine ⟨fun _ w' => load1 w' (.pointer (some ⟨be, 0, none⟩)) = some (.int .i64 (en : Int)), le _ rfl, ?_⟩
          (repeat (first | refine BND_step (ld w7.drew rfl) ?_ | refine gg ?_ | refine FLT.mk _ (fun _ hw_ => hw_) ?_))
          have h7d := h7.fr0 (Fr.drew [] w7)
          refine h7d.put (i := 0) rfl rfl (encRc_len _) (encRc_one _) (by simp [encRc]) fun w8 h8 f8 => ?_
          have gr := (f04.trans' f7).grow
          have gr0 := f04.grow
          have gr1 := (f2.trans' f4).grow
          have bne : be ≠ hsz w := fun e => by have := gE be (by simp); have := f1.grow; omega
          refine ⟨?_, ?_⟩
          · exact le w8 (f8.keep be (by have := se.lt be (by simp); exact this) (by simpa using bne))
          obtain ⟨T8, b8⟩ := h8.cell (i := 0) rfl
          (repeat (first | refine BND_step (loadn_all' b8 (encRc_len _)) ?_ | refine gg ?_))
          refine hR w8 sv H (At.unwrap h8.tail) ((sh.fr (Fr.drew [] w7) (by simp)).fr f8 fun b hb hb' => ?_) (fun b hb => ?_) ((f07.trans' (Fr.drew [] w7)).trans f8 fun b hb => .inr (by simp at hb; omega))
          · have := gB b (hH b hb); simp at hb'; omega
          · have := gB b (hH b hb); omega
        · have hz : ra.1 = [] := List.length_eq_zero_iff.1 (by omega)
          have hfirst : firstR ra = if ra.2.2 = 0 then (zeroR, 0, 3) else (zeroR, 0, ra.2.2) := by
            obtain ⟨l1, l2, e3⟩ := ra
            simp at hz; subst hz
            rfl
          rw [hfirst] at hR
          by_cases q3 : ra.2.2 = 0
          · rw [if_pos q3] at hR
            (repeat refine gg ?_)
            exact none_ 3 h7 f07 hR
          · rw [if_neg q3] at hR
            (repeat refine gg ?_)
            exact none_ _ h7 f07 hR
    · rw [if_neg he] at hR
      (repeat refine gg ?_)
      exact none_ e h4 f04 hR
theorem sg_Read (hT : TabS w0 F0) (h : At w0 F0 (stars [pts p (lgC d l), diskHP d s]) w) (hi : Inv s) (hn : s.dirs.length < 100000000) (seg at_ : Nat) (hs : seg < 18446744073709551616) (ha : at_ < 18446744073709551616)
    (hR : ∀ w' (nv : SV) G, At w0 F0 (stars [pts p (lgC d l), diskHP d s]) w' → Slc encU 1 w' nv.v (lgRead s seg at_).1.n G → (∀ b ∈ G, hsz w ≤ b) → Fr [] w w' → R (.tuple #[.agg (encRc (((lgRead s seg at_).1.kind : Int), nv, txB (lgRead s seg at_).1.text)).toArray, .int .i64 ((lgRead s seg at_).2.1 : Int), .int .i64 (lgRead s seg at_).2.2]) w') :
    CALL PR F_seglog_Log_Read [ptrTo p, .int .u64 (seg : Int), .int .u64 (at_ : Int)] w R := by
  refine C_seglog_Log_Read ?_
  unfold M_seglog_Log_Read
  refine NEW_intro fun w1 b1 f1 z1 => ?_
  have h1 := h.add f1 (P := pts (hsz w) [.int .i64 0, .slice none 0 0, .string ByteArray.empty]) (A := [hsz w]) ⟨⟨_, b1⟩, rfl⟩ (by simp)
  obtain ⟨T, c⟩ := h1.cell (i := 1) rfl
  unfold lgC ptrTo at c
  obtain ⟨A, za, hAa, hA0, back⟩ := At.zoom3 h1 (Fr.refl _ _) 2 rfl
  have hTA : TabS w1 A := fun w' fr => hT w' (h1.frame.trans fr hA0)
  unfold ptrTo
  (repeat refine gg ?_)
  refine sg_At hTA za hi hn seg at_ hs ha fun w2 nv G z2 s2 g2 f2 => ?_
  have h2 := back _ _ z2
  simp only [List.set_cons_succ, List.set_cons_zero] at h2
  (repeat refine gg ?_)
  refine h2.put (i := 0) rfl rfl (encRc_len _) (encRc_one _) (by simp [encRc]) fun w3 h3 f3 => ?_
  obtain ⟨T3, b3⟩ := h3.cell (i := 0) rfl
  (repeat (first | refine BND_step (loadn_all' b3 (encRc_len _)) ?_ | refine gg ?_))
  have f02 := f1.trans' f2
  refine hR w3 nv G h3.tail (s2.fr f3 fun b hb hb' => ?_) (fun b hb => ?_) (f02.trans f3 fun b hb => .inr (by simp at hb; omega))
  · have := g2 b hb; simp at hb'; omega
  · have := g2 b hb; omega
theorem sg_End (h : At w0 F0 (stars [pts p (lgC d l), diskHP d s]) w) (hR : R (.tuple #[.int .u64 (l.seg : Int), .int .u64 (l.at_ : Int)]) w.drew) : CALL PR F_seglog_Log_End [ptrTo p] w R := by
  refine C_seglog_Log_End ?_
  unfold M_seglog_Log_End
  have hd := h.fr0 (Fr.drew [] w)
  obtain ⟨T, c⟩ := hd.cell (i := 0) rfl
  unfold lgC ptrTo at c
  unfold ptrTo
  (repeat refine gg ?_)
  exact hR
theorem sg_Sync (hT : TabS w0 F0) (h : At w0 F0 (stars [pts p (lgC d l), diskHP d s]) w) (hi : Inv s) (hn : s.dirs.length < 100000000) {m : Nat} (hl : LgOk l m)
    (hR : ∀ w', At w0 F0 (stars [pts p (lgC d (lgSync s l).2.1), diskHP d (lgSync s l).1]) w' → R (.int .i64 (lgSync s l).2.2) w') : CALL PR F_seglog_Log_Sync [ptrTo p] w R := by
  refine C_seglog_Log_Sync ?_
  unfold M_seglog_Log_Sync
  have hseg := okS_iff.1 hl.seg
  have hdd := hl.dirty
  have hd := h.fr0 (Fr.drew [] w)
  obtain ⟨T, c⟩ := hd.cell (i := 0) rfl
  unfold lgC ptrTo at c
  unfold ptrTo
  have i1 := inc_u (x := l.seg) (by omega)
  have em : min2v (.int .u64 (l.dirty : Int)) (.int .u64 ((l.seg + 1 : Nat) : Int)) = some (.int .u64 (l.dirty : Int)) := by
    have := min_u l.dirty (l.seg + 1)
    rwa [Nat.min_eq_left hdd] at this
  have es := sub_u (x := l.seg + 1) (y := l.dirty) hdd (by omega)
  (repeat refine gg ?_)
  unfold lgSync at hR
  simp only at hR
  generalize hN : l.seg + 1 - l.dirty = N at *
  refine ⟨fun t w' => ∃ (i : Nat) (s' : Dk), t = .int .u64 (i : Int) ∧ i ≤ N ∧ At w0 F0 (stars [pts p (lgC d l), diskHP d s']) w' ∧ Inv s' ∧ s'.dirs.length < 100000000 ∧ syncs N l.dirty s = syncs (N - i) (l.dirty + i) s', fun t _ => match t with | .int _ k => N - k.toNat | _ => 0, ⟨0, s, rfl, by omega, hd, hi, hn, rfl⟩, ?_⟩
  rintro _ _ w1 ⟨i, s', rfl, hiN, h1, hi1, hn1, hsy⟩
  obtain ⟨T1, c1⟩ := h1.cell (i := 0) rfl
  unfold lgC ptrTo at c1
  by_cases hlt : i < N
  · have ei := add_u (x := l.dirty) (y := i) (by omega)
    (repeat refine gg ?_)
    refine name_Of (hT _ h1.frame) 109 (l.dirty + i) (by omega) fun w2 f2 => ?_
    have h2 := h1.fr0 f2
    obtain ⟨T2, c2⟩ := h2.cell (i := 0) rfl
    unfold lgC ptrTo at c2
    rw [nameOf_S (okS_iff.2 (by omega))]
    obtain ⟨A, z, back⟩ := sg_disk h2
    (repeat refine gg ?_)
    refine dk_Sync z hi1.wf (by omega) (sgN (l.dirty + i)) fun w3 z3 => ?_
    have h3 := back _ _ z3
    obtain ⟨j, hj⟩ : ∃ j, N - i = j + 1 := ⟨N - i - 1, by omega⟩
    rw [hj] at hsy
    rw [syncs_succ] at hsy
    by_cases he : (sync s' (sgN (l.dirty + i))).2 = 0
    · rw [if_pos he] at hsy
      (repeat (first | refine BND_step (inc_u (x := i) (by omega)) ?_ | refine gg ?_))
      have := sync_same' s' (sgN (l.dirty + i))
      refine ⟨⟨i + 1, _, rfl, by omega, h3, inv_sync hi1 _, by omega, ?_⟩, by simp only [Int.toNat_natCast]; omega⟩
      rw [hsy, show N - (i + 1) = j by omega, Nat.add_assoc]
    · rw [if_neg he] at hsy
      rw [hsy, if_neg he] at hR
      (repeat refine gg ?_)
      exact hR _ h3
  · have hiN' : i = N := by omega
    subst hiN'
    rw [Nat.sub_self] at hsy
    rw [syncs_zero] at hsy
    rw [hsy] at hR
    simp only [if_true] at hR
    (repeat refine gg ?_)
    have fin : ∀ (s2 : Dk) w', At w0 F0 (stars [pts p (lgC d l), diskHP d s2]) w' → (∀ w'', At w0 F0 (stars [pts p (lgC d { l with dirty := l.seg + 1, begun := false }), diskHP d s2]) w'' → R (.int .i64 0) w'') →
        BND (nilchk (ptrTo p)) fun t62 => BND (faddr 1 t62) fun t63 => BND (load1 w' t63) fun t64 => BND (binv .int .add t64 (Value.int .u64 1)) fun t65 => BND (nilchk (ptrTo p)) fun t66 => BND (faddr 4 t66) fun t67 => BND (storev 1 w' t67 t65) fun w5 =>
          BND (nilchk (ptrTo p)) fun t68 => BND (faddr 5 t68) fun t69 => BND (storev 1 w5 t69 (Value.bool false)) fun w6 => R (Value.int .i64 0) w6 := by
      intro s2 w' h' hk
      obtain ⟨T', c'⟩ := h'.cell (i := 0) rfl
      unfold lgC ptrTo at c'
      unfold ptrTo
      (repeat refine gg ?_)
      refine h'.store (i := 0) rfl ⟨rfl, rfl⟩ (by simp [lgC]) fun w5 h5 _ => ?_
      (repeat refine gg ?_)
      refine h5.store (i := 0) rfl ⟨rfl, rfl⟩ (by simp [lgC]) fun w6 h6 _ => ?_
      exact hk _ h6
    cases hbg : l.begun with
    | false =>
      rw [hbg] at hR
      simp only [Bool.false_eq_true, if_false] at hR
      refine join_w (fun w' => w' = w1) (fun K hK => ?_) fun w' hq => ?_
      · (repeat refine gg ?_)
        exact hK _ rfl
      · rw [hq]
        exact fin s' w1 h1 hR
    | true =>
      rw [hbg] at hR
      simp only [if_true] at hR
      refine join_w (fun w' => (dirsync s').2 = 0 ∧ At w0 F0 (stars [pts p (lgC d l), diskHP d (dirsync s').1]) w') (fun K hK => ?_) fun w' hq => ?_
      · obtain ⟨A, z, back⟩ := sg_disk h1
        (repeat refine gg ?_)
        refine dk_DirSync z hi1.wf (by omega) fun w3 z3 => ?_
        have h3 := back _ _ z3
        by_cases he : (dirsync s').2 = 0
        · (repeat refine gg ?_)
          exact hK _ ⟨he, h3⟩
        · rw [if_neg he] at hR
          (repeat refine gg ?_)
          exact hR _ h3
      · rw [if_pos hq.1] at hR
        exact fin _ w' hq.2 hR
end
end Go.Proofs.YtofllgbdphakiaaGreatDoor
end

section
set_option linter.unusedSimpArgs false
set_option linter.unusedVariables false
namespace Go.Sg
open Go.Den Go.Disk Go.Nm Go.Rec Go.Frame Go.Ev Go.Proofs.YtofllgbdphakiaaGreatDoor
structure Pc where
  k : Int
  ns : List Nat
  t : List UInt8
  seg : Nat
  at_ : Nat
def Pc.b (x : Pc) : List UInt8 := recB x.k.toNat x.ns x.t
def Pc.rc (x : Pc) : Rc := ⟨x.k.toNat, x.ns, x.t⟩
structure OkP (x : Pc) : Prop where
  right : rightB x.k x.ns.length x.t.length = true
  small : ∀ n ∈ x.ns, n < 18446744073709551616
theorem OkP.len {x : Pc} (h : OkP x) : 11 ≤ x.b.length ∧ x.b.length ≤ 175 := recB_len h.right h.small
def segB (ps : List Pc) (k : Nat) : List UInt8 := ps.flatMap fun x => if x.seg = k then x.b else []
theorem segB_app (a b : List Pc) (k : Nat) : segB (a ++ b) k = segB a k ++ segB b k := by unfold segB; rw [List.flatMap_append]
theorem segB_one (x : Pc) (k : Nat) : segB [x] k = if x.seg = k then x.b else [] := by unfold segB; simp
theorem segB_none {ps : List Pc} {k : Nat} (h : ∀ x ∈ ps, x.seg ≠ k) : segB ps k = [] := by
  unfold segB
  rw [List.flatMap_eq_nil_iff]
  intro x hx
  rw [if_neg (h x hx)]
theorem segB_at {ps : List Pc} {i : Nat} {x : Pc} (h : ps[i]? = some x) : segB ps x.seg = segB (ps.take i) x.seg ++ (x.b ++ segB (ps.drop (i + 1)) x.seg) := by
  obtain ⟨hi, he⟩ := List.getElem?_eq_some_iff.1 h
  have e : ps.take i ++ x :: ps.drop (i + 1) = ps := by rw [← he, ← List.drop_eq_getElem_cons hi, List.take_append_drop]
  have q := segB_app (ps.take i) (x :: ps.drop (i + 1)) x.seg
  rw [e] at q
  rw [q, show x :: ps.drop (i + 1) = [x] ++ ps.drop (i + 1) from rfl, segB_app, segB_one, if_pos rfl]
/-! ## What is read -/
theorem recAll_first {k : Nat} {ns : List Nat} {t : List UInt8} (h : rightB k ns.length t.length = true) (hs : ∀ n ∈ ns, n < 18446744073709551616) (r : List UInt8) : firstR (recAll (recB k ns t ++ r)) = (⟨k, ns, t⟩, (recB k ns t).length, 0) := by
  have hb := body_small h hs
  have e := frAll_cons (toFra k ns t) (by unfold toFra; simp only; omega) r 0
  unfold recAll
  rw [show recB k ns t = frB (toFra k ns t) from rfl, e]
  have er : recRead (toFra k ns t) = (⟨k, ns, t⟩, 0) := recRead_of h hs
  simp only [recAllF, er, if_true, frB_len]
  unfold firstR
  simp
theorem first_none : firstR (recAll []) = (zeroR, 0, 3) := by
  unfold recAll
  rw [frAll_nil]
  rfl
theorem OkP.first {x : Pc} (h : OkP x) (r : List UInt8) : firstR (recAll (x.b ++ r)) = (x.rc, x.b.length, 0) := by
  have h1 := right_known h.right
  exact recAll_first (by rw [show ((x.k.toNat : Nat) : Int) = x.k by omega]; exact h.right) h.small r
structure Held (s : Dk) (ps : List Pc) : Prop where
  at_ : ∀ i x, ps[i]? = some x → OkP x ∧ okS x.seg = true ∧ Disk.read s (sgN x.seg) = (segB ps x.seg, 0) ∧ x.at_ = (segB (ps.take i) x.seg).length
theorem Held.read {s : Dk} {ps : List Pc} (h : Held s ps) {i : Nat} {x : Pc} (hx : ps[i]? = some x) : lgRead s x.seg x.at_ = (x.rc, x.b.length, 0) := by
  obtain ⟨h1, h2, h3, h4⟩ := h.at_ i x hx
  unfold lgRead
  rw [if_pos h2, h3]
  simp only [if_true]
  rw [segB_at hx, if_neg (by rw [List.length_append]; omega), h4, List.drop_left]
  exact h1.first _
/-! ## A log on a disk of its own -/
theorem sumF_set {fs : List Fl} {f : Nat} {x y : Fl} (h : fs[f]? = some x) : sumF (fs.set f y) + x.b.length = sumF fs + y.b.length := by
  unfold sumF
  induction fs generalizing f with
  | nil => simp at h
  | cons a fs ih =>
    cases f with
    | zero => simp at h; subst h; simp; omega
    | succ f =>
      have := ih (f := f) (by simpa using h)
      simp only [List.set_cons_succ, List.map_cons, List.sum_cons]; omega
structure Full (s : Dk) (room : Int) (l : Lg) (s0 : Nat) (ps : List Pc) (c m : Nat) : Prop where
  ex : ∃ ds fs, Ev s room ds fs ∧ ds.length ≤ m + 2 ∧ (ds.getLastD []).length = l.seg + 1 - s0 ∧ fs.length = l.seg + 1 - s0 ∧ sumF fs ≤ 175 * c ∧
    (∀ k, s0 ≤ k → k ≤ l.seg → findD (ds.getLastD []) (sgN k) = some (k - s0) ∧ ∃ n, fs[k - s0]? = some ⟨segB ps k, n⟩) ∧ ∀ x ∈ ds.getLastD [], ∃ k, s0 ≤ k ∧ k ≤ l.seg ∧ x.1 = sgN k
  lg : LgOk l (175 * c)
  seg : s0 ≤ l.seg
  most : l.seg ≤ s0 + m
  at_ : l.at_ = (segB ps l.seg).length
  recs : ∀ i x, ps[i]? = some x → OkP x ∧ s0 ≤ x.seg ∧ x.seg ≤ l.seg ∧ x.at_ = (segB (ps.take i) x.seg).length
section
variable {s : Dk} {room : Int} {l : Lg} {s0 c m : Nat} {ps : List Pc}
theorem Full.inv (h : Full s room l s0 ps c m) : Inv s := by obtain ⟨_, _, e, _⟩ := h.ex; exact e.inv
theorem Full.small (h : Full s room l s0 ps c m) : s.dirs.length ≤ m + 2 ∧ s.files.length ≤ m + 1 := by
  obtain ⟨ds, fs, e, h1, _, h2, _⟩ := h.ex
  have := h.most; have := h.seg
  rw [e.dirs, e.files]; omega
theorem okS_le {a b : Nat} (h : okS b = true) (hab : a ≤ b) : okS a = true := by rw [okS_iff] at h ⊢; omega
theorem Full.held (h : Full s room l s0 ps c m) : Held s ps := by
  obtain ⟨ds, fs, e, _, _, _, _, h2, _⟩ := h.ex
  refine ⟨fun i x hx => ?_⟩
  obtain ⟨r1, r2, r3, r4⟩ := h.recs i x hx
  obtain ⟨q1, n, q2⟩ := h2 x.seg r2 r3
  exact ⟨r1, okS_le h.lg.seg r3, e.read q1 q2, r4⟩
theorem named_S {k : Nat} (h : okS k = true) : named (sgN k) = true := (nmB_named (show okN 109 k = true from h)).1
theorem full_start (hroom : 16 ≤ room ∧ room ≤ 1048576) {seg : Nat} {most : Int} (hm : mayL seg most = true) : (lgBegin (empty room) seg most).2 = (some ⟨seg, 0, most, seg, true⟩, 0) ∧ Full (lgBegin (empty room) seg most).1 room ⟨seg, 0, most, seg, true⟩ seg [] 0 0 := by
  obtain ⟨h1, h2, h3⟩ := may_iff.1 hm
  obtain ⟨c1, c2⟩ := (Ev.empty hroom).create (named_S h1) (by simp [findD]) (by simp)
  have e : lgBegin (empty room) seg most = ((create (empty room) (sgN seg)).1, some ⟨seg, 0, most, seg, true⟩, 0) := by unfold lgBegin; rw [if_pos hm, if_pos c1]
  rw [e]
  refine ⟨rfl, ⟨_, _, c2, by simp, ?_, ?_, by simp [sumF], fun k k1 k2 => ?_, fun x hx => ?_⟩, ⟨h1, h2, h3, by simp, by simp⟩, Nat.le_refl _, by simp, rfl, fun i x hx => by simp at hx⟩
  · show (withD [] (sgN seg, 0)).length = _; simp [withD]
  · simp
  · have hk : k = seg := by simp only at k2; omega
    subst hk
    refine ⟨?_, 0, ?_⟩
    · show findD (withD [] (sgN k, 0)) (sgN k) = _; simp [withD, findD]
    · simp [segB]
  · have : x ∈ withD [] (sgN seg, 0) := hx
    simp only [withD, List.mem_singleton] at this
    subst this
    exact ⟨seg, Nat.le_refl _, Nat.le_refl _, rfl⟩
/-- bytes are put behind the last segment. -/
theorem full_put (h : Full s room l s0 ps c m) (hr : ((175 * c + 175 : Nat) : Int) ≤ room) {k : Int} {ns : List Nat} {t : List UInt8} (hp : rightB k ns.length t.length = true) (hs : ∀ n ∈ ns, n < 18446744073709551616) :
    (lgPut s l (recB k.toNat ns t)).2.2 = (l.seg, l.at_, 0) ∧ Full (lgPut s l (recB k.toNat ns t)).1 room (lgPut s l (recB k.toNat ns t)).2.1 s0 (ps ++ [⟨k, ns, t, l.seg, l.at_⟩]) (c + 1) m ∧
      (lgPut s l (recB k.toNat ns t)).2.1 = { l with at_ := l.at_ + (recB k.toNat ns t).length, dirty := min l.dirty l.seg } := by
  obtain ⟨ds, fs, e, hd, hl, hf, hsum, hk, hn⟩ := h.ex
  have hseg := h.seg
  obtain ⟨q1, n, q2⟩ := hk l.seg hseg (Nat.le_refl _)
  have hb := recB_len hp hs
  have hlo := put_ok h.lg (s := s) (recB k.toNat ns t)
  obtain ⟨a1, a2⟩ := e.append q1 q2 (bs := recB k.toNat ns t) (by omega)
  simp only at a2
  have ep : lgPut s l (recB k.toNat ns t) = ((append s (sgN l.seg) (recB k.toNat ns t)).1, { l with at_ := l.at_ + (recB k.toNat ns t).length, dirty := min l.dirty l.seg }, l.seg, l.at_, 0) := by unfold lgPut; rw [if_pos a1]
  rw [ep] at hlo ⊢
  simp only at hlo
  have hset := sumF_set (y := ⟨segB ps l.seg ++ recB k.toNat ns t, n⟩) q2
  simp only [List.length_append] at hset
  refine ⟨rfl, ⟨⟨_, _, a2, by omega, hl, by simpa using hf, by omega, fun j j1 j2 => ?_, hn⟩, hlo.more (by omega), hseg, by have := h.most; simp only; omega, ?_, fun i x hx => ?_⟩, rfl⟩
  · obtain ⟨p1, m1, p2⟩ := hk j j1 j2
    refine ⟨p1, ?_⟩
    rw [segB_app, segB_one]
    simp only
    by_cases hj : l.seg = j
    · subst hj
      rw [if_pos rfl]
      exact ⟨n, by rw [List.getElem?_set_self (List.getElem?_eq_some_iff.1 q2).1]; rfl⟩
    · rw [if_neg hj, List.append_nil]
      simp only at j2
      exact ⟨m1, by rw [List.getElem?_set_ne (by omega)]; exact p2⟩
  · simp only [segB_app, segB_one, if_true, List.length_append, h.at_]; rfl
  · by_cases hi : i < ps.length
    · rw [List.getElem?_append_left hi] at hx
      obtain ⟨r1, r2, r3, r4⟩ := h.recs i x hx
      exact ⟨r1, r2, r3, by rw [List.take_append_of_le_length (by omega)]; exact r4⟩
    · have : i = ps.length := by have := (List.getElem?_eq_some_iff.1 hx).1; simp at this; omega
      subst this
      simp at hx; subst hx
      exact ⟨⟨hp, hs⟩, hseg, Nat.le_refl _, by rw [List.take_left]; exact h.at_⟩
/-- the next segment is begun. -/
theorem full_turn (h : Full s room l s0 ps c m) (hc : m + 1 < 60) (ho : okS (l.seg + 1) = true) :
    (lgTurn s l).2 = ({ l with seg := l.seg + 1, at_ := 0, begun := true }, 0) ∧ ∃ ds fs, Ev (lgTurn s l).1 room ds fs ∧ ds.length ≤ m + 3 ∧ (ds.getLastD []).length = l.seg + 2 - s0 ∧ fs.length = l.seg + 2 - s0 ∧ sumF fs ≤ 175 * c ∧
      (∀ k, s0 ≤ k → k ≤ l.seg + 1 → findD (ds.getLastD []) (sgN k) = some (k - s0) ∧ ∃ n, fs[k - s0]? = some ⟨segB ps k, n⟩) ∧ ∀ x ∈ ds.getLastD [], ∃ k, s0 ≤ k ∧ k ≤ l.seg + 1 ∧ x.1 = sgN k := by
  obtain ⟨ds, fs, e, hd, hl, hf, hsum, hk, hn⟩ := h.ex
  have hseg := h.seg
  have hmost := h.most
  have hnone : findD (ds.getLastD []) (sgN (l.seg + 1)) = none := findD_none.2 fun x hx => by
    obtain ⟨k, k1, k2, k3⟩ := hn x hx
    rw [k3]
    exact sgN_ne (by omega)
  obtain ⟨c1, c2⟩ := e.create (named_S ho) hnone (by omega)
  have et : lgTurn s l = ((create s (sgN (l.seg + 1))).1, { l with seg := l.seg + 1, at_ := 0, begun := true }, 0) := by unfold lgTurn; rw [if_pos ho, if_pos c1]
  rw [et]
  refine ⟨rfl, _, _, c2, by simp; omega, ?_, by simp; omega, by simpa [sumF] using hsum, fun k k1 k2 => ?_, fun x hx => ?_⟩
  · rw [List.getLastD_concat, len_withD]; omega
  · rw [List.getLastD_concat, e.found hnone]
    by_cases hk1 : k = l.seg + 1
    · subst hk1
      rw [if_pos rfl]
      refine ⟨by rw [hf], 0, ?_⟩
      rw [segB_none fun x hx => by
        obtain ⟨i, hi⟩ := List.mem_iff_getElem?.1 hx
        have := (h.recs i x hi).2.2.1
        omega]
      rw [List.getElem?_append_right (by omega), show l.seg + 1 - s0 - fs.length = 0 by omega]; rfl
    · rw [if_neg (sgN_ne hk1)]
      obtain ⟨p1, m1, p2⟩ := hk k k1 (by omega)
      exact ⟨p1, m1, by rw [List.getElem?_append_left (by omega)]; exact p2⟩
  · rw [List.getLastD_concat] at hx
    rcases mem_withD.1 hx with rfl | hx
    · exact ⟨l.seg + 1, by omega, Nat.le_refl _, rfl⟩
    · obtain ⟨k, k1, k2, k3⟩ := hn x hx
      exact ⟨k, k1, by omega, k3⟩
theorem full_turned (h : Full s room l s0 ps c m) (hc : m + 1 < 60) (ho : okS (l.seg + 1) = true) : Full (lgTurn s l).1 room { l with seg := l.seg + 1, at_ := 0, begun := true } s0 ps c (m + 1) := by
  obtain ⟨_, ds, fs, e, hd, hl, hf, hsum, hk, hn⟩ := full_turn h hc ho
  have hseg := h.seg
  have hmost := h.most
  have hdd := h.lg.dirty
  have h0 : segB ps (l.seg + 1) = [] := segB_none fun x hx => by
    obtain ⟨i, hi⟩ := List.mem_iff_getElem?.1 hx
    have := (h.recs i x hi).2.2.1
    omega
  refine ⟨⟨ds, fs, e, by omega, by simp only; omega, by simp only; omega, by omega, hk, hn⟩, ⟨ho, h.lg.lo, h.lg.hi, by simp only; omega, by simp⟩, by simp only; omega, by simp only; omega, by simp only [h0]; rfl, fun i x hx => ?_⟩
  obtain ⟨r1, r2, r3, r4⟩ := h.recs i x hx
  exact ⟨r1, r2, by simp only; omega, r4⟩
end
/-- a record is put behind all. -/
structure Went (l l' : Lg) (x : Pc) : Prop where
  seg : x.seg = l'.seg
  at_ : l'.at_ = x.at_ + x.b.length
  most : l'.most = l.most
  way : (x.seg = l.seg ∧ x.at_ = l.at_ ∧ (l.at_ = 0 ∨ ((x.at_ + x.b.length : Nat) : Int) ≤ l.most)) ∨ (x.seg = l.seg + 1 ∧ x.at_ = 0 ∧ 0 < l.at_)
  dirty : l.dirty ≤ l.seg → l'.dirty = l.dirty
  begun : l.begun = true → l'.begun = true
theorem full_append {s : Dk} {room : Int} {l : Lg} {s0 c m : Nat} {ps : List Pc} (h : Full s room l s0 ps c m) (hc : m + 1 < 60) (hs0 : s0 ≤ 1000) (hr : ((175 * c + 175 : Nat) : Int) ≤ room) {k : Int} {ns : List Nat} {t : List UInt8} (hp : rightB k ns.length t.length = true) (hs : ∀ n ∈ ns, n < 18446744073709551616) :
    ∃ x : Pc, x.k = k ∧ x.ns = ns ∧ x.t = t ∧ (lgAppend s l k ns t).2.2 = (x.seg, x.at_, 0) ∧ (∃ m', m' ≤ m + 1 ∧ Full (lgAppend s l k ns t).1 room (lgAppend s l k ns t).2.1 s0 (ps ++ [x]) (c + 1) m') ∧ Went l (lgAppend s l k ns t).2.1 x := by
  have hmost := h.most
  have hseg := h.seg
  have ho : okS (l.seg + 1) = true := okS_iff.2 (by omega)
  unfold lgAppend
  rw [if_pos hp]
  unfold lgB
  by_cases q : 0 < l.at_ ∧ l.most < ((l.at_ + (recB k.toNat ns t).length : Nat) : Int)
  · rw [if_pos q]
    have ht := full_turned h (by omega) ho
    obtain ⟨e1, _⟩ := full_turn h (by omega) ho
    obtain ⟨p1, p2, p3⟩ := full_put ht (by omega) hp hs
    rw [e1]
    simp only [if_true]
    refine ⟨⟨k, ns, t, l.seg + 1, 0⟩, rfl, rfl, rfl, p1, ⟨m + 1, Nat.le_refl _, p2⟩, ?_⟩
    rw [p3]
    exact ⟨rfl, by simp [Pc.b], rfl, .inr ⟨rfl, rfl, q.1⟩, fun hd => by simp only; omega, fun _ => rfl⟩
  · rw [if_neg q]
    obtain ⟨p1, p2, p3⟩ := full_put h (by omega) hp hs
    refine ⟨⟨k, ns, t, l.seg, l.at_⟩, rfl, rfl, rfl, p1, ⟨m, by omega, p2⟩, ?_⟩
    rw [p3]
    refine ⟨rfl, rfl, rfl, .inl ⟨rfl, rfl, ?_⟩, fun hd => by simp only; omega, fun hb => hb⟩
    by_cases h0 : l.at_ = 0
    · exact .inl h0
    · refine .inr ?_
      show ((l.at_ + (recB k.toNat ns t).length : Nat) : Int) ≤ l.most
      rcases Int.lt_or_le l.most ((l.at_ + (recB k.toNat ns t).length : Nat) : Int) with h1 | h1
      · exact absurd ⟨by omega, h1⟩ q
      · exact h1
end Go.Sg
end

section
set_option linter.unusedSimpArgs false
set_option linter.unusedVariables false
namespace Go.Proofs.YtofllgbdphakiaaGreatDoor
open Go.Den Go.Disk
theorem can_freeP {s : Dk} (hg : s.gone = false) (hb : s.burn = -1) (e : Int) : can s e = (s, e) := by
  unfold can
  by_cases h : e = 0
  · simp [hg, hb, h]
  · simp [hg, h]
structure Kept (nm : ByteArray) (f : Nat) (s : Dk) (all : List UInt8) (n : Nat) : Prop where
  ent : ∀ l ∈ s.dirs, (nm, f) ∈ l
  file : s.files[f]? = some ⟨all, n⟩
section
variable {nm : ByteArray} {f n : Nat} {s : Dk} {all : List UInt8}
theorem Kept.can (k : Kept nm f s all n) (e : Int) : Kept nm f (can s e).1 all n := by
  obtain ⟨k1, k2, _⟩ := can_keep s e
  exact ⟨by rw [k2]; exact k.ent, by rw [k1]; exact k.file⟩
theorem Kept.find (hi : Inv s) (k : Kept nm f s all n) : findD s.now nm = some f := findD_of_mem (hi.wf.rise _ (now_mem hi.wf)) (k.ent _ (now_mem hi.wf))
theorem Kept.at_ (k : Kept nm f s all n) : fileAt s f = ⟨all, n⟩ := by unfold fileAt; rw [List.getD_eq_getElem?_getD, k.file]; rfl
theorem Kept.other (hi : Inv s) (k : Kept nm f s all n) {m : ByteArray} {g : Nat} (hm : m ≠ nm) (hg : findD s.now m = some g) : g ≠ f :=
  one_gone (hi.one _ (now_mem hi.wf)) (k.ent _ (now_mem hi.wf)) (m, g) (mem_without.2 ⟨findD_mem hg, hm⟩)
theorem Kept.dir (hi : Inv s) (k : Kept nm f s all n) {l : Dir} (hl : (nm, f) ∈ l) {r b : Int} {g : Bool} : Kept nm f ⟨r, s.files, s.dirs ++ [l], b, g⟩ all n :=
  ⟨fun l' h => by
    rcases List.mem_append.1 h with h | h
    · exact k.ent _ h
    · rw [List.mem_singleton.1 h]; exact hl, k.file⟩
theorem Kept.set (k : Kept nm f s all n) {g : Nat} (hg : g ≠ f) (x : Fl) : Kept nm f (setF s g x) all n :=
  ⟨k.ent, by show (s.files.set g x)[f]? = _; rw [List.getElem?_set_ne hg]; exact k.file⟩
theorem opt_of {n : ByteArray} {e : Int} (he : e ≠ 0) (h : (match s.find n with | none => e | some _ => 0) = 0) : ∃ g, findD s.now n = some g := by
  unfold Dk.find at h
  cases hx : findD s.now n with
  | none => rw [hx] at h; exact absurd h he
  | some g => exact ⟨g, rfl⟩
theorem there_some {m : ByteArray} (h : there s m = 0) : ∃ g, findD s.now m = some g := by
  unfold there Dk.find at h
  cases hx : findD s.now m with
  | none => rw [hx] at h; simp at h
  | some g => exact ⟨g, rfl⟩
/-- the file's bytes behind an act. -/
def allAt (nm : ByteArray) (s : Dk) (a : Act) (b : List UInt8) (t : List Int) (all : List UInt8) : List UInt8 := if a.dn = 1 ∧ a.nm = nm ∧ (act s a b t).2.2 = 0 then all ++ b else all
theorem kept_act (hi : Inv s) (k : Kept nm f s all n) (a : Act) (b : List UInt8) (t : List Int) (h8 : a.dn ≠ 8) (ho : a.dn ≠ 1 → a.nm ≠ nm ∧ a.to ≠ nm) : Kept nm f (act s a b t).1 (allAt nm s a b t all) n := by
  have hnow := k.ent _ (now_mem hi.wf)
  by_cases q1 : a.dn = 1
  · unfold allAt act
    simp only [q1, Int.reduceEq, if_false, if_true, true_and]
    by_cases hc : (can s (appendE s a.nm b.length)).2 = 0
    · have h0 := can_zero hc
      have e2 : (append s a.nm b).2 = 0 := by simp only [append]; rw [if_pos hc]
      rw [e2]
      simp only [append, hc, if_true, and_true]
      by_cases hn : a.nm = nm
      · rw [if_pos hn, hn, show s.find nm = some f from k.find hi]
        have kc := k.can (appendE s nm b.length)
        refine ⟨kc.ent, ?_⟩
        simp only [Option.getD_some, k.at_]
        show (List.set _ f _)[f]? = _
        rw [List.getElem?_set_self (List.getElem?_eq_some_iff.1 kc.file).1]
      · rw [if_neg hn]
        obtain ⟨g, hg⟩ : ∃ g, findD s.now a.nm = some g := by
          unfold appendE Dk.find at h0
          cases hx : findD s.now a.nm with
          | none => rw [hx] at h0; simp at h0
          | some g => exact ⟨g, rfl⟩
        rw [show s.find a.nm = some g from hg]
        exact (k.can _).set (k.other hi hn hg) _
    · have e2 : append s a.nm b = can s (appendE s a.nm b.length) := by simp only [append]; rw [if_neg hc]
      rw [e2, if_neg (fun h => hc h.2)]
      exact k.can _
  have hal : allAt nm s a b t all = all := by unfold allAt; rw [if_neg (fun h => q1 h.1)]
  rw [hal]
  obtain ⟨hn, hto⟩ := ho q1
  unfold act
  simp only [q1, h8, if_false]
  by_cases q0 : a.dn = 0
  · simp only [q0, if_true, create]
    split
    · obtain ⟨k1, k2, k3⟩ := can_keep s (createE s a.nm)
      refine ⟨fun l h => ?_, ?_⟩
      · rcases List.mem_append.1 h with h | h
        · exact k.ent _ h
        · rw [List.mem_singleton.1 h]; exact mem_withD.2 (.inr hnow)
      · show (s.files ++ _)[f]? = _
        rw [List.getElem?_append_left (List.getElem?_eq_some_iff.1 k.file).1]; exact k.file
    · exact k.can _
  by_cases q2 : a.dn = 2
  · simp only [q2, Int.reduceEq, if_false, if_true, sync]
    split
    · rename_i hc
      obtain ⟨g, hg⟩ := there_some (can_zero hc)
      rw [show s.find a.nm = some g from hg]
      exact (k.can _).set (k.other hi hn hg) _
    · exact k.can _
  by_cases q3 : a.dn = 3
  · simp only [q3, Int.reduceEq, if_false, if_true, cut]
    split
    · rename_i hc
      have h0 := can_zero hc
      obtain ⟨g, hg⟩ : ∃ g, findD s.now a.nm = some g := by
        unfold cutE Dk.find at h0
        cases hx : findD s.now a.nm with
        | none => rw [hx] at h0; simp at h0
        | some g => exact ⟨g, rfl⟩
      rw [show s.find a.nm = some g from hg]
      exact (k.can _).set (k.other hi hn hg) _
    · exact k.can _
  by_cases q4 : a.dn = 4
  · simp only [q4, Int.reduceEq, if_false, if_true, rename]
    split
    · obtain ⟨k1, k2, k3⟩ := can_keep s (renameE s a.nm a.to)
      rw [k1]
      exact k.dir hi (mem_withD.2 (.inr (mem_without.2 ⟨mem_without.2 ⟨hnow, fun e => hn e.symm⟩, fun e => hto e.symm⟩)))
    · exact k.can _
  by_cases q5 : a.dn = 5
  · simp only [q5, Int.reduceEq, if_false, if_true, delete]
    split
    · obtain ⟨k1, k2, k3⟩ := can_keep s (there s a.nm)
      rw [k1]
      exact k.dir hi (mem_without.2 ⟨hnow, fun e => hn e.symm⟩)
    · exact k.can _
  by_cases q6 : a.dn = 6
  · simp only [q6, Int.reduceEq, if_false, if_true, dirsync]
    split
    · obtain ⟨k1, k2, k3⟩ := can_keep s 0
      rw [k1]
      exact ⟨fun l h => by rw [List.mem_singleton.1 h]; exact hnow, k.file⟩
    · exact k.can _
  by_cases q7 : a.dn = 7
  · simp only [q7, Int.reduceEq, if_false, if_true]
    exact ⟨k.ent, k.file⟩
  simp only [q0, q2, q3, q4, q5, q6, q7, if_false]
  exact k
theorem crashF_not {tails : List Int} : ∀ (l : Dir) (i : Nat) (fs : List Fl), (∀ x ∈ l, x.2 ≠ f) → (crashF tails l i fs)[f]? = fs[f]?
  | [], _, _, _ => rfl
  | (k, g) :: r, i, fs, h => by
    simp only [crashF]
    rw [crashF_not r (i + 1) _ fun x hx => h x (by simp [hx]), List.getElem?_set_ne (h (k, g) (by simp))]
theorem crashF_at {tails : List Int} {x : Fl} : ∀ (l : Dir) (i : Nat) (fs : List Fl), (l.map (·.2)).Nodup → (nm, f) ∈ l → fs[f]? = some x → ∃ j, (crashF tails l i fs)[f]? = some ⟨x.b.take (x.sure + tailOf x tails j), x.sure + tailOf x tails j⟩
  | [], _, _, _, h, _ => by simp at h
  | (k, g) :: r, i, fs, hd, hm, hx => by
    simp only [crashF]
    rw [List.map_cons, List.nodup_cons] at hd
    rcases List.mem_cons.1 hm with h | h
    · cases h
      refine ⟨i, ?_⟩
      have hgd : fs.getD f ⟨[], 0⟩ = x := by rw [List.getD_eq_getElem?_getD, hx]; rfl
      rw [crashF_not r (i + 1) _ fun y hy e => hd.1 (List.mem_map.2 ⟨y, hy, e⟩), List.getElem?_set_self (List.getElem?_eq_some_iff.1 hx).1, hgd]
    · have hg : g ≠ f := fun e => hd.1 (List.mem_map.2 ⟨_, h, e.symm⟩)
      exact crashF_at r (i + 1) _ hd.2 h (by rw [List.getElem?_set_ne hg]; exact hx)
theorem kept_crash (hi : Inv s) (k : Kept nm f s all n) (op : Int) (tails : List Int) : ∃ m, n ≤ m ∧ m ≤ all.length ∧ Disk.read (crash s op tails) nm = (all.take m, 0) := by
  have hp : 0 < s.dirs.length := List.length_pos_iff.2 hi.wf.ne
  obtain ⟨l, hl⟩ : ∃ l, s.dirs.getD (min op.toNat (s.dirs.length - 1)) [] = l := ⟨_, rfl⟩
  have hlm : l ∈ s.dirs := by
    rw [← hl, List.getD_eq_getElem?_getD, List.getElem?_eq_getElem (by omega)]
    exact List.getElem_mem _
  have hs := hi.wf.sure _ (List.mem_of_getElem? k.file)
  obtain ⟨j, hj⟩ := crashF_at (tails := tails) l 0 s.files (hi.one l hlm) (k.ent l hlm) k.file
  have ht := tailOf_le ⟨all, n⟩ tails j
  simp only at hs ht hj
  refine ⟨n + tailOf ⟨all, n⟩ tails j, by omega, by omega, ?_⟩
  unfold Disk.read Dk.find
  have hnow : (crash s op tails).now = l := by unfold crash Dk.now; rw [hl]; rfl
  have hfile : (crash s op tails).files[f]? = some ⟨all.take (n + tailOf ⟨all, n⟩ tails j), n + tailOf ⟨all, n⟩ tails j⟩ := by unfold crash; rw [hl]; exact hj
  rw [hnow, findD_of_mem (hi.wf.rise l hlm) (k.ent l hlm)]
  unfold fileAt
  simp only [List.getD_eq_getElem?_getD, hfile]
  rfl
end
/-- the disk that is begun with. -/
def sure4 (nm : ByteArray) (b : List UInt8) : Dk := ⟨131072, [⟨b, b.length⟩], [[(nm, 0)]], -1, false⟩
theorem sure_start {nm : ByteArray} {b : List UInt8} (h : (create (empty 131072) nm).2 = 0) (hb : b.length ≤ 1000) :
    (append (create (empty 131072) nm).1 nm b).2 = 0 ∧ (sync (append (create (empty 131072) nm).1 nm b).1 nm).2 = 0 ∧ (dirsync (sync (append (create (empty 131072) nm).1 nm b).1 nm).1).2 = 0 ∧
      (dirsync (sync (append (create (empty 131072) nm).1 nm b).1 nm).1).1 = sure4 nm b := by
  have c0 : ∀ (r : Int) fs ds e, can ⟨r, fs, ds, -1, false⟩ e = (⟨r, fs, ds, -1, false⟩, e) := fun r fs ds e => can_freeP rfl rfl e
  have e1 : create (empty 131072) nm = (⟨131072, [⟨[], 0⟩], [[], [(nm, 0)]], -1, false⟩, 0) := by
    unfold create empty at *
    simp only [c0] at *
    by_cases hc : createE ⟨131072, [], [[]], -1, false⟩ nm = 0
    · simp only [hc, if_true]; rfl
    · simp only [hc, if_false] at h
  have f1 : ∀ fs, Dk.find ⟨131072, fs, [[], [(nm, 0)]], -1, false⟩ nm = some 0 := fun fs => by simp [Dk.find, Dk.now, findD]
  have e2 : append ⟨131072, [⟨[], 0⟩], [[], [(nm, 0)]], -1, false⟩ nm b = (⟨131072, [⟨b, 0⟩], [[], [(nm, 0)]], -1, false⟩, 0) := by
    have hh : held ⟨131072, [⟨[], 0⟩], [[], [(nm, 0)]], -1, false⟩ = 0 := by
      unfold held
      simp [fileAt, List.range_succ]
    have hE : appendE ⟨131072, [⟨[], 0⟩], [[], [(nm, 0)]], -1, false⟩ nm b.length = 0 := by
      unfold appendE
      rw [f1, hh]
      simp only [Option.isSome_some, if_true]
      rw [if_neg (by omega)]
    unfold append
    simp only [c0, hE, f1]
    simp [setF, fileAt]
  have e3 : sync ⟨131072, [⟨b, 0⟩], [[], [(nm, 0)]], -1, false⟩ nm = (⟨131072, [⟨b, b.length⟩], [[], [(nm, 0)]], -1, false⟩, 0) := by
    unfold sync there
    simp only [f1, c0]
    simp [setF, fileAt]
  have e4 : dirsync ⟨131072, [⟨b, b.length⟩], [[], [(nm, 0)]], -1, false⟩ = (sure4 nm b, 0) := by
    unfold dirsync
    simp only [c0]
    simp [sure4, Dk.now]
  rw [e1]; simp only
  rw [e2]; simp only
  rw [e3]; simp only
  rw [e4]
  refine ⟨?_, ?_, ?_, ?_⟩ <;> first | trivial | rfl
theorem kept_start (nm : ByteArray) (b : List UInt8) : Kept nm 0 (sure4 nm b) b b.length := ⟨fun l h => by simp [sure4] at h; simp [h], rfl⟩
end Go.Proofs.YtofllgbdphakiaaGreatDoor
end

section
set_option linter.unusedSimpArgs false
set_option linter.unusedVariables false
namespace Go.Sg
open Go.Den Go.Disk Go.Nm Go.Rec Go.Frame Go.Ev Go.Proofs.YtofllgbdphakiaaGreatDoor
/-! ## The order of places -/
def bump (p : Nat × Nat) (x : Pc) : Nat × Nat := if x.seg = p.1 + 1 ∧ x.at_ = 0 then (x.seg, 0) else p
def stepC (p : Nat × Nat) (x : Pc) : Nat × Nat := ((bump p x).1, (bump p x).2 + 1)
def runC (s0 : Nat) (ps : List Pc) : Nat × Nat := ps.foldl stepC (s0, 0)
theorem runC_snoc (s0 : Nat) (ps : List Pc) (x : Pc) : runC s0 (ps ++ [x]) = stepC (runC s0 ps) x := by unfold runC; rw [List.foldl_append]; rfl
def fineC (size : Int) (p : Nat × Nat) (x : Pc) : Prop := x.seg = (bump p x).1 ∧ ((bump p x).2 = 0 ↔ x.at_ = 0) ∧ (0 < (bump p x).2 → ((x.at_ + x.b.length : Nat) : Int) ≤ size)
structure Chain (l : Lg) (s0 : Nat) (ps : List Pc) : Prop where
  last : (runC s0 ps).1 = l.seg
  many : (runC s0 ps).2 = 0 ↔ l.at_ = 0
  le : (runC s0 ps).2 ≤ ps.length
  fine : ∀ (i : Nat) (x : Pc), ps[i]? = some x → fineC l.most (runC s0 (ps.take i)) x
  tail : ∀ x : Pc, ps.getLast? = some x → x.seg = l.seg
  ends : ∀ (i j : Nat) (x y : Pc), ps[i]? = some x → ps[j]? = some y → i < j → x.seg ≤ y.seg
theorem chain_start (seg : Nat) (most : Int) : Chain ⟨seg, 0, most, seg, true⟩ seg [] := ⟨rfl, by simp [runC], by simp [runC], by simp, by simp, by simp⟩
theorem chain_snoc {l l' : Lg} {s0 : Nat} {ps : List Pc} {x : Pc} (h : Chain l s0 ps) (g : Went l l' x) (hx : 0 < x.b.length) (hle : ∀ y ∈ ps, y.seg ≤ l.seg) : Chain l' s0 (ps ++ [x]) := by
  have hb : x.seg = (bump (runC s0 ps) x).1 ∧ ((bump (runC s0 ps) x).2 = 0 ↔ x.at_ = 0) ∧ (0 < (bump (runC s0 ps) x).2 → ((x.at_ + x.b.length : Nat) : Int) ≤ l.most) ∧ (bump (runC s0 ps) x).2 ≤ ps.length := by
    have h1 := h.last
    have h2 := h.many
    have h3 := h.le
    unfold bump
    rcases g.way with ⟨w1, w2, w3⟩ | ⟨w1, w2, w3⟩
    · rw [if_neg (by rw [h1]; omega)]
      refine ⟨by rw [h1, w1], by rw [w2]; exact h2, fun hp => ?_, h3⟩
      rcases w3 with w3 | w3
      · exact absurd (h2.2 w3) (by omega)
      · exact w3
    · rw [if_pos ⟨by rw [h1, w1], w2⟩]
      exact ⟨rfl, by simp [w2], by simp, by simp⟩
  obtain ⟨b1, b2, b3, b4⟩ := hb
  refine ⟨?_, ?_, ?_, fun i y hy => ?_, fun y hy => ?_, fun i j y z hy hz hij => ?_⟩
  · rw [runC_snoc]; show (bump _ x).1 = _; rw [← b1, g.seg]
  · rw [runC_snoc]; have := g.at_; unfold stepC; simp only; omega
  · rw [runC_snoc]; simp only [stepC, List.length_append, List.length_cons, List.length_nil]; omega
  · rw [g.most]
    by_cases hi : i < ps.length
    · rw [List.getElem?_append_left hi] at hy
      rw [List.take_append_of_le_length (by omega)]
      exact h.fine i y hy
    · have : i = ps.length := by have := (List.getElem?_eq_some_iff.1 hy).1; simp at this; omega
      subst this
      simp at hy; subst hy
      rw [List.take_left]
      exact ⟨b1, b2, b3⟩
  · simp at hy; subst hy; exact g.seg
  · have hj := (List.getElem?_eq_some_iff.1 hz).1
    simp only [List.length_append, List.length_cons, List.length_nil] at hj
    rw [List.getElem?_append_left (by omega)] at hy
    by_cases hjl : j < ps.length
    · rw [List.getElem?_append_left hjl] at hz
      exact h.ends i j y z hy hz hij
    · rw [List.getElem?_append_right (by omega), show j - ps.length = 0 by omega] at hz
      simp at hz; subst hz
      have := hle y (List.mem_of_getElem? hy)
      rcases g.way with ⟨w1, _⟩ | ⟨w1, _⟩ <;> omega
/-- how many names there are. -/
theorem full_names {s : Dk} {room : Int} {l : Lg} {s0 c m : Nat} {ps : List Pc} (h : Full s room l s0 ps c m) : s.now.length = l.seg + 1 - s0 ∧ ∀ x ∈ s.now, ∃ k, okS k = true ∧ x.1 = sgN k := by
  obtain ⟨ds, fs, e, hd, hl, hf, hsum, hk, hn⟩ := h.ex
  rw [e.now]
  refine ⟨hl, fun x hx => ?_⟩
  obtain ⟨k, k1, k2, k3⟩ := hn x hx
  exact ⟨k, okS_le h.lg.seg k2, k3⟩
/-! ## What is cut -/
theorem full_cut {s : Dk} {room : Int} {l : Lg} {s0 c m i : Nat} {ps : List Pc} {x : Pc} (h : Full s room l s0 ps c m) (hx : ps[i]? = some x) (hseg : x.seg = l.seg) (hd : ∀ y ∈ ps.drop i, y.seg = x.seg) :
    (lgOpen s x.seg x.at_ l.most).2 = (some ⟨x.seg, x.at_, l.most, x.seg + 1, false⟩, 0) ∧ Full (lgOpen s x.seg x.at_ l.most).1 room ⟨x.seg, x.at_, l.most, x.seg + 1, false⟩ s0 (ps.take i) c m ∧ lgRead (lgOpen s x.seg x.at_ l.most).1 x.seg x.at_ = (zeroR, 0, 3) := by
  obtain ⟨ds, fs, e, hdl, hl, hf, hsum, hk, hn⟩ := h.ex
  obtain ⟨r1, r2, r3, r4⟩ := h.recs i x hx
  obtain ⟨q1, n, q2⟩ := hk x.seg r2 r3
  have hlg := h.lg
  have hok : okS x.seg = true := by rw [hseg]; exact hlg.seg
  have hm : mayL x.seg l.most = true := may_iff.2 ⟨hok, hlg.lo, hlg.hi⟩
  have hat := segB_at hx
  have hlen := r1.len
  have hlt : x.at_ < (segB ps x.seg).length := by rw [hat, List.length_append, List.length_append, ← r4]; omega
  obtain ⟨c1, c2⟩ := e.cut q1 q2 (k := x.at_) (by simp only; omega)
  simp only at c2
  have htake : (segB ps x.seg).take x.at_ = segB (ps.take i) x.seg := by rw [hat, r4, List.take_left]
  have eo : lgOpen s x.seg x.at_ l.most = ((cut s (sgN x.seg) x.at_).1, some ⟨x.seg, x.at_, l.most, x.seg + 1, false⟩, 0) := by
    unfold lgOpen
    rw [if_pos hm, e.read q1 q2]
    simp only [if_true]
    rw [if_neg (by omega), if_pos hlt, if_pos c1]
  rw [eo]
  have hset := sumF_set (y := ⟨(segB ps x.seg).take x.at_, min n x.at_⟩) q2
  have hll : ((segB ps x.seg).take x.at_).length ≤ (segB ps x.seg).length := by rw [List.length_take]; omega
  simp only at hset
  have hfull : Full (cut s (sgN x.seg) x.at_).1 room ⟨x.seg, x.at_, l.most, x.seg + 1, false⟩ s0 (ps.take i) c m := by
    refine ⟨⟨_, _, c2, hdl, by simp only; omega, by simp only [List.length_set]; omega, by omega, fun k k1 k2 => ?_, fun y hy => ?_⟩, ⟨hok, hlg.lo, hlg.hi, by simp, ?_⟩, r2, by have := h.most; simp only; omega, by simp only; exact r4, fun j y hy => ?_⟩
    · simp only at k2
      obtain ⟨p1, n1, p2⟩ := hk k k1 (by omega)
      refine ⟨p1, ?_⟩
      by_cases hkx : k = x.seg
      · subst hkx
        refine ⟨min n x.at_, ?_⟩
        rw [List.getElem?_set_self (List.getElem?_eq_some_iff.1 q2).1, htake]
      · refine ⟨n1, ?_⟩
        rw [List.getElem?_set_ne (by omega), p2]
        conv => { lhs; rw [← List.take_append_drop i ps, segB_app, segB_none (ps := ps.drop i) fun y hy => by rw [hd y hy]; exact fun e => hkx e.symm] }
        rw [List.append_nil]
    · obtain ⟨k, k1, k2, k3⟩ := hn y hy
      exact ⟨k, k1, by simp only; omega, k3⟩
    · show x.at_ ≤ 175 * c
      have : (segB ps x.seg).length ≤ sumF fs := by
        have h0 := sumF_set (y := ⟨[], 0⟩) q2
        simp only [List.length_nil] at h0
        omega
      omega
    · have hj := (List.getElem?_eq_some_iff.1 hy).1
      rw [List.length_take] at hj
      rw [List.getElem?_take_of_lt (by omega)] at hy
      obtain ⟨g1, g2, g3, g4⟩ := h.recs j y hy
      refine ⟨g1, g2, by simp only; omega, ?_⟩
      rw [List.take_take, Nat.min_eq_left (by omega)]
      exact g4
  refine ⟨rfl, hfull, ?_⟩
  obtain ⟨ds2, fs2, e2, _, _, _, _, hk2, _⟩ := hfull.ex
  obtain ⟨z1, n2, z2⟩ := hk2 x.seg r2 (Nat.le_refl _)
  unfold lgRead
  rw [if_pos hok, e2.read z1 z2]
  simp only [if_true]
  rw [if_neg (by omega), r4, List.drop_length]
  exact first_none
/-! ## What is sure -/
structure Fresh (l : Lg) (s0 : Nat) : Prop where
  dirty : l.dirty = s0
  begun : l.begun = true
theorem fresh_went {l l' : Lg} {s0 : Nat} {x : Pc} (h : Fresh l s0) (hs : s0 ≤ l.seg) (g : Went l l' x) : Fresh l' s0 := ⟨by rw [g.dirty (by rw [h.dirty]; exact hs), h.dirty], g.begun h.begun⟩
theorem syncs_ev {room : Int} {ds : List Dir} {s0 : Nat} : ∀ (n k : Nat) {s : Dk} {fs : List Fl}, Ev s room ds fs → s0 ≤ k → (∀ j, k ≤ j → j < k + n → findD (ds.getLastD []) (sgN j) = some (j - s0) ∧ j - s0 < fs.length) →
    (syncs n k s).2 = 0 ∧ ∃ fs', Ev (syncs n k s).1 room ds fs' ∧ fs'.length = fs.length ∧ ∀ f x, fs[f]? = some x → fs'[f]? = some (if k ≤ f + s0 ∧ f + s0 < k + n then ⟨x.b, x.b.length⟩ else x)
  | 0, k, s, fs, e, _, _ => ⟨rfl, fs, e, rfl, fun f x hx => by rw [if_neg (by omega)]; exact hx⟩
  | n + 1, k, s, fs, e, hk, h => by
    obtain ⟨h1, h2⟩ := h k (Nat.le_refl _) (by omega)
    obtain ⟨c1, c2⟩ := e.sync h1 (List.getElem?_eq_getElem h2)
    obtain ⟨g1, fs', g2, g3, g4⟩ := syncs_ev (s0 := s0) n (k + 1) c2 (by omega) fun j j1 j2 => by
      have := h j (by omega) (by omega)
      simpa using this
    unfold syncs
    rw [if_pos c1]
    refine ⟨g1, fs', g2, by simpa using g3, fun f x hx => ?_⟩
    by_cases hf : f = k - s0
    · subst hf
      have hx' : fs[k - s0] = x := by rw [List.getElem?_eq_getElem h2] at hx; exact Option.some.inj hx
      have := g4 (k - s0) ⟨x.b, x.b.length⟩ (by rw [List.getElem?_set_self h2, hx'])
      rw [this, if_neg (by omega), if_pos (by omega)]
    · have := g4 f x (by rw [List.getElem?_set_ne (fun e => hf e.symm)]; exact hx)
      rw [this]
      congr 1
      by_cases hc : k ≤ f + s0 ∧ f + s0 < k + (n + 1)
      · rw [if_pos hc, if_pos (by omega)]
      · rw [if_neg hc, if_neg (by omega)]
structure Sure (s : Dk) (l : Lg) (s0 at_ seg : Nat) (ps : List Pc) : Prop where
  inv : Inv s
  le : seg ≤ l.seg
  kept : ∀ k, s0 ≤ k → k ≤ seg → ∃ ex, Kept (sgN k) (k - s0) s (segB ps k ++ ex) (segB ps k).length ∧ (k < seg → ex = [])
theorem full_sync {s : Dk} {room : Int} {l : Lg} {s0 c m : Nat} {ps : List Pc} (h : Full s room l s0 ps c m) (hf : Fresh l s0) :
    (lgSync s l).2 = ({ l with dirty := l.seg + 1, begun := false }, 0) ∧ Sure (lgSync s l).1 { l with dirty := l.seg + 1, begun := false } s0 l.at_ l.seg ps ∧ (lgSync s l).1.dirs.length ≤ m + 2 ∧ (lgSync s l).1.files.length ≤ m + 1 := by
  obtain ⟨ds, fs, e, hdl, hl, hfl, hsum, hk, hn⟩ := h.ex
  have hseg := h.seg
  have hmost := h.most
  obtain ⟨g1, fs', g2, g3, g4⟩ := syncs_ev (s0 := s0) (l.seg + 1 - l.dirty) l.dirty e (by rw [hf.dirty]; exact Nat.le_refl _) fun j j1 j2 => by
    rw [hf.dirty] at j1 j2
    exact ⟨(hk j j1 (by omega)).1, by omega⟩
  obtain ⟨d1, d2⟩ := g2.dirsync
  have es : lgSync s l = ((dirsync (syncs (l.seg + 1 - l.dirty) l.dirty s).1).1, { l with dirty := l.seg + 1, begun := false }, 0) := by
    unfold lgSync
    simp only
    rw [if_pos g1, if_pos hf.begun, if_pos d1]
  rw [es]
  refine ⟨rfl, ⟨d2.inv, Nat.le_refl _, fun k k1 k2 => ⟨[], ⟨fun d hd => ?_, ?_⟩, fun _ => rfl⟩⟩, by simp only; rw [d2.dirs]; simp, by simp only; rw [d2.files, g3]; omega⟩
  · rw [d2.dirs] at hd
    rw [List.mem_singleton.1 hd]
    exact findD_mem (hk k k1 k2).1
  · obtain ⟨_, n, p⟩ := hk k k1 k2
    rw [List.append_nil, d2.files, g4 _ _ p, if_pos (by rw [hf.dirty]; omega)]
section
variable {s : Dk} {l : Lg} {s0 a seg : Nat} {ps : List Pc}
def ofC (n : ByteArray) : Go.Proofs.YtofllgbdphakiaaGreatDoor.Act := ⟨0, 0, n, n, .slice none 0 0, .slice none 0 0⟩
def ofP (n : ByteArray) : Go.Proofs.YtofllgbdphakiaaGreatDoor.Act := ⟨1, 0, n, n, .slice none 0 0, .slice none 0 0⟩
theorem sure_turn (h : Sure s l s0 a seg ps) (ht : okS l.seg = true) : Sure (lgTurn s l).1 (lgTurn s l).2.1 s0 a seg ps := by
  have hle := h.le
  have key : Sure (create s (sgN (l.seg + 1))).1 l s0 a seg ps := by
    refine ⟨inv_create h.inv _, hle, fun k k1 k2 => ?_⟩
    obtain ⟨ex, kp, hx⟩ := h.kept k k1 k2
    have hne : sgN (l.seg + 1) ≠ sgN k := sgN_ne (by omega)
    have := kept_act h.inv kp (ofC (sgN (l.seg + 1))) [] [] (by simp [ofC]) fun _ => ⟨hne, hne⟩
    unfold allAt at this
    simp only [ofC, Int.reduceEq, if_false, false_and] at this
    exact ⟨ex, by simpa [act] using this, hx⟩
  unfold lgTurn
  split
  · split
    · exact ⟨key.inv, by simp only; omega, key.kept⟩
    · exact key
  · exact h
theorem sure_put (h : Sure s l s0 a seg ps) (b : List UInt8) : Sure (lgPut s l b).1 (lgPut s l b).2.1 s0 a seg ps := by
  have hle := h.le
  have key : Sure (append s (sgN l.seg) b).1 l s0 a seg ps := by
    refine ⟨inv_append h.inv _ _, hle, fun k k1 k2 => ?_⟩
    obtain ⟨ex, kp, hx⟩ := h.kept k k1 k2
    have := kept_act h.inv kp (ofP (sgN l.seg)) b [] (by simp [ofP]) fun hq => absurd rfl hq
    unfold allAt at this
    simp only [act, ofP, Int.reduceEq, if_false, if_true, true_and] at this
    by_cases hs : sgN l.seg = sgN k ∧ (append s (sgN l.seg) b).2 = 0
    · rw [if_pos hs, List.append_assoc] at this
      refine ⟨ex ++ b, this, fun hk => ?_⟩
      exact absurd hs.1 (sgN_ne (by omega))
    · rw [if_neg hs] at this
      exact ⟨ex, this, hx⟩
  unfold lgPut
  split
  · exact ⟨key.inv, key.le, key.kept⟩
  · exact key
theorem sure_append (h : Sure s l s0 a seg ps) {m : Nat} (hl : LgOk l m) (k : Int) (ns : List Nat) (t : List UInt8) : Sure (lgAppend s l k ns t).1 (lgAppend s l k ns t).2.1 s0 a seg ps := by
  unfold lgAppend
  split
  · unfold lgB
    split
    · split
      · exact sure_put (sure_turn h hl.seg) _
      · exact sure_turn h hl.seg
    · exact sure_put h _
  · exact h
theorem sure_crash (h : Sure s l s0 a seg ps) (hs : s0 ≤ seg) (ha : a = (segB ps seg).length) (hok : okS seg = true) {most : Int} (hm : 64 ≤ most ∧ most ≤ 65536) (hr : ∀ i x, ps[i]? = some x → OkP x ∧ s0 ≤ x.seg ∧ x.seg ≤ seg ∧ x.at_ = (segB (ps.take i) x.seg).length) (op : Int) (tails : List Int) :
    (lgOpen (crash s op tails) seg a most).2 = (some ⟨seg, a, most, seg + 1, false⟩, 0) ∧ Held (lgOpen (crash s op tails) seg a most).1 ps := by
  have hi := inv_crash h.inv op tails
  -- what stands behind the crash
  obtain ⟨d, hd, hdm⟩ : ∃ d, (crash s op tails).dirs = [d] ∧ d ∈ s.dirs := by
    refine ⟨_, rfl, ?_⟩
    have hlen : 0 < s.dirs.length := List.length_pos_iff.2 h.inv.wf.ne
    rw [List.getD_eq_getElem?_getD, List.getElem?_eq_getElem (by omega)]
    exact List.getElem_mem _
  have ev : Ev (crash s op tails) (crash s op tails).room [d] (crash s op tails).files := ⟨hi, rfl, hd, rfl, rfl, rfl⟩
  have hrise : riseD d := h.inv.wf.rise d hdm
  have hkept : ∀ k, s0 ≤ k → k ≤ seg → findD ([d].getLastD []) (sgN k) = some (k - s0) ∧ ∃ x, (crash s op tails).files[k - s0]? = some x ∧ (segB ps k).length ≤ x.b.length ∧ x.b.take (segB ps k).length = segB ps k ∧ (k < seg → x.b = segB ps k) := by
    intro k k1 k2
    obtain ⟨ex, kp, hx⟩ := h.kept k k1 k2
    have hf : findD ([d].getLastD []) (sgN k) = some (k - s0) := findD_of_mem hrise (kp.ent d hdm)
    refine ⟨hf, ?_⟩
    obtain ⟨n, n1, n2, n3⟩ := kept_crash h.inv kp op tails
    have hlt : k - s0 < (crash s op tails).files.length := by
      have := pick_lt hi.wf (n := sgN k) (f := k - s0) (by rw [ev.now]; exact hf)
      exact this
    refine ⟨_, List.getElem?_eq_getElem hlt, ?_⟩
    have er := ev.read hf (List.getElem?_eq_getElem hlt)
    rw [n3] at er
    have eb : (crash s op tails).files[k - s0].b = (segB ps k ++ ex).take n := (congrArg Prod.fst er).symm
    rw [eb]
    refine ⟨by rw [List.length_take, List.length_append]; omega, ?_, fun hk => ?_⟩
    · rw [List.take_take, Nat.min_eq_left n1, List.take_left]
    · rw [hx hk, List.append_nil]
      rw [hx hk, List.append_nil] at n2
      exact List.take_of_length_le (by omega)
  obtain ⟨q1, x, q2, q3, q4, _⟩ := hkept seg hs (Nat.le_refl _)
  have hmay : mayL seg most = true := may_iff.2 ⟨hok, hm⟩
  have hrd := ev.read q1 q2
  -- the log is opened
  by_cases hlt : a < x.b.length
  · obtain ⟨c1, c2⟩ := ev.cut q1 q2 (k := a) (by omega)
    have eo : lgOpen (crash s op tails) seg a most = ((cut (crash s op tails) (sgN seg) a).1, some ⟨seg, a, most, seg + 1, false⟩, 0) := by
      unfold lgOpen
      rw [if_pos hmay, hrd]
      simp only [if_true]
      rw [if_neg (by omega), if_pos hlt, if_pos c1]
    rw [eo]
    refine ⟨rfl, ⟨fun i y hy => ?_⟩⟩
    obtain ⟨g1, g2, g3, g4⟩ := hr i y hy
    refine ⟨g1, okS_le hok g3, ?_, g4⟩
    obtain ⟨p1, z, p2, p3, p4, p5⟩ := hkept y.seg g2 g3
    by_cases hys : y.seg = seg
    · rw [hys]
      have hz : ((crash s op tails).files.set (seg - s0) ⟨x.b.take a, min x.sure a⟩)[seg - s0]? = some ⟨x.b.take a, min x.sure a⟩ := List.getElem?_set_self (List.getElem?_eq_some_iff.1 q2).1
      rw [c2.read q1 hz]
      simp only
      rw [ha, q4]
    · have hz : ((crash s op tails).files.set (seg - s0) ⟨x.b.take a, min x.sure a⟩)[y.seg - s0]? = some z := by rw [List.getElem?_set_ne (by omega)]; exact p2
      rw [c2.read p1 hz, p5 (by omega)]
  · have eo : lgOpen (crash s op tails) seg a most = (crash s op tails, some ⟨seg, a, most, seg + 1, false⟩, 0) := by
      unfold lgOpen
      rw [if_pos hmay, hrd]
      simp only [if_true]
      rw [if_neg (by omega), if_neg hlt]
    rw [eo]
    refine ⟨rfl, ⟨fun i y hy => ?_⟩⟩
    obtain ⟨g1, g2, g3, g4⟩ := hr i y hy
    refine ⟨g1, okS_le hok g3, ?_, g4⟩
    obtain ⟨p1, z, p2, p3, p4, p5⟩ := hkept y.seg g2 g3
    rw [ev.read p1 p2]
    congr 1
    by_cases hys : y.seg = seg
    · have hzx : z = x := by rw [hys] at p2; rw [q2] at p2; exact (Option.some.inj p2).symm
      subst hzx
      rw [hys] at p4 ⊢
      rw [← p4, List.take_of_length_le (by omega)]
    · exact p5 (by omega)
end
end Go.Sg
end

section
namespace Go.Proofs.YtofllgbdphakiaaGreatDoor
open Go.Den Go.Disk Go.Nm Go.Rec Go.Frame Go.Vint Go.Crc Go.Sg
/-- all but the first thing: they are worked upon, the first one stays. -/
theorem At.zoomTail {w0 w w' : World} {F0 : List Nat} {P : HP} {ps : List HP} (h : At w0 F0 (stars (P :: ps)) w) (f : Fr [] w w') : ∃ A, At w' A (stars ps) w' ∧ (∀ b ∈ A, b < hsz w) ∧ (∀ b ∈ A, b ∈ F0 ∨ hsz w0 ≤ b) ∧ ∀ w2 ps', At w' A (stars ps') w2 → At w0 F0 (stars (P :: ps')) w2 := by
  obtain ⟨F, ⟨A, B, p1, p2, rfl, hd⟩, h2, h3⟩ := h
  have g := f.grow
  have g3 := h3.grow
  refine ⟨B, At.start ((stars ps).fr p2 f (by simp)), (stars ps).lt p2, fun b hb => h2 b (by simp [hb]), fun w2 ps' ⟨F', q1, q2, q3⟩ => ?_⟩
  refine ⟨A ++ F', ⟨A, F', P.fr (P.fr p1 f (by simp)) q3 hd, q1, rfl, fun b hb hb' => ?_⟩, fun b hb => ?_, (h3.trans' f.nil).trans q3 fun b hb => h2 b (by simp [hb])⟩
  · rcases q2 b hb' with hq | hq
    · exact hd b hb hq
    · have := P.lt p1 b hb; omega
  · rcases List.mem_append.1 hb with hb | hb
    · exact h2 b (by simp [hb])
    · rcases q2 b hb with hq | hq
      · exact h2 b (by simp [hq])
      · exact .inr (by omega)
theorem tabS_re {w w1 : World} {A : List Nat} (hT : Tab w) (f : Fr [] w w1) (hA : ∀ b ∈ A, b ∈ ([] : List Nat) ∨ hsz w ≤ b) : TabS w1 A := fun w' fr => (hT.fr f).far fr fun hb => by
  obtain ⟨T, g, b⟩ := hT
  have h1 := blk_lt b
  have h2 := hA _ hb
  simp at h2
  omega
section
variable {x y z u : Value}
instance : Ev (extractv (.tuple #[x, y, z, u]) 0) x := ⟨rfl⟩
instance : Ev (extractv (.tuple #[x, y, z, u]) 1) y := ⟨rfl⟩
instance : Ev (extractv (.tuple #[x, y, z, u]) 2) z := ⟨rfl⟩
instance : Ev (extractv (.tuple #[x, y, z, u]) 3) u := ⟨rfl⟩
end
abbrev Pe := Int × SV × ByteArray × Nat × Nat
def encPl (x : Pe) : List Value := [.int .i64 x.1, x.2.1.v, .string x.2.2.1, .int .u64 (x.2.2.2.1 : Int), .int .u64 (x.2.2.2.2 : Int)]
theorem encPl_len (x : Pe) : (encPl x).length = 5 := rfl
theorem encPl_one (x : Pe) : ∀ u ∈ encPl x, u.oneCell' = true := by intro u hu; simp [encPl] at hu; rcases hu with rfl | rfl | rfl | rfl | rfl <;> rfl
/-- places: each with its record's numbers, as these came in. -/
structure Pls (w : World) (cs : List Pe) (ps : List Pc) : Prop where
  len : cs.length = ps.length
  at_ : ∀ (i : Nat) (x : Pc), ps[i]? = some x → ∃ (s : SV) (t : ByteArray), cs[i]? = some (x.k, s, t, x.seg, x.at_) ∧ t.data.toList = x.t ∧ Arr encU 1 w s.v x.ns
theorem Pls.fr {w w' : World} {cs : List Pe} {ps : List Pc} (h : Pls w cs ps) (f : Fr [] w w') : Pls w' cs ps := ⟨h.len, fun i x hx => by
  obtain ⟨s, t, h1, h2, h3⟩ := h.at_ i x hx
  exact ⟨s, t, h1, h2, h3.fr f (by simp)⟩⟩
/-- records that came in. -/
structure RcsIn (w : World) (lv : Value) (cs : List (Int × SV × ByteArray)) : Prop where
  arr : Arr encRc 3 w lv cs
  at_ : ∀ c ∈ cs, ∃ ns, Arr encU 1 w c.2.1.v ns ∧ ∀ n ∈ ns, n < 18446744073709551616
theorem RcsIn.fr {w w' : World} {lv : Value} {cs : List (Int × SV × ByteArray)} (h : RcsIn w lv cs) (f : Fr [] w w') : RcsIn w' lv cs := ⟨h.arr.fr f (by simp), fun c hc => by
  obtain ⟨ns, h1, h2⟩ := h.at_ c hc
  exact ⟨ns, h1.fr f (by simp), h2⟩⟩
theorem ba_eq {a b : ByteArray} (h : a.data.toList = b.data.toList) : a = b := ByteArray.ext (Array.ext' h)
def largeR (c : Int × SV × ByteArray) : Bool := decide (100 < c.2.1.n) || decide (300 < c.2.2.size)
set_option linter.unusedSimpArgs false
set_option linter.unusedVariables false
set_option maxRecDepth 20000
set_option maxHeartbeats 4000000
attribute [local congr] BND_cg COND_cg GEF_cg
attribute [local irreducible] capl slicea load1 loadn iaddr iaddra faddr storev newslice binv lookv mupd mdel mlenv mentry mestore slicev slicev3 slices indexs indexav textv rangev nexts clearv shiftv eqaggv convi buildv pickv lens lenl unv nilchk extractv partn JOIN
section
variable {w : World} {R : Value → World → Prop}
theorem sq_Equal {a b : Value} {xs ys : List Nat} (ha : Arr encU 1 w a xs) (hb : Arr encU 1 w b ys) (hn : xs.length < 1000000000) (hR : ∀ w', Fr [] w w' → R (.bool (decide (xs = ys))) w') :
    CALL PR F_slices_Equal_uint64_uint64 [a, b] w R := by
  refine C_slices_Equal_uint64_uint64 ?_
  unfold M_slices_Equal_uint64_uint64
  by_cases hl : xs.length = ys.length
  · (repeat (first | refine BND_step ha.len ?_ | refine BND_step hb.len ?_ | refine gg ?_))
    refine loop_up 0 xs.length (fun i w' => Fr [] w w' ∧ xs.take i = ys.take i) ⟨Fr.refl _ _, rfl⟩ (by omega) ?_
    rintro i w1 - hi ⟨f1, e⟩ J m hJ
    by_cases hlt : i < xs.length
    · have hx := List.getElem?_eq_getElem hlt
      have hy := List.getElem?_eq_getElem (l := ys) (i := i) (by omega)
      generalize xs[i] = x at hx
      generalize ys[i] = y at hy
      obtain ⟨b1, o1, i1, _, _, l1⟩ := (ha.fr f1 (by simp)).spot hx rfl .i64
      obtain ⟨b2, o2, i2, _, _, l2⟩ := (hb.fr f1 (by simp)).spot hy rfl .i64
      (repeat (first | refine BND_step (l1 (w' := w1.drew) rfl (j := 0) rfl) ?_ | refine BND_step (l2 (w' := w1.drew) rfl (j := 0) rfl) ?_ | refine gg ?_))
      by_cases he : x = y
      · have he' : (x : Int) = (y : Int) := by rw [he]
        (repeat refine gg ?_)
        refine hJ _ hlt ⟨f1.trans' (Fr.drew _ _), ?_⟩
        rw [List.take_add_one, List.take_add_one, hx, hy, e, he]
      · have he' : ¬ (x : Int) = (y : Int) := by omega
        (repeat refine gg ?_)
        have := hR _ (f1.trans' (Fr.drew _ _))
        rwa [decide_eq_false (fun h => he (by subst h; rw [hx] at hy; exact Option.some.inj hy))] at this
    · (repeat refine gg ?_)
      have := hR _ f1
      rw [List.take_of_length_le (by omega), List.take_of_length_le (by omega)] at e
      rwa [decide_eq_true e] at this
  · (repeat (first | refine BND_step ha.len ?_ | refine BND_step hb.len ?_ | refine gg ?_))
    have := hR _ (Fr.refl _ _)
    rwa [decide_eq_false (fun h => hl (by rw [h]))] at this
/-- two records of the same kind, numbers and text. -/
theorem rq_Same {k : Int} {n1 n2 : SV} {ns : List Nat} {t : ByteArray} (h1 : Arr encU 1 w n1.v ns) (h2 : Arr encU 1 w n2.v ns) (hn : ns.length < 1000000000) (hR : ∀ w', Fr [] w w' → R (.bool true) w') :
    CALL PR F_record_Same [.agg (encRc (k, n1, t)).toArray, .agg (encRc (k, n2, t)).toArray] w R := by
  refine C_record_Same ?_
  unfold M_record_Same
  refine NEW_intro fun w1 b1 f1 z1 => NEW_intro fun w2 b2 f2 z2 => ?_
  replace b1 : blk w1 (hsz w) = some (.cells (encRc (k, n1, t)).toArray 37 (0, 0)) := b1
  replace b2 : blk w2 (hsz w1) = some (.cells (encRc (k, n2, t)).toArray 37 (0, 0)) := b2
  replace b1 := f2.some (by simp) b1
  unfold encRc at b1 b2
  have f12 := f1.trans' f2
  (repeat refine gg ?_)
  refine sq_Equal (h1.fr f12 (by simp)) (h2.fr f12 (by simp)) hn fun w3 f3 => ?_
  rw [decide_eq_true rfl]
  have c1 := f3.some (by simp) b1
  have c2 := f3.some (by simp) b2
  (repeat refine gg ?_)
  exact hR _ (f12.trans' f3)
theorem r5_Large1 (c : Int × SV × ByteArray) (hR : ∀ w', Fr [] w w' → R (.bool (largeR c)) w') : CALL PR F_tumbrelref05_Large [.agg (encRc c).toArray] w R := by
  refine C_tumbrelref05_Large ?_
  unfold M_tumbrelref05_Large
  refine NEW_intro fun w1 b1 f1 z1 => ?_
  replace b1 : blk w1 (hsz w) = some (.cells (encRc c).toArray 39 (0, 0)) := b1
  obtain ⟨k, nv, t⟩ := c
  unfold encRc SV.v at b1
  have := hR _ f1
  unfold largeR at this
  simp only at this
  by_cases q1 : 100 < nv.n
  · have q1' : (100 : Int) < (nv.n : Int) := by omega
    rw [decide_eq_true q1, Bool.true_or] at this
    (repeat refine gg ?_)
    exact this
  · have q1' : ¬ (100 : Int) < (nv.n : Int) := by omega
    rw [decide_eq_false q1, Bool.false_or] at this
    by_cases q2 : 300 < t.size
    · have q2' : (300 : Int) < (t.size : Int) := by omega
      rw [decide_eq_true q2] at this
      (repeat refine gg ?_)
      exact this
    · have q2' : ¬ (300 : Int) < (t.size : Int) := by omega
      rw [decide_eq_false q2] at this
      (repeat refine gg ?_)
      exact this
end
section
variable {w0 w w' : World} {F0 : List Nat} {d p : Nat} {s : Dk} {l : Lg} {R : Value → World → Prop}
theorem sg_there (hT : TabS w0 F0) (h : At w0 F0 (stars [pts p (lgC d l), diskHP d s]) w) (hi : Inv s) (hn : s.dirs.length < 100000000) {pv : Value} {cs : List Pe} {ps : List Pc} (ha : ∀ w', Fr F0 w0 w' → Arr encPl 5 w' pv cs) (hp : ∀ w', Fr F0 w0 w' → Pls w' cs ps) (hh : Held s ps) (hl : ps.length < 1000)
    (hR : ∀ w', At w0 F0 (stars [pts p (lgC d l), diskHP d s]) w' → R (.bool true) w') : CALL PR F_tumbrellaw15_there [ptrTo p, pv] w R := by
  refine C_tumbrellaw15_there ?_
  unfold M_tumbrellaw15_there
  have hcl := (hp _ h.frame).len
  refine BND_step (ha _ h.frame).len ?_
  refine loop_up 0 cs.length (fun i w' => At w0 F0 (stars [pts p (lgC d l), diskHP d s]) w') h (by omega) ?_
  rintro i w1 - hi1 h1 J m hJ
  by_cases hlt : i < cs.length
  · obtain ⟨x, hx⟩ : ∃ x, ps[i]? = some x := ⟨_, List.getElem?_eq_getElem (by omega)⟩
    obtain ⟨sv, t, c1, ct, c2⟩ := (hp _ h1.frame).at_ i x hx
    obtain ⟨okp, okx, _, _⟩ := hh.at_ i x hx
    have hrd := hh.read hx
    have hsx := okS_iff.1 okx
    obtain ⟨bb, oo, ia, ln, _, _⟩ := (ha _ h1.frame).spot c1 rfl .i64
    (repeat refine gg ?_)
    refine box_step (n := 5) (zs := [_, _, _, _, _]) (vs := encPl (x.k, sv, t, x.seg, x.at_)) rfl rfl (encPl_one _) (by simp [encPl]) fun w3 b3 f3 z3 => ?_
    have h3 := h1.fr0 f3
    have hatx : x.at_ < 18446744073709551616 := by
      obtain ⟨_, _, hr, hat⟩ := hh.at_ i x hx
      have h0 := read_sm hi (sgN x.seg)
      rw [hr] at h0
      have h1 := segB_at hx
      rw [hat]
      have h2 : (segB ps x.seg).length = _ := congrArg List.length h1
      rw [List.length_append] at h2
      simp only at h0
      omega
    have b3' : blk w3 (hsz w1) = some (.cells [.int .i64 x.k, sv.v, .string t, .int .u64 (x.seg : Int), .int .u64 (x.at_ : Int)].toArray 79 (0, 0)) := b3
    (repeat refine gg ?_)
    -- the block of the place stands apart
    have h3a : At w0 F0 (stars [pts (hsz w1) (encPl (x.k, sv, t, x.seg, x.at_)), pts p (lgC d l), diskHP d s]) w3 := h1.add f3 (P := pts (hsz w1) (encPl (x.k, sv, t, x.seg, x.at_))) (A := [hsz w1]) ⟨⟨_, b3⟩, rfl⟩ (by simp)
    obtain ⟨A, z3', zlt, zA, back⟩ := At.zoomTail h3a (Fr.refl _ _)
    have hTA : TabS w3 A := fun w' fr => hT w' (h3.frame.trans fr zA)
    refine sg_Read hTA z3' hi hn x.seg x.at_ (by omega) hatx fun w4 nv G z4 s4 g4 f4 => ?_
    rw [hrd] at s4 ⊢
    have h4 := back _ _ z4
    have c24 : Arr encU 1 w4 sv.v x.ns := c2.fr (f3.trans' f4) (by simp)
    have b4 : blk w4 (hsz w1) = _ := f4.some (by simp) b3
    (repeat refine gg ?_)
    refine box_step (n := 3) (zs := [_, _, _]) (vs := encRc ((x.rc.kind : Int), nv, txB x.rc.text)) rfl rfl (encRc_one _) (by simp [encRc]) fun w6 b6 f6 z6 => ?_
    have b36 := f6.some (by simp) b4
    have e36 : loadn 3 w6 (.pointer (some ⟨hsz w1, 0, none⟩)) = some (.agg (encRc (x.k, sv, t)).toArray) := by
      rw [loadn_blk b36 (by simp [encPl])]
      rfl
    (repeat refine gg ?_)
    have hts : t.size = x.t.length := by rw [← ct]; exact Array.length_toList.symm
    refine rec_Bytes x.k t (c24.fr f6 (by simp)) okp.small (fun w7 hno _ => by rw [hts, okp.right] at hno; cases hno) fun w7 v7 G7 _ s7 g7 f7 => ?_
    rw [ct] at s7
    have l7 := s7.len
    have b67 := f7.some (by simp) b6
    have b37 := f7.some (by simp) b36
    have e37 : loadn 3 w7 (.pointer (some ⟨hsz w1, 0, none⟩)) = some (.agg (encRc (x.k, sv, t)).toArray) := by
      rw [loadn_blk b37 (by simp [encPl])]
      rfl
    have e67 := loadn_all' b67 (encRc_len _)
    have eq7 : ((x.b.length : Nat) : Int) = (((recB x.k.toNat x.ns x.t).length : Nat) : Int) := rfl
    have hk : ((x.rc.kind : Nat) : Int) = x.k := by
      have := (right_known okp.right).1
      show ((x.k.toNat : Nat) : Int) = x.k
      omega
    have htx : txB x.rc.text = t := ba_eq (by show x.t = _; rw [ct])
    rw [hk, htx] at e67
    (repeat refine gg ?_)
    refine rq_Same (ns := x.ns) ((s4.fr f6 (by simp)).fr f7 (by simp)).arr ((c24.fr f6 (by simp)).fr f7 (by simp)) (by have := (right_known okp.right).2.2.1; have := manyOf_le x.k.toNat; omega) fun w8 f8 => ?_
    (repeat refine gg ?_)
    refine hJ _ hlt ?_
    exact (((At.tail (h4.fr0 f6)).fr0 f7).fr0 f8)
  · (repeat refine gg ?_)
    exact hR _ h1
end
end Go.Proofs.YtofllgbdphakiaaGreatDoor
end

section
namespace Go.Proofs.YtofllgbdphakiaaGreatDoor
open Go.Den Go.Disk Go.Rec Go.Vint
open Go.ChangeShapes Go.WideShapes Go.ChangeAt Go.RowKit
set_option linter.unusedVariables false
def RcOk (w : World) (c : Int × SV × ByteArray) : Prop := ∃ ns, Arr encU 1 w c.2.1.v ns ∧ ∀ n ∈ ns, n < 18446744073709551616
section
variable {H : Type} {enc : TypeId × Value → H} {w : World}
theorem u64n_dec (fuel : Nat) (cs : List Value) (y : DataW H × List MemPlace) (h : DataW.trod enc Tryz.prog w 0 (fun _ => true) true fuel 22 cs = some y) : ∃ x : Nat, cs = encU x ∧ x < 18446744073709551616 := by
  obtain ⟨a, e, _, q⟩ := DataW.trod_int Tryz.underlying22 h
  obtain ⟨n, rfl, hn⟩ := u64_nat q
  exact ⟨n, e, hn⟩
theorem intz_dec (fuel : Nat) (cs : List Value) (y : DataW H × List MemPlace) (h : DataW.trod enc Tryz.prog w 0 (fun _ => true) true fuel 3 cs = some y) : ∃ x : Int, cs = encI x ∧ True := by
  obtain ⟨a, e, _, q⟩ := DataW.trod_int Tryz.underlying3 h
  exact ⟨a, e, trivial⟩
theorem encIq_len (x : Int) : (encI x).length = 1 := rfl
set_option maxRecDepth 100000 in
theorem rec0_dec (fuel : Nat) (cs : List Value) (y : DataW H × List MemPlace) (h : DataW.trod enc Tryz.prog w 0 (fun _ => true) true fuel 37 cs = some y) : ∃ (a0 : Int) (a1 : Value) (a2 : ByteArray), cs = [.int .i64 a0, a1, .string a2] ∧ (Lit.int .i64 a0).wf = true ∧ (Capd a1 ∧ ∃ xs, Arr encU 1 w a1 xs ∧ (∀ x ∈ xs, (fun n => n < 18446744073709551616) x) ∧ ((y.1.weights Tryz.prog 37).all (· ≤ reachBytes) = true → xs.length * Tryz.prog.bytesOf 22 ≤ reachBytes)) ∧ a2.size ≤ 9223372036854775807 := by
  obtain ⟨y0, y1, y2, n, hy, hl, h0, h1, h2⟩ := trodS3 Tryz.underlying37 h
  have hc : Tryz.prog.cellsOf 37 = 3 := by kernel_rfl
  rw [hc] at hl
  have c0 : Tryz.prog.cellsOf 3 = 1 := by kernel_rfl
  have c1 : Tryz.prog.cellsOf 35 = 1 := by kernel_rfl
  have c2 : Tryz.prog.cellsOf 9 = 1 := by kernel_rfl
  match cs, hl with
  | [u0, u1, u2], _ =>
    simp only [c0, c1, c2, List.drop_zero, List.take_succ_cons, List.take_zero, List.drop_succ_cons] at h0 h1 h2
    have hWs : (y.1.weights Tryz.prog 37).all (· ≤ reachBytes) = true → (y0.1.weights Tryz.prog 3).all (· ≤ reachBytes) = true ∧ (y1.1.weights Tryz.prog 35).all (· ≤ reachBytes) = true ∧ (y2.1.weights Tryz.prog 9).all (· ≤ reachBytes) = true := by
      intro hW
      rw [hy] at hW
      simpa only [DataW.weights, Tryz.underlying37, List.map_cons, List.map_nil, DataW.weightsEach, List.all_append, List.all_nil, Bool.and_eq_true, and_true] using hW
    obtain ⟨a0, e0, _, q0⟩ := DataW.trod_int Tryz.underlying3 h0
    obtain ⟨a1, e1, q1⟩ := arr_of_cells (P := Tryz.prog) (encS := encU) (OK := (fun n => n < 18446744073709551616)) Tryz.underlying35 (show Tryz.prog.cellsOf 22 = 1 by kernel_rfl) (by omega) encU_len (u64n_dec) h1
    obtain ⟨a2, e2, _, q2⟩ := DataW.trod_string Tryz.underlying9 h2
    simp only [List.cons.injEq, and_true] at e0 e1 e2
    subst e0
    subst e1
    subst e2
    exact ⟨a0, u1, a2, rfl, q0, ⟨q1.1, q1.2.elim fun xs p => ⟨xs, p.1, p.2.1, fun hW => p.2.2 (hWs hW).2.1⟩⟩, q2⟩
theorem rcd_dec (fuel : Nat) (cs : List Value) (y : DataW H × List MemPlace) (h : DataW.trod enc Tryz.prog w 0 (fun _ => true) true fuel 37 cs = some y) : ∃ x : Int × SV × ByteArray, cs = encRc x ∧ RcOk w x := by
  obtain ⟨a0, a1, a2, e, _, ⟨⟨a, n, c, rfl, _⟩, xs, hx, hu, _⟩, _⟩ := rec0_dec _ _ _ h
  exact ⟨(a0, ⟨a, n, c⟩, a2), e, xs, hx, hu⟩
end
section
variable {w : World} {R : Value → World → Prop}
theorem rcs_in {lv : Value} {rs : List (Int × SV × ByteArray)} (h : Arr encRc 3 w lv rs) (ho : ∀ c ∈ rs, RcOk w c) : RcsIn w lv rs := ⟨h, ho⟩
end
end Go.Proofs.YtofllgbdphakiaaGreatDoor
end

section
namespace Go.Proofs.YtofllgbdphakiaaGreatDoor
open Go.Den Go.Disk Go.Nm Go.Rec Go.Frame Go.Vint Go.Crc Go.Sg Go.Ev
theorem tabS_start {w : World} (hT : Tab w) : TabS w [] := fun _ f => hT.fr f
/-- what stands behind many appends. -/
structure Made (w w' : World) (d p : Nat) (pv : Value) (cs : List Pe) (s : Dk) (l : Lg) (s0 : Nat) (ps : List Pc) (c m : Nat) : Prop where
  at_ : At w [] (stars [slc encPl 5 pv cs, pts p (lgC d l), diskHP d s]) w'
  pls : Pls w cs ps
  full : Full s 131072 l s0 ps c m
  chain : Chain l s0 ps
  fresh : Fresh l s0
  len : c = ps.length ∧ m ≤ ps.length
theorem pls_snoc {w : World} {cs : List Pe} {ps : List Pc} {sv : SV} {t : ByteArray} {x : Pc} (h : Pls w cs ps) (ht : t.data.toList = x.t) (ha : Arr encU 1 w sv.v x.ns) : Pls w (cs ++ [(x.k, sv, t, x.seg, x.at_)]) (ps ++ [x]) := by
  refine ⟨by simp [h.len], fun i y hy => ?_⟩
  by_cases hi : i < ps.length
  · rw [List.getElem?_append_left hi] at hy
    obtain ⟨s2, t2, h1, h2, h3⟩ := h.at_ i y hy
    exact ⟨s2, t2, by rw [List.getElem?_append_left (by rw [h.len]; exact hi)]; exact h1, h2, h3⟩
  · have : i = ps.length := by have := (List.getElem?_eq_some_iff.1 hy).1; simp at this; omega
    subst this
    simp at hy; subst hy
    exact ⟨sv, t, by rw [List.getElem?_append_right (by rw [h.len]; exact Nat.le_refl _), h.len]; simp, ht, ha⟩
set_option linter.unusedSimpArgs false
set_option linter.unusedVariables false
set_option maxRecDepth 20000
set_option maxHeartbeats 4000000
attribute [local congr] BND_cg COND_cg GEF_cg
attribute [local irreducible] capl slicea load1 loadn iaddr iaddra faddr storev newslice binv lookv mupd mdel mlenv mentry mestore slicev slicev3 slices indexs indexav textv rangev nexts clearv shiftv eqaggv convi buildv pickv lens lenl unv nilchk extractv partn JOIN
section
variable {w : World} {R : Value → World → Prop}
theorem sg_full (hT : Tab w) (seg : Nat) (hseg : seg < 18446744073709551616) (size : Int) {lv : Value} {rs : List (Int × SV × ByteArray)} (hin : RcsIn w lv rs) (hR0 : ∀ w', Fr [] w w' → R (.tuple #[.pointer none, .pointer none, .slice none 0 0, .bool false]) w')
    (hR : ∀ w' d p pv cs s l ps c m, seg ≤ 1000 → l.most = size → ps.length ≤ 50 → Made w w' d p pv cs s l seg ps c m → R (.tuple #[ptrTo d, ptrTo p, pv, .bool true]) w') :
    CALL PR F_tumbrellaw15_full [.int .u64 (seg : Int), .int .i64 size, lv] w R := by
  refine C_tumbrellaw15_full ?_
  unfold M_tumbrellaw15_full
  have hT0 := tabS_start hT
  refine dk_New 131072 (fun h => by omega) fun _ w1 d h1 => ?_
  have nil := ptr_nilS (d := d)
  have hlen := hin.arr.len
  by_cases q1 : 50 < rs.length
  · have q1' : (50 : Int) < (rs.length : Int) := by omega
    (repeat refine gg ?_)
    exact hR0 _ h1.frame
  have q1' : ¬ (50 : Int) < (rs.length : Int) := by omega
  by_cases q2 : 1000 < seg
  · have q2' : (1000 : Int) < (seg : Int) := by omega
    (repeat refine gg ?_)
    exact hR0 _ h1.frame
  have q2' : ¬ (1000 : Int) < (seg : Int) := by omega
  (repeat refine gg ?_)
  have hroom : (16 : Int) ≤ 131072 ∧ (131072 : Int) ≤ 1048576 := by omega
  refine sg_Begin hT0 h1 (inv_empty hroom) (by simp [empty]) (by simp [empty]) seg hseg size fun w2 o ho h2 => ?_
  cases hm : mayL seg size with
  | false =>
    have e : lgBegin (empty 131072) seg size = (empty 131072, none, 1) := by unfold lgBegin; rw [hm]; rfl
    rw [e] at ho h2 ⊢
    obtain rfl : o = none := by cases o with
      | none => rfl
      | some x => cases ho
    unfold valL
    (repeat refine gg ?_)
    exact hR0 _ h2.frame
  | true =>
    obtain ⟨e1, e2⟩ := full_start hroom hm
    rw [e1] at ho ⊢
    obtain ⟨p, rfl⟩ : ∃ p, o = some (p, ⟨seg, 0, size, seg, true⟩) := by
      cases o with
      | none => cases ho
      | some x => obtain ⟨p, l⟩ := x; simp at ho; exact ⟨p, by rw [ho]⟩
    have nil2 := ptr_nilS (d := p)
    unfold valL
    (repeat refine gg ?_)
    have h2a : At w [] (stars [slc encPl 5 (.slice none 0 0) [], pts p (lgC d ⟨seg, 0, size, seg, true⟩), diskHP d (lgBegin (empty 131072) seg size).1]) w2 := h2.add0 (P := slc encPl 5 (.slice none 0 0) []) (Slc.nil _ _ _)
    refine loop_up2 (o := .slice none 0 0) 0 rs.length (fun o i w' => ∃ cs s l ps c m, l.most = size ∧ ps.length = i ∧ Made w w' d p o cs s l seg ps c m)
      ⟨[], _, _, [], 0, 0, rfl, rfl, ⟨h2a, ⟨rfl, fun i x hx => by simp at hx⟩, e2, chain_start _ _, ⟨rfl, rfl⟩, by simp⟩⟩ (by omega) ?_
    rintro o i w3 - hi ⟨cs, s, l, ps, c, m, hmost, hpl, M⟩ J mm hJ
    by_cases hlt : i < rs.length
    · have hx := List.getElem?_eq_getElem hlt
      have hmem := List.getElem_mem hlt
      generalize rs[i] = r at hx hmem
      have f3 := M.at_.frame
      obtain ⟨bb, oo, ia, ln, _, _⟩ := (hin.arr.fr f3 (by simp)).spot hx rfl .i64
      obtain ⟨ns, hns, hsm⟩ := hin.at_ r hmem
      obtain ⟨k, sv, t⟩ := r
      simp only at hns
      (repeat refine gg ?_)
      refine box_step (n := 3) (zs := [_, _, _]) (vs := encRc (k, sv, t)) rfl rfl (encRc_one _) (by simp [encRc]) fun w5 b5 f5 z5 => ?_
      have e5 := loadn_all' b5 (encRc_len _)
      (repeat refine gg ?_)
      refine r5_Large1 (k, sv, t) fun w6 f6 => ?_
      have b6 := f6.some (by simp) b5
      have e6 := loadn_all' b6 (encRc_len _)
      have f06 := (f3.trans' f5).trans' f6
      cases hlg : largeR (k, sv, t) with
      | true =>
        (repeat refine gg ?_)
        exact hR0 _ f06
      | false =>
        (repeat refine gg ?_)
        refine rec_Right k t (hns.fr f06 (by simp)) fun w7 f7 => ?_
        have b7 := f7.some (by simp) b6
        have e7 := loadn_all' b7 (encRc_len _)
        have f07 := f06.trans' f7
        have ets : t.data.toList.length = t.size := Array.length_toList
        cases hrt : rightB k ns.length t.size with
        | false =>
          (repeat refine gg ?_)
          exact hR0 _ f07
        | true =>
          have hrt' : rightB k ns.length t.data.toList.length = true := by rw [ets]; exact hrt
          obtain ⟨A, z7, zlt, zA, back⟩ := At.zoomTail M.at_ ((f5.trans' f6).trans' f7)
          have hTA := tabS_re hT f07 zA
          have hsm2 := M.full.small
          obtain ⟨cl, ml⟩ := M.len
          (repeat refine gg ?_)
          refine sg_Append hTA z7 M.full.inv (by omega) (by omega) M.full.lg (by omega) k t (hns.fr f07 (by simp)) hsm fun w8 z8 => ?_
          obtain ⟨x, xk, xn, xt, xe, ⟨m', xm, xf⟩, xw⟩ := full_append M.full (by omega) (by omega) (by omega) hrt' hsm
          rw [xe]
          have h8 := back _ _ z8
          have b8 : blk w8 (hsz w3) = some (.cells (encRc (k, sv, t)).toArray 37 (0, 0)) := z8.frame.some (fun hb => by have := zlt _ hb; omega) b7
          have e8 := loadn_all' b8 (encRc_len _)
          have hle : ∀ y ∈ ps, y.seg ≤ l.seg := fun y hy => by
            obtain ⟨j, hj⟩ := List.mem_iff_getElem?.1 hy
            exact (M.full.recs j y hj).2.2.1
          have hxl : 0 < x.b.length := by
            have := (xf.recs ps.length x (by simp)).1.len
            omega
          (repeat (first | refine gg ?_ | (apply BND_build (encPl (k, sv, t, x.seg, x.at_)); exact rfl)))
          refine newone_step (enc := encPl) (x := (k, sv, t, x.seg, x.at_)) encPl_len rfl fun t9 w9 s9 f9 z9 => ?_
          refine (h8.fr0 f9).append (i := 0) rfl (s9.loads encPl_len) encPl_len encPl_one rfl (by omega) (by have := M.pls.len; simp; omega) fun v10 w10 h10 _ => ?_
          (repeat refine gg ?_)
          refine hJ _ _ hlt ⟨cs ++ [(k, sv, t, x.seg, x.at_)], _, _, ps ++ [x], c + 1, m', by rw [xw.most]; exact hmost, by simp [hpl], ⟨h10, ?_, xf, chain_snoc M.chain xw hxl hle, fresh_went M.fresh M.full.seg xw, by simp [cl], by simp; omega⟩⟩
          have := pls_snoc (sv := sv) (t := t) (x := x) M.pls (by rw [xt]) (by rw [xn]; exact hns)
          rw [xk] at this
          exact this
    · have hil : i = rs.length := by omega
      (repeat refine gg ?_)
      exact hR w3 d p o cs s l ps c m (by omega) hmost (by omega) M
theorem tick_len : (recB 7 [5] []).length = 12 := by decide +kernel
theorem sg_awake (hT : Tab w) (hR : ∀ w', Fr [] w w' → R (.bool true) w') : CALL PR F_tumbrellaw15_awake [] w R := by
  refine C_tumbrellaw15_awake ?_
  unfold M_tumbrellaw15_awake
  have hT0 := tabS_start hT
  have hroom : (16 : Int) ≤ 200 ∧ (200 : Int) ≤ 1048576 := by omega
  refine dk_New 200 (fun h => by omega) fun _ w1 d h1 => ?_
  have nil := ptr_nilS (d := d)
  (repeat refine gg ?_)
  refine sg_Begin hT0 h1 (inv_empty hroom) (by simp [empty]) (by simp [empty]) 1 (by omega) 64 fun w2 o ho h2 => ?_
  have hm : mayL 1 64 = true := by decide
  obtain ⟨e1, e2⟩ := full_start hroom hm
  rw [e1] at ho ⊢
  obtain ⟨p, rfl⟩ : ∃ p, o = some (p, ⟨1, 0, 64, 1, true⟩) := by
    cases o with
    | none => cases ho
    | some x => obtain ⟨p, l⟩ := x; simp at ho; exact ⟨p, by rw [ho]⟩
  have nil2 := ptr_nilS (d := p)
  unfold valL
  (repeat refine gg ?_)
  refine newone_step (enc := encU) (x := 5) encU_len rfl fun t3 w3 s3 f3 z3 => ?_
  obtain ⟨sv, rfl⟩ := slc_sv s3
  (repeat (first | refine gg ?_ | (apply BND_build (encRc (7, sv, ⟨#[]⟩)); exact rfl)))
  have h3 : At w [] (stars [pts p (lgC d ⟨1, 0, 64, 1, true⟩), diskHP d (lgBegin (empty 200) 1 64).1]) w3 := At.fr0 (P := stars [pts p (lgC d ⟨1, 0, 64, 1, true⟩), diskHP d (lgBegin (empty 200) 1 64).1]) h2 f3
  have hsm := e2.small
  refine sg_Append hT0 h3 e2.inv (by omega) (by omega) e2.lg (by omega) 7 ⟨#[]⟩ s3.arr (by intro n hn; simp at hn; omega) fun w4 h4 => ?_
  obtain ⟨x, xk, xn, xt, xe, ⟨m', xm, xf⟩, xw⟩ := full_append e2 (by omega) (by omega) (by omega) (k := 7) (ns := [5]) (t := []) (by decide) (by intro n hn; simp at hn; omega)
  have ew : (⟨#[]⟩ : ByteArray).data.toList = [] := rfl
  rw [ew] at h4 ⊢
  rw [xe]
  obtain ⟨hxs, hxa⟩ : x.seg = 1 ∧ x.at_ = 0 := by
    rcases xw.way with ⟨a, b, _⟩ | ⟨_, _, c⟩
    · exact ⟨a, b⟩
    · exact absurd c (by simp)
  have hxb : x.b = recB 7 [5] [] := by unfold Pc.b; rw [xk, xn, xt]; rfl
  have hat' := xw.at_
  have hseg' := xw.seg
  have hmost' := xw.most
  have hxl : x.b.length = 12 := by rw [hxb]; exact tick_len
  generalize hA : lgAppend (lgBegin (empty 200) 1 64).1 ⟨1, 0, 64, 1, true⟩ 7 [5] [] = q at *
  obtain ⟨s, l, q2⟩ := q
  simp only at h4 xf xw hat' hseg' hmost'
  have hsm2 := xf.small
  have hrd := xf.held.read (i := 0) (x := x) rfl
  rw [hxs, hxa, hxl] at hrd
  have hrs : Disk.read s (sgN 1) = (x.b, 0) := by
    have := (xf.held.at_ 0 x rfl).2.2.1
    rw [hxs] at this
    rw [this, List.nil_append, segB_one, if_pos hxs]
  have hrd2 : lgRead s 1 12 = (zeroR, 0, 3) := by
    unfold lgRead
    rw [if_pos (by decide), hrs]
    simp only [if_true]
    rw [if_neg (by omega), List.drop_eq_nil_of_le (by omega)]
    exact first_none
  have hop : lgOpen s 1 13 64 = (s, none, 3) := by
    unfold lgOpen
    rw [if_pos (by decide), hrs]
    simp only [if_true]
    rw [if_pos (by omega)]
  obtain ⟨hs1, _, _, _⟩ := full_sync xf (fresh_went ⟨rfl, rfl⟩ (Nat.le_refl _) xw)
  (repeat refine gg ?_)
  have xs0 : ((x.seg : Nat) : Int) = 1 := by rw [hxs]; rfl
  have xa0 : ((x.at_ : Nat) : Int) = 0 := by rw [hxa]; rfl
  refine sg_Read hT0 h4 xf.inv (by omega) 1 0 (by omega) (by omega) fun w5 nv G h5 s5 g5 f5 => ?_
  rw [hrd] at s5 ⊢
  (repeat refine gg ?_)
  refine box_step (n := 3) (zs := [_, _, _]) (vs := encRc ((x.rc.kind : Int), nv, txB x.rc.text)) rfl rfl (encRc_one _) (by simp [encRc]) fun w7 b7 f7 z7 => ?_
  have h7 := h5.fr0 f7
  refine sg_End h7 ?_
  have h7d := h7.fr0 (Fr.drew [] w7)
  (repeat refine gg ?_)
  refine sg_Read hT0 h7d xf.inv (by omega) 1 12 (by omega) (by omega) fun w9 nv9 G9 h9 s9 g9 f9 => ?_
  rw [hrd2]
  (repeat refine gg ?_)
  refine box_step (n := 3) (zs := [_, _, _]) (vs := encRc ((zeroR.kind : Int), nv9, txB zeroR.text)) rfl rfl (encRc_one _) (by simp [encRc]) fun w11 b11 f11 z11 => ?_
  have f5_11 : Fr [] w5 w11 := ((f7.trans' (Fr.drew [] w7)).trans' f9).trans' f11
  obtain ⟨A, za, zlt, zA, back⟩ := At.zoom3 h5 f5_11 1 rfl
  have hTA := tabS_re hT (h5.fr0 f5_11).frame zA
  refine sg_Open hTA za xf.inv (by omega) 1 13 (by omega) (by omega) 64 fun w12 o12 ho12 h12 => ?_
  rw [hop] at ho12 h12 ⊢
  obtain rfl : o12 = none := by cases o12 with
    | none => rfl
    | some x => cases ho12
  have b11' : blk w11 (hsz w5) = _ := (((Fr.drew [] w7).trans' f9).trans' f11).some (by simp) b7
  have b12 : blk w12 (hsz w5) = _ := h12.frame.some (fun hb => by have := zlt _ hb; omega) b11'
  unfold encRc at b12
  have hk7 : ((x.rc.kind : Nat) : Int) = 7 := by show ((x.k.toNat : Nat) : Int) = 7; rw [xk]; rfl
  have hat12 : ((l.at_ : Nat) : Int) = 12 := by omega
  have h12b : At w [] (stars [pts p (lgC d l), diskHP d s]) w12 := back _ _ (At.unwrap h12)
  unfold valL
  (repeat refine gg ?_)
  refine sg_Sync hT0 h12b xf.inv (by omega) xf.lg fun w13 h13 => ?_
  rw [hs1]
  (repeat refine gg ?_)
  exact hR _ h13.frame
end
end Go.Proofs.YtofllgbdphakiaaGreatDoor
end

section
namespace Go.Proofs.YtofllgbdphakiaaGreatDoor
open Go.Den Go.Disk Go.Nm Go.Rec Go.Frame Go.Vint Go.Crc Go.Sg Go.Ev
/-- the first thing stays where it is. -/
theorem At.zoomT {w0 w w' : World} {F0 : List Nat} {P : HP} {ps : List HP} (h : At w0 F0 (stars (P :: ps)) w) (f : Fr [] w w') : ∃ A, At w' A (stars ps) w' ∧ (∃ B, P.p w' B ∧ ∀ b ∈ B, b ∉ A) ∧ (∀ b ∈ A, b < hsz w) ∧ (∀ b ∈ A, b ∈ F0 ∨ hsz w0 ≤ b) ∧ ∀ w2 ps', At w' A (stars ps') w2 → At w0 F0 (stars (P :: ps')) w2 := by
  obtain ⟨F, ⟨A, B, p1, p2, rfl, hd⟩, h2, h3⟩ := h
  have g := f.grow
  have g3 := h3.grow
  refine ⟨B, At.start ((stars ps).fr p2 f (by simp)), ⟨A, P.fr p1 f (by simp), hd⟩, (stars ps).lt p2, fun b hb => h2 b (by simp [hb]), fun w2 ps' ⟨F', q1, q2, q3⟩ => ?_⟩
  refine ⟨A ++ F', ⟨A, F', P.fr (P.fr p1 f (by simp)) q3 hd, q1, rfl, fun b hb hb' => ?_⟩, fun b hb => ?_, (h3.trans' f.nil).trans q3 fun b hb => h2 b (by simp [hb])⟩
  · rcases q2 b hb' with hq | hq
    · exact hd b hb hq
    · have := P.lt p1 b hb; omega
  · rcases List.mem_append.1 hb with hb | hb
    · exact h2 b (by simp [hb])
    · rcases q2 b hb with hq | hq
      · exact h2 b (by simp [hq])
      · exact .inr (by omega)
/-- places, as they stand while a log is worked upon. -/
theorem places_in {w w2 : World} {A B : List Nat} {pv : Value} {cs : List Pe} {ps : List Pc} (hp : Pls w cs ps) (f : Fr [] w w2) (hB : (slc encPl 5 pv cs).p w2 B) (hd : ∀ b ∈ B, b ∉ A) (hA : ∀ b ∈ A, b ∈ ([] : List Nat) ∨ hsz w ≤ b) :
    (∀ w', Fr A w2 w' → Arr encPl 5 w' pv cs) ∧ ∀ w', Fr A w2 w' → Pls w' cs ps := by
  refine ⟨fun w' fr => (Slc.fr (show Slc encPl 5 w2 pv cs B from hB) fr hd).arr, fun w' fr => hp.fr (f.trans fr hA)⟩
end Go.Proofs.YtofllgbdphakiaaGreatDoor
end

section
namespace Go.Proofs.YtofllgbdphakiaaGreatDoor
open Go.Den Go.Disk Go.Nm Go.Rec Go.Frame Go.Vint Go.Crc Go.Sg Go.Ev
theorem app_mo (s : Dk) (n : ByteArray) (b : List UInt8) : (append s n b).1.dirs.length = s.dirs.length ∧ (append s n b).1.files.length = s.files.length := by
  obtain ⟨h1, h2, _⟩ := can_keep s (appendE s n b.length)
  unfold append
  simp only
  split
  · simp only [setF, List.length_set]; rw [h1, h2]; exact ⟨rfl, rfl⟩
  · rw [h1, h2]; exact ⟨rfl, rfl⟩
theorem lgB_more (s : Dk) (l : Lg) (b : List UInt8) : (lgB s l b).1.dirs.length ≤ s.dirs.length + 1 ∧ (lgB s l b).1.files.length ≤ s.files.length + 1 := by
  have hput : ∀ s' l', (lgPut s' l' b).1.dirs.length = s'.dirs.length ∧ (lgPut s' l' b).1.files.length = s'.files.length := by
    intro s' l'
    unfold lgPut
    split <;> exact app_mo _ _ _
  have htu : (lgTurn s l).1.dirs.length ≤ s.dirs.length + 1 ∧ (lgTurn s l).1.files.length ≤ s.files.length + 1 := by
    have hmo := create_mo s (sgN (l.seg + 1))
    unfold lgTurn
    split
    · split <;> exact hmo
    · simp
  unfold lgB
  split
  · split
    · have := hput (lgTurn s l).1 (lgTurn s l).2.1; omega
    · exact htu
  · have := hput s l; omega
theorem lgAppend_more (s : Dk) (l : Lg) (k : Int) (ns : List Nat) (t : List UInt8) : (lgAppend s l k ns t).1.dirs.length ≤ s.dirs.length + 1 ∧ (lgAppend s l k ns t).1.files.length ≤ s.files.length + 1 := by
  unfold lgAppend
  split
  · exact lgB_more s l _
  · simp
set_option linter.unusedSimpArgs false
set_option linter.unusedVariables false
set_option maxRecDepth 20000
set_option maxHeartbeats 4000000
attribute [local congr] BND_cg COND_cg GEF_cg
attribute [local irreducible] capl slicea load1 loadn iaddr iaddra faddr storev newslice binv lookv mupd mdel mlenv mentry mestore slicev slicev3 slices indexs indexav textv rangev nexts clearv shiftv eqaggv convi buildv pickv lens lenl unv nilchk extractv partn JOIN
section
variable {w : World} {R : Value → World → Prop}
theorem sg_Sure (hT : Tab w) (seg : Nat) (hseg : seg < 18446744073709551616) (size : Int) {lv mv tv : Value} {rs ms : List (Int × SV × ByteArray)} {tails : List Int} (op : Int) (hin : RcsIn w lv rs) (him : RcsIn w mv ms) (ht : Arr encI 1 w tv tails) (hR : ∀ w', Fr [] w w' → R (.bool true) w') :
    CALL PR F_tumbrellaw15_SeglogSure [.int .u64 (seg : Int), .int .i64 size, lv, mv, .int .i64 op, tv] w R := by
  refine C_tumbrellaw15_SeglogSure ?_
  unfold M_tumbrellaw15_SeglogSure
  refine sg_awake hT fun w1 f1 => ?_
  (repeat refine gg ?_)
  have hT1 := hT.fr f1
  have him1 := him.fr f1
  have ht1 := ht.fr f1 (by simp)
  refine sg_full hT1 seg hseg size (hin.fr f1) (fun w2 f2 => ?_) fun w2 d p pv cs s l ps c m hs1000 hmost hpl M => ?_
  · (repeat refine gg ?_)
    exact hR _ (f1.trans' f2)
  have f2 := M.at_.frame
  have hsm := M.full.small
  obtain ⟨hcl, hml⟩ := M.len
  have hlm := him1.arr.len
  have hlt := ht1.len
  by_cases q1 : 50 < ms.length
  · have q1' : (50 : Int) < (ms.length : Int) := by omega
    (repeat refine gg ?_)
    exact hR _ (f1.trans' f2)
  have q1' : ¬ (50 : Int) < (ms.length : Int) := by omega
  by_cases q2 : 100 < tails.length
  · have q2' : (100 : Int) < (tails.length : Int) := by omega
    (repeat refine gg ?_)
    exact hR _ (f1.trans' f2)
  have q2' : ¬ (100 : Int) < (tails.length : Int) := by omega
  (repeat refine gg ?_)
  obtain ⟨A, za, _, zlt, zA, back⟩ := At.zoomT M.at_ (Fr.refl _ _)
  refine sg_Sync (tabS_re hT1 f2 zA) za M.full.inv (by omega) M.full.lg fun w3 z3 => ?_
  obtain ⟨e1, su, sd, sf⟩ := full_sync M.full M.fresh
  have hlg0 := sync_lg (s := s) M.full.lg
  obtain ⟨l1, hl1⟩ : ∃ l1 : Lg, l1 = { l with dirty := l.seg + 1, begun := false } := ⟨_, rfl⟩
  have k1 : l.seg = l1.seg := by rw [hl1]
  have k2 : l.at_ = l1.at_ := by rw [hl1]
  rw [← hl1] at e1 su
  rw [e1] at z3 hlg0 ⊢
  dsimp only at z3 hlg0 ⊢
  have h3 := back _ _ z3
  (repeat refine gg ?_)
  obtain ⟨A3, z3', _, _, _, _⟩ := At.zoomT h3 (Fr.refl _ _)
  refine sg_End z3' ?_
  have h4 := h3.fr0 (Fr.drew [] w3)
  generalize (lgSync s l).1 = s1 at *
  obtain ⟨a, ha⟩ : ∃ a, a = l1.at_ := ⟨_, rfl⟩
  obtain ⟨sg, hsg⟩ : ∃ x, x = l1.seg := ⟨_, rfl⟩
  have hat : a = (segB ps sg).length := by rw [ha, hsg, ← k1, ← k2]; exact M.full.at_
  have hrec := M.full.recs
  have hlo := M.full.lg.lo
  have hhi := M.full.lg.hi
  have hsg1 := M.full.seg
  have hsok := M.full.lg.seg
  rw [k1, k2, ← ha, ← hsg] at su
  rw [k1, ← hsg] at hrec hsg1 hsok
  rw [← ha, ← hsg]
  (repeat refine gg ?_)
  refine loop_up 0 ms.length (fun i w' => ∃ s' l', At w1 [] (stars [slc encPl 5 pv cs, pts p (lgC d l'), diskHP d s']) w' ∧ Sure s' l' seg a sg ps ∧ LgOk l' (175 * c + 175 * i) ∧ s'.dirs.length ≤ m + 2 + i ∧ s'.files.length ≤ m + 1 + i) ⟨s1, _, h4, su, hlg0, by omega, by omega⟩ (by omega) ?_
  rintro i w5 - hi ⟨s', l', h5, su5, lg5, d5, e5⟩ J mm hJ
  have f5 := h5.frame
  by_cases hlt2 : i < ms.length
  · have hx := List.getElem?_eq_getElem hlt2
    have hmem := List.getElem_mem hlt2
    generalize ms[i] = r at hx hmem
    obtain ⟨bb, oo, ia, ln, _, _⟩ := (him1.arr.fr f5 (by simp)).spot hx rfl .i64
    obtain ⟨ns, hns, hsm5⟩ := him1.at_ r hmem
    obtain ⟨k, sv, t⟩ := r
    simp only at hns
    (repeat refine gg ?_)
    refine box_step (n := 3) (zs := [_, _, _]) (vs := encRc (k, sv, t)) rfl rfl (encRc_one _) (by simp [encRc]) fun w7 b7 f7 z7 => ?_
    have e7 := loadn_all' b7 (encRc_len _)
    (repeat refine gg ?_)
    refine r5_Large1 (k, sv, t) fun w8 f8 => ?_
    have b8 := f8.some (by simp) b7
    have e8 := loadn_all' b8 (encRc_len _)
    have f08 := (f5.trans' f7).trans' f8
    cases hlg : largeR (k, sv, t) with
    | true =>
      (repeat refine gg ?_)
      exact hR _ (f1.trans' f08)
    | false =>
      (repeat refine gg ?_)
      obtain ⟨A8, z8, _, zlt8, zA8, back8⟩ := At.zoomT h5 (f7.trans' f8)
      refine sg_Append (tabS_re hT1 f08 zA8) z8 su5.inv (by omega) (by omega) lg5 (by omega) k t (hns.fr f08 (by simp)) hsm5 fun w9 z9 => ?_
      have hm9 := lgAppend_more s' l' k ns t.data.toList
      (repeat refine gg ?_)
      exact hJ _ hlt2 ⟨_, _, back8 _ _ z9, sure_append su5 lg5 k ns t.data.toList, (append_lg lg5 k ns t.data.toList hsm5).more (by omega), by omega, by omega⟩
  · (repeat refine gg ?_)
    obtain ⟨A6, z6, zlt6, zA6, back6⟩ := At.zoom3 h5 (Fr.refl _ _) 2 rfl
    have hT6 := tabS_re hT1 f5 zA6
    refine dk_Crash z6 su5.inv.wf (by omega) op (tails := tails) (fun w' f => ht1.fr (f5.trans f zA6) (by simp)) fun w7 z7 => ?_
    have hic := inv_crash su5.inv op tails
    have hsz7 := hat
    obtain ⟨o1, o2⟩ := sure_crash su5 hsg1 hat hsok (most := size) (by rw [← hmost]; exact ⟨hlo, hhi⟩) hrec op tails
    have hsg10 := okS_iff.1 hsok
    have ha20 : a ≤ 1000000 := by
      have := M.full.lg.at_
      omega
    have hcd : (crash s' op tails).dirs.length < 100000000 := by simp [crash]
    (repeat refine gg ?_)
    refine sg_Open hT6 z7 hic hcd sg a (by omega) (by omega) size fun w8 o ho z8 => ?_
    rw [o1] at ho ⊢
    obtain ⟨p2, rfl⟩ : ∃ p2, o = some (p2, ⟨sg, a, size, sg + 1, false⟩) := by
      cases o with
      | none => cases ho
      | some x => obtain ⟨p2, l2⟩ := x; simp at ho; exact ⟨p2, by rw [ho]⟩
    have hid := inv_lgOpen hic sg a size
    have hod : (lgOpen (crash s' op tails) sg a size).1.dirs.length < 100000000 := by
      have hc1 : ∀ n k, (cut (crash s' op tails) n k).1.dirs.length = (crash s' op tails).dirs.length := by
        intro n k
        obtain ⟨_, h2, _⟩ := can_keep (crash s' op tails) (cutE (crash s' op tails) n k)
        unfold cut
        simp only
        split
        · simp only [setF]; rw [h2]
        · rw [h2]
      unfold lgOpen
      split
      · split
        · split
          · exact hcd
          · split
            · split <;> (rw [hc1]; exact hcd)
            · exact hcd
        · exact hcd
      · exact hcd
    generalize (lgOpen (crash s' op tails) sg a size).1 = s2 at *
    have h8 := (back6 _ _ z8).swap.tail
    have nil := ptr_nilS (d := p2)
    unfold valL
    (repeat refine gg ?_)
    obtain ⟨A8, y8, _, _, _, _⟩ := At.zoomT h8 (Fr.refl _ _)
    refine sg_End (At.unwrap y8) ?_
    (repeat refine gg ?_)
    obtain ⟨A9, y9, ⟨B9, hB9, hd9⟩, ylt9, yA9, yback⟩ := At.zoomT h8 (Fr.drew [] w8)
    have f9 := h8.frame.trans' (Fr.drew [] w8)
    obtain ⟨pa, pp⟩ := places_in M.pls f9 hB9 hd9 yA9
    refine sg_there (tabS_re hT1 f9 yA9) (At.unwrap y9) hid hod pa pp o2 (by omega) fun w10 y10 => ?_
    have f10 := (yback _ [_] (At.wrap y10)).frame
    (repeat refine gg ?_)
    exact hR _ (f1.trans' f10)
end
end Go.Proofs.YtofllgbdphakiaaGreatDoor
end

section
namespace Go.Proofs.YtofllgbdphakiaaGreatDoor
open Go.Den Go.Disk
def encE (x : ByteArray × Nat) : List Value := [.string x.1, .int .i64 (x.2 : Int)]
theorem encE_len (x : ByteArray × Nat) : (encE x).length = 2 := rfl
theorem encE_one (x : ByteArray × Nat) : ∀ u ∈ encE x, u.oneCell' = true := by intro u hu; simp [encE] at hu; rcases hu with rfl | rfl <;> rfl
def encG (x : SV × Nat) : List Value := [x.1.v, .int .i64 (x.2 : Int)]
theorem encG_len (x : SV × Nat) : (encG x).length = 2 := rfl
theorem encG_one (x : SV × Nat) : ∀ u ∈ encG x, u.oneCell' = true := by intro u hu; simp [encG] at hu; rcases hu with rfl | rfl <;> rfl
def Ents (w : World) (es : List SV) (ds : List Dir) (F : List Nat) : Prop := es.length = ds.length ∧ ∀ (i : Nat) (l : Dir), ds[i]? = some l → ∃ (e : SV) (G : List Nat), es[i]? = some e ∧ Slc encE 2 w e.v l G ∧ ∀ b ∈ G, b ∈ F
def Fils (w : World) (fc : List (SV × Nat)) (fs : List Fl) (F : List Nat) : Prop := fc.length = fs.length ∧ ∀ (i : Nat) (x : Fl), fs[i]? = some x → ∃ (v : SV) (G : List Nat), fc[i]? = some (v, x.sure) ∧ Slc encB 1 w v.v x.b G ∧ ∀ b ∈ G, b ∈ F
theorem Ents.st {w w' : World} {es : List SV} {ds : List Dir} {F : List Nat} (h : Ents w es ds F) (hk : ∀ b ∈ F, blk w' b = blk w b) : Ents w' es ds F :=
  ⟨h.1, fun i l hl => by obtain ⟨e, G, h1, h2, h3⟩ := h.2 i l hl; exact ⟨e, G, h1, h2.congr fun b hb => hk b (h3 b hb), h3⟩⟩
theorem Fils.st {w w' : World} {fc : List (SV × Nat)} {fs : List Fl} {F : List Nat} (h : Fils w fc fs F) (hk : ∀ b ∈ F, blk w' b = blk w b) : Fils w' fc fs F :=
  ⟨h.1, fun i l hl => by obtain ⟨e, G, h1, h2, h3⟩ := h.2 i l hl; exact ⟨e, G, h1, h2.congr fun b hb => hk b (h3 b hb), h3⟩⟩
theorem Ents.sub {w : World} {es : List SV} {ds : List Dir} {F F' : List Nat} (h : Ents w es ds F) (hk : ∀ b ∈ F, b ∈ F') : Ents w es ds F' :=
  ⟨h.1, fun i l hl => by obtain ⟨e, G, h1, h2, h3⟩ := h.2 i l hl; exact ⟨e, G, h1, h2, fun b hb => hk b (h3 b hb)⟩⟩
theorem Fils.sub {w : World} {fc : List (SV × Nat)} {fs : List Fl} {F F' : List Nat} (h : Fils w fc fs F) (hk : ∀ b ∈ F, b ∈ F') : Fils w fc fs F' :=
  ⟨h.1, fun i l hl => by obtain ⟨e, G, h1, h2, h3⟩ := h.2 i l hl; exact ⟨e, G, h1, h2, fun b hb => hk b (h3 b hb)⟩⟩
theorem Ents.snoc {w : World} {es : List SV} {ds : List Dir} {F G : List Nat} {e : SV} {l : Dir} (h : Ents w es ds F) (s : Slc encE 2 w e.v l G) (hG : ∀ b ∈ G, b ∈ F) : Ents w (es ++ [e]) (ds ++ [l]) F := by
  obtain ⟨h1, h2⟩ := h
  refine ⟨by simp [h1], fun i m hm => ?_⟩
  by_cases hi : i < ds.length
  · rw [List.getElem?_append_left hi] at hm
    obtain ⟨e', G', h3, h4, h5⟩ := h2 i m hm
    exact ⟨e', G', by rw [List.getElem?_append_left (by omega)]; exact h3, h4, h5⟩
  · have : i = ds.length := by have := (List.getElem?_eq_some_iff.1 hm).1; simp at this; omega
    subst this
    simp at hm; subst hm
    exact ⟨e, G, by rw [List.getElem?_append_right (by omega)]; simp [h1], s, hG⟩
theorem Ents.one {w : World} {F G : List Nat} {e : SV} {l : Dir} (s : Slc encE 2 w e.v l G) (hG : ∀ b ∈ G, b ∈ F) : Ents w [e] [l] F := by
  refine ⟨rfl, fun i m hm => ?_⟩
  cases i with
  | zero => simp at hm; subst hm; exact ⟨e, G, rfl, s, hG⟩
  | succ i => simp at hm
theorem Fils.snoc {w : World} {fc : List (SV × Nat)} {fs : List Fl} {F G : List Nat} {v : SV} {x : Fl} (h : Fils w fc fs F) (s : Slc encB 1 w v.v x.b G) (hG : ∀ b ∈ G, b ∈ F) : Fils w (fc ++ [(v, x.sure)]) (fs ++ [x]) F := by
  obtain ⟨h1, h2⟩ := h
  refine ⟨by simp [h1], fun i m hm => ?_⟩
  by_cases hi : i < fs.length
  · rw [List.getElem?_append_left hi] at hm
    obtain ⟨e', G', h3, h4, h5⟩ := h2 i m hm
    exact ⟨e', G', by rw [List.getElem?_append_left (by omega)]; exact h3, h4, h5⟩
  · have : i = fs.length := by have := (List.getElem?_eq_some_iff.1 hm).1; simp at this; omega
    subst this
    simp at hm; subst hm
    exact ⟨v, G, by rw [List.getElem?_append_right (by omega)]; simp [h1], s, hG⟩
theorem Fils.set {w : World} {fc : List (SV × Nat)} {fs : List Fl} {F G : List Nat} {v : SV} {x : Fl} {f : Nat} (h : Fils w fc fs F) (s : Slc encB 1 w v.v x.b G) (hG : ∀ b ∈ G, b ∈ F) : Fils w (fc.set f (v, x.sure)) (fs.set f x) F := by
  obtain ⟨h1, h2⟩ := h
  refine ⟨by simp [h1], fun i m hm => ?_⟩
  by_cases hi : i = f
  · subst hi
    have hl : i < fs.length := by have := (List.getElem?_eq_some_iff.1 hm).1; simpa using this
    rw [List.getElem?_set_self hl] at hm
    cases hm
    exact ⟨v, G, List.getElem?_set_self (by omega), s, hG⟩
  · rw [List.getElem?_set_ne (Ne.symm hi)] at hm
    obtain ⟨e', G', h3, h4, h5⟩ := h2 i m hm
    exact ⟨e', G', by rw [List.getElem?_set_ne (Ne.symm hi)]; exact h3, h4, h5⟩
/-- what is never changed in place. -/
def immHP (fc : List (SV × Nat)) (dv : Value) (es : List SV) (fs : List Fl) (ds : List Dir) : HP where
  p w F := (∀ b ∈ F, b < hsz w) ∧ (∃ G, Slc encV 1 w dv es G ∧ ∀ b ∈ G, b ∈ F) ∧ Ents w es ds F ∧ Fils w fc fs F
  lt := fun h => h.1
  st := by
    rintro w w' F ⟨h1, ⟨G, h2, h3⟩, h4, h5⟩ hk
    refine ⟨fun b hb => ?_, ⟨G, h2.congr fun b hb => hk b (h3 b hb), h3⟩, h4.st hk, h5.st hk⟩
    have := hk b hb
    have hlt := h1 b hb
    refine Nat.lt_of_not_le fun hge => ?_
    have e1 : blk w' b = none := blk_none hge
    rw [e1] at this
    have := Array.getElem?_eq_none_iff.1 (show w.heap[b]? = none from this.symm)
    unfold hsz at hlt
    omega
def rfC (s : Dk) (fv dv : Value) : List Value := [.int .i64 s.room, fv, dv, .int .i64 s.burn, .bool s.gone]
def rfL (d : Nat) (s : Dk) (fv dv : Value) (fc : List (SV × Nat)) (es : List SV) : List HP := [pts d (rfC s fv dv), slc encG 2 fv fc, immHP fc dv es s.files s.dirs]
def rfHP (d : Nat) (s : Dk) : HP := ex fun x : Value × Value × List (SV × Nat) × List SV => stars (rfL d s x.1 x.2.1 x.2.2.1 x.2.2.2)
theorem idxs_at {s : ByteArray} {i : Nat} {x : UInt8} (h : s.data.toList[i]? = some x) : indexs (.string s) (.int .i64 (i : Int)) = some (.int .u8 (x.toNat : Int)) := by
  have hi : i < s.size := by have := (List.getElem?_eq_some_iff.1 h).1; simpa using this
  have e : s[i]? = some x := by
    rw [getElem?_pos s i hi]
    rw [Array.getElem?_toList, Array.getElem?_eq_getElem hi] at h
    exact h
  unfold indexs
  simp [e]
theorem incB {i : Nat} (h : i < 9223372036854775807) : binv .int .add (.int .i64 (i : Int)) (.int .i64 1) = some (.int .i64 ((i + 1 : Nat) : Int)) := by
  rw [binv_add, wrap_i64 (by omega) (by omega)]; congr 2
/-- a name's file's number, or -1. -/
def numOf (o : Option Nat) : Int := match o with | none => -1 | some f => (f : Int)
theorem findD_drop {l : Dir} {n : ByteArray} {i : Nat} {x : ByteArray × Nat} (hx : l[i]? = some x) (h : findD l n = findD (l.drop i) n) : (x.1 = n → findD l n = some x.2) ∧ (x.1 ≠ n → findD l n = findD (l.drop (i + 1)) n) := by
  have hi := (List.getElem?_eq_some_iff.1 hx).1
  have e : l.drop i = x :: l.drop (i + 1) := by rw [List.drop_eq_getElem_cons hi]; congr; exact (List.getElem?_eq_some_iff.1 hx).2
  obtain ⟨k, f⟩ := x
  rw [h, e]
  simp only [findD]
  exact ⟨fun h => by rw [if_pos h], fun h => by rw [if_neg h]⟩
section
variable {w0 w : World} {F0 : List Nat} {d : Nat} {s : Dk}
theorem rf_open (h : At w0 F0 (rfHP d s) w) : ∃ fv dv fc es, At w0 F0 (stars (rfL d s fv dv fc es)) w := by
  obtain ⟨F, ⟨⟨fv, dv, fc, es⟩, h1⟩, h2, h3⟩ := h
  exact ⟨fv, dv, fc, es, F, h1, h2, h3⟩
theorem rf_shut {fv dv : Value} {fc : List (SV × Nat)} {es : List SV} (h : At w0 F0 (stars (rfL d s fv dv fc es)) w) : At w0 F0 (rfHP d s) w := by
  obtain ⟨F, h1, h2, h3⟩ := h
  exact ⟨F, ⟨⟨fv, dv, fc, es⟩, h1⟩, h2, h3⟩
end
set_option linter.unusedSimpArgs false
set_option linter.unusedVariables false
set_option maxRecDepth 20000
set_option maxHeartbeats 4000000
attribute [local congr] BND_cg COND_cg GEF_cg
attribute [local irreducible] capl slicea load1 loadn iaddr iaddra faddr storev newslice binv lookv mupd mdel mlenv mentry mestore slicev slicev3 slices indexs indexav textv rangev nexts clearv shiftv eqaggv convi buildv pickv lens lenl unv nilchk extractv partn JOIN
section
variable {w0 w : World} {F0 : List Nat} {d : Nat} {s : Dk} {fv dv : Value} {fc : List (SV × Nat)} {es : List SV} {R : Value → World → Prop}
theorem rf_now (h : At w0 F0 (stars (rfL d s fv dv fc es)) w) (hne : s.dirs ≠ []) (hn : s.dirs.length < 1000000000) (hR : ∀ e G, es[s.dirs.length - 1]? = some e → Slc encE 2 w.drew e.v s.now G → R e.v w.drew) : CALL PR F_tumbrelref06_Disk_now [ptrTo d] w R := by
  refine C_tumbrelref06_Disk_now ?_
  unfold M_tumbrelref06_Disk_now ptrTo
  obtain ⟨T, c⟩ := h.cell (i := 0) rfl
  obtain ⟨F, ⟨_, ⟨G, sd, _⟩, ⟨hl, hE⟩, _⟩, _⟩ := h.get 2 rfl
  have hpos : 0 < s.dirs.length := List.length_pos_iff.2 hne
  obtain ⟨e, Ge, he, se, _⟩ := hE _ _ (dk_now_get hne)
  have cd : blk w.drew d = some (.cells (rfC s fv dv).toArray T (0, 0)) := c
  have sd' : Slc encV 1 w.drew dv es G := sd.congr fun _ _ => rfl
  obtain ⟨b, o, ia, _, _, l1⟩ := sd'.arr.spot he rfl .i64
  rw [← hl] at ia
  (repeat (first | refine BND_step sd'.len ?_ | refine BND_step (subn_ (n := es.length) (m := 1) (by omega) (by omega)) ?_ | (apply BND_step; exact (l1 (w' := w.drew) rfl (j := 0) rfl)) | refine gg ?_))
  exact hR e Ge he (se.congr fun _ _ => rfl)
theorem rf_find (h : At w0 F0 (rfHP d s) w) (hw : s.Wf) (hn : s.dirs.length < 1000000000) (n : ByteArray) (hR : ∀ w', Fr [] w w' → R (.int .i64 (numOf (s.find n))) w') : CALL PR F_tumbrelref06_Disk_find [ptrTo d, .string n] w R := by
  obtain ⟨fv, dv, fc, es, hs⟩ := rf_open h
  refine C_tumbrelref06_Disk_find ?_
  unfold M_tumbrelref06_Disk_find
  refine rf_now hs hw.ne hn fun e G _ se => ?_
  have h60 := hw.many _ (now_mem hw)
  refine loop_up 0 s.now.length (fun i w' => Fr [] w.drew w' ∧ findD s.now n = findD (s.now.drop i) n) ⟨Fr.refl _ _, rfl⟩ (by omega) ?_
  rintro i w1 - hi ⟨f1, e1⟩ J m hJ
  by_cases hlt : i < s.now.length
  · have hx := List.getElem?_eq_getElem hlt
    generalize s.now[i] = x at hx
    obtain ⟨b, o, ia, _, _, l1⟩ := (se.fr f1 (by simp)).arr.spot hx rfl .i64
    obtain ⟨y, nn⟩ := findD_drop hx e1
    obtain ⟨k, f⟩ := x
    simp only at y nn
    (repeat (first | refine BND_step se.len ?_ | (apply BND_step; exact (l1 (w' := w1) rfl (j := 0) rfl)) | (apply BND_step; exact (l1 (w' := w1) rfl (j := 1) rfl)) | refine gg ?_))
    by_cases hk : k = n
    · (repeat (first | (apply BND_step; exact (l1 (w' := w1) rfl (j := 1) rfl)) | refine gg ?_))
      have := hR w1 ((Fr.drew _ _).trans' f1)
      unfold Dk.find numOf at this
      rw [y hk] at this
      exact this
    · (repeat refine gg ?_)
      exact hJ _ hlt ⟨f1, nn hk⟩
  · (repeat (first | refine BND_step se.len ?_ | refine gg ?_))
    rw [List.drop_eq_nil_of_le (by omega)] at e1
    have := hR w1 ((Fr.drew _ _).trans' f1)
    unfold Dk.find numOf at this
    rw [e1] at this
    exact this
theorem rf_may (n : ByteArray) (hsz_ : n.size ≤ 9223372036854775807) (hR : ∀ w', Fr [] w w' → R (.bool (named n)) w') : CALL PR F_tumbrelref06_may [.string n] w R := by
  refine C_tumbrelref06_may ?_
  unfold M_tumbrelref06_may
  have hl : n.data.toList.length = n.size := Array.length_toList
  unfold named at hR
  refine loop_up 0 n.size (fun i w' => w' = w ∧ (n.data.toList.take i).all okByte = true) ⟨rfl, rfl⟩ (by omega) ?_
  rintro i w1 - hi ⟨rfl, e⟩ J m hJ
  by_cases hlt : i < n.size
  · have hx := List.getElem?_eq_getElem (l := n.data.toList) (i := i) (by omega)
    have hmem := List.getElem_mem (l := n.data.toList) (n := i) (by omega)
    generalize n.data.toList[i] = x at hx hmem
    have no : okByte x = false → R (.bool false) w1 := fun h => by
      have := hR w1 (Fr.refl _ _)
      rwa [show n.data.toList.all okByte = false from List.all_eq_false.2 ⟨x, hmem, by simp [h]⟩, Bool.and_false] at this
    have yes : okByte x = true → J (.int .i64 ((i + 1 : Nat) : Int)) w1 ∧ m (.int .i64 ((i + 1 : Nat) : Int)) w1 < m (.int .i64 (i : Int)) w1 := fun h =>
      hJ w1 hlt ⟨rfl, by rw [List.take_add_one, hx, List.all_append, e]; simp [h]⟩
    have hok : okByte x = true ↔ x.toNat = 46 ∨ (48 ≤ x.toNat ∧ x.toNat ≤ 57) ∨ (97 ≤ x.toNat ∧ x.toNat ≤ 122) := by
      unfold okByte
      simp only [Bool.or_eq_true, Bool.and_eq_true, decide_eq_true_eq, UInt8.le_iff_toNat_le, ← UInt8.toNat_inj]
      simp [or_assoc]
    have einc := incB (i := i) (by omega)
    (repeat (first | refine BND_step (idxs_at hx) ?_ | refine gg ?_))
    by_cases q1 : (x.toNat : Int) = 46
    · (repeat refine gg ?_)
      exact yes (hok.2 (by omega))
    (repeat refine gg ?_)
    by_cases q2 : (48 : Int) ≤ (x.toNat : Int)
    · by_cases q3 : (x.toNat : Int) ≤ 57
      · (repeat refine gg ?_)
        exact yes (hok.2 (by omega))
      · by_cases q4 : (97 : Int) ≤ (x.toNat : Int)
        · by_cases q5 : (x.toNat : Int) ≤ 122
          · (repeat refine gg ?_)
            exact yes (hok.2 (by omega))
          · (repeat refine gg ?_)
            exact no (Bool.eq_false_iff.2 fun h => by have := hok.1 h; omega)
        · (repeat refine gg ?_)
          exact no (Bool.eq_false_iff.2 fun h => by have := hok.1 h; omega)
    · (repeat refine gg ?_)
      exact no (Bool.eq_false_iff.2 fun h => by have := hok.1 h; omega)
  · rw [List.take_of_length_le (by omega)] at e
    have := hR w1 (Fr.refl _ _)
    rw [e, Bool.and_true] at this
    by_cases q1 : 1 ≤ n.size
    · by_cases q2 : n.size ≤ 12
      · (repeat refine gg ?_)
        simpa [q1, q2] using this
      · (repeat refine gg ?_)
        simpa [q1, q2] using this
    · (repeat refine gg ?_)
      simpa [q1] using this
theorem rf_can (h : At w0 F0 (rfHP d s) w) (e : Int) (hb : -1 ≤ s.burn ∧ s.burn ≤ 9223372036854775807) (hR : ∀ w', At w0 F0 (rfHP d (can s e).1) w' → R (.int .i64 (can s e).2) w') : CALL PR F_tumbrelref06_Disk_can [ptrTo d, .int .i64 e] w R := by
  obtain ⟨fv, dv, fc, es, hs⟩ := rf_open h
  refine C_tumbrelref06_Disk_can ?_
  unfold M_tumbrelref06_Disk_can ptrTo
  unfold can at hR
  obtain ⟨T, c⟩ := hs.cell (i := 0) rfl
  (repeat refine gg ?_)
  cases hg : s.gone with
  | true =>
    rw [hg] at hR
    simp only [if_true] at hR
    (repeat refine gg ?_)
    exact hR w h
  | false =>
    rw [hg] at hR
    simp only [Bool.false_eq_true, if_false] at hR
    (repeat refine gg ?_)
    by_cases he : e = 0
    · subst he
      simp only [ne_eq, not_true_eq_false, if_false] at hR
      (repeat refine gg ?_)
      by_cases hb0 : s.burn = 0
      · simp only [hb0, if_true] at hR
        (repeat refine gg ?_)
        refine hs.store (i := 0) rfl ⟨rfl, rfl⟩ (by simp [rfC]) fun w1 h1 f1 => ?_
        exact hR w1 (rf_shut (s := { s with burn := 0, gone := true }) (fv := fv) (dv := dv) (fc := fc) (es := es) (by rw [← hb0]; exact h1))
      · simp only [hb0, if_false] at hR
        (repeat refine gg ?_)
        by_cases hb1 : 0 < s.burn
        · simp only [hb1, if_true] at hR
          (repeat refine gg ?_)
          refine join_w (fun w' => At w0 F0 (rfHP d { s with burn := s.burn - 1 }) w') (fun K hK => ?_) (fun w' hw' => hR w' (by rw [hg] at hw'; exact hw'))
          have esub : binv .int .sub (.int .i64 s.burn) (.int .i64 1) = some (.int .i64 (s.burn - 1)) := by rw [binv_sub, wrap_i64 (by omega) (by omega)]
          (repeat refine gg ?_)
          refine hs.store (i := 0) rfl ⟨rfl, rfl⟩ (by simp [rfC]) fun w1 h1 f1 => hK w1 ?_
          exact rf_shut (s := { s with burn := s.burn - 1 }) (fv := fv) (dv := dv) (fc := fc) (es := es) h1
        · simp only [hb1, if_false] at hR
          (repeat refine gg ?_)
          refine join_w (fun w' => At w0 F0 (rfHP d s) w') (fun K hK => ?_) (fun w' hw' => hR w' hw')
          (repeat refine gg ?_)
          exact hK w h
    · simp only [ne_eq, he, not_false_eq_true, if_true] at hR
      (repeat refine gg ?_)
      exact hR w h
theorem rf_Fuse (h : At w0 F0 (rfHP d s) w) (n : Int) (hR : ∀ w', At w0 F0 (rfHP d (fuse s n)) w' → R (.tuple #[]) w') : CALL PR F_tumbrelref06_Disk_Fuse [ptrTo d, .int .i64 n] w R := by
  obtain ⟨fv, dv, fc, es, hs⟩ := rf_open h
  refine C_tumbrelref06_Disk_Fuse ?_
  unfold M_tumbrelref06_Disk_Fuse ptrTo
  have e : max2v (.int .i64 n) (.int .i64 (-1)) = some (.int .i64 (if n < -1 then -1 else n)) := rfl
  (repeat refine gg ?_)
  refine hs.store (i := 0) rfl ⟨rfl, rfl⟩ (by simp [rfC]) fun w1 h1 f1 => ?_
  exact hR w1 (rf_shut (s := fuse s n) (fv := fv) (dv := dv) (fc := fc) (es := es) h1)
theorem rf_New (room : Int) (hR0 : (room < 16 ∨ 1048576 < room) → R (.tuple #[.pointer none, .int .i64 1]) w)
    (hR : 16 ≤ room ∧ room ≤ 1048576 → ∀ w' d, At w [] (rfHP d (empty room)) w' → R (.tuple #[ptrTo d, .int .i64 0]) w') : CALL PR F_tumbrelref06_New [.int .i64 room] w R := by
  refine C_tumbrelref06_New ?_
  unfold M_tumbrelref06_New
  by_cases h1 : room < 16
  · (repeat refine gg ?_)
    exact hR0 (.inl h1)
  by_cases h2 : 1048576 < room
  · (repeat refine gg ?_)
    exact hR0 (.inr h2)
  (repeat refine gg ?_)
  refine newnil_step encE fun t w1 s1 f1 z1 => ?_
  obtain ⟨e, rfl⟩ := slc_sv s1
  refine newone_step (enc := encV) (x := e) encV_len rfl fun u w2 s2 f2 z2 => ?_
  obtain ⟨eu, rfl⟩ := slc_sv s2
  (repeat (first | refine gg ?_ | (apply BND_build ([.int .i64 room, .slice none 0 0, eu.v, .int .i64 (-1), .bool false]); exact rfl)))
  refine NEW_intro fun w3 b3 f3 z3 => ?_
  (repeat refine gg ?_)
  refine hR (by omega) w3 (hsz w2) (rf_shut (fv := .slice none 0 0) (dv := eu.v) (fc := []) (es := [e]) ⟨[hsz w2, hsz w1, hsz w], ?_, fun b hb => ?_, (f1.trans' f2).trans' f3⟩)
  · refine ⟨[hsz w2], [hsz w1, hsz w], ⟨⟨_, b3⟩, rfl⟩, ⟨[], [hsz w1, hsz w], Slc.nil _ _ _, ⟨[hsz w1, hsz w], [], ⟨fun b hb => ?_, ⟨[hsz w1], s2.fr f3 (by simp), by simp⟩, Ents.one ((s1.fr f2 (by simp)).fr f3 (by simp)) (by simp), ⟨rfl, fun i x h => by simp [empty] at h⟩⟩, ⟨trivial, rfl⟩, rfl, by simp⟩, rfl, by simp⟩, rfl, fun b hb hb' => ?_⟩
    · have := f3.grow
      simp at hb; omega
    · simp at hb hb'; omega
  · simp at hb
    right; omega
end
end Go.Proofs.YtofllgbdphakiaaGreatDoor
end

section
namespace Go.Proofs.YtofllgbdphakiaaGreatDoor
open Go.Den Go.Disk
theorem withD_at {x : ByteArray × Nat} : ∀ {l : Dir} {i : Nat}, (∀ y ∈ l.take i, bl y.1 x.1 = true) → (l.length ≤ i ∨ ∃ y, l[i]? = some y ∧ bl y.1 x.1 = false) → withD l x = l.take i ++ [x] ++ l.drop i
  | [], i, _, _ => by simp [withD]
  | z :: l, 0, _, h2 => by
    rcases h2 with h2 | ⟨y, h2, h3⟩
    · simp at h2
    · simp at h2; subst h2
      simp [withD, h3]
  | z :: l, i + 1, h1, h2 => by
    have hz : bl z.1 x.1 = true := h1 z (by simp)
    have := withD_at (l := l) (i := i) (fun y hy => h1 y (by simp [hy])) (by
      rcases h2 with h2 | ⟨y, h2, h3⟩
      · left; simpa using h2
      · right; exact ⟨y, by simpa using h2, h3⟩)
    simp [withD, hz, this]
theorem At.mono2 {P Q : HP} {w0 w : World} {F0 : List Nat} (h : At w0 F0 P w) (hpq : ∀ F, P.p w F → ∃ F', Q.p w F' ∧ ∀ b ∈ F', b ∈ F) : At w0 F0 Q w := by
  obtain ⟨F, h1, h2, h3⟩ := h
  obtain ⟨F', h4, h5⟩ := hpq F h1
  exact ⟨F', h4, fun b hb => h2 b (h5 b hb), h3⟩
/-- a new directory, and the row of all. -/
def newHP (dv : Value) (es : List SV) (e : SV) (l : Dir) : HP where
  p w F := (∀ b ∈ F, b < hsz w) ∧ (∃ G, Slc encV 1 w dv es G ∧ ∀ b ∈ G, b ∈ F) ∧ ∃ G, Slc encE 2 w e.v l G ∧ ∀ b ∈ G, b ∈ F
  lt := fun h => h.1
  st := by
    rintro w w' F ⟨h1, ⟨G, h2, h3⟩, ⟨H, h4, h5⟩⟩ hk
    refine ⟨fun b hb => ?_, ⟨G, h2.congr fun b hb => hk b (h3 b hb), h3⟩, H, h4.congr fun b hb => hk b (h5 b hb), h5⟩
    have := hk b hb
    have hlt := h1 b hb
    refine Nat.lt_of_not_le fun hge => ?_
    have e1 : blk w' b = none := blk_none hge
    rw [e1] at this
    have := Array.getElem?_eq_none_iff.1 (show w.heap[b]? = none from this.symm)
    unfold hsz at hlt
    omega
theorem stlt (a b : ByteArray) : binv .str .lss (.string a) (.string b) = some (.bool (bl a b)) := rfl
set_option linter.unusedSimpArgs false
set_option linter.unusedVariables false
set_option maxRecDepth 20000
set_option maxHeartbeats 4000000
attribute [local congr] BND_cg COND_cg GEF_cg
attribute [local irreducible] capl slicea load1 loadn iaddr iaddra faddr storev newslice binv lookv mupd mdel mlenv mentry mestore slicev slicev3 slices indexs indexav textv rangev nexts clearv shiftv eqaggv convi buildv pickv lens lenl unv nilchk extractv partn JOIN
section
variable {w0 w w' : World} {F0 : List Nat} {d : Nat} {s : Dk} {fv dv v : Value} {fc : List (SV × Nat)} {es : List SV} {l : Dir} {G : List Nat} {R : Value → World → Prop}
theorem rf_with (sl : Slc encE 2 w v l G) (x : ByteArray × Nat) (hn : l.length < 1000000) (hR : ∀ (w' : World) (e : SV) (G' : List Nat), Slc encE 2 w' e.v (withD l x) G' → (∀ b ∈ G', hsz w ≤ b) → Fr [] w w' → R e.v w') : CALL PR F_tumbrelref06_with [v, .agg (encE x).toArray] w R := by
  refine C_tumbrelref06_with ?_
  unfold M_tumbrelref06_with
  refine NEW_intro fun w1 b1 f1 z1 => ?_
  replace b1 : blk w1 (hsz w) = some (.cells (encE x).toArray _ (0, 0)) := b1
  refine loop_up 0 l.length (fun i w' => Fr [] w1 w' ∧ ∀ y ∈ l.take i, bl y.1 x.1 = true) ⟨Fr.refl _ _, by simp⟩ (by omega) ?_
  rintro i w2 - hi ⟨f2, e2⟩ J m hJ
  have f12 := f1.trans' (f2.trans' (Fr.drew [] w2))
  have s2 := sl.fr f12 (by simp)
  have b2 := (f2.trans' (Fr.drew [] w2)).some (by simp) b1
  have g12 := f12.grow
  have fin : ∀ (_ : l.length ≤ i ∨ ∃ y, l[i]? = some y ∧ bl y.1 x.1 = false), (BND (newslice 125 #[(Value.string ByteArray.empty), (Value.int .i64 0)] 2 0 [] w2.drew) fun p_ => NEW p_ fun t23_32 w3 =>
      BND (slicev 2 v none (some (.int .i64 (i : Int)))) fun t26_33 =>
      APPEND 125 2 24 (Value.agg #[(Value.string ByteArray.empty), (Value.int .i64 0)]) t23_32 t26_33 w3 fun t27_34 w4 =>
      BND (slicev 2 v (some (.int .i64 (i : Int))) none) fun t34_35 =>
      BND (loadn 2 w4.drew (.pointer (some ⟨hsz w, 0, none⟩))) fun t29_36 =>
      BND (newslice 125 #[(Value.string ByteArray.empty), (Value.int .i64 0)] 2 1 [(0, 2, t29_36)] w4.drew) fun p_ => NEW p_ fun t30_37 w5 =>
      APPEND 125 2 24 (Value.agg #[(Value.string ByteArray.empty), (Value.int .i64 0)]) t27_34 t30_37 w5 fun t31_38 w6 =>
      APPEND 125 2 24 (Value.agg #[(Value.string ByteArray.empty), (Value.int .i64 0)]) t31_38 t34_35 w6 fun t35_39 w7 =>
      R t35_39 w7) := by
    intro hend
    have hw := withD_at e2 hend
    have ed : hsz w2.drew = hsz w2 := rfl
    have hG := s2.lt
    obtain ⟨va, ea, ca⟩ := s2.upto encE_len (n := i) hi .i64
    obtain ⟨vb, eb, cb⟩ := s2.from encE_len (n := i) hi .i64
    refine newnil_step encE fun t3 w3 s3 f3 z3 => ?_
    (repeat refine gg ?_)
    refine APPEND_slc s3 (ca w3 fun b hb => f3.keep b (hG b hb) (by simp)) encE_len encE_one rfl (by simp; omega) (by simp; omega) fun v4 w4 F4 s4 f4 sub4 => ?_
    rw [List.nil_append] at s4
    have sub4' : ∀ b ∈ F4, hsz w2.drew ≤ b := fun b hb => by
      rcases sub4 b hb with h | h
      · simp at h; omega
      · omega
    have f24 : Fr [] w2.drew w4.drew := (f3.trans f4 fun b hb => .inr (by simp at hb; omega)).trans' (Fr.drew _ _)
    have b4 := f24.some (by simp) b2
    (repeat (first | refine BND_step (loadn_all b4 rfl) ?_ | refine gg ?_))
    refine push_step (enc := encE) (x := x) (s4.fr (Fr.drew [] _) (by simp)) encE_len encE_one rfl rfl (by omega) (by simp; omega) fun v6 w6 F6 s6 sub6 f6 => ?_
    have sub6' : ∀ b ∈ F6, hsz w2.drew ≤ b := fun b hb => by
      rcases sub6 b hb with h | h
      · exact sub4' b h
      · have := f24.grow; omega
    have f26 : Fr [] w2.drew w6 := f24.trans f6 fun b hb => .inr (sub4' b hb)
    refine APPEND_slc s6 (cb w6 fun b hb => f26.keep b (hG b hb) (by simp)) encE_len encE_one rfl (by simp; omega) (by simp; omega) fun v7 w7 F7 s7 f7 sub7 => ?_
    rw [← hw] at s7
    obtain ⟨e, rfl⟩ := slc_sv s7
    have f27 := f26.trans f7 fun b hb => .inr (sub6' b hb)
    refine hR w7 e F7 s7 (fun b hb => ?_) (f12.trans' f27)
    rcases sub7 b hb with h | h
    · have := sub6' b h; omega
    · have := f26.grow; omega
  by_cases hlt : i < l.length
  · have hx := List.getElem?_eq_getElem hlt
    generalize l[i] = y at hx
    obtain ⟨b, o, ia, _, _, l1⟩ := s2.arr.spot hx rfl .i64
    have elt := stlt y.1 x.1
    (repeat (first | refine BND_step sl.len ?_ | (apply BND_step; exact (l1 (w' := w2.drew) rfl (j := 0) rfl)) | refine gg ?_))
    cases hb : bl y.1 x.1 with
    | true =>
      (repeat refine gg ?_)
      refine hJ _ hlt ⟨f2.trans' (Fr.drew _ _), fun z hz => ?_⟩
      rw [List.take_add_one, hx] at hz
      rcases List.mem_append.1 hz with hz | hz
      · exact e2 z hz
      · simp at hz; subst hz; exact hb
    | false =>
      (repeat refine gg ?_)
      exact fin (.inr ⟨y, hx, hb⟩)
  · (repeat (first | refine BND_step sl.len ?_ | refine gg ?_))
    exact fin (.inl (by omega))
/-- the row of directories is given a new one. -/
theorem rf_dirs {K : World → Prop} {dv' : Value} {e : SV} {G1 G2 : List Nat} (h : At w0 F0 (stars (rfL d s fv dv fc es)) w) (f : Fr [] w w') (sv : Slc encV 1 w' dv' (es ++ [e]) G1) (h1 : ∀ b ∈ G1, hsz w ≤ b) (se : Slc encE 2 w' e.v l G2) (h2 : ∀ b ∈ G2, hsz w ≤ b)
    (hK : ∀ w'', At w0 F0 (rfHP d { s with dirs := s.dirs ++ [l] }) w'' → K w'') : BND (storev 1 w' (.pointer (some ⟨d, 2, none⟩)) dv') K := by
  have hn : (newHP dv' (es ++ [e]) e l).p w' (G1 ++ G2) := ⟨fun b hb => by
    rcases List.mem_append.1 hb with hb | hb
    · exact sv.lt b hb
    · exact se.lt b hb, ⟨G1, sv, fun b hb => by simp [hb]⟩, G2, se, fun b hb => by simp [hb]⟩
  have ha := h.add f hn (fun b hb => by
    rcases List.mem_append.1 hb with hb | hb
    · exact h1 b hb
    · exact h2 b hb)
  refine ha.store (i := 1) rfl sv.one (by simp [rfC]) fun w2 h3 _ => hK w2 (rf_shut (fv := fv) (dv := dv') (fc := fc) (es := es ++ [e]) (At.mono2 h3 fun F hF => ?_))
  obtain ⟨A, _, ⟨n1, ⟨G3, n2, n3⟩, G4, n4, n5⟩, ⟨A2, _, hp, ⟨A3, _, hs, ⟨A4, _, ⟨i1, ⟨G5, i2, i3⟩, i4, i5⟩, ⟨_, rfl⟩, rfl, d4⟩, rfl, d3⟩, rfl, d2⟩, rfl, d1⟩ := hF
  refine ⟨A2 ++ (A3 ++ ((A4 ++ A) ++ [])), ⟨A2, _, hp, ⟨A3, _, hs, ⟨A4 ++ A, [], ⟨fun b hb => ?_, ⟨G3, n2, fun b hb => by simp [n3 b hb]⟩, (i4.sub fun b hb => by simp [hb]).snoc n4 (fun b hb => by simp [n5 b hb]), i5.sub fun b hb => by simp [hb]⟩, ⟨trivial, rfl⟩, rfl, by simp⟩, rfl, fun b hb hb' => ?_⟩, rfl, fun b hb hb' => ?_⟩, fun b hb => ?_⟩
  · rcases List.mem_append.1 hb with hb | hb
    · exact i1 b hb
    · exact n1 b hb
  · simp only [List.append_nil, List.mem_append] at hb'
    rcases hb' with hb' | hb'
    · exact d3 b hb (by simp [hb'])
    · exact d1 b hb' (by simp [hb])
  · simp only [List.append_nil, List.mem_append] at hb'
    rcases hb' with hb' | hb' | hb'
    · exact d2 b hb (by simp [hb'])
    · exact d2 b hb (by simp [hb'])
    · exact d1 b hb' (by simp [hb])
  · simp only [List.append_nil, List.mem_append] at hb ⊢
    rcases hb with hb | hb | hb | hb <;> simp [hb]
/-- the row of directories is just one of them. -/
theorem rf_dir1 {K : World → Prop} {dv' : Value} {e : SV} {G1 : List Nat} {i : Nat} (h : At w0 F0 (stars (rfL d s fv dv fc es)) w) (f : Fr [] w w') (sv : Slc encV 1 w' dv' [e] G1) (h1 : ∀ b ∈ G1, hsz w ≤ b) (he : es[i]? = some e) (hl : s.dirs[i]? = some l)
    (hK : ∀ w'', At w0 F0 (stars (rfL d { s with dirs := [l] } fv dv' fc [e])) w'' → K w'') : BND (storev 1 w' (.pointer (some ⟨d, 2, none⟩)) dv') K := by
  have ha := h.add f (P := slc encV 1 dv' [e]) sv h1
  refine ha.store (i := 1) rfl sv.one (by simp [rfC]) fun w2 h3 _ => hK w2 (At.mono2 h3 fun F hF => ?_)
  obtain ⟨A, _, n2, ⟨A2, _, hp, ⟨A3, _, hs, ⟨A4, _, ⟨i1, ⟨G5, i2, i3⟩, i4, i5⟩, ⟨_, rfl⟩, rfl, d4⟩, rfl, d3⟩, rfl, d2⟩, rfl, d1⟩ := hF
  replace n2 : Slc encV 1 w2 dv' [e] A := n2
  obtain ⟨e', G', q1, q2, q3⟩ := i4.2 i l hl
  rw [he] at q1
  cases q1
  refine ⟨A2 ++ (A3 ++ ((A4 ++ A) ++ [])), ⟨A2, _, hp, ⟨A3, _, hs, ⟨A4 ++ A, [], ⟨fun b hb => ?_, ⟨A, n2, fun b hb => by simp [hb]⟩, Ents.one q2 (fun b hb => by simp [q3 b hb]), i5.sub fun b hb => by simp [hb]⟩, ⟨trivial, rfl⟩, rfl, by simp⟩, rfl, fun b hb hb' => ?_⟩, rfl, fun b hb hb' => ?_⟩, fun b hb => ?_⟩
  · rcases List.mem_append.1 hb with hb | hb
    · exact i1 b hb
    · exact n2.lt b hb
  · simp only [List.append_nil, List.mem_append] at hb'
    rcases hb' with hb' | hb'
    · exact d3 b hb (by simp [hb'])
    · exact d1 b hb' (by simp [hb])
  · simp only [List.append_nil, List.mem_append] at hb'
    rcases hb' with hb' | hb' | hb'
    · exact d2 b hb (by simp [hb'])
    · exact d2 b hb (by simp [hb'])
    · exact d1 b hb' (by simp [hb])
  · simp only [List.append_nil, List.mem_append] at hb ⊢
    rcases hb with hb | hb | hb | hb <;> simp [hb]
/-- the row of files is another one. -/
theorem rf_files {K : World → Prop} {fv' : Value} {v : SV} {x : Fl} {G1 : List Nat} (h : At w0 F0 (stars (rfL d s fv dv fc es)) w) (f : Fr [] w w') (sv : Slc encG 2 w' fv' (fc ++ [(v, x.sure)]) G1) (h1 : ∀ b ∈ G1, hsz w ≤ b) (hx : ∀ w'', Slc encB 1 w'' v.v x.b [])
    (hK : ∀ w'', At w0 F0 (stars (rfL d { s with files := s.files ++ [x] } fv' dv (fc ++ [(v, x.sure)]) es)) w'' → K w'') : BND (storev 1 w' (.pointer (some ⟨d, 1, none⟩)) fv') K := by
  have ha := h.add f (P := slc encG 2 fv' (fc ++ [(v, x.sure)])) sv h1
  refine ha.store (i := 1) rfl sv.one (by simp [rfC]) fun w2 h3 _ => hK w2 (At.mono2 h3 fun F hF => ?_)
  obtain ⟨A, _, n2, ⟨A2, _, hp, ⟨A3, _, hs, ⟨A4, _, ⟨i1, ⟨G5, i2, i3⟩, i4, i5⟩, ⟨_, rfl⟩, rfl, d4⟩, rfl, d3⟩, rfl, d2⟩, rfl, d1⟩ := hF
  refine ⟨A2 ++ (A ++ (A4 ++ [])), ⟨A2, _, hp, ⟨A, _, n2, ⟨A4, [], ⟨i1, ⟨G5, i2, i3⟩, i4, i5.snoc (hx w2) (by simp)⟩, ⟨trivial, rfl⟩, rfl, by simp⟩, rfl, fun b hb hb' => ?_⟩, rfl, fun b hb hb' => ?_⟩, fun b hb => ?_⟩
  · exact d1 b hb (by simp only [List.append_nil, List.mem_append] at hb' ⊢; simp [hb'])
  · simp only [List.append_nil, List.mem_append] at hb'
    rcases hb' with hb' | hb'
    · exact d1 b hb' (by simp [hb])
    · exact d2 b hb (by simp [hb'])
  · simp only [List.append_nil, List.mem_append] at hb ⊢
    rcases hb with hb | hb | hb <;> simp [hb]
end
end Go.Proofs.YtofllgbdphakiaaGreatDoor
end
