/- The document's disk: Create, Rename, Delete, DirSync. No condition but sizes. The document's disk: files. No condition but sizes. The document's disk: Held, Append, Cut. No condition but sizes. The document's disk: Crash; its acts. No condition but sizes. A disk: is the power gone? No condition. A disk: a fuse. No condition. Names compared. No condition but sizes. What comes of acts upon a log, in plain words. Conditions: numbers are of 64 bits; sizes. Where up to 32 bits, one behind the other, are turned, a sum tells so. No condition. Bytes compared. No condition but sizes. The document's sums, walked. No condition but sizes. The document's frames, walked. No condition but sizes. The document's records, walked: which may be, their bytes, and back. Conditions: numbers are of 64 bits; sizes. The document's log in segments, walked. Conditions: numbers are of 64 bits; sizes. An act upon a log, walked. Conditions: the table of the powers of ten is laid; numbers are of 64 bits; sizes. An act upon the document's log, walked. Conditions: numbers are of 64 bits; sizes. Acts' answers compared; how much is looked at. Conditions: sizes. The law of logs, act by act, walked. Conditions: the table of the powers of ten is laid; numbers are of 64 bits; sizes. How acts upon a log that came in read; the law for numbers as they came in. Conditions: as that law's. -/
import Derived.Test.YtofllgbdphakiaaGreatDoorGj
import Derived.Test.YtofllgbdphakiaaGreatDoorMa
import Derived.Test.YtofllgbdphakiaaGreatDoorGh
import Derived.Test.YtofllgbdphakiaaGreatDoorMb
import Derived.Test.YtofllgbdphakiaaGreatDoorGi
set_option linter.unusedVariables false
set_option linter.unusedSimpArgs false
section
namespace Go.Proofs.YtofllgbdphakiaaGreatDoor
open Go.Den Go.Disk
theorem numOf_neg {o : Option Nat} : numOf o < 0 ↔ o = none := by
  cases o with
  | none => simp [numOf]
  | some f => simp [numOf]
theorem there_num (s : Dk) (n : ByteArray) : there s n = if numOf (s.find n) < 0 then 5 else 0 := by
  unfold there
  cases h : s.find n with
  | none => simp [numOf]
  | some f =>
    have : ¬ ((f : Int) < 0) := by omega
    simp [numOf, this]
set_option linter.unusedSimpArgs false
set_option linter.unusedVariables false
set_option maxRecDepth 20000
set_option maxHeartbeats 4000000
attribute [local congr] BND_cg COND_cg GEF_cg
attribute [local irreducible] capl slicea load1 loadn iaddr iaddra faddr storev newslice binv lookv mupd mdel mlenv mentry mestore slicev slicev3 slices indexs indexav textv rangev nexts clearv shiftv eqaggv convi buildv pickv lens lenl unv nilchk extractv partn JOIN
section
variable {w0 w w' : World} {F0 : List Nat} {d : Nat} {s : Dk} {fv dv v : Value} {fc : List (SV × Nat)} {es : List SV} {l : Dir} {G : List Nat} {R : Value → World → Prop}
/-- the row of directories, copied. -/
theorem rf_dcopy {E E' bytes : Nat} {zero : Array Value} {zero' : Value} {k : Value → World → Prop} (h : At w0 F0 (stars (rfL d s fv dv fc es)) w) (hn : s.dirs.length < 1000000000) (hz : zero'.cells.size = 1) (hb : bytes ≤ 1000)
    (K : ∀ v' w' G, Slc encV 1 w' v' es G → (∀ b ∈ G, hsz w ≤ b) → Fr [] w w' → k v' w') : BND (newslice E zero 1 0 [] w) fun p_ => NEW p_ fun t w1 => BND (nilchk (ptrTo d)) fun a => BND (faddr 2 a) fun c => BND (load1 w1 c) fun u => APPEND E' 1 bytes zero' t u w1 k := by
  obtain ⟨T, c⟩ := h.cell (i := 0) rfl
  obtain ⟨F, ⟨_, ⟨G, sd, _⟩, ⟨hl, hE⟩, _⟩, _⟩ := h.get 2 rfl
  refine newnil_step encV fun t w1 s1 f1 z1 => ?_
  have c1 := f1.some (by simp) c
  unfold ptrTo
  (repeat refine gg ?_)
  refine APPEND_slc s1 ((sd.fr f1 (by simp)).loads encV_len) encV_len encV_one hz (by simp only [List.length_nil, Nat.zero_add]; exact Nat.le_trans (Nat.mul_le_mul_left _ hb) (by omega)) (by simp; omega) fun v' w' F' s' f' sub => ?_
  refine K v' w' F' (by simpa using s') (fun b hb => ?_) (f1.trans f' fun b hb => .inr (by simp at hb; omega))
  rcases sub b hb with h | h
  · simp at h; omega
  · omega
theorem rf_DirSync (h : At w0 F0 (rfHP d s) w) (hw : s.Wf) (hn : s.dirs.length < 1000000000) (hR : ∀ w', At w0 F0 (rfHP d (dirsync s).1) w' → R (.int .i64 (dirsync s).2) w') : CALL PR F_tumbrelref06_Disk_DirSync [ptrTo d] w R := by
  refine C_tumbrelref06_Disk_DirSync ?_
  unfold M_tumbrelref06_Disk_DirSync
  refine rf_can h _ hw.burn fun w1 h1 => ?_
  unfold dirsync at hR
  by_cases hc : (can s 0).2 = 0
  · simp only [hc, if_true] at hR
    rw [hc]
    obtain ⟨k1, k2, k3⟩ := can_keep s 0
    (repeat refine gg ?_)
    refine join_w (fun w' => At w0 F0 (rfHP d { (can s 0).1 with dirs := [s.now] }) w') (fun K hK => ?_) (fun w' hw' => hR w' hw')
    obtain ⟨fv, dv, fc, es, hs⟩ := rf_open h1
    (repeat refine gg ?_)
    refine rf_now hs (by rw [k2]; exact hw.ne) (by rw [k2]; exact hn) fun e Ge he se => ?_
    refine newone_step (enc := encV) (x := e) encV_len rfl fun u w4 s4 f4 z4 => ?_
    unfold ptrTo
    (repeat refine gg ?_)
    refine rf_dir1 hs ((Fr.drew [] w1).trans' f4) s4 (fun b hb => by simp at hb; subst hb; exact Nat.le_refl _) he (l := s.now) (by rw [k2]; exact dk_now_get hw.ne) fun w5 h5 => hK w5 (rf_shut h5)
  · simp only [hc, if_false] at hR
    (repeat refine gg ?_)
    refine join_w (fun w' => At w0 F0 (rfHP d (can s 0).1) w') (fun K hK => ?_) (fun w' hw' => hR w' hw')
    (repeat refine gg ?_)
    exact hK _ h1
theorem rf_Create (h : At w0 F0 (rfHP d s) w) (hw : s.Wf) (hn : s.dirs.length < 1000000000) (hn2 : s.files.length < 1000000000) (n : ByteArray) (hn_ : n.size ≤ 9223372036854775807) (hR : ∀ w', At w0 F0 (rfHP d (create s n).1) w' → R (.int .i64 (create s n).2) w') : CALL PR F_tumbrelref06_Disk_Create [ptrTo d, .string n] w R := by
  refine C_tumbrelref06_Disk_Create ?_
  unfold M_tumbrelref06_Disk_Create
  have h60 := hw.many _ (now_mem hw)
  refine rf_may n hn_ fun w1 f1 => ?_
  have h1 := h.fr0 f1
  (repeat refine gg ?_)
  refine join_v (Q := fun v w' => v = .int .i64 (createE s n) ∧ Fr [] w1 w') (fun k hk => ?_) ?_
  · unfold createE at hk
    cases hm : named n with
    | false =>
      rw [hm] at hk
      (repeat refine gg ?_)
      exact hk _ _ ⟨rfl, Fr.refl _ _⟩
    | true =>
      rw [hm] at hk
      simp only [Bool.true_eq_false, if_false] at hk
      (repeat refine gg ?_)
      refine rf_find h1 hw hn n fun w2 f2 => ?_
      by_cases hf : numOf (s.find n) < 0
      · rw [numOf_neg.1 hf] at hk
        simp only [Option.isSome_none, Bool.false_eq_true, if_false] at hk
        (repeat refine gg ?_)
        refine join_v (Q := fun v w' => v = .int .i64 (if 60 ≤ s.now.length then 4 else 0) ∧ Fr [] w1 w') (fun k2 hk2 => ?_) ?_
        · (repeat refine gg ?_)
          obtain ⟨fv, dv, fc, es, hs⟩ := rf_open (h1.fr0 f2)
          refine rf_now hs hw.ne hn fun e Ge _ se => ?_
          by_cases hq : 60 ≤ s.now.length
          · (repeat (first | refine BND_step se.len ?_ | refine gg ?_))
            refine join_v (Q := fun v w' => v = .int .i64 4 ∧ w' = w2.drew) (fun k3 hk3 => ?_) ?_
            · (repeat refine gg ?_)
              exact hk3 _ _ ⟨rfl, rfl⟩
            · rintro _ _ ⟨rfl, rfl⟩
              exact hk2 _ _ ⟨by rw [if_pos hq], f2.trans' (Fr.drew _ _)⟩
          · (repeat (first | refine BND_step se.len ?_ | refine gg ?_))
            refine join_v (Q := fun v w' => v = .int .i64 0 ∧ w' = w2.drew) (fun k3 hk3 => ?_) ?_
            · (repeat refine gg ?_)
              exact hk3 _ _ ⟨rfl, rfl⟩
            · rintro _ _ ⟨rfl, rfl⟩
              exact hk2 _ _ ⟨by rw [if_neg hq], f2.trans' (Fr.drew _ _)⟩
        · rintro v w' ⟨rfl, h⟩
          exact hk _ _ ⟨rfl, h⟩
      · obtain ⟨f, hfs⟩ : ∃ f, s.find n = some f := by
          cases hq : s.find n with
          | none => exact absurd (numOf_neg.2 hq) hf
          | some f => exact ⟨f, rfl⟩
        rw [hfs] at hk
        simp only [Option.isSome_some, if_true] at hk
        (repeat refine gg ?_)
        refine join_v (Q := fun v w' => v = .int .i64 6 ∧ Fr [] w1 w') (fun k2 hk2 => ?_) ?_
        · (repeat refine gg ?_)
          exact hk2 _ _ ⟨rfl, f2⟩
        · rintro v w' ⟨rfl, h⟩
          exact hk _ _ ⟨rfl, h⟩
  rintro _ w2 ⟨rfl, f2⟩
  refine rf_can (h1.fr0 f2) _ hw.burn fun w3 h3 => ?_
  unfold create at hR
  by_cases hc : (can s (createE s n)).2 = 0
  · simp only [hc, if_true] at hR
    rw [hc]
    obtain ⟨k1, k2, k3⟩ := can_keep s (createE s n)
    have hnow : (can s (createE s n)).1.now = s.now := by unfold Dk.now; rw [k2]
    generalize (can s (createE s n)).1 = s1 at hR h3 k1 k2 k3 hnow
    (repeat refine gg ?_)
    refine join_w (fun w' => At w0 F0 (rfHP d { s1 with files := s.files ++ [⟨[], 0⟩], dirs := s.dirs ++ [withD s.now (n, s.files.length)] }) w') (fun K hK => ?_) (fun w' hw' => hR w' hw')
    obtain ⟨fv, dv, fc, es, hs⟩ := rf_open h3
    obtain ⟨T, c⟩ := hs.cell (i := 0) rfl
    obtain ⟨Ff, sf, _⟩ := hs.slc1 (i := 1) rfl
    obtain ⟨hel, hfl⟩ : es.length = s.dirs.length ∧ fc.length = s.files.length := by obtain ⟨F, ⟨_, _, ⟨hl, _⟩, ⟨hl2, _⟩⟩, _⟩ := hs.get 2 rfl; rw [k2] at hl; rw [k1] at hl2; exact ⟨hl, hl2⟩
    (repeat refine gg ?_)
    refine newnil_step encG fun t5 w5 s5 f5 z5 => ?_
    have c5 := f5.some (by simp) c
    unfold ptrTo
    (repeat refine gg ?_)
    refine APPEND_slc s5 ((sf.fr f5 (by simp)).loads encG_len) encG_len encG_one rfl (by simp; omega) (by simp; omega) fun v6 w6 G6 s6 f6 sub6 => ?_
    rw [List.nil_append] at s6
    have g6 : ∀ b ∈ G6, hsz w3 ≤ b := fun b hb => by
      rcases sub6 b hb with h | h
      · simp at h; omega
      · omega
    have f36 : Fr [] w3 w6 := f5.trans f6 fun b hb => .inr (by simp at hb; omega)
    (repeat (first | refine gg ?_ | (apply BND_build ([.slice none 0 0, .int .i64 0]); exact rfl)))
    refine push_step (enc := encG) (x := (⟨none, 0, 0⟩, 0)) s6 encG_len encG_one rfl rfl (by omega) (by omega) fun v8 w8 G8 s8 g8 f8 => ?_
    have f38 : Fr [] w3 w8 := f36.trans f8 fun b hb => .inr (g6 b hb)
    have gr36 := f36.grow
    (repeat refine gg ?_)
    refine rf_files (v := ⟨none, 0, 0⟩) (x := ⟨[], 0⟩) hs f38 s8 (fun b hb => ?_) (fun w => Slc.nil _ _ _) fun w9 h9 => ?_
    · rcases g8 b hb with h | h
      · exact g6 b h
      · omega
    obtain ⟨T9, c9⟩ := h9.cell (i := 0) rfl
    have cd : blk w9.drew d = some (.cells (rfC { s1 with files := s1.files ++ [⟨[], 0⟩] } v8 dv).toArray T9 (0, 0)) := c9
    obtain ⟨Ff9, sf9, _⟩ := h9.slc1 (i := 1) rfl
    obtain ⟨F9, ⟨_, ⟨Gd, sd, _⟩, _⟩, _⟩ := h9.get 2 rfl
    refine ⟨fun _ w' => blk w' d = some (.cells (rfC { s1 with files := s1.files ++ [⟨[], 0⟩] } v8 dv).toArray T9 (0, 0)), cd, cd, ?_⟩
    have hlen : lenl v8 = some (.int .i64 ((s.files.length + 1 : Nat) : Int)) := by rw [sf9.len]; simp [hfl]
    (repeat (first | refine BND_step (subn_ (n := s.files.length + 1) (m := 1) (by omega) (by omega)) ?_ | refine gg ?_ | (apply BND_build ([.string n, .int .i64 ((s.files.length + 1 - 1 : Nat) : Int)]); exact rfl)))
    refine newnil_step encV fun t10 w10 s10 f10 z10 => ?_
    have c10 := f10.some (by simp) cd
    refine ⟨c10, c10, ?_⟩
    refine APPEND_slc s10 (((sd.fr (Fr.drew [] w9) (by simp)).fr f10 (by simp)).loads encV_len) encV_len encV_one rfl (by simp; omega) (by simp; omega) fun v11 w11 G11 s11 f11 sub11 => ?_
    rw [List.nil_append] at s11
    have e9 : hsz w9.drew = hsz w9 := rfl
    have g11 : ∀ b ∈ G11, hsz w9 ≤ b := fun b hb => by
      rcases sub11 b hb with h | h
      · simp at h; omega
      · omega
    have f911 : Fr [] w9 w11 := (Fr.drew [] w9).trans' (f10.trans f11 fun b hb => .inr (by simp at hb; omega))
    have c11 := f911.some (by simp) c9
    refine ⟨c11, ?_⟩
    refine rf_now (h9.fr0 f911) (by show s1.dirs ≠ []; rw [k2]; exact hw.ne) (by show s1.dirs.length < 1000000000; rw [k2]; exact hn) fun e Ge _ se => ?_
    replace se : Slc encE 2 w11.drew e.v s1.now Ge := se
    rw [hnow] at se
    refine ⟨c11, ?_⟩
    refine rf_with se (n, s.files.length + 1 - 1) (by omega) fun w13 e13 G13 s13 g13 f13 => ?_
    replace s13 : Slc encE 2 w13 e13.v (withD s.now (n, s.files.length)) G13 := s13
    have e11 : hsz w11.drew = hsz w11 := rfl
    have gr13 := f13.grow
    have gr911 := f911.grow
    have s11' := (s11.fr (Fr.drew [] w11) (by simp)).fr f13 (by simp)
    refine push_step (enc := encV) (x := e13) s11' encV_len encV_one rfl rfl (by omega) (by omega) fun v14 w14 G14 s14 g14 f14 => ?_
    have s13' := s13.fr f14 (fun b hb hb' => by have := g13 b hb; have := s11.lt b hb'; omega)
    (repeat refine gg ?_)
    refine rf_dirs h9 (((f911.trans' (Fr.drew [] w11)).trans' f13).trans f14 fun b hb => .inr (g11 b hb)) s14 (fun b hb => ?_) s13' (fun b hb => ?_) fun w12 h12 => hK w12 ?_
    · rcases g14 b hb with h | h
      · exact g11 b h
      · omega
    · have := g13 b hb
      omega
    · rw [k1] at h12
      have h12' := h12
      simp only [k2] at h12'
      exact h12'
  · simp only [hc, if_false] at hR
    (repeat refine gg ?_)
    refine join_w (fun w' => At w0 F0 (rfHP d (can s (createE s n)).1) w') (fun K hK => ?_) (fun w' hw' => hR w' hw')
    (repeat refine gg ?_)
    exact hK _ h3
end
end Go.Proofs.YtofllgbdphakiaaGreatDoor
end

section
namespace Go.Proofs.YtofllgbdphakiaaGreatDoor
open Go.Den Go.Disk
theorem absorb {P Q R I I' : HP} {w0 w : World} {F0 : List Nat} (h : At w0 F0 (stars [P, Q, R, I]) w) (hI : ∀ A B, P.p w A → I.p w B → I'.p w (B ++ A)) : At w0 F0 (stars [Q, R, I']) w := by
  refine At.mono2 h fun F hF => ?_
  obtain ⟨A, _, n2, ⟨A2, _, hp, ⟨A3, _, hs, ⟨A4, _, hi, ⟨_, rfl⟩, rfl, d4⟩, rfl, d3⟩, rfl, d2⟩, rfl, d1⟩ := hF
  refine ⟨A2 ++ (A3 ++ ((A4 ++ A) ++ [])), ⟨A2, _, hp, ⟨A3, _, hs, ⟨A4 ++ A, [], hI _ _ n2 hi, ⟨trivial, rfl⟩, rfl, by simp⟩, rfl, fun b hb hb' => ?_⟩, rfl, fun b hb hb' => ?_⟩, fun b hb => ?_⟩
  · simp only [List.append_nil, List.mem_append] at hb'
    rcases hb' with hb' | hb'
    · exact d3 b hb (by simp [hb'])
    · exact d1 b hb' (by simp [hb])
  · simp only [List.append_nil, List.mem_append] at hb'
    rcases hb' with hb' | hb' | hb'
    · exact d2 b hb (by simp [hb'])
    · exact d2 b hb (by simp [hb'])
    · exact d1 b hb' (by simp [hb])
  · simp only [List.append_nil, List.mem_append] at hb ⊢
    rcases hb with hb | hb | hb | hb <;> simp [hb]
section
variable {w0 w w' : World} {F0 : List Nat} {d : Nat} {s : Dk} {fv dv : Value} {fc : List (SV × Nat)} {es : List SV} {f : Nat} {x : Fl}
/-- where a file's row stands, how it reads, and is changed. -/
theorem rf_spot (h : At w0 F0 (stars (rfL d s fv dv fc es)) w) (hx : s.files[f]? = some x) : ∃ (b : Nat) (v : SV), iaddr 2 fv (.int .i64 (f : Int)) = some (.pointer (some ⟨b, f * 2, none⟩)) ∧
    (∀ w', Fr [] w w' → load1 w' (.pointer (some ⟨d, 1, none⟩)) = some fv ∧ load1 w' (.pointer (some ⟨b, f * 2 + 0, none⟩)) = some v.v ∧ load1 w' (.pointer (some ⟨b, f * 2 + 1, none⟩)) = some (.int .i64 (x.sure : Int)) ∧ loadn 2 w' (.pointer (some ⟨b, f * 2, none⟩)) = some (.agg #[v.v, .int .i64 (x.sure : Int)]) ∧ ∃ G, Slc encB 1 w' v.v x.b G) ∧
    (∀ w' v' G' bs K, Fr [] w w' → Slc encB 1 w' (SV.v v') bs G' → (∀ b ∈ G', hsz w ≤ b) → (∀ w'', At w0 F0 (stars (rfL d (setF s f ⟨bs, x.sure⟩) fv dv (fc.set f (v', x.sure)) es)) w'' → K w'') → BND (storev 1 w' (.pointer (some ⟨b, f * 2 + 0, none⟩)) (SV.v v')) K) ∧
    (∀ w' (k : Nat) K, Fr [] w w' → (∀ w'', At w0 F0 (stars (rfL d (setF s f ⟨x.b, k⟩) fv dv (fc.set f (v, k)) es)) w'' → K w'') → BND (storev 1 w' (.pointer (some ⟨b, f * 2 + 1, none⟩)) (.int .i64 (k : Int))) K) ∧
    (∀ w' v' G' bs (k : Nat) K, Fr [] w w' → Slc encB 1 w' (SV.v v') bs G' → (∀ b ∈ G', hsz w ≤ b) → (∀ w'', At w0 F0 (stars (rfL d (setF s f ⟨bs, k⟩) fv dv (fc.set f (v', k)) es)) w'' → K w'') → BND (storev 2 w' (.pointer (some ⟨b, f * 2, none⟩)) (.agg #[SV.v v', .int .i64 (k : Int)])) K) := by
  obtain ⟨T, c⟩ := h.cell (i := 0) rfl
  obtain ⟨F, ⟨_, _, _, ⟨hfl, hF⟩⟩, _⟩ := h.get 2 rfl
  obtain ⟨v, G, hv, sb, _⟩ := hF f x hx
  obtain ⟨Ff, sf, _⟩ := h.slc1 (i := 1) rfl
  have hlt : f < fc.length := (List.getElem?_eq_some_iff.1 hv).1
  obtain ⟨b, rfl, ia⟩ := sf.iaddr hlt .i64
  have same : ∀ {w'}, Fr [] w w' → ∀ {A}, Slc encG 2 w' fv fc A → A = [b] := fun fr A sA => by
    obtain ⟨b', rfl, ia'⟩ := sA.iaddr hlt .i64
    rw [ia] at ia'
    simp only [Option.some.injEq, Value.pointer.injEq, Addr.mk.injEq] at ia'
    rw [ia'.1]
  refine ⟨b, v, ia, fun w' fr => ?_, fun w' v' G' bs K fr sv hg hK => ?_, fun w' k K fr hK => ?_, fun w' v' G' bs k K fr sv hg hK => ?_⟩
  · have sf' := sf.fr fr (by simp)
    have c' := fr.some (by simp) c
    have q0 := sf'.load1 (i := f) (j := 0) hv (by omega)
    have q1 := sf'.load1 (i := f) (j := 1) hv (by omega)
    have ld : ∀ j u, (encG (v, x.sure))[j]? = some u → load1 w' (.pointer (some ⟨b, f * 2 + j, none⟩)) = some u := fun j u hu => by
      have hj : j < 2 := by have := (List.getElem?_eq_some_iff.1 hu).1; simpa [encG] using this
      rw [sf'.load1 (i := f) (j := j) hv hj, hu]
    obtain ⟨cap, cc, TT, _, hb, hc, hs, he⟩ := sf'.cells rfl
    refine ⟨load1_at c' rfl, ld 0 _ rfl, ld 1 _ rfl, ?_, G, sb.fr fr (by simp)⟩
    obtain ⟨b2, o2, i2, l2, _, _⟩ := sf'.arr.spot hv rfl .i64
    rw [ia] at i2
    cases i2
    exact l2
  · have ha := h.add fr (P := slc encB 1 (SV.v v') bs) sv hg
    obtain ⟨A, sA, upd⟩ := ha.upd 2 rfl
    replace sA : Slc encG 2 w' fv fc A := sA
    obtain rfl := same fr sA
    obtain ⟨w2, e2, s2, f2, _⟩ := sA.set1 (j := 0) (y := (v', x.sure)) (u := SV.v v') hv (by omega) (by intro m hm; rcases m with _ | _ | m <;> first | (simp [encG]; done) | omega) rfl rfl
    refine BND_step e2 (hK w2 (absorb (upd w2 [b] (slc encG 2 fv (fc.set f (v', x.sure))) s2 f2 (fun _ hb => .inl hb)) fun A B hA hB => ?_))
    obtain ⟨i1, ⟨G5, i2, i3⟩, i4, i5⟩ := hB
    replace hA : Slc encB 1 w2 (SV.v v') bs A := hA
    refine ⟨fun b hb => ?_, ⟨G5, i2, fun b hb => by simp [i3 b hb]⟩, i4.sub fun b hb => by simp [hb], (i5.sub fun b hb => by simp [hb]).set (x := ⟨bs, x.sure⟩) hA (fun b hb => by simp [hb])⟩
    rcases List.mem_append.1 hb with hb | hb
    · exact i1 b hb
    · exact hA.lt b hb
  · have ha := h.add fr (P := emp) ⟨trivial, rfl⟩ (A := []) (by simp)
    obtain ⟨A, sA, upd⟩ := ha.upd 2 rfl
    replace sA : Slc encG 2 w' fv fc A := sA
    obtain rfl := same fr sA
    obtain ⟨w2, e2, s2, f2, _⟩ := sA.set1 (j := 1) (y := (v, k)) (u := .int .i64 (k : Int)) hv (by omega) (by intro m hm; rcases m with _ | _ | m <;> first | (simp [encG]; done) | omega) rfl rfl
    refine BND_step e2 (hK w2 (absorb (upd w2 [b] (slc encG 2 fv (fc.set f (v, k))) s2 f2 (fun _ hb => .inl hb)) fun A B hA hB => ?_))
    obtain ⟨_, rfl⟩ := hA
    obtain ⟨i1, ⟨G5, i2, i3⟩, i4, i5⟩ := hB
    obtain ⟨v2, G2, hv2, sb2, g2⟩ := i5.2 f x hx
    rw [hv] at hv2
    cases hv2
    rw [List.append_nil]
    exact ⟨i1, ⟨G5, i2, i3⟩, i4, i5.set (x := ⟨x.b, k⟩) sb2 g2⟩
  · have ha := h.add fr (P := slc encB 1 (SV.v v') bs) sv hg
    obtain ⟨A, sA, upd⟩ := ha.upd 2 rfl
    replace sA : Slc encG 2 w' fv fc A := sA
    obtain rfl := same fr sA
    obtain ⟨w2, e2, s2, f2, _⟩ := sA.set (x := (v', k)) hlt rfl (encG_one _) (by omega)
    refine BND_step e2 (hK w2 (absorb (upd w2 [b] (slc encG 2 fv (fc.set f (v', k))) s2 f2 (fun _ hb => .inl hb)) fun A B hA hB => ?_))
    obtain ⟨i1, ⟨G5, i2, i3⟩, i4, i5⟩ := hB
    replace hA : Slc encB 1 w2 (SV.v v') bs A := hA
    refine ⟨fun b hb => ?_, ⟨G5, i2, fun b hb => by simp [i3 b hb]⟩, i4.sub fun b hb => by simp [hb], (i5.sub fun b hb => by simp [hb]).set (x := ⟨bs, k⟩) hA (fun b hb => by simp [hb])⟩
    rcases List.mem_append.1 hb with hb | hb
    · exact i1 b hb
    · exact hA.lt b hb
end
set_option linter.unusedSimpArgs false
set_option linter.unusedVariables false
set_option maxRecDepth 20000
set_option maxHeartbeats 4000000
attribute [local congr] BND_cg COND_cg GEF_cg
attribute [local irreducible] capl slicea load1 loadn iaddr iaddra faddr storev newslice binv lookv mupd mdel mlenv mentry mestore slicev slicev3 slices indexs indexav textv rangev nexts clearv shiftv eqaggv convi buildv pickv lens lenl unv nilchk extractv partn JOIN
section
variable {w0 w w' : World} {F0 : List Nat} {d : Nat} {s : Dk} {R : Value → World → Prop}
theorem rf_Read (h : At w0 F0 (rfHP d s) w) (hw : s.Wf) (hn : s.dirs.length < 1000000000) (n : ByteArray) (hR : ∀ w' v G, At w0 F0 (rfHP d s) w' → Slc encB 1 w' v (Disk.read s n).1 G → (∀ b ∈ G, hsz w ≤ b) → Fr [] w w' → R (.tuple #[v, .int .i64 (Disk.read s n).2]) w') : CALL PR F_tumbrelref06_Disk_Read [ptrTo d, .string n] w R := by
  obtain ⟨fv, dv, fc, es, hs⟩ := rf_open h
  refine C_tumbrelref06_Disk_Read ?_
  unfold M_tumbrelref06_Disk_Read
  unfold Disk.read at hR
  obtain ⟨T, c⟩ := hs.cell (i := 0) rfl
  cases hg : s.gone with
  | true =>
    unfold rfC at c
    rw [hg] at hR c
    unfold ptrTo
    (repeat refine gg ?_)
    exact hR w _ [] h (Slc.nil _ _ _) (by simp) (Fr.refl _ _)
  | false =>
    rw [hg] at hR
    unfold rfC at c
    rw [hg] at c
    unfold ptrTo
    (repeat refine gg ?_)
    refine rf_find h hw hn n fun w1 f1 => ?_
    cases hf : s.find n with
    | none =>
      rw [hf] at hR
      have e1 : numOf (none : Option Nat) = -1 := rfl
      rw [e1]
      (repeat refine gg ?_)
      exact hR w1 _ [] (h.fr0 f1) (Slc.nil _ _ _) (by simp) f1
    | some f =>
      rw [hf] at hR
      have e1 : numOf (some f) = (f : Int) := rfl
      rw [e1]
      have hx := wf_pick hw hf
      obtain ⟨b, v, ia, rd, _⟩ := rf_spot hs hx
      (repeat refine gg ?_)
      refine newnil_step encB fun t w2 s2 f2 z2 => ?_
      obtain ⟨l1, l2, _, _, Gb, sb⟩ := rd w2 (f1.trans' f2)
      have hsm := hw.small _ (List.mem_of_getElem? hx)
      have hrm := hw.room
      (repeat refine gg ?_)
      refine APPEND_slc s2 (sb.loads encB_len) encB_len encB_one rfl (by simp; omega) (by simp; omega) fun v3 w3 G3 s3 f3 sub3 => ?_
      rw [List.nil_append] at s3
      have f03 : Fr [] w w3 := (f1.trans' f2).trans f3 fun b hb => .inr (by have := f1.grow; simp at hb; omega)
      (repeat refine gg ?_)
      refine hR w3 v3 G3 (h.fr0 f03) s3 (fun b hb => ?_) f03
      have := f1.grow
      rcases sub3 b hb with hq | hq
      · simp at hq; omega
      · omega
theorem rf_Names (h : At w0 F0 (rfHP d s) w) (hw : s.Wf) (hn : s.dirs.length < 1000000000) (hR : ∀ w' v G, At w0 F0 (rfHP d s) w' → Slc encN 1 w' v (s.now.map (·.1)) G → (∀ b ∈ G, hsz w ≤ b) → Fr [] w w' → R v w') : CALL PR F_tumbrelref06_Disk_Names [ptrTo d] w R := by
  obtain ⟨fv, dv, fc, es, hs⟩ := rf_open h
  refine C_tumbrelref06_Disk_Names ?_
  unfold M_tumbrelref06_Disk_Names
  have h60 := hw.many _ (now_mem hw)
  refine newnil_step encN fun t w1 s1 f1 z1 => ?_
  obtain ⟨F, ⟨_, _, ⟨_, hE⟩, _⟩, _⟩ := hs.get 2 rfl
  obtain ⟨e0, Ge, he0, se0, _⟩ := hE _ _ (dk_now_get hw.ne)
  refine rf_now (hs.fr0 f1) hw.ne hn fun e _ he _ => ?_
  rw [he0] at he
  cases he
  have f2 := f1.trans' (Fr.drew [] w1)
  have se := se0.fr f2 (by simp)
  refine loop_up2 (o := t) 0 s.now.length (fun o i w' => ∃ H, Slc encN 1 w' o ((s.now.take i).map (·.1)) H ∧ (∀ b ∈ H, hsz w ≤ b) ∧ Fr [] w w' ∧ Slc encE 2 w' e0.v s.now Ge ∧ ∀ b ∈ Ge, b ∉ H) ⟨[hsz w], s1.fr (Fr.drew [] w1) (by simp), by simp, f2, se, fun b hb hb' => by have := se0.lt b hb; simp at hb'; omega⟩ (by omega) ?_
  rintro o i w3 - hi ⟨H, s3, h3, f3, se3, hd⟩ J m hJ
  by_cases hlt : i < s.now.length
  · have hx := List.getElem?_eq_getElem hlt
    generalize s.now[i] = x at hx
    obtain ⟨b, o2, ia, _, _, l1⟩ := se3.arr.spot hx rfl .i64
    (repeat (first | refine BND_step se3.len ?_ | (apply BND_step; exact (l1 (w' := w3) rfl (j := 0) rfl)) | refine gg ?_))
    refine push_step (enc := encN) (x := x.1) s3 encN_len encN_one rfl rfl (by omega) (by simp; omega) fun v4 w4 G4 s4 g4 f4 => ?_
    (repeat refine gg ?_)
    refine hJ _ _ hlt ⟨G4, ?_, fun b hb => ?_, f3.trans f4 fun b hb => .inr (h3 b hb), se3.fr f4 hd, fun b hb hb' => ?_⟩
    · rw [List.take_add_one, hx, List.map_append]; exact s4
    · rcases g4 b hb with hq | hq
      · exact h3 b hq
      · have := f3.grow; omega
    · rcases g4 b hb' with hq | hq
      · exact hd b hb hq
      · have := se3.lt b hb; omega
  · (repeat (first | refine BND_step se3.len ?_ | refine gg ?_))
    rw [List.take_of_length_le (by omega)] at s3
    exact hR w3 o H (h.fr0 f3) s3 h3 f3
theorem rf_Sync (h : At w0 F0 (rfHP d s) w) (hw : s.Wf) (hn : s.dirs.length < 1000000000) (n : ByteArray) (hR : ∀ w', At w0 F0 (rfHP d (sync s n).1) w' → R (.int .i64 (sync s n).2) w') : CALL PR F_tumbrelref06_Disk_Sync [ptrTo d, .string n] w R := by
  refine C_tumbrelref06_Disk_Sync ?_
  unfold M_tumbrelref06_Disk_Sync
  refine rf_find h hw hn n fun w1 f1 => ?_
  have h1 := h.fr0 f1
  (repeat refine gg ?_)
  refine join_v (Q := fun v w' => v = .int .i64 (there s n) ∧ w' = w1) (fun k hk => ?_) ?_
  · rw [there_num] at hk
    by_cases hf : numOf (s.find n) < 0
    · (repeat refine gg ?_)
      exact hk _ _ ⟨by rw [if_pos hf], rfl⟩
    · (repeat refine gg ?_)
      exact hk _ _ ⟨by rw [if_neg hf], rfl⟩
  rintro _ _ ⟨rfl, rfl⟩
  refine rf_can h1 _ hw.burn fun w3 h3 => ?_
  unfold sync at hR
  by_cases hc : (can s (there s n)).2 = 0
  · simp only [hc, if_true] at hR
    rw [hc]
    obtain ⟨f, hf⟩ : ∃ f, s.find n = some f := by
      have h0 := can_zero hc
      rw [there_num] at h0
      cases hq : s.find n with
      | none => rw [hq] at h0; simp [numOf] at h0
      | some f => exact ⟨f, rfl⟩
    rw [hf] at hR ⊢
    have e1 : numOf (some f) = (f : Int) := rfl
    rw [e1]
    simp only [Option.getD_some] at hR
    obtain ⟨k1, k2, k3⟩ := can_keep s (there s n)
    have hx := wf_pick hw hf
    generalize (can s (there s n)).1 = s1 at *
    (repeat refine gg ?_)
    refine join_w (fun w' => At w0 F0 (rfHP d (setF s1 f { fileAt s f with sure := (fileAt s f).b.length })) w') (fun K hK => ?_) (fun w' hw' => hR w' hw')
    obtain ⟨fv, dv, fc, es, hs⟩ := rf_open h3
    obtain ⟨b, v, ia, rd, _, st, _⟩ := rf_spot hs (f := f) (by rw [k1]; exact hx)
    obtain ⟨l1, l2, _, _, Gb, sb⟩ := rd w3.drew (Fr.drew _ _)
    unfold ptrTo
    (repeat (first | refine BND_step sb.len ?_ | refine gg ?_))
    refine st w3.drew _ _ (Fr.drew _ _) fun w5 h5 => ?_
    (repeat refine gg ?_)
    exact hK _ (rf_shut h5)
  · simp only [hc, if_false] at hR
    (repeat refine gg ?_)
    refine join_w (fun w' => At w0 F0 (rfHP d (can s (there s n)).1) w') (fun K hK => ?_) (fun w' hw' => hR w' hw')
    (repeat refine gg ?_)
    exact hK _ h3
end
end Go.Proofs.YtofllgbdphakiaaGreatDoor
end

section
namespace Go.Proofs.YtofllgbdphakiaaGreatDoor
open Go.Den Go.Disk
theorem heldG_le {s : Dk} (hw : s.Wf) (i : Nat) : heldG s i ≤ 1048576 := by
  unfold heldG
  split
  · unfold fileAt
    rw [List.getD_eq_getElem?_getD]
    cases h : s.files[i]? with
    | none => simp
    | some x =>
      have := hw.small _ (List.mem_of_getElem? h)
      have := hw.room
      simp; omega
  · omega
theorem sumTo_small {s : Dk} (hw : s.Wf) : ∀ i, sumTo i (heldG s) ≤ i * 1048576
  | 0 => by simp [sumTo]
  | i + 1 => by
    rw [sumTo_succ]
    have := sumTo_small hw i
    have := heldG_le hw i
    rw [Nat.add_mul]; omega
set_option linter.unusedSimpArgs false
set_option linter.unusedVariables false
set_option maxRecDepth 20000
set_option maxHeartbeats 4000000
attribute [local congr] BND_cg COND_cg GEF_cg
attribute [local irreducible] capl slicea load1 loadn iaddr iaddra faddr storev newslice binv lookv mupd mdel mlenv mentry mestore slicev slicev3 slices indexs indexav textv rangev nexts clearv shiftv eqaggv convi buildv pickv lens lenl unv nilchk extractv partn JOIN
section
variable {w0 w w' : World} {F0 : List Nat} {d : Nat} {s : Dk} {R : Value → World → Prop}
theorem rf_Held (h : At w0 F0 (rfHP d s) w) (hw : s.Wf) (hn : s.dirs.length < 1000000000) (hn2 : s.files.length < 1000000000) (hR : ∀ w', Fr [] w w' → R (.int .i64 (held s : Nat)) w') : CALL PR F_tumbrelref06_Disk_Held [ptrTo d] w R := by
  obtain ⟨fv, dv, fc, es, hs⟩ := rf_open h
  refine C_tumbrelref06_Disk_Held ?_
  unfold M_tumbrelref06_Disk_Held
  obtain ⟨T, c⟩ := hs.cell (i := 0) rfl
  obtain ⟨F, ⟨_, ⟨Gd, sd, _⟩, ⟨hel, hE⟩, ⟨hfl, hF⟩⟩, _⟩ := hs.get 2 rfl
  obtain ⟨Ff, sf, _⟩ := hs.slc1 (i := 1) rfl
  have lf := sf.len
  have ldl := sd.len
  rw [hfl] at lf
  rw [hel] at ldl
  unfold ptrTo
  refine loop_up2 (o := .int .i64 0) 0 s.files.length (fun o i w' => o = .int .i64 ((sumTo i (heldG s) : Nat) : Int) ∧ w' = w) ⟨rfl, rfl⟩ (by omega) ?_
  rintro o f w1 - hi ⟨rfl, rfl⟩ J m hJ
  have hsmall := sumTo_small hw f
  by_cases hlt : f < s.files.length
  · have hx := List.getElem?_eq_getElem hlt
    generalize s.files[f] = x at hx
    have hfx : fileAt s f = x := by unfold fileAt; rw [List.getD_eq_getElem?_getD, hx]; rfl
    have hxs := hw.small _ (List.mem_of_getElem? hx)
    have hrm := hw.room
    obtain ⟨v, Gb, hv, sb, _⟩ := hF f x hx
    (repeat refine gg ?_)
    refine loop_up2 (o := .bool false) 0 s.dirs.length (fun o k w' => o = .bool ((s.dirs.take k).any fun l => l.any fun y => decide (y.2 = f)) ∧ w' = w1) ⟨rfl, rfl⟩ (by omega) ?_
    rintro o k w2 - hk ⟨rfl, rfl⟩ J2 m2 hJ2
    by_cases hlt2 : k < s.dirs.length
    · have hl := List.getElem?_eq_getElem hlt2
      have hlm := List.getElem_mem hlt2
      generalize s.dirs[k] = l at hl hlm
      obtain ⟨e, Ge, he, se, _⟩ := hE k l hl
      obtain ⟨b1, o1, i1, _, _, l1⟩ := sd.arr.spot he rfl .i64
      have h60 := hw.many _ hlm
      (repeat refine gg ?_)
      refine loop_up2 (o := .bool ((s.dirs.take k).any fun l => l.any fun y => decide (y.2 = f))) 0 l.length (fun o a w' => o = .bool (((s.dirs.take k).any fun l => l.any fun y => decide (y.2 = f)) || (l.take a).any fun y => decide (y.2 = f)) ∧ w' = w2) ⟨by simp, rfl⟩ (by omega) ?_
      rintro o a w3 - ha ⟨rfl, rfl⟩ J3 m3 hJ3
      by_cases hlt3 : a < l.length
      · have hy := List.getElem?_eq_getElem hlt3
        generalize l[a] = y at hy
        obtain ⟨b2, o2, i2, _, _, l2⟩ := se.arr.spot hy rfl .i64
        have hst : (((s.dirs.take k).any fun l => l.any fun y => decide (y.2 = f)) || (l.take (a + 1)).any (fun y => decide (y.2 = f))) = ((((s.dirs.take k).any fun l => l.any fun y => decide (y.2 = f)) || (l.take a).any fun y => decide (y.2 = f)) || decide (y.2 = f)) := by
          rw [List.take_add_one, hy, List.any_append]; simp [Bool.or_assoc]
        cases hp : (((s.dirs.take k).any fun l => l.any fun y => decide (y.2 = f)) || (l.take a).any fun y => decide (y.2 = f)) with
        | true =>
          rw [hp] at hst hJ3
          (repeat (first | (apply BND_step; exact (l1 (w' := w3) rfl (j := 0) rfl)) | refine BND_step se.len ?_ | refine gg ?_))
          exact hJ3 (.bool true) _ hlt3 ⟨by rw [hst]; rfl, rfl⟩
        | false =>
          rw [hp, Bool.false_or] at hst
          rw [hp] at hJ3
          (repeat (first | (apply BND_step; exact (l1 (w' := w3) rfl (j := 0) rfl)) | refine BND_step se.len ?_ | (apply BND_step; exact (l2 (w' := w3) rfl (j := 1) rfl)) | refine gg ?_))
          exact hJ3 (.bool (decide ((y.2 : Int) = (f : Int)))) _ hlt3 ⟨by rw [hst]; congr 1; simp [Int.ofNat_inj], rfl⟩
      · (repeat (first | (apply BND_step; exact (l1 (w' := w3) rfl (j := 0) rfl)) | refine BND_step se.len ?_ | refine gg ?_))
        refine hJ2 _ _ hlt2 ⟨?_, rfl⟩
        rw [List.take_of_length_le (by omega : l.length ≤ a), List.take_add_one, hl, List.any_append]
        simp
    · (repeat refine gg ?_)
      rw [List.take_of_length_le (by omega)]
      have hst : sumTo (f + 1) (heldG s) = sumTo f (heldG s) + (if (s.dirs.any fun l => l.any fun y => decide (y.2 = f)) = true then x.b.length else 0) := by
        rw [sumTo_succ]; unfold heldG isHeld; rw [hfx]
      cases hp : s.dirs.any fun l => l.any fun y => decide (y.2 = f) with
      | true =>
        rw [hp] at hst
        simp only [if_true] at hst
        refine join_v (Q := fun v w' => v = .int .i64 ((sumTo (f + 1) (heldG s) : Nat) : Int) ∧ w' = w2) (fun k hk => ?_) ?_
        · obtain ⟨b1, o1, i1, _, _, l1⟩ := sf.arr.spot hv rfl .i64
          (repeat (first | (apply BND_step; exact (l1 (w' := w2) rfl (j := 0) rfl)) | refine BND_step sb.len ?_ | refine BND_step (addn_ (n := sumTo f (heldG s)) (m := x.b.length) (by omega)) ?_ | refine gg ?_))
          exact hk _ _ ⟨by rw [hst], rfl⟩
        · rintro v w' ⟨rfl, rfl⟩
          (repeat refine gg ?_)
          exact hJ _ _ hlt ⟨rfl, rfl⟩
      | false =>
        rw [hp] at hst
        simp only [Bool.false_eq_true, if_false, Nat.add_zero] at hst
        refine join_v (Q := fun v w' => v = .int .i64 ((sumTo (f + 1) (heldG s) : Nat) : Int) ∧ w' = w2) (fun k hk => ?_) ?_
        · (repeat refine gg ?_)
          exact hk _ _ ⟨by rw [hst], rfl⟩
        · rintro v w' ⟨rfl, rfl⟩
          (repeat refine gg ?_)
          exact hJ _ _ hlt ⟨rfl, rfl⟩
  · obtain rfl : f = s.files.length := by omega
    (repeat refine gg ?_)
    exact hR _ (Fr.refl _ _)
theorem rf_Append (h : At w0 F0 (rfHP d s) w) (hw : s.Wf) (hn : s.dirs.length < 1000000000) (hn2 : s.files.length < 1000000000) (n : ByteArray) {u : Value} {bs : List UInt8} (hbs : bs.length < 1000000000) (hul : lenl u = some (.int .i64 bs.length))
    (hu : ∀ w', Fr F0 w0 w' → cellsOfArg w' 1 u = some (flat encB bs, bs.length)) (hR : ∀ w', At w0 F0 (rfHP d (append s n bs).1) w' → R (.int .i64 (append s n bs).2) w') : CALL PR F_tumbrelref06_Disk_Append [ptrTo d, .string n, u] w R := by
  refine C_tumbrelref06_Disk_Append ?_
  unfold M_tumbrelref06_Disk_Append
  refine rf_find h hw hn n fun w1 f1 => ?_
  have h1 := h.fr0 f1
  have hsmall := sumTo_small hw s.files.length
  rw [← held_sum] at hsmall
  have hrm := hw.room
  (repeat refine gg ?_)
  refine join_v (Q := fun v w' => v = .int .i64 (appendE s n bs.length) ∧ Fr [] w1 w') (fun k hk => ?_) ?_
  · unfold appendE at hk
    cases hf : s.find n with
    | none =>
      rw [hf] at hk
      have e1 : numOf (none : Option Nat) = -1 := rfl
      rw [e1]
      (repeat refine gg ?_)
      exact hk _ _ ⟨rfl, Fr.refl _ _⟩
    | some f =>
      rw [hf] at hk
      simp only [Option.isSome_some, if_true] at hk
      have e1 : numOf (some f) = (f : Int) := rfl
      rw [e1]
      obtain ⟨fv, dv, fc, es, hs⟩ := rf_open h1
      obtain ⟨T, c⟩ := hs.cell (i := 0) rfl
      have cd : blk w1.drew d = some (.cells (rfC s fv dv).toArray T (0, 0)) := c
      unfold ptrTo
      (repeat refine gg ?_)
      refine ⟨fun _ w' => blk w' d = some (.cells (rfC s fv dv).toArray T (0, 0)), cd, ?_⟩
      (repeat refine gg ?_)
      refine rf_Held (h1.fr0 (Fr.drew _ _)) hw hn hn2 fun w9 f9 => ?_
      refine ⟨f9.some (by simp) cd, ?_⟩
      (repeat (first | refine BND_step (addn_ (n := held s) (m := bs.length) (by omega)) ?_ | refine gg ?_))
      have f19 := (Fr.drew [] w1).trans' f9
      by_cases hq : s.room < ((held s + bs.length : Nat) : Int)
      · rw [if_pos hq] at hk
        (repeat refine gg ?_)
        refine join_v (Q := fun v w' => v = .int .i64 4 ∧ w' = w9) (fun k2 hk2 => ?_) ?_
        · (repeat refine gg ?_)
          exact hk2 _ _ ⟨rfl, rfl⟩
        · rintro _ _ ⟨rfl, rfl⟩
          exact hk _ _ ⟨rfl, f19⟩
      · rw [if_neg hq] at hk
        (repeat refine gg ?_)
        refine join_v (Q := fun v w' => v = .int .i64 0 ∧ w' = w9) (fun k2 hk2 => ?_) ?_
        · (repeat refine gg ?_)
          exact hk2 _ _ ⟨rfl, rfl⟩
        · rintro _ _ ⟨rfl, rfl⟩
          exact hk _ _ ⟨rfl, f19⟩
  rintro _ w2 ⟨rfl, f2⟩
  refine rf_can (h1.fr0 f2) _ hw.burn fun w3 h3 => ?_
  unfold append at hR
  by_cases hc : (can s (appendE s n bs.length)).2 = 0
  · simp only [hc, if_true] at hR
    rw [hc]
    obtain ⟨f, hf⟩ : ∃ f, s.find n = some f := by
      have h0 := can_zero hc
      unfold appendE at h0
      cases hq : s.find n with
      | none => rw [hq] at h0; simp at h0
      | some f => exact ⟨f, rfl⟩
    rw [hf] at hR ⊢
    have e1 : numOf (some f) = (f : Int) := rfl
    rw [e1]
    simp only [Option.getD_some] at hR
    obtain ⟨k1, k2, k3⟩ := can_keep s (appendE s n bs.length)
    have hx := wf_pick hw hf
    have hsm := hw.small _ (List.mem_of_getElem? hx)
    generalize (can s (appendE s n bs.length)).1 = s1 at *
    (repeat refine gg ?_)
    refine join_w (fun w' => At w0 F0 (rfHP d (setF s1 f { fileAt s f with b := (fileAt s f).b ++ bs })) w') (fun K hK => ?_) (fun w' hw' => hR w' hw')
    refine cyes rfl ?_
    (repeat refine gg ?_)
    obtain ⟨fv, dv, fc, es, hs⟩ := rf_open h3
    obtain ⟨b, v, ia, rd, st, _⟩ := rf_spot hs (f := f) (by rw [k1]; exact hx)
    have e3 : hsz w3.drew = hsz w3 := rfl
    refine ⟨fun _ w' => Fr [] w3.drew w', Fr.refl _ _, Fr.refl _ _, Fr.refl _ _, ?_⟩
    have rd' : ∀ w', Fr [] w3.drew w' → _ := fun w' hw => rd w' ((Fr.drew [] w3).trans' hw)
    unfold ptrTo
    (repeat (first | refine gg ?_ | refine FLT.mk _ (fun _ hw_ => (rd' _ hw_).1) ?_))
    refine FLT.mk _ (fun _ hw_ => (rd' _ hw_).2.1) ?_
    refine newnil_step encB fun t w5 s5 f5 z5 => ?_
    refine ⟨f5, f5, f5, ?_⟩
    obtain ⟨_, _, _, _, Gb, sb⟩ := rd' w5 f5
    refine APPEND_slc s5 (sb.loads encB_len) encB_len encB_one rfl (by simp; omega) (by simp; omega) fun v6 w6 G6 s6 f6 sub6 => ?_
    rw [List.nil_append] at s6
    have f56 := f5.trans f6 fun b hb => .inr (by simp at hb; omega)
    have g6 : ∀ b ∈ G6, hsz w3 ≤ b := fun b hb => by
      rcases sub6 b hb with hq | hq
      · simp at hq; omega
      · omega
    refine ⟨f56, ?_⟩
    have fw6 : Fr F0 w0 w6 := (h3.frame.trans' (Fr.drew [] w3).nil).trans' f56.nil
    refine APPEND_slc s6 (hu w6 fw6) encB_len encB_one rfl (by omega) (by omega) fun v7 w7 G7 s7 f7 sub7 => ?_
    have f57 := f56.trans f7 fun b hb => .inr (g6 b hb)
    refine ⟨f57, ?_⟩
    obtain ⟨e7, rfl⟩ := slc_sv s7
    (repeat refine gg ?_)
    refine st w7 e7 G7 _ _ ((Fr.drew [] w3).trans' f57) s7 (fun b hb => ?_) fun w8 h8 => hK _ (rf_shut h8)
    have := f56.grow
    rcases sub7 b hb with hq | hq
    · exact g6 b hq
    · omega
  · simp only [hc, if_false] at hR
    (repeat refine gg ?_)
    refine join_w (fun w' => At w0 F0 (rfHP d (can s (appendE s n bs.length)).1) w') (fun K hK => ?_) (fun w' hw' => hR w' hw')
    (repeat refine gg ?_)
    exact hK _ h3
theorem rf_Cut (h : At w0 F0 (rfHP d s) w) (hw : s.Wf) (hn : s.dirs.length < 1000000000) (n : ByteArray) (k : Int) (hR : ∀ w', At w0 F0 (rfHP d (cut s n k).1) w' → R (.int .i64 (cut s n k).2) w') : CALL PR F_tumbrelref06_Disk_Cut [ptrTo d, .string n, .int .i64 k] w R := by
  refine C_tumbrelref06_Disk_Cut ?_
  unfold M_tumbrelref06_Disk_Cut
  refine rf_find h hw hn n fun w1 f1 => ?_
  have h1 := h.fr0 f1
  (repeat refine gg ?_)
  refine join_v (Q := fun v w' => v = .int .i64 (cutE s n k) ∧ w' = w1) (fun q hk => ?_) ?_
  · unfold cutE at hk
    cases hf : s.find n with
    | none =>
      rw [hf] at hk
      have e1 : numOf (none : Option Nat) = -1 := rfl
      rw [e1]
      (repeat refine gg ?_)
      exact hk _ _ ⟨rfl, rfl⟩
    | some f =>
      rw [hf] at hk
      simp only at hk
      have e1 : numOf (some f) = (f : Int) := rfl
      rw [e1]
      have hx := wf_pick hw hf
      obtain ⟨fv, dv, fc, es, hs⟩ := rf_open h1
      obtain ⟨b, v, ia, rd, _⟩ := rf_spot hs hx
      obtain ⟨l1, l2, _, _, Gb, sb⟩ := rd w1 (Fr.refl _ _)
      unfold ptrTo
      by_cases q1 : k < 0
      · rw [if_pos (.inl q1)] at hk
        (repeat refine gg ?_)
        refine join_v (Q := fun v w' => v = .int .i64 1 ∧ w' = w1) (fun k2 hk2 => ?_) ?_
        · (repeat refine gg ?_)
          exact hk2 _ _ ⟨rfl, rfl⟩
        · rintro _ _ ⟨rfl, rfl⟩
          exact hk _ _ ⟨rfl, rfl⟩
      · by_cases q2 : ((fileAt s f).b.length : Int) < k
        · rw [if_pos (.inr q2)] at hk
          (repeat (first | refine BND_step sb.len ?_ | refine gg ?_))
          refine join_v (Q := fun v w' => v = .int .i64 1 ∧ w' = w1) (fun k2 hk2 => ?_) ?_
          · (repeat refine gg ?_)
            exact hk2 _ _ ⟨rfl, rfl⟩
          · rintro _ _ ⟨rfl, rfl⟩
            exact hk _ _ ⟨rfl, rfl⟩
        · rw [if_neg (by omega)] at hk
          (repeat (first | refine BND_step sb.len ?_ | refine gg ?_))
          refine join_v (Q := fun v w' => v = .int .i64 0 ∧ w' = w1) (fun k2 hk2 => ?_) ?_
          · (repeat refine gg ?_)
            exact hk2 _ _ ⟨rfl, rfl⟩
          · rintro _ _ ⟨rfl, rfl⟩
            exact hk _ _ ⟨rfl, rfl⟩
  rintro _ _ ⟨rfl, rfl⟩
  refine rf_can h1 _ hw.burn fun w3 h3 => ?_
  unfold cut at hR
  by_cases hc : (can s (cutE s n k)).2 = 0
  · simp only [hc, if_true] at hR
    rw [hc]
    have h0 := can_zero hc
    unfold cutE at h0
    obtain ⟨f, hf⟩ : ∃ f, s.find n = some f := by
      cases hq : s.find n with
      | none => rw [hq] at h0; simp at h0
      | some f => exact ⟨f, rfl⟩
    rw [hf] at hR h0 ⊢
    have e1 : numOf (some f) = (f : Int) := rfl
    rw [e1]
    simp only [Option.getD_some] at hR h0
    have hk : 0 ≤ k ∧ k ≤ (fileAt s f).b.length := by
      by_cases hh : k < 0 ∨ ((fileAt s f).b.length : Int) < k
      · rw [if_pos hh] at h0; omega
      · omega
    obtain ⟨k1, k2, k3⟩ := can_keep s (cutE s n k)
    have hx := wf_pick hw hf
    have hsm := hw.small _ (List.mem_of_getElem? hx)
    have hrm := hw.room
    generalize (can s (cutE s n k)).1 = s1 at *
    obtain ⟨kn, rfl⟩ : ∃ kn : Nat, k = (kn : Int) := ⟨k.toNat, by omega⟩
    simp only [Int.toNat_natCast] at hR
    generalize fileAt s f = x at *
    (repeat refine gg ?_)
    refine join_w (fun w' => At w0 F0 (rfHP d (setF s1 f ⟨x.b.take kn, min x.sure kn⟩)) w') (fun K hK => ?_) (fun w' hw' => hR w' hw')
    refine cyes rfl ?_
    (repeat refine gg ?_)
    obtain ⟨fv, dv, fc, es, hs⟩ := rf_open h3
    obtain ⟨b, v, ia, rd, st, _⟩ := rf_spot hs (f := f) (x := x) (by rw [k1]; exact hx)
    have e3 : hsz w3.drew = hsz w3 := rfl
    refine ⟨fun _ w' => Fr [] w3.drew w', Fr.refl _ _, Fr.refl _ _, Fr.refl _ _, ?_⟩
    have rd' : ∀ w', Fr [] w3.drew w' → _ := fun w' hw => rd w' ((Fr.drew [] w3).trans' hw)
    obtain ⟨_, _, _, _, Gb, sb⟩ := rd' w3.drew (Fr.refl _ _)
    obtain ⟨va, ea, ca⟩ := sb.upto encB_len (n := kn) (by omega) .i64
    unfold ptrTo
    (repeat (first | refine gg ?_ | refine FLT.mk _ (fun _ hw_ => (rd' _ hw_).1) ?_))
    refine FLT.mk _ (fun _ hw_ => (rd' _ hw_).2.1) ?_
    (repeat refine gg ?_)
    refine newnil_step encB fun t w5 s5 f5 z5 => ?_
    refine ⟨f5, f5, f5, ?_⟩
    refine APPEND_slc s5 (ca w5 fun b hb => f5.keep b (sb.lt b hb) (by simp)) encB_len encB_one rfl (by simp; omega) (by simp; omega) fun v6 w6 G6 s6 f6 sub6 => ?_
    rw [List.nil_append] at s6
    have f56 := f5.trans f6 fun b hb => .inr (by simp at hb; omega)
    have g6 : ∀ b ∈ G6, hsz w3 ≤ b := fun b hb => by
      rcases sub6 b hb with hq | hq
      · simp at hq; omega
      · omega
    refine ⟨f56, ?_⟩
    obtain ⟨e6, rfl⟩ := slc_sv s6
    (repeat refine gg ?_)
    refine st w6 e6 G6 _ _ ((Fr.drew [] w3).trans' f56) s6 g6 fun w7 h7 => ?_
    have hfl : f < s1.files.length := by rw [k1]; exact (List.getElem?_eq_some_iff.1 hx).1
    obtain ⟨b2, v2, ia2, rd2, _, st2, _⟩ := rf_spot h7 (f := f) (x := ⟨x.b.take kn, x.sure⟩) (by show (s1.files.set f _)[f]? = _; rw [List.getElem?_set_self hfl])
    obtain ⟨l1, l2, l3, _⟩ := rd2 w7.drew (Fr.drew _ _)
    have em : min2v (.int .i64 (x.sure : Int)) (.int .i64 (kn : Int)) = some (.int .i64 ((min x.sure kn : Nat) : Int)) := by
      have : min2v (.int .i64 (x.sure : Int)) (.int .i64 (kn : Int)) = some (.int .i64 (if (kn : Int) < (x.sure : Int) then (kn : Int) else (x.sure : Int))) := rfl
      rw [this]
      congr 2
      split <;> omega
    (repeat refine gg ?_)
    refine st2 w7.drew _ _ (Fr.drew _ _) fun w8 h8 => ?_
    (repeat refine gg ?_)
    refine hK _ (rf_shut (fv := fv) (dv := dv) (fc := (fc.set f (e6, x.sure)).set f (v2, min x.sure kn)) (es := es) ?_)
    have e : setF (setF s1 f ⟨x.b.take kn, x.sure⟩) f ⟨x.b.take kn, min x.sure kn⟩ = setF s1 f ⟨x.b.take kn, min x.sure kn⟩ := by unfold setF; simp
    rw [← e]; exact h8
  · simp only [hc, if_false] at hR
    (repeat refine gg ?_)
    refine join_w (fun w' => At w0 F0 (rfHP d (can s (cutE s n k)).1) w') (fun K hK => ?_) (fun w' hw' => hR w' hw')
    (repeat refine gg ?_)
    exact hK _ h3
end
end Go.Proofs.YtofllgbdphakiaaGreatDoor
end

section
namespace Go.Proofs.YtofllgbdphakiaaGreatDoor
open Go.Den Go.Disk
theorem crash_pick {s : Dk} (hp : 0 < s.dirs.length) (op : Int) : ∃ j l, s.dirs[j]? = some l ∧ s.dirs.getD (min op.toNat (s.dirs.length - 1)) [] = l ∧ j < s.dirs.length ∧ max2v (.int .i64 op) (.int .i64 0) = some (.int .i64 (if op < 0 then 0 else op)) ∧
    min2v (.int .i64 (if op < 0 then 0 else op)) (.int .i64 ((s.dirs.length - 1 : Nat) : Int)) = some (.int .i64 ((j : Nat) : Int)) := by
  have hj : min op.toNat (s.dirs.length - 1) < s.dirs.length := by omega
  refine ⟨min op.toNat (s.dirs.length - 1), _, List.getElem?_eq_getElem hj, by rw [List.getD_eq_getElem?_getD, List.getElem?_eq_getElem hj]; rfl, hj, rfl, ?_⟩
  show some (Value.int .i64 (if ((s.dirs.length - 1 : Nat) : Int) < (if op < 0 then 0 else op) then ((s.dirs.length - 1 : Nat) : Int) else (if op < 0 then 0 else op))) = _
  congr 2
  split <;> split <;> omega
theorem tail_min {x : Fl} {tails : List Int} {i : Nat} {t : Int} (hx : x.sure ≤ x.b.length) (htx : tails[i]? = some t) :
    max2v (.int .i64 t) (.int .i64 0) = some (.int .i64 (if t < 0 then 0 else t)) ∧ min2v (.int .i64 (if t < 0 then 0 else t)) (.int .i64 ((x.b.length - x.sure : Nat) : Int)) = some (.int .i64 ((tailOf x tails i : Nat) : Int)) := by
  refine ⟨rfl, ?_⟩
  show some (Value.int .i64 (if ((x.b.length - x.sure : Nat) : Int) < (if t < 0 then 0 else t) then ((x.b.length - x.sure : Nat) : Int) else (if t < 0 then 0 else t))) = _
  unfold tailOf
  rw [htx]
  congr 2
  simp only
  split <;> split <;> omega
set_option linter.unusedSimpArgs false
set_option linter.unusedVariables false
set_option maxRecDepth 20000
set_option maxHeartbeats 4000000
attribute [local congr] BND_cg COND_cg GEF_cg
attribute [local irreducible] capl slicea load1 loadn iaddr iaddra faddr storev newslice binv lookv mupd mdel mlenv mentry mestore slicev slicev3 slices indexs indexav textv rangev nexts clearv shiftv eqaggv convi buildv pickv lens lenl unv nilchk extractv partn JOIN
section
variable {w0 w w' : World} {F0 : List Nat} {d : Nat} {s : Dk} {R : Value → World → Prop}
theorem rf_Crash (h : At w0 F0 (rfHP d s) w) (hw : s.Wf) (hn : s.dirs.length < 1000000000) (op : Int) {tv : Value} {tails : List Int} (hta : ∀ w', Fr F0 w0 w' → Arr encI 1 w' tv tails) (hR : ∀ w', At w0 F0 (rfHP d (crash s op tails)) w' → R (.tuple #[]) w') : CALL PR F_tumbrelref06_Disk_Crash [ptrTo d, .int .i64 op, tv] w R := by
  obtain ⟨fv, dv, fc, es, hs⟩ := rf_open h
  refine C_tumbrelref06_Disk_Crash ?_
  unfold M_tumbrelref06_Disk_Crash
  obtain ⟨T, c⟩ := hs.cell (i := 0) rfl
  obtain ⟨F, ⟨_, ⟨Gd, sd, _⟩, ⟨hel, hE⟩, _⟩, _⟩ := hs.get 2 rfl
  have ldl := sd.len
  rw [hel] at ldl
  obtain ⟨j, l, hl, hld, hjl, em1, em2⟩ := crash_pick (List.length_pos_iff.2 hw.ne) op
  have hlm : l ∈ s.dirs := List.mem_of_getElem? hl
  unfold crash at hR
  rw [hld] at hR
  obtain ⟨e, Ge0, he, se0, _⟩ := hE j l hl
  obtain ⟨b1, o1, i1, _, _, l1⟩ := sd.arr.spot he rfl .i64
  unfold ptrTo
  (repeat (first | refine BND_step (subn_ (n := s.dirs.length) (m := 1) (by omega) (by omega)) ?_ | (apply BND_step; exact (l1 (w' := w) rfl (j := 0) rfl)) | refine gg ?_))
  refine newone_step (enc := encV) (x := e) encV_len rfl fun u w1 s1 f1 z1 => ?_
  (repeat refine gg ?_)
  refine rf_dir1 hs f1 s1 (fun b hb => by simp at hb; subst hb; exact Nat.le_refl _) he hl fun w2 h2 => ?_
  (repeat refine gg ?_)
  refine h2.store (i := 0) rfl ⟨rfl, rfl⟩ (by simp [rfC]) fun w3 h3 _ => ?_
  (repeat refine gg ?_)
  refine h3.store (i := 0) rfl ⟨rfl, rfl⟩ (by simp [rfC]) fun w4 h4 _ => ?_
  replace h4 : At w0 F0 (stars (rfL d { s with dirs := [l], burn := -1, gone := false } fv u fc [e])) w4 := h4
  refine rf_now h4 (by simp) (by simp) fun e' Ge he' se => ?_
  have hee : e' = e := by
    have : ([e] : List SV)[0]? = some e' := he'
    simpa using this.symm
  subst hee
  have h60 := hw.many _ hlm
  have hr : riseD l := hw.rise _ hlm
  have hok0 : FilesOk 1048576 s.files := fun x hx => ⟨hw.sure x hx, by have := hw.small x hx; have := hw.room; omega⟩
  have hlen0 : lenl e'.v = some (.int .i64 (l.length : Int)) := se.len
  clear he' se
  refine loop_up 0 l.length (fun i w' => (∃ fc, At w0 F0 (stars (rfL d { s with files := crashF tails (l.take i) 0 s.files, dirs := [l], burn := -1, gone := false } fv u fc [e'])) w') ∧ FilesOk 1048576 (crashF tails (l.take i) 0 s.files) ∧ (crashF tails (l.take i) 0 s.files).length = s.files.length)
    ⟨⟨fc, h4.fr0 (Fr.drew _ _)⟩, hok0, rfl⟩ (by omega) ?_
  rintro i w6 - hi ⟨⟨fc6, h6⟩, hok, hlen⟩ J m hJ
  by_cases hlt : i < l.length
  · have hxi := List.getElem?_eq_getElem hlt
    obtain ⟨⟨k, f⟩, hp⟩ : ∃ p, p = l[i] := ⟨_, rfl⟩
    rw [← hp] at hxi
    have hmem : (k, f) ∈ l := List.mem_of_getElem? hxi
    have hfl : f < s.files.length := hw.idx _ hlm _ hmem
    generalize hfs : crashF tails (l.take i) 0 s.files = fs at h6 hok hlen
    have hstep : crashF tails (l.take (i + 1)) 0 s.files = crash1 tails f i fs := by
      rw [List.take_add_one, hxi]
      show crashF tails (l.take i ++ [(k, f)]) 0 s.files = _
      rw [crashF_snoc, hfs]
      congr 1
      rw [List.length_take]; omega
    have hfl2 : f < fs.length := by omega
    have hx : fs[f]? = some (fs.getD f ⟨[], 0⟩) := by rw [List.getD_eq_getElem?_getD, List.getElem?_eq_getElem hfl2]; rfl
    have hxo := hok _ (List.mem_of_getElem? hx)
    have hok2 := crash1_ok (tails := tails) (i := i) hok hfl2
    have hlen2 := crash1_len tails f i fs
    have htail := tailOf_le (fs.getD f ⟨[], 0⟩) tails i
    have hc1 : crash1 tails f i fs = fs.set f ⟨(fs.getD f ⟨[], 0⟩).b.take ((fs.getD f ⟨[], 0⟩).sure + tailOf (fs.getD f ⟨[], 0⟩) tails i), (fs.getD f ⟨[], 0⟩).sure + tailOf (fs.getD f ⟨[], 0⟩) tails i⟩ := rfl
    generalize fs.getD f ⟨[], 0⟩ = x at hx hxo htail hc1
    obtain ⟨F6, ⟨_, _, ⟨_, hE6⟩, _⟩, _⟩ := h6.get 2 rfl
    obtain ⟨e2, G2, he2, se2, _⟩ := hE6 0 l rfl
    have hee2 : e2 = e' := by simpa using he2.symm
    subst hee2
    obtain ⟨bn, on, ian, _, hbn, ln⟩ := se2.arr.spot hxi rfl .i64
    obtain ⟨b, v, ia, rd, _, _, st⟩ := rf_spot h6 (f := f) (x := x) hx
    have e6 : hsz w6.drew = hsz w6 := rfl
    have ld : ∀ w', Fr [] w6 w' → load1 w' (.pointer (some ⟨bn, on + 1, none⟩)) = some (.int .i64 (f : Int)) := fun w' fr => ln (fr.keep bn hbn (by simp)) (j := 1) rfl
    (repeat refine gg ?_)
    refine ⟨fun _ w' => Fr [] w6 w', Fr.drew _ _, Fr.drew _ _, Fr.drew _ _, ?_⟩
    (repeat (first | refine gg ?_ | refine FLT.mk _ (fun _ hw_ => (rd _ hw_).1) ?_ | refine FLT.mk _ (fun _ hw_ => (ld _ hw_)) ?_))
    refine FLT.mk _ (fun _ hw_ => (rd _ hw_).2.2.2.1) ?_
    refine NEW_intro fun w7 b7 f7 z7 => ?_
    have f67 := (Fr.drew [] w6).trans' f7
    refine ⟨f67, f67, f67, ?_⟩
    refine put_step (n := 2) (vs := [v.v, .int .i64 (x.sure : Int)]) b7 rfl rfl (by intro u hu; simp at hu; rcases hu with rfl | rfl <;> rfl) (by simp) fun w8 b8 f8 _ => ?_
    have f68 : Fr [] w6 w8 := f67.trans f8 fun b hb => .inr (by simp at hb; omega)
    have b8' : blk w8.drew (hsz w6.drew) = some (.cells [v.v, .int .i64 (x.sure : Int)].toArray _ (0, 0)) := b8
    have hta8 := hta w8 (h6.frame.trans' f68.nil)
    obtain ⟨_, _, _, _, Gb, sb8⟩ := rd w8.drew (f68.trans' (Fr.drew _ _))
    (repeat (first | refine BND_step hta8.len ?_ | refine gg ?_))
    refine join_v (Q := fun v w' => v = .int .i64 ((tailOf x tails i : Nat) : Int) ∧ Fr [] w8 w') (fun K hK => ?_) ?_
    · by_cases hit : i < tails.length
      · have htx := List.getElem?_eq_getElem hit
        generalize htv : tails[i] = t at htx
        obtain ⟨bt, ot, iat, _, _, lt⟩ := hta8.spot htx rfl .i64
        obtain ⟨m1, m2⟩ := tail_min hxo.1 htx
        (repeat (first | (apply BND_step; exact (lt (w' := w8.drew) rfl (j := 0) rfl)) | refine BND_step sb8.len ?_ | refine BND_step (subn_ (n := x.b.length) (m := x.sure) hxo.1 (by omega)) ?_ | refine gg ?_))
        exact hK _ _ ⟨rfl, Fr.drew [] _⟩
      · (repeat refine gg ?_)
        have e0 : tailOf x tails i = 0 := by unfold tailOf; rw [List.getElem?_eq_none (by omega)]
        exact hK _ _ ⟨by rw [e0]; rfl, Fr.refl _ _⟩
    · rintro _ w9 ⟨rfl, f9⟩
      have f69 := (f68.trans' f9).trans' (Fr.drew [] w9)
      have e9 : hsz w9.drew = hsz w9 := rfl
      have b9 := (f9.trans' (Fr.drew [] w9)).some (by simp) b8
      have rb : ∀ w', Fr [] w9.drew w' → load1 w' (.pointer (some ⟨hsz w6.drew, 0 + 0, none⟩)) = some v.v ∧ load1 w' (.pointer (some ⟨hsz w6.drew, 0 + 1, none⟩)) = some (.int .i64 (x.sure : Int)) := fun w' fr =>
        ⟨load1_at (fr.some (by simp) b9) rfl, load1_at (fr.some (by simp) b9) rfl⟩
      obtain ⟨_, _, _, _, Gb9, sb9⟩ := rd w9.drew f69
      obtain ⟨va, ea, ca⟩ := sb9.upto encB_len (n := x.sure + tailOf x tails i) (by omega) .i64
      refine ⟨fun _ w' => Fr [] w9.drew w', Fr.refl _ _, Fr.refl _ _, Fr.refl _ _, Fr.refl _ _, Fr.refl _ _, ?_⟩
      (repeat (first | refine BND_step (addn_ (by omega)) ?_ | refine gg ?_ | refine FLT.mk _ (fun _ hw_ => (rd _ (f69.trans' hw_)).1) ?_ | refine FLT.mk _ (fun _ hw_ => (ld _ (f69.trans' hw_))) ?_ | refine FLT.mk _ (fun _ hw_ => (rb _ hw_).1) ?_ | refine FLT.mk _ (fun _ hw_ => (rb _ hw_).2) ?_))
      refine newnil_step encB fun t w10 s10 f10 z10 => ?_
      refine ⟨f10, f10, f10, f10, f10, ?_⟩
      refine APPEND_slc s10 (ca w10 fun b hb => f10.keep b (sb9.lt b hb) (by simp)) encB_len encB_one rfl (by simp; omega) (by simp; omega) fun v11 w11 G11 s11 f11 sub11 => ?_
      rw [List.nil_append] at s11
      have f911 := f10.trans f11 fun b hb => .inr (by simp at hb; omega)
      refine ⟨f911, f911, f911, ?_⟩
      have gr := f69.grow
      obtain ⟨e11, rfl⟩ := slc_sv s11
      (repeat (first | refine gg ?_ | (apply BND_build ([e11.v, .int .i64 ((x.sure + tailOf x tails i : Nat) : Int)]); exact rfl)))
      refine st w11 e11 G11 _ _ _ (f69.trans' f911) s11 (fun b hb => ?_) fun w12 h12 => ?_
      · rcases sub11 b hb with hq | hq
        · simp at hq; omega
        · omega
      · (repeat refine gg ?_)
        refine hJ w12 hlt ?_
        rw [hstep]
        refine ⟨⟨fc6.set f (e11, x.sure + tailOf x tails i), ?_⟩, hok2, by omega⟩
        rw [hc1]
        exact h12
  · (repeat refine gg ?_)
    rw [List.take_of_length_le (by omega)] at h6
    exact hR w6 (rf_shut h6)
end
end Go.Proofs.YtofllgbdphakiaaGreatDoor
end

section
namespace Go.Proofs.YtofllgbdphakiaaGreatDoor
open Go.Den Go.Disk
set_option linter.unusedSimpArgs false
set_option linter.unusedVariables false
set_option maxRecDepth 20000
set_option maxHeartbeats 4000000
attribute [local congr] BND_cg COND_cg GEF_cg
attribute [local irreducible] capl slicea load1 loadn iaddr iaddra faddr storev newslice binv lookv mupd mdel mlenv mentry mestore slicev slicev3 slices indexs indexav textv rangev nexts clearv shiftv eqaggv convi buildv pickv lens lenl unv nilchk extractv partn JOIN
section
variable {w0 w : World} {F0 : List Nat} {d : Nat} {s : Dk} {R : Value → World → Prop}
theorem dk_Down (h : At w0 F0 (diskHP d s) w) (hR : R (.bool s.gone) w) : CALL PR F_disk_Disk_Down [ptrTo d] w R := by
  obtain ⟨sv, ms, fb, hs, hm, hf⟩ := dk_open h
  refine C_disk_Disk_Down ?_
  unfold M_disk_Disk_Down ptrTo
  obtain ⟨T, c⟩ := hs.cell (i := 1) rfl
  (repeat refine gg ?_)
  exact hR
theorem dk_Down' {w0 : World} {F0 : List Nat} {d : Nat} {s : Dk} {g : Bool} (h : At w0 F0 (diskHP d s) w) (hg : s.gone = g) (hR : R (.bool g) w) : CALL PR F_disk_Disk_Down [ptrTo d] w R := dk_Down h (hg ▸ hR)
end
end Go.Proofs.YtofllgbdphakiaaGreatDoor
end

section
namespace Go.Proofs.YtofllgbdphakiaaGreatDoor
open Go.Den Go.Disk
set_option linter.unusedSimpArgs false
set_option linter.unusedVariables false
set_option maxRecDepth 20000
set_option maxHeartbeats 4000000
attribute [local congr] BND_cg COND_cg GEF_cg
attribute [local irreducible] capl slicea load1 loadn iaddr iaddra faddr storev newslice binv lookv mupd mdel mlenv mentry mestore slicev slicev3 slices indexs indexav textv rangev nexts clearv shiftv eqaggv convi buildv pickv lens lenl unv nilchk extractv partn JOIN
section
variable {w0 w : World} {F0 : List Nat} {d : Nat} {s : Dk} {R : Value → World → Prop}
theorem dk_Fuse (h : At w0 F0 (diskHP d s) w) (n : Int) (hR : ∀ w', At w0 F0 (diskHP d (fuse s n)) w' → R (.tuple #[]) w') : CALL PR F_disk_Disk_Fuse [ptrTo d, .int .i64 n] w R := by
  obtain ⟨sv, ms, fb, hs, hm, hf⟩ := dk_open h
  refine C_disk_Disk_Fuse ?_
  unfold M_disk_Disk_Fuse ptrTo
  have e : max2v (.int .i64 n) (.int .i64 (-1)) = some (.int .i64 (if n < -1 then -1 else n)) := rfl
  (repeat refine gg ?_)
  refine hs.store (i := 1) rfl ⟨rfl, rfl⟩ (by simp [dkC]) fun w1 h1 f1 => ?_
  exact hR w1 (dk_shut (s := fuse s n) (sv := sv) (ms := ms) (fb := fb) h1)
end
end Go.Proofs.YtofllgbdphakiaaGreatDoor
end

section
namespace Go.Proofs.YtofllgbdphakiaaGreatDoor
open Go.Den Go.Disk
set_option linter.unusedSimpArgs false
set_option linter.unusedVariables false
set_option maxRecDepth 20000
set_option maxHeartbeats 4000000
attribute [local congr] BND_cg COND_cg GEF_cg
attribute [local irreducible] capl slicea load1 loadn iaddr iaddra faddr storev newslice binv lookv mupd mdel mlenv mentry mestore slicev slicev3 slices indexs indexav textv rangev nexts clearv shiftv eqaggv convi buildv pickv lens lenl unv nilchk extractv partn JOIN
section
variable {w : World} {R : Value → World → Prop}
theorem r6_Same {a b : Value} {xs ys : List ByteArray} (ha : Arr encN 1 w a xs) (hb : Arr encN 1 w b ys) (hn : xs.length < 1000000000) (hR : ∀ w', Fr [] w w' → R (.bool (decide (xs = ys))) w') :
    CALL PR F_tumbrelref06_Same [a, b] w R := by
  refine C_tumbrelref06_Same ?_
  unfold M_tumbrelref06_Same
  by_cases hl : xs.length = ys.length
  · (repeat (first | refine BND_step ha.len ?_ | refine BND_step hb.len ?_ | refine gg ?_))
    refine loop_up 0 xs.length (fun i w' => Fr [] w w' ∧ xs.take i = ys.take i) ⟨Fr.refl _ _, rfl⟩ (by omega) ?_
    rintro i w1 - hi ⟨f1, e⟩ J m hJ
    by_cases hlt : i < xs.length
    · have hx := List.getElem?_eq_getElem hlt
      have hy := List.getElem?_eq_getElem (l := ys) (i := i) (by omega)
      obtain ⟨b1, o1, i1, _, _, l1⟩ := (ha.fr f1 (by simp)).spot hx rfl .i64
      obtain ⟨b2, o2, i2, _, _, l2⟩ := (hb.fr f1 (by simp)).spot hy rfl .i64
      (repeat (first | refine BND_step ha.len ?_ | refine BND_step (l1 (w' := w1.drew) rfl (j := 0) rfl) ?_ | refine BND_step (l2 (w' := w1.drew) rfl (j := 0) rfl) ?_ | refine gg ?_))
      by_cases he : xs[i] = ys[i]
      · (repeat refine gg ?_)
        refine hJ _ hlt ⟨f1.trans' (Fr.drew _ _), ?_⟩
        rw [List.take_add_one, List.take_add_one, hx, hy, e, he]
      · (repeat refine gg ?_)
        have := hR _ (f1.trans' (Fr.drew _ _))
        rwa [decide_eq_false (fun h => he (by subst h; rfl))] at this
    · (repeat (first | refine BND_step ha.len ?_ | refine gg ?_))
      have := hR _ f1
      rw [List.take_of_length_le (by omega), List.take_of_length_le (by omega)] at e
      rwa [decide_eq_true e] at this
  · (repeat (first | refine BND_step ha.len ?_ | refine BND_step hb.len ?_ | refine gg ?_))
    have := hR _ (Fr.refl _ _)
    rwa [decide_eq_false (fun h => hl (by rw [h]))] at this
end
end Go.Proofs.YtofllgbdphakiaaGreatDoor
end

section
namespace Go.Proofs.YtofllgbdphakiaaGreatDoor
open Go.Den Go.Disk Go.Nm Go.Rec Go.Frame Go.Vint Go.Crc Go.Sg Go.Ev
structure FS where
  dn : Int
  n : Int
  seg : Nat
  at_ : Nat
  k : Int
  nv : SV
  tx : ByteArray
  tv : SV
  ns : List Nat
  tails : List Int
def encFS (x : FS) : List Value := [.int .i64 x.dn, .int .i64 x.n, .int .u64 (x.seg : Int), .int .u64 (x.at_ : Int), .int .i64 x.k, x.nv.v, .string x.tx, x.tv.v]
theorem encFS_len (x : FS) : (encFS x).length = 8 := rfl
theorem encFS_one (x : FS) : ∀ u ∈ encFS x, u.oneCell' = true := by
  intro u hu
  simp only [encFS, List.mem_cons, List.not_mem_nil, or_false] at hu
  rcases hu with rfl | rfl | rfl | rfl | rfl | rfl | rfl | rfl <;> rfl
structure FsE (w : World) (x : FS) : Prop where
  ns : Arr encU 1 w x.nv.v x.ns
  tails : Arr encI 1 w x.tv.v x.tails
  sm : ∀ n ∈ x.ns, n < 18446744073709551616
  seg : x.seg < 18446744073709551616
  at_ : x.at_ < 18446744073709551616
  n : x.n ≤ 9223372036854775807
theorem FsE.fr {w w' : World} {x : FS} (h : FsE w x) (f : Fr [] w w') : FsE w' x := ⟨h.ns.fr f (by simp), h.tails.fr f (by simp), h.sm, h.seg, h.at_, h.n⟩
structure Td where
  e : Int
  seg : Nat
  at_ : Nat
  r : Rc
  n : Nat
def td0 : Td := ⟨0, 0, 0, zeroR, 0⟩
def encTd (t : Td) (sv : SV) : List Value := [.int .i64 t.e, .int .u64 (t.seg : Int), .int .u64 (t.at_ : Int), .int .i64 (t.r.kind : Int), sv.v, .string (txB t.r.text), .int .i64 (t.n : Int)]
theorem encTd_len (t : Td) (sv : SV) : (encTd t sv).length = 7 := rfl
theorem encTd_one (t : Td) (sv : SV) : ∀ u ∈ encTd t sv, u.oneCell' = true := by
  intro u hu
  simp only [encTd, List.mem_cons, List.not_mem_nil, or_false] at hu
  rcases hu with rfl | rfl | rfl | rfl | rfl | rfl | rfl <;> rfl
def sv0 : SV := ⟨none, 0, 0⟩
theorem txB_nil : txB [] = ByteArray.empty := rfl
def naA : ByteArray := ⟨#[97]⟩
def actS (s : Dk) (o : Option Lg) (x : FS) (size : Int) : Dk × Option Lg × Td :=
  if x.dn = 0 then
    (match o with
     | none => (s, none, td0)
     | some l => ((lgAppend s l x.k x.ns x.tx.data.toList).1, some (lgAppend s l x.k x.ns x.tx.data.toList).2.1, ⟨(lgAppend s l x.k x.ns x.tx.data.toList).2.2.2.2, (lgAppend s l x.k x.ns x.tx.data.toList).2.2.1, (lgAppend s l x.k x.ns x.tx.data.toList).2.2.2.1, zeroR, 0⟩))
  else if x.dn = 1 then
    (match o with
     | none => (s, none, td0)
     | some l => (s, some l, ⟨(lgRead s x.seg x.at_).2.2, 0, 0, (lgRead s x.seg x.at_).1, (lgRead s x.seg x.at_).2.1⟩))
  else if x.dn = 2 then
    (match o with
     | none => (s, none, td0)
     | some l => ((lgSync s l).1, some (lgSync s l).2.1, ⟨(lgSync s l).2.2, 0, 0, zeroR, 0⟩))
  else if x.dn = 3 then (fuse s x.n, o, td0)
  else if x.dn = 4 then ((lgOpen (crash s x.n x.tails) x.seg x.at_ size).1, (lgOpen (crash s x.n x.tails) x.seg x.at_ size).2.1, ⟨(lgOpen (crash s x.n x.tails) x.seg x.at_ size).2.2, 0, 0, zeroR, 0⟩)
  else ((append (create s naA).1 naA (List.replicate 20 0)).1, o, ⟨(append (create s naA).1 naA (List.replicate 20 0)).2, 0, 0, zeroR, 0⟩)
theorem inv_actS {s : Dk} (h : Inv s) (o : Option Lg) (x : FS) (size : Int) (hn : x.n ≤ 9223372036854775807) : Inv (actS s o x size).1 := by
  unfold actS
  split
  · cases o with
    | none => exact h
    | some l => exact inv_lgAppend h l _ _ _
  split
  · cases o with
    | none => exact h
    | some l => exact h
  split
  · cases o with
    | none => exact h
    | some l => exact inv_lgSync h l
  split
  · exact inv_fuse h hn
  split
  · exact inv_lgOpen (inv_crash h _ _) _ _ _
  exact inv_append (inv_create h _) _ _
theorem cut_same (s : Dk) (n : ByteArray) (k : Int) (h : s.dirs ≠ []) : (cut s n k).1.dirs.length ≤ s.dirs.length + 1 ∧ (cut s n k).1.files.length ≤ s.files.length + 1 := by
  have := more_act s ⟨3, k, n, n, .slice none 0 0, .slice none 0 0⟩ [] [] h
  simpa [act] using this
theorem dirsync_same (s : Dk) (h : s.dirs ≠ []) : (dirsync s).1.dirs.length ≤ s.dirs.length + 1 ∧ (dirsync s).1.files.length ≤ s.files.length + 1 := by
  have := more_act s ⟨6, 0, naA, naA, .slice none 0 0, .slice none 0 0⟩ [] [] h
  simpa [act] using this
theorem lgOpen_more (s : Dk) (seg at_ : Nat) (size : Int) (h : s.dirs ≠ []) : (lgOpen s seg at_ size).1.dirs.length ≤ s.dirs.length + 1 ∧ (lgOpen s seg at_ size).1.files.length ≤ s.files.length + 1 := by
  have hc := cut_same s (sgN seg) at_ h
  unfold lgOpen
  split
  · split
    · split
      · simp
      · split
        · split <;> exact hc
        · simp
    · simp
  · simp
theorem lgBegin_more (s : Dk) (seg : Nat) (size : Int) : (lgBegin s seg size).1.dirs.length ≤ s.dirs.length + 1 ∧ (lgBegin s seg size).1.files.length ≤ s.files.length + 1 := by
  have hc := create_mo s (sgN seg)
  unfold lgBegin
  split
  · split <;> exact hc
  · simp
theorem lgSync_more {s : Dk} (hi : Inv s) (l : Lg) : (lgSync s l).1.dirs.length ≤ s.dirs.length + 1 ∧ (lgSync s l).1.files.length ≤ s.files.length + 1 := by
  have hs := syncs_same (l.seg + 1 - l.dirty) l.dirty s
  have hi2 := inv_syncs (l.seg + 1 - l.dirty) l.dirty hi
  have hd := dirsync_same (syncs (l.seg + 1 - l.dirty) l.dirty s).1 hi2.wf.ne
  unfold lgSync
  simp only
  split
  · split
    · split
      · simp only; omega
      · simp only; omega
    · simp only; omega
  · simp only; omega
theorem more_actS {s : Dk} (hi : Inv s) (o : Option Lg) (x : FS) (size : Int) : (actS s o x size).1.dirs.length ≤ s.dirs.length + 2 ∧ (actS s o x size).1.files.length ≤ s.files.length + 2 := by
  have h := hi.wf.ne
  have hp : 0 < s.dirs.length := List.length_pos_iff.2 h
  unfold actS
  split
  · cases o with
    | none => simp
    | some l => have := lgAppend_more s l x.k x.ns x.tx.data.toList; simp only; omega
  split
  · cases o with
    | none => simp
    | some l => simp
  split
  · cases o with
    | none => simp
    | some l => have := lgSync_more hi l; simp only; omega
  split
  · simp [fuse]
  split
  · have h1 : (crash s x.n x.tails).dirs.length = 1 ∧ (crash s x.n x.tails).files.length = s.files.length := by simp [crash, crashF_len]
    have h2 := lgOpen_more (crash s x.n x.tails) x.seg x.at_ size (by intro e; rw [e] at h1; simp at h1)
    simp only; omega
  have h1 := create_mo s naA
  have h2 := app_mo (create s naA).1 naA (List.replicate 20 0)
  simp only; omega
theorem actS_lg {s : Dk} (hi : Inv s) {o : Option Lg} {m : Nat} (ho : ∀ l, o = some l → LgOk l m) (hm : 1048576 ≤ m) (x : FS) (hs : ∀ n ∈ x.ns, n < 18446744073709551616) (size : Int) : ∀ l, (actS s o x size).2.1 = some l → LgOk l (m + 175) := by
  intro l
  unfold actS
  split
  · cases o with
    | none => intro h; cases h
    | some a => intro h; simp only [Option.some.injEq] at h; rw [← h]; exact append_lg (ho a rfl) _ _ _ hs
  split
  · cases o with
    | none => intro h; cases h
    | some a => intro h; simp only [Option.some.injEq] at h; rw [← h]; exact (ho a rfl).more (by omega)
  split
  · cases o with
    | none => intro h; cases h
    | some a => intro h; simp only [Option.some.injEq] at h; rw [← h]; exact (sync_lg (ho a rfl)).more (by omega)
  split
  · intro h; exact (ho l h).more (by omega)
  split
  · intro h
    have := read_sm (inv_crash hi x.n x.tails) (sgN x.seg)
    exact (open_lg h).more (by omega)
  · intro h; exact (ho l h).more (by omega)
theorem recAllF_rightS : ∀ (fs : List Fra) (k : Nat) (e : Int), ∀ x ∈ (recAllF fs k e).1, rightB x.kind x.n.length x.text.length = true
  | [], _, _, x, h => by simp [recAllF] at h
  | y :: r, k, e, x, h => by
    rw [recAllF_cons] at h
    split at h
    · rename_i h0
      simp only [List.mem_cons] at h
      rcases h with rfl | h
      · exact (recRead_good h0).1
      · exact recAllF_rightS r _ e x h
    · simp at h
theorem lgRead_n (s : Dk) (seg at_ : Nat) : (lgRead s seg at_).1.n.length < 1000000 := by
  have hz : zeroR.n.length < 1000000 := by decide
  have hf : ∀ b, (firstR (recAll b)).1.n.length < 1000000 := by
    intro b
    unfold firstR
    split
    · rename_i x r e es hx he
      have hr : rightB x.kind x.n.length x.text.length = true := recAllF_rightS _ _ _ x (by show x ∈ (recAll b).1; rw [hx]; simp)
      have h1 := (right_known hr).2.2.1
      have h2 := manyOf_le (Int.toNat (x.kind : Int))
      simp only
      omega
    · split <;> exact hz
  unfold lgRead
  split
  · split
    · split
      · exact hz
      · exact hf _
    · exact hz
  · exact hz
theorem actS_n (s : Dk) (o : Option Lg) (x : FS) (size : Int) : (actS s o x size).2.2.r.n.length < 1000000 := by
  have hz : zeroR.n.length < 1000000 := by decide
  have hr := lgRead_n s x.seg x.at_
  unfold actS
  split
  · cases o <;> exact hz
  split
  · cases o with
    | none => exact hz
    | some l => exact hr
  split
  · cases o <;> exact hz
  split
  · exact hz
  split <;> exact hz
end Go.Proofs.YtofllgbdphakiaaGreatDoor
end

section
set_option linter.unusedSimpArgs false
set_option linter.unusedVariables false
namespace Go.Crc
open Go.Den
theorem xlc (a b c : BitVec 32) : a ^^^ (b ^^^ c) = b ^^^ (a ^^^ c) := by rw [← BitVec.xor_assoc, BitVec.xor_comm a b, BitVec.xor_assoc]
theorem step_xor (a b : BitVec 32) : stepC (a ^^^ b) = stepC a ^^^ stepC b := by
  have hbit : ∀ x : BitVec 32, (x &&& 1#32 = 1#32) ↔ x.getLsbD 0 = true := fun x => by
    constructor
    · intro h
      have := congrArg (fun y : BitVec 32 => y.getLsbD 0) h
      simpa using this
    · intro h
      apply BitVec.eq_of_getLsbD_eq
      intro i hi
      rw [BitVec.getLsbD_and]
      by_cases h0 : i = 0
      · subst h0; rw [h]; rfl
      · have : (1#32).getLsbD i = false := by
          rw [BitVec.getLsbD_one]; simp [h0]
        rw [this]; simp
  have hs : ∀ x : BitVec 32, stepC x = (x >>> 1) ^^^ (if x.getLsbD 0 = true then poly else 0#32) := fun x => by
    unfold stepC
    by_cases h : x &&& 1#32 = 1#32
    · rw [if_pos h, if_pos ((hbit x).1 h)]
    · rw [if_neg h, if_neg (fun hh => h ((hbit x).2 hh)), BitVec.xor_zero]
  rw [hs, hs, hs, BitVec.ushiftRight_xor_distrib, BitVec.getLsbD_xor]
  cases a.getLsbD 0 <;> cases b.getLsbD 0
  · simp
  · simp [BitVec.xor_assoc]
  · simp only [Bool.true_xor, Bool.not_false, if_true, Bool.false_eq_true, if_false, BitVec.xor_zero, BitVec.xor_assoc]
    rw [BitVec.xor_comm poly]
  · simp only [Bool.true_xor, Bool.not_true, Bool.false_eq_true, if_false, if_true, BitVec.xor_zero, BitVec.xor_assoc]
    rw [xlc poly, BitVec.xor_self, BitVec.xor_zero]
theorem step_zero : stepC 0#32 = 0#32 := by decide
theorem iter_xor : ∀ (n : Nat) (a b : BitVec 32), iterC n (a ^^^ b) = iterC n a ^^^ iterC n b
  | 0, _, _ => rfl
  | n + 1, a, b => by show stepC (iterC n (a ^^^ b)) = stepC (iterC n a) ^^^ stepC (iterC n b); rw [iter_xor n, step_xor]
theorem iter_zero : ∀ n : Nat, iterC n 0#32 = 0#32
  | 0 => rfl
  | n + 1 => by show stepC (iterC n 0#32) = _; rw [iter_zero n, step_zero]
theorem iter_add (m : Nat) : ∀ (n : Nat) (a : BitVec 32), iterC (n + m) a = iterC n (iterC m a)
  | 0, a => by rw [Nat.zero_add]; rfl
  | n + 1, a => by rw [Nat.add_right_comm]; show stepC (iterC (n + m) a) = stepC (iterC n (iterC m a)); rw [iter_add m n]
/-- what is linear is told by its bits. -/
structure Lin (f : BitVec 32 → BitVec 32) : Prop where
  add : ∀ a b, f (a ^^^ b) = f a ^^^ f b
theorem Lin.zero {f : BitVec 32 → BitVec 32} (h : Lin f) : f 0#32 = 0#32 := by
  have := h.add 0#32 0#32
  rw [BitVec.xor_self, BitVec.xor_self] at this
  exact this
def bitW (b : Bool) (k : Nat) : BitVec 32 := if b then 1#32 <<< k else 0#32
/-- a word of bits. -/
def wordB : Nat → List Bool → BitVec 32
  | _, [] => 0#32
  | k, b :: r => bitW b k ^^^ wordB (k + 1) r
theorem getLsbD_bitW (b : Bool) (k i : Nat) (hi : i < 32) : (bitW b k).getLsbD i = (b && decide (i = k)) := by
  unfold bitW
  cases b with
  | false => simp
  | true =>
    simp only [if_true, BitVec.getLsbD_shiftLeft, BitVec.getLsbD_one]
    by_cases h : i = k
    · subst h; simp [hi]
    · simp only [h, decide_false, Bool.and_false, Bool.true_and]
      by_cases h2 : i < k
      · simp [h2]
      · have : i - k ≠ 0 := by omega
        simp [this]
theorem getLsbD_wordB : ∀ (l : List Bool) (k i : Nat), i < 32 → (wordB k l).getLsbD i = (decide (k ≤ i) && l.getD (i - k) false)
  | [], k, i, _ => by simp [wordB]
  | b :: r, k, i, hi => by
    simp only [wordB, BitVec.getLsbD_xor, getLsbD_bitW b k i hi, getLsbD_wordB r (k + 1) i hi]
    by_cases h : i = k
    · subst h; simp [Nat.not_succ_le_self]
    · by_cases h2 : k ≤ i
      · rw [show i - k = (i - (k + 1)) + 1 by omega]
        simp [h, h2, show k + 1 ≤ i by omega]
      · simp [h, h2, show ¬ k + 1 ≤ i by omega]
theorem word_self (a : BitVec 32) : wordB 0 ((List.range 32).map fun i => a.getLsbD i) = a := by
  apply BitVec.eq_of_getLsbD_eq
  intro i hi
  rw [getLsbD_wordB _ 0 i hi]
  simp [hi]
theorem lin_word {f g : BitVec 32 → BitVec 32} (hf : Lin f) (hg : Lin g) (h : ∀ k : Fin 32, f (1#32 <<< k.val) = g (1#32 <<< k.val)) : ∀ (l : List Bool) (k : Nat), k + l.length ≤ 32 → f (wordB k l) = g (wordB k l)
  | [], _, _ => by show f 0#32 = g 0#32; rw [hf.zero, hg.zero]
  | b :: r, k, hk => by
    simp only [List.length_cons] at hk
    simp only [wordB]
    rw [hf.add, hg.add, lin_word hf hg h r (k + 1) (by omega)]
    congr 1
    unfold bitW
    cases b with
    | false => simp only [Bool.false_eq_true, if_false]; rw [hf.zero, hg.zero]
    | true => simp only [if_true]; exact h ⟨k, by omega⟩
theorem lin_eq {f g : BitVec 32 → BitVec 32} (hf : Lin f) (hg : Lin g) (h : ∀ k : Fin 32, f (1#32 <<< k.val) = g (1#32 <<< k.val)) (a : BitVec 32) : f a = g a := by
  have := lin_word hf hg h ((List.range 32).map fun i => a.getLsbD i) 0 (by simp)
  rwa [word_self] at this
theorem iter_lin (n : Nat) : Lin (iterC n) := ⟨iter_xor n⟩
def up (c : UInt8) : BitVec 32 := c.toBitVec.setWidth 32
/-- a byte's step by the table is eight divisions. -/
theorem byte_iter (s : BitVec 32) (c : UInt8) : byteC s c = iterC 8 (s ^^^ up c) := by
  have key : ((s ^^^ up c) >>> 8) ^^^ ent (((s ^^^ up c).setWidth 8).setWidth 32) = iterC 8 (s ^^^ up c) := lin_eq (f := fun s => (s >>> 8) ^^^ ent ((s.setWidth 8).setWidth 32)) (g := iterC 8) ⟨fun a b => by
    simp only [BitVec.ushiftRight_xor_distrib, BitVec.setWidth_xor]
    unfold ent
    rw [iter_xor]
    simp only [BitVec.xor_assoc]
    rw [xlc (b >>> 8)]⟩ (iter_lin 8) (by decide +kernel) (s ^^^ up c)
  rw [← key]
  unfold byteC idxC
  have e1 : (s ^^^ up c) >>> 8 = s >>> 8 := by
    rw [BitVec.ushiftRight_xor_distrib]
    have : up c >>> 8 = 0#32 := by
      apply BitVec.eq_of_getLsbD_eq
      intro i hi
      simp only [up, BitVec.getLsbD_ushiftRight, BitVec.getLsbD_setWidth, BitVec.getLsbD_zero]
      rw [BitVec.getLsbD_of_ge _ _ (by omega)]; simp
    rw [this, BitVec.xor_zero]
  have e2 : (s ^^^ up c).setWidth 8 = s.setWidth 8 ^^^ c.toBitVec := by
    rw [BitVec.setWidth_xor]
    congr 1
    unfold up
    simp
  rw [e1, e2]
def linB (s : BitVec 32) (D : List UInt8) : BitVec 32 := D.foldl (fun s d => iterC 8 (s ^^^ up d)) s
theorem crc_lin (s : BitVec 32) (D : List UInt8) : crcU s D = linB s D := by
  unfold crcU linB
  congr 1
  funext s c
  exact byte_iter s c
theorem up_xor (a b : UInt8) : up (a ^^^ b) = up a ^^^ up b := by
  unfold up
  rw [show (a ^^^ b).toBitVec = a.toBitVec ^^^ b.toBitVec from rfl, BitVec.setWidth_xor]
theorem lin_two : ∀ (p q : List UInt8) (s t : BitVec 32), p.length = q.length → linB s p ^^^ linB t q = linB (s ^^^ t) (List.zipWith (· ^^^ ·) p q)
  | [], [], _, _, _ => rfl
  | [], _ :: _, _, _, h => by simp at h
  | _ :: _, [], _, _, h => by simp at h
  | a :: p, b :: q, s, t, h => by
    have := lin_two p q (iterC 8 (s ^^^ up a)) (iterC 8 (t ^^^ up b)) (by simpa using h)
    show linB (iterC 8 (s ^^^ up a)) p ^^^ linB (iterC 8 (t ^^^ up b)) q = linB (iterC 8 ((s ^^^ t) ^^^ up (a ^^^ b))) (List.zipWith (· ^^^ ·) p q)
    rw [this, ← iter_xor, up_xor]
    congr 2
    simp only [BitVec.xor_assoc]
    rw [xlc (up a)]
/-! ## Bit by bit -/
def bitB (s : BitVec 32) (l : List Bool) : BitVec 32 := l.foldl (fun s b => stepC (s ^^^ bitW b 0)) s
def bits8 (c : UInt8) : List Bool := (List.range 8).map fun j => c.toBitVec.getLsbD j
theorem bitB_xor : ∀ (l : List Bool) (s t : BitVec 32), bitB (s ^^^ t) l = iterC l.length s ^^^ bitB t l
  | [], _, _ => rfl
  | b :: l, s, t => by
    show bitB (stepC ((s ^^^ t) ^^^ bitW b 0)) l = iterC (l.length + 1) s ^^^ bitB (stepC (t ^^^ bitW b 0)) l
    rw [BitVec.xor_assoc, step_xor, bitB_xor l, iter_add 1 l.length]
    rfl
theorem bits_byte (s : BitVec 32) (c : UInt8) : iterC 8 (s ^^^ up c) = bitB s (bits8 c) := by
  have h := bitB_xor (bits8 c) s 0#32
  rw [BitVec.xor_zero] at h
  rw [h, iter_xor]
  congr 1
  have key : ∀ k : Fin 256, iterC 8 ((BitVec.ofNat 8 k.val).setWidth 32) = bitB 0#32 ((List.range 8).map fun j => (BitVec.ofNat 8 k.val).getLsbD j) := by decide +kernel
  have := key ⟨c.toNat, c.toNat_lt⟩
  have e : BitVec.ofNat 8 c.toNat = c.toBitVec := by apply BitVec.eq_of_toNat_eq; simp
  simp only [e] at this
  exact this
theorem lin_bits : ∀ (D : List UInt8) (s : BitVec 32), linB s D = bitB s (D.flatMap bits8)
  | [], _ => rfl
  | d :: D, s => by
    show linB (iterC 8 (s ^^^ up d)) D = bitB s (bits8 d ++ D.flatMap bits8)
    rw [lin_bits D, bits_byte]
    unfold bitB
    rw [List.foldl_append]
theorem bitB_zeros (s : BitVec 32) : ∀ n : Nat, bitB s (List.replicate n false) = iterC n s
  | 0 => rfl
  | n + 1 => by
    rw [List.replicate_succ']
    unfold bitB
    rw [List.foldl_append]
    show stepC (bitB s (List.replicate n false) ^^^ bitW false 0) = stepC (iterC n s)
    rw [bitB_zeros s n]
    unfold bitW
    simp
theorem word_snoc : ∀ (l : List Bool) (k : Nat) (b : Bool), wordB k (l ++ [b]) = wordB k l ^^^ bitW b (k + l.length)
  | [], k, b => by simp [wordB]
  | a :: l, k, b => by
    simp only [List.cons_append, wordB, word_snoc l (k + 1) b, List.length_cons, BitVec.xor_assoc]
    rw [show k + 1 + l.length = k + (l.length + 1) by omega]
theorem bitB_word (l : List Bool) : l.length ≤ 32 → bitB 0#32 l = iterC l.length (wordB 0 l) := by
  refine snoc_ind (P := fun l => l.length ≤ 32 → bitB 0#32 l = iterC l.length (wordB 0 l)) (fun _ => rfl) (fun l b ih h => ?_) l
  simp only [List.length_append, List.length_cons, List.length_nil] at h ⊢
  rw [word_snoc]
  simp only [Nat.zero_add]
  unfold bitB
  rw [List.foldl_append]
  show stepC (bitB 0#32 l ^^^ bitW b 0) = stepC (iterC l.length (wordB 0 l ^^^ bitW b l.length))
  rw [ih (by omega), iter_xor]
  congr 2
  have key : ∀ k : Fin 32, iterC k.val (1#32 <<< k.val) = 1#32 := by decide +kernel
  unfold bitW
  cases b with
  | false => simp only [Bool.false_eq_true, if_false]; rw [iter_zero]
  | true => simp only [if_true]; rw [key ⟨l.length, by omega⟩]; rfl
theorem step_inj {x : BitVec 32} (h : stepC x = 0#32) : x = 0#32 := by
  unfold stepC at h
  by_cases h1 : x &&& 1#32 = 1#32
  · rw [if_pos h1] at h
    have hp : poly.getLsbD 31 = true := by decide
    have he : (x >>> 1).getLsbD 31 = false := by rw [BitVec.getLsbD_ushiftRight]; exact BitVec.getLsbD_of_ge _ _ (by omega)
    have : ((x >>> 1) ^^^ poly).getLsbD 31 = (0#32).getLsbD 31 := by rw [h]
    rw [BitVec.getLsbD_xor, he, hp] at this
    simp at this
  · rw [if_neg h1] at h
    apply BitVec.eq_of_getLsbD_eq
    intro i hi
    rw [BitVec.getLsbD_zero]
    cases i with
    | zero =>
      cases hb : x.getLsbD 0 with
      | false => rfl
      | true =>
        exfalso
        apply h1
        apply BitVec.eq_of_getLsbD_eq
        intro i hi
        rw [BitVec.getLsbD_and]
        by_cases h0 : i = 0
        · subst h0; rw [hb]; rfl
        · have : (1#32).getLsbD i = false := by rw [BitVec.getLsbD_one]; simp [h0]
          rw [this]; simp
    | succ i =>
      have := congrArg (fun y : BitVec 32 => y.getLsbD i) h
      simpa [BitVec.getLsbD_ushiftRight, Nat.add_comm] using this
theorem iter_inj {x : BitVec 32} : ∀ n : Nat, iterC n x = 0#32 → x = 0#32
  | 0, h => h
  | n + 1, h => iter_inj n (step_inj h)
/-- bits of which those that are set stand within 32. -/
theorem burst {l : List Bool} {a : Nat} (h : ∀ i, l.getD i false = true → a ≤ i ∧ i < a + 32) (h0 : bitB 0#32 l = 0#32) : ∀ i, l.getD i false = false := by
  have e1 : l.take a = List.replicate (min a l.length) false := by
    apply List.ext_getElem (by simp)
    intro i h1 h2
    rw [List.getElem_take, List.getElem_replicate]
    rw [List.length_take] at h1
    cases hb : l[i]'(by omega) with
    | false => rfl
    | true =>
      have := (h i (by rw [List.getD_eq_getElem?_getD, List.getElem?_eq_getElem (by omega), hb]; rfl)).1
      omega
  have e3 : (l.drop a).drop 32 = List.replicate ((l.drop a).drop 32).length false := by
    apply List.ext_getElem (by simp)
    intro i h1 h2
    rw [List.getElem_replicate]
    rw [List.length_drop, List.length_drop] at h1
    rw [List.getElem_drop, List.getElem_drop]
    cases hb : l[a + (32 + i)]'(by omega) with
    | false => rfl
    | true =>
      have := (h (a + (32 + i)) (by rw [List.getD_eq_getElem?_getD, List.getElem?_eq_getElem (by omega), hb]; rfl)).2
      omega
  have hl : l = l.take a ++ ((l.drop a).take 32 ++ (l.drop a).drop 32) := by rw [List.take_append_drop, List.take_append_drop]
  have hb : bitB 0#32 l = iterC ((l.drop a).drop 32).length (bitB 0#32 ((l.drop a).take 32)) := by
    conv => lhs; rw [hl]
    unfold bitB
    rw [List.foldl_append, List.foldl_append]
    show bitB (bitB (bitB 0#32 (l.take a)) ((l.drop a).take 32)) ((l.drop a).drop 32) = _
    rw [e1, bitB_zeros, iter_zero]
    conv => lhs; rw [e3]
    rw [bitB_zeros]; rfl
  rw [hb] at h0
  have h2 := iter_inj _ h0
  rw [bitB_word _ (by rw [List.length_take]; omega)] at h2
  have h3 := iter_inj _ h2
  intro i
  cases hq : l.getD i false with
  | false => rfl
  | true =>
    exfalso
    obtain ⟨p1, p2⟩ := h i hq
    have := getLsbD_wordB ((l.drop a).take 32) 0 (i - a) (by omega)
    rw [h3] at this
    simp only [BitVec.getLsbD_zero, Nat.zero_le, decide_true, Bool.true_and, Nat.sub_zero] at this
    rw [List.getD_eq_getElem?_getD, List.getElem?_take_of_lt (by omega), List.getElem?_drop, show a + (i - a) = i by omega, ← List.getD_eq_getElem?_getD, hq] at this
    cases this
end Go.Crc
end

section
namespace Go.Proofs.YtofllgbdphakiaaGreatDoor
open Go.Den Go.Disk
set_option linter.unusedSimpArgs false
set_option linter.unusedVariables false
set_option maxRecDepth 20000
set_option maxHeartbeats 4000000
attribute [local congr] BND_cg COND_cg GEF_cg
attribute [local irreducible] capl slicea load1 loadn iaddr iaddra faddr storev newslice binv lookv mupd mdel mlenv mentry mestore slicev slicev3 slices indexs indexav textv rangev nexts clearv shiftv eqaggv convi buildv pickv lens lenl unv nilchk extractv partn JOIN
section
variable {w : World} {R : Value → World → Prop}
theorem r1_Same {a b : Value} {xs ys : List UInt8} (ha : Arr encB 1 w a xs) (hb : Arr encB 1 w b ys) (hn : xs.length < 1000000000) (hR : ∀ w', Fr [] w w' → R (.bool (decide (xs = ys))) w') :
    CALL PR F_tumbrelref01_Same [a, b] w R := by
  refine C_tumbrelref01_Same ?_
  unfold M_tumbrelref01_Same
  by_cases hl : xs.length = ys.length
  · (repeat (first | refine BND_step ha.len ?_ | refine BND_step hb.len ?_ | refine gg ?_))
    refine loop_up 0 xs.length (fun i w' => Fr [] w w' ∧ xs.take i = ys.take i) ⟨Fr.refl _ _, rfl⟩ (by omega) ?_
    rintro i w1 - hi ⟨f1, e⟩ J m hJ
    by_cases hlt : i < xs.length
    · have hx := List.getElem?_eq_getElem hlt
      have hy := List.getElem?_eq_getElem (l := ys) (i := i) (by omega)
      obtain ⟨b1, o1, i1, _, _, l1⟩ := (ha.fr f1 (by simp)).spot hx rfl .i64
      obtain ⟨b2, o2, i2, _, _, l2⟩ := (hb.fr f1 (by simp)).spot hy rfl .i64
      (repeat (first | refine BND_step ha.len ?_ | refine BND_step (l1 (w' := w1.drew) rfl (j := 0) rfl) ?_ | refine BND_step (l2 (w' := w1.drew) rfl (j := 0) rfl) ?_ | refine gg ?_))
      have hu : ((xs[i].toNat : Nat) : Int) = ((ys[i].toNat : Nat) : Int) ↔ xs[i] = ys[i] := by rw [Int.ofNat_inj, UInt8.toNat_inj]
      by_cases he : ((xs[i].toNat : Nat) : Int) = ((ys[i].toNat : Nat) : Int)
      · (repeat refine gg ?_)
        refine hJ _ hlt ⟨f1.trans' (Fr.drew _ _), ?_⟩
        rw [List.take_add_one, List.take_add_one, hx, hy, e, hu.1 he]
      · (repeat refine gg ?_)
        have := hR _ (f1.trans' (Fr.drew _ _))
        rwa [decide_eq_false (fun h => he (by subst h; rfl))] at this
    · (repeat (first | refine BND_step ha.len ?_ | refine gg ?_))
      have := hR _ f1
      rw [List.take_of_length_le (by omega), List.take_of_length_le (by omega)] at e
      rwa [decide_eq_true e] at this
  · (repeat (first | refine BND_step ha.len ?_ | refine BND_step hb.len ?_ | refine gg ?_))
    have := hR _ (Fr.refl _ _)
    rwa [decide_eq_false (fun h => hl (by rw [h]))] at this
end
end Go.Proofs.YtofllgbdphakiaaGreatDoor
end

section
namespace Go.Proofs.YtofllgbdphakiaaGreatDoor
open Go.Den Go.Disk Go.Crc
theorem remW (x : BitVec 32) (k : Nat) (hk : 0 < k ∧ k < 4294967296) : binv .int .rem (.int .u32 (x.toNat : Int)) (.int .u32 (k : Int)) = some (.int .u32 ((x.toNat % k : Nat) : Int)) := by
  rw [binv_rem _ _ _ _ (by omega)]
  rfl
theorem quoW (x : BitVec 32) (k : Nat) (hk : k < 32) : binv .int .quo (.int .u32 (x.toNat : Int)) (.int .u32 ((2 ^ k : Nat) : Int)) = some (.int .u32 ((x >>> k).toNat : Int)) := by
  have h2 : 0 < 2 ^ k := Nat.two_pow_pos k
  rw [binv_quo _ _ _ _ (by omega)]
  have e : ((x.toNat : Int)).tdiv ((2 ^ k : Nat) : Int) = ((x.toNat / 2 ^ k : Nat) : Int) := rfl
  have hx := x.isLt
  have hd := Nat.div_le_self x.toNat (2 ^ k)
  rw [e, wrap_u32 (by omega), BitVec.toNat_ushiftRight, Nat.shiftRight_eq_div_pow]
theorem and1 (x : BitVec 32) : (x &&& 1#32).toNat = x.toNat % 2 := by rw [BitVec.toNat_and]; exact Nat.and_one_is_mod _
theorem notW (x : BitVec 32) : binv .int .sub (.int .u32 4294967295) (.int .u32 (x.toNat : Int)) = some (.int .u32 ((~~~ x).toNat : Int)) := by
  have hx := x.isLt
  have e : (4294967295 : Int) - (x.toNat : Int) = (((~~~ x).toNat : Nat) : Int) := by rw [BitVec.toNat_not]; omega
  rw [binv_sub, e, wrap_u32 (by have := (~~~ x).isLt; omega)]
theorem upW (c : UInt8) : convi .u32 (.int .u8 (c.toNat : Int)) = some (.int .u32 ((up c).toNat : Int)) := by
  have h := c.toNat_lt
  have e : (up c).toNat = c.toNat := by
    show (c.toBitVec.setWidth 32).toNat = _
    rw [BitVec.toNat_setWidth]
    show c.toNat % 2 ^ 32 = c.toNat
    omega
  rw [e]
  show some (Value.int .u32 (IntKind.u32.wrap (c.toNat : Int))) = _
  rw [wrap_u32 (by omega)]
theorem lowW (x : BitVec 32) : convi .u8 (.int .u32 ((x.toNat % 256 : Nat) : Int)) = some (.int .u8 ((low8 x).toNat : Int)) := by
  have e : (low8 x).toNat = x.toNat % 256 := by
    show (x.setWidth 8).toNat = _
    rw [BitVec.toNat_setWidth]
  rw [e]
  show some (Value.int .u8 (IntKind.u8.wrap ((x.toNat % 256 : Nat) : Int))) = _
  rw [wrap_u8, Nat.mod_mod]
theorem crc_snoc (s : BitVec 32) (l : List UInt8) (c : UInt8) : crcU s (l ++ [c]) = byteC (crcU s l) c := by unfold crcU; rw [List.foldl_append]; rfl
theorem shr_add (x : BitVec 32) (a b : Nat) : (x >>> a) >>> b = x >>> (a + b) := by
  apply BitVec.eq_of_toNat_eq
  simp only [BitVec.toNat_ushiftRight, Nat.shiftRight_add]
theorem four_take (x : BitVec 32) (i : Nat) (h : i < 4) : (four x).take (i + 1) = (four x).take i ++ [low8 (x >>> (8 * i))] := by
  have h4 : i = 0 ∨ i = 1 ∨ i = 2 ∨ i = 3 := by omega
  rcases h4 with rfl | rfl | rfl | rfl
  · show [low8 x] = [low8 (x >>> 0)]
    simp
  · rfl
  · rfl
  · rfl
set_option linter.unusedSimpArgs false
set_option linter.unusedVariables false
set_option maxRecDepth 20000
set_option maxHeartbeats 4000000
attribute [local congr] BND_cg COND_cg GEF_cg
attribute [local irreducible] capl slicea load1 loadn iaddr iaddra faddr storev newslice binv lookv mupd mdel mlenv mentry mestore slicev slicev3 slices indexs indexav textv rangev nexts clearv shiftv eqaggv convi buildv pickv lens lenl unv nilchk extractv partn JOIN
section
variable {w : World} {R : Value → World → Prop}
theorem r1_Entry (n : BitVec 32) (hR : R (.int .u32 ((ent n).toNat : Int)) w) : CALL PR F_tumbrelref01_Entry [.int .u32 (n.toNat : Int)] w R := by
  refine C_tumbrelref01_Entry ?_
  unfold M_tumbrelref01_Entry
  refine loop_up2 (o := .int .u32 (n.toNat : Int)) 0 8 (fun o i w' => o = .int .u32 ((iterC i n).toNat : Int) ∧ w' = w) ⟨rfl, rfl⟩ (by omega) ?_
  rintro _ i w1 - hi ⟨rfl, rfl⟩ J m hJ
  by_cases hlt : i < 8
  · have e1 := remW (iterC i n) 2 (by omega)
    have e2 := quoW (iterC i n) 1 (by omega)
    have e3 := xor32 (iterC i n >>> 1) poly
    have a1 := and1 (iterC i n)
    by_cases ho : (((iterC i n).toNat % 2 : Nat) : Int) = 1
    · (repeat refine gg ?_)
      refine join_v (fun v w' => v = .int .u32 ((iterC (i + 1) n).toNat : Int) ∧ w' = w1) (fun K hK => ?_) ?_
      · (repeat refine gg ?_)
        refine hK _ _ ⟨?_, rfl⟩
        rw [iterC_succ, step_odd (by rw [a1]; exact ho)]
      · rintro _ _ ⟨rfl, rfl⟩
        (repeat refine gg ?_)
        exact hJ _ _ hlt ⟨rfl, rfl⟩
    · (repeat refine gg ?_)
      refine join_v (fun v w' => v = .int .u32 ((iterC (i + 1) n).toNat : Int) ∧ w' = w1) (fun K hK => ?_) ?_
      · (repeat refine gg ?_)
        refine hK _ _ ⟨?_, rfl⟩
        rw [iterC_succ, step_even (by rw [a1]; exact ho)]
      · rintro _ _ ⟨rfl, rfl⟩
        (repeat refine gg ?_)
        exact hJ _ _ hlt ⟨rfl, rfl⟩
  · obtain rfl : i = 8 := by omega
    (repeat refine gg ?_)
    exact hR
theorem r1_More {bv : Value} {bs : List UInt8} (s : BitVec 32) (hb : Arr encB 1 w bv bs) (hn : bs.length < 1000000000) (hR : R (.int .u32 ((~~~ crcU (~~~ s) bs).toNat : Int)) w) : CALL PR F_tumbrelref01_More [.int .u32 (s.toNat : Int), bv] w R := by
  refine C_tumbrelref01_More ?_
  unfold M_tumbrelref01_More
  (repeat (first | refine BND_step (notW s) ?_ | refine gg ?_))
  refine loop_up2 (o := .int .u32 ((~~~ s).toNat : Int)) 0 bs.length (fun o i w' => o = .int .u32 ((crcU (~~~ s) (bs.take i)).toNat : Int) ∧ w' = w) ⟨rfl, rfl⟩ (by omega) ?_
  rintro _ i w1 - hi ⟨rfl, rfl⟩ J m hJ
  by_cases hlt : i < bs.length
  · have hx := List.getElem?_eq_getElem hlt
    generalize bs[i] = c at hx
    obtain ⟨b1, o1, i1, _, _, l1⟩ := hb.spot hx rfl .i64
    (repeat (first | refine BND_step hb.len ?_ | refine BND_step (l1 (w' := w1) rfl (j := 0) rfl) ?_ | refine BND_step (upW c) ?_ | refine BND_step (xor32 _ _) ?_ | refine gg ?_))
    refine r1_Entry _ ?_
    (repeat refine gg ?_)
    refine hJ _ _ hlt ⟨?_, rfl⟩
    have e : bs.take (i + 1) = bs.take i ++ [c] := by rw [List.take_add_one, hx]; rfl
    rw [e, crc_snoc, byte_iter]; rfl
  · obtain rfl : i = bs.length := by omega
    rw [List.take_length]
    (repeat (first | refine BND_step hb.len ?_ | refine BND_step (notW _) ?_ | refine gg ?_))
    exact hR
theorem r1_Of {bv : Value} {bs : List UInt8} (hb : Arr encB 1 w bv bs) (hn : bs.length < 1000000000) (hR : R (.int .u32 ((crcOf bs).toNat : Int)) w) : CALL PR F_tumbrelref01_Of [bv] w R := by
  refine C_tumbrelref01_Of ?_
  unfold M_tumbrelref01_Of
  exact r1_More 0#32 hb hn hR
theorem r1_Four (n : BitVec 32) (hR : ∀ w' v G, Slc encB 1 w' v (four n) G → (∀ b ∈ G, hsz w ≤ b) → Fr [] w w' → R v w') : CALL PR F_tumbrelref01_Four [.int .u32 (n.toNat : Int)] w R := by
  refine C_tumbrelref01_Four ?_
  unfold M_tumbrelref01_Four
  refine newnil_step encB fun t w1 s1 f1 z1 => ?_
  refine loop_up3 (o := .int .u32 (n.toNat : Int)) (p := t) 0 4 (fun o p i w' => ∃ G, o = .int .u32 ((n >>> (8 * i)).toNat : Int) ∧ Slc encB 1 w' p ((four n).take i) G ∧ (∀ b ∈ G, hsz w ≤ b) ∧ Fr [] w w') ⟨_, by simp, s1, by simp, f1⟩ (by omega) ?_
  rintro _ p i w2 - hi ⟨G, rfl, s2, g2, f2⟩ J m hJ
  by_cases hlt : i < 4
  · have e1 := remW (n >>> (8 * i)) 256 (by omega)
    have e2 := quoW (n >>> (8 * i)) 8 (by omega)
    rw [shr_add, show 8 * i + 8 = 8 * (i + 1) by omega] at e2
    (repeat (first | refine BND_step (lowW _) ?_ | refine gg ?_))
    refine push_step (enc := encB) (x := low8 (n >>> (8 * i))) (y := .int .u8 ((low8 (n >>> (8 * i))).toNat : Int)) s2 encB_len encB_one rfl rfl (by omega) (by simp; omega) fun v4 w4 G4 s4 g4 f4 => ?_
    have gr := f2.grow
    (repeat refine gg ?_)
    refine hJ _ _ _ hlt ⟨G4, rfl, by rw [four_take n i hlt]; exact s4, fun b hb => ?_, f2.trans f4 fun b hb => .inr (g2 b hb)⟩
    rcases g4 b hb with h | h
    · exact g2 b h
    · omega
  · obtain rfl : i = 4 := by omega
    rw [show (four n).take 4 = four n from rfl] at s2
    (repeat refine gg ?_)
    exact hR _ _ _ s2 g2 f2
theorem r1_Put {bv : Value} {bs : List UInt8} (hb : Arr encB 1 w bv bs) (hn : bs.length < 100000000) (hR : ∀ w' v G, Slc encB 1 w' v (putS bs) G → (∀ b ∈ G, hsz w ≤ b) → Fr [] w w' → R v w') : CALL PR F_tumbrelref01_Put [bv] w R := by
  refine C_tumbrelref01_Put ?_
  unfold M_tumbrelref01_Put
  refine copy_step (enc := encB) (ys := bs) (fun w9 f9 => (hb.fr f9 (by simp)).src encB_len (by omega)) encB_len encB_one rfl (by omega) (by omega) fun v2 w2 G2 s2 g2 f2 => ?_
  refine r1_Of (hb.fr f2 (by simp)) (by omega) ?_
  refine r1_Four _ fun w4 v4 G4 s4 g4 f4 => ?_
  refine APPEND_slc (s2.fr f4 (by simp)) (s4.loads encB_len) encB_len encB_one rfl (by rw [four_len]; omega) (by rw [four_len]; omega) fun v5 w5 G5 s5 f5 g5 => ?_
  have gr2 := f2.grow
  have gr4 := f4.grow
  refine hR _ _ G5 s5 (fun b hb => ?_) ((f2.trans' f4).trans f5 fun b hb => .inr (g2 b hb))
  rcases g5 b hb with h | h
  · exact g2 b h
  · omega
theorem r1_Cut {bv : Value} {bs : List UInt8} (hb : ArrC encB 1 w bv bs) (hn : bs.length < 100000000) (hR0 : ∀ w', Fr [] w w' → cutS bs = none → R (.tuple #[.slice none 0 0, .bool false]) w')
    (hR : ∀ w' v G b, cutS bs = some b → Slc encB 1 w' v b G → (∀ b ∈ G, hsz w ≤ b) → Fr [] w w' → R (.tuple #[v, .bool true]) w') : CALL PR F_tumbrelref01_Cut [bv] w R := by
  refine C_tumbrelref01_Cut ?_
  unfold M_tumbrelref01_Cut
  unfold cutS at hR hR0
  by_cases h4 : bs.length < 4
  · (repeat (first | refine BND_step hb.len ?_ | refine gg ?_))
    exact hR0 _ (Fr.refl _ _) (by rw [if_pos h4])
  rw [if_neg h4] at hR hR0
  (repeat (first | refine BND_step hb.len ?_ | refine gg ?_))
  refine newnil_step encB fun t w1 s1 f1 z1 => ?_
  have hb1 := hb.fr f1 (by simp)
  obtain ⟨va, ea, aa⟩ := hb1.to (hi := bs.length - 4) (by omega)
  (repeat (first | refine BND_step hb.len ?_ | refine BND_step (subn_ (n := bs.length) (m := 4) (by omega) (by omega)) ?_ | refine gg ?_))
  have hl : (bs.take (bs.length - 4)).length = bs.length - 4 := by rw [List.length_take]; omega
  refine APPEND_slc s1 (aa.arr.src encB_len (by omega)) encB_len encB_one rfl (by rw [hl]; simp; omega) (by rw [hl]; simp; omega) fun v2 w2 G2 s2 f2 g2 => ?_
  rw [List.nil_append] at s2
  have f02 : Fr [] w w2 := f1.trans f2 fun b hb => .inr (by simp at hb; omega)
  have g2' : ∀ b ∈ G2, hsz w ≤ b := fun b hb => by
    rcases g2 b hb with h | h
    · simp at h; omega
    · omega
  refine r1_Put s2.arr (by omega) fun w3 v3 G3 s3 g3 f3 => ?_
  have hl2 : (putS (bs.take (bs.length - 4))).length = bs.length := by rw [putS_len, hl]; omega
  refine r1_Same s3.arr ((hb.fr f02 (by simp)).fr f3 (by simp)).arr (by omega) fun w4 f4 => ?_
  have f04 := (f02.trans' f3).trans' f4
  have iff_ : putS (bs.take (bs.length - 4)) = bs ↔ bs.drop (bs.length - 4) = four (crcOf (bs.take (bs.length - 4))) := by
    unfold putS
    constructor
    · intro h
      have := congrArg (List.drop (bs.length - 4)) h
      rw [List.drop_append_of_le_length (by omega), List.drop_of_length_le (by omega), List.nil_append] at this
      exact this.symm
    · intro h
      rw [← h]
      exact List.take_append_drop _ _
  by_cases he : bs.drop (bs.length - 4) = four (crcOf (bs.take (bs.length - 4)))
  · rw [decide_eq_true (iff_.2 he)]
    rw [if_pos he] at hR
    (repeat refine gg ?_)
    exact hR _ _ G2 _ rfl ((s2.fr f3 (by simp)).fr f4 (by simp)) g2' f04
  · rw [decide_eq_false (fun h => he (iff_.1 h))]
    rw [if_neg he] at hR0
    (repeat refine gg ?_)
    exact hR0 _ f04 rfl
end
end Go.Proofs.YtofllgbdphakiaaGreatDoor
end

section
namespace Go.Proofs.YtofllgbdphakiaaGreatDoor
open Go.Den Go.Disk Go.Vint Go.Crc Go.Frame
theorem remI (x k : Nat) (hk : 0 < k) : binv .int .rem (.int .i64 (x : Int)) (.int .i64 (k : Int)) = some (.int .i64 ((x % k : Nat) : Int)) := by
  rw [binv_rem _ _ _ _ (by omega)]
  rfl
theorem quoI (x k : Nat) (hk : 0 < k) (hx : x < 9223372036854775808) : binv .int .quo (.int .i64 (x : Int)) (.int .i64 (k : Int)) = some (.int .i64 ((x / k : Nat) : Int)) := by
  rw [binv_quo _ _ _ _ (by omega)]
  have e : (x : Int).tdiv (k : Int) = ((x / k : Nat) : Int) := rfl
  have hd := Nat.div_le_self x k
  rw [e]
  generalize x / k = q at hd
  rw [wrap_i64 (by omega) (by omega)]
theorem mulI {x y : Nat} (h : x * y < 9223372036854775808) : binv .int .mul (.int .i64 (x : Int)) (.int .i64 (y : Int)) = some (.int .i64 ((x * y : Nat) : Int)) := by
  have e : (x : Int) * (y : Int) = ((x * y : Nat) : Int) := by simp
  rw [binv_mul, e, wrap_i64 (by omega) (by omega)]
set_option linter.unusedSimpArgs false
set_option linter.unusedVariables false
set_option maxRecDepth 20000
set_option maxHeartbeats 4000000
attribute [local congr] BND_cg COND_cg GEF_cg
attribute [local irreducible] capl slicea load1 loadn iaddr iaddra faddr storev newslice binv lookv mupd mdel mlenv mentry mestore slicev slicev3 slices indexs indexav textv rangev nexts clearv shiftv eqaggv convi buildv pickv lens lenl unv nilchk extractv partn JOIN
section
variable {w : World} {R : Value → World → Prop}
theorem r4_Bytes {bv : SV} {k : UInt8} {body : List UInt8} (hb : Arr encB 1 w bv.v body) (hn : body.length < 1000000) (hR0 : ∀ w', 400 < body.length → Fr [] w w' → R (.tuple #[.slice none 0 0, .int .i64 4]) w')
    (hR : ∀ w' v G, body.length ≤ 400 → Slc encB 1 w' v (frB (k, body)) G → (∀ b ∈ G, hsz w ≤ b) → Fr [] w w' → R (.tuple #[v, .int .i64 0]) w') : CALL PR F_tumbrelref04_Bytes [.agg (encFr (k, bv)).toArray] w R := by
  refine C_tumbrelref04_Bytes ?_
  unfold M_tumbrelref04_Bytes
  refine NEW_intro fun w1 b1 f1 z1 => ?_
  replace b1 : blk w1 (hsz w) = some (.cells (encFr (k, bv)).toArray 176 (0, 0)) := b1
  have hb1 := hb.fr f1 (by simp)
  by_cases h4 : 400 < body.length
  · (repeat (first | refine BND_step hb1.len ?_ | refine gg ?_))
    exact hR0 _ h4 f1
  · (repeat (first | refine BND_step hb1.len ?_ | refine gg ?_))
    have b1' : blk w1.drew (hsz w) = some (.cells (encFr (k, bv)).toArray 176 (0, 0)) := b1
    refine ⟨fun _ w' => blk w' (hsz w) = some (.cells (encFr (k, bv)).toArray 176 (0, 0)), b1', ?_⟩
    have e1 : convi .u8 (.int .i64 ((body.length % 256 : Nat) : Int)) = some (.int .u8 ((UInt8.ofNat (body.length % 256)).toNat : Int)) := by rw [conv8i, Nat.mod_mod, ofNat_toNat (by omega)]
    have e2 : convi .u8 (.int .i64 ((body.length / 256 : Nat) : Int)) = some (.int .u8 ((UInt8.ofNat (body.length / 256 % 256)).toNat : Int)) := by rw [conv8i, ofNat_toNat (by omega)]
    (repeat (first | refine BND_step (remI body.length 256 (by omega)) ?_ | refine BND_step (quoI body.length 256 (by omega) (by omega)) ?_ | refine gg ?_))
    refine newparts_step encB_len (val := fun x : UInt8 => Value.int .u8 (x.toNat : Int)) (fun _ => rfl) [k, UInt8.ofNat (body.length % 256), UInt8.ofNat (body.length / 256 % 256)] rfl rfl fun t w4 s4 f4 z4 => ?_
    have b4 := f4.some (by simp) b1'
    refine ⟨b4, ?_⟩
    refine r1_Put s4.arr (by simp) fun w5 v5 G5 s5 g5 f5 => ?_
    refine ⟨f5.some (by simp) b4, ?_⟩
    have f15 := (((Fr.drew [] w1).trans' f4).trans' f5)
    refine r1_Put (hb1.fr f15 (by simp)) (by omega) fun w6 v6 G6 s6 g6 f6 => ?_
    refine APPEND_slc (s5.fr f6 (by simp)) (s6.loads encB_len) encB_len encB_one rfl (by rw [putS_len, putS_len]; simp; omega) (by rw [putS_len, putS_len]; simp; omega) fun v7 w7 G7 s7 f7 g7 => ?_
    have gr1 := f1.grow
    have gr4 := f4.grow
    have gr5 := f5.grow
    have gr6 := f6.grow
    have gd : hsz w1.drew = hsz w1 := rfl
    refine hR _ _ G7 (by omega) s7 (fun b hb => ?_) (((f1.trans' f15).trans' f6).trans f7 fun b hb => .inr (by have := g5 b hb; omega))
    rcases g7 b hb with h | h
    · have := g5 b h; omega
    · omega
theorem r4_Read {bv : Value} {bs : List UInt8} (hb : ArrC encB 1 w bv bs) (hn : bs.length < 100000000)
    (hR : ∀ w' v G, Slc encB 1 w' (SV.v v) (frRead bs).1.2 G → (∀ b ∈ G, hsz w ≤ b) → Fr [] w w' → R (.tuple #[.agg (encFr ((frRead bs).1.1, v)).toArray, .int .i64 ((frRead bs).2.1 : Int), .int .i64 (frRead bs).2.2]) w') : CALL PR F_tumbrelref04_Read [bv] w R := by
  refine C_tumbrelref04_Read ?_
  unfold M_tumbrelref04_Read
  refine NEW_intro fun w1 b1 f1 z1 => ?_
  replace b1 : blk w1 (hsz w) = some (.cells [Value.int .u8 0, .slice none 0 0].toArray 176 (0, 0)) := b1
  have bad : ∀ (w3 : World) (e : Int), Fr [] w w3 → blk w3 (hsz w) = some (.cells [Value.int .u8 0, .slice none 0 0].toArray 176 (0, 0)) → frRead bs = ((0, []), 0, e) →
      (BND (buildv #[(Value.int .u8 0), (Value.slice none 0 0)] []) fun t => BND (storev 2 w3 (.pointer (some ⟨hsz w, 0, none⟩)) t) fun w4 => BND (loadn 2 w4 (.pointer (some ⟨hsz w, 0, none⟩))) fun r => R (.tuple #[r, (Value.int .i64 0), (Value.int .i64 e)]) w4) := by
    intro w3 e f3 b3 he
    rw [he] at hR
    (repeat (first | refine gg ?_ | (apply BND_build ([.int .u8 0, .slice none 0 0]); exact rfl)))
    refine put_step (n := 2) (vs := [.int .u8 0, .slice none 0 0]) b3 rfl rfl (by intro u hu; simp at hu; rcases hu with rfl | rfl <;> rfl) (by simp) fun w4 b4 f4 _ => ?_
    (repeat (first | refine BND_step (loadn_all' b4 rfl) ?_ | refine gg ?_))
    exact hR w4 ⟨none, 0, 0⟩ [] (Slc.nil _ _ _) (by simp) (f3.trans f4 fun b hb => .inr (by simp at hb; omega))
  have hb1 := hb.fr f1 (by simp)
  by_cases h7 : bs.length < 7
  · (repeat (first | refine BND_step hb1.len ?_ | refine gg ?_))
    exact bad w1 3 f1 b1 (by unfold frRead; rw [if_pos h7])
  obtain ⟨va, ea, aa⟩ := hb1.to (hi := 7) (by omega)
  (repeat (first | refine BND_step hb1.len ?_ | refine gg ?_))
  refine r1_Cut aa (by rw [List.length_take]; omega) (fun w3 f3 hc => ?_) fun w3 v3 G3 h hc s3 g3 f3 => ?_
  · (repeat refine gg ?_)
    refine bad w3 8 (f1.trans' f3) (f3.some (by simp) b1) ?_
    unfold frRead
    rw [if_neg h7, hc]
  have hh : h.length = 3 := by
    have := cut_len hc
    rw [List.length_take] at this; omega
  obtain ⟨h0, h1, h2, rfl⟩ : ∃ a b c, h = [a, b, c] := by
    match h, hh with
    | [a, b, c], _ => exact ⟨a, b, c, rfl⟩
  have hfr : frRead bs = (if 400 < sizeOf_ [h0, h1, h2] then ((0, []), 0, 2) else if bs.length < 11 + sizeOf_ [h0, h1, h2] then ((0, []), 0, 3) else
      match cutS ((bs.take (11 + sizeOf_ [h0, h1, h2])).drop 7) with
      | none => ((0, []), 0, 8)
      | some body => ((h0, body), 11 + sizeOf_ [h0, h1, h2], 0) : Fra × Nat × Int) := by
    unfold frRead
    rw [if_neg h7, hc]; rfl
  have hsz' : sizeOf_ [h0, h1, h2] = h1.toNat + h2.toNat * 256 := rfl
  generalize hN : sizeOf_ [h0, h1, h2] = N at hfr hsz'
  have s3' : Slc encB 1 w3.drew v3 [h0, h1, h2] G3 := s3.congr fun _ _ => rfl
  obtain ⟨p1, o1, i1, _, _, l1⟩ := s3'.arr.spot (i := 1) (x := h1) rfl rfl .i64
  obtain ⟨p2, o2, i2, _, _, l2⟩ := s3'.arr.spot (i := 2) (x := h2) rfl rfl .i64
  have c1 := h1.toNat_lt
  have c2 := h2.toNat_lt
  have f03 := f1.trans' f3
  have f03d := f03.trans' (Fr.drew [] w3)
  have b3 := f3.some (by simp) b1
  have b3d : blk w3.drew (hsz w) = some (.cells [Value.int .u8 0, .slice none 0 0].toArray 176 (0, 0)) := b3
  have e1 := convi64 (k := .u8) (x := h1.toNat) (by omega)
  have e2 := convi64 (k := .u8) (x := h2.toNat) (by omega)
  have e3 : binv .int .mul (.int .i64 256) (.int .i64 (h2.toNat : Int)) = some (.int .i64 ((256 * h2.toNat : Nat) : Int)) := mulI (x := 256) (by omega)
  have e4 : binv .int .add (.int .i64 (h1.toNat : Int)) (.int .i64 ((256 * h2.toNat : Nat) : Int)) = some (.int .i64 (N : Int)) := (addn_ (n := h1.toNat) (m := 256 * h2.toNat) (by omega)).trans (by congr 3; omega)
  have e5 : binv .int .add (.int .i64 (N : Int)) (.int .i64 11) = some (.int .i64 ((11 + N : Nat) : Int)) := (addn_ (n := N) (m := 11) (by omega)).trans (by congr 3; omega)
  (repeat (first | (apply BND_step; exact (l1 (w' := w3.drew) rfl (j := 0) rfl)) | (apply BND_step; exact (l2 (w' := w3.drew) rfl (j := 0) rfl)) | refine gg ?_))
  by_cases h4 : 400 < N
  · (repeat refine gg ?_)
    exact bad w3.drew 2 f03d b3d (by rw [hfr, if_pos h4])
  have hbd := hb.fr f03d (by simp)
  by_cases h5 : bs.length < 11 + N
  · (repeat (first | refine BND_step hbd.len ?_ | refine gg ?_))
    exact bad w3.drew 3 f03d b3d (by rw [hfr, if_neg h4, if_pos h5])
  obtain ⟨vb, eb, ab⟩ := hbd.mid (lo := 7) (hi := 11 + N) (by omega) (by omega)
  (repeat (first | refine BND_step hbd.len ?_ | refine gg ?_))
  rw [if_neg h4, if_neg h5] at hfr
  refine r1_Cut ab (by rw [List.length_drop, List.length_take]; omega) (fun w7 f7 hc2 => ?_) fun w7 v7 G7 body hc2 s7 g7 f7 => ?_
  · (repeat refine gg ?_)
    exact bad w7 8 (f03d.trans' f7) (f7.some (by simp) b3d) (by rw [hfr, hc2])
  rw [hc2] at hfr
  simp only at hfr
  obtain ⟨x7, rfl⟩ := slc_sv s7
  have s37 := s3'.fr f7 (by simp)
  obtain ⟨p0, o0, i0, _, _, l0⟩ := s37.arr.spot (i := 0) (x := h0) rfl rfl .i64
  have b7 := f7.some (by simp) b3d
  (repeat (first | (apply BND_step; exact (l0 (w' := w7) rfl (j := 0) rfl)) | refine gg ?_ | (apply BND_build (encFr (h0, x7)); exact rfl)))
  refine put_step (n := 2) (vs := encFr (h0, x7)) b7 rfl rfl (encFr_one _) (by simp [encFr]) fun w9 b9 f9 _ => ?_
  (repeat (first | refine BND_step (loadn_all' b9 rfl) ?_ | refine gg ?_))
  have gr3 := f03d.grow
  have gr1 := f1.grow
  have f07 := f03d.trans' f7
  rw [hfr] at hR
  refine hR w9 x7 G7 (s7.fr f9 fun b hb hb' => by have := g7 b hb; simp at hb'; have : hsz w1 ≤ hsz w3.drew := f3.grow; omega) (fun b hb => by have := g7 b hb; omega) (f07.trans f9 fun b hb => .inr (by simp at hb; omega))
theorem r4_All {bv : Value} {bs : List UInt8} (hb : ArrC encB 1 w bv bs) (hn : bs.length < 100000000)
    (hR : ∀ w' v G B, FrmL w' v (frAll bs 0).1 G B → (∀ b ∈ G, hsz w ≤ b) → (∀ b ∈ B, hsz w ≤ b) → Fr [] w w' → (frAll bs 0).1.length ≤ bs.length → R (.tuple #[v, .int .i64 ((frAll bs 0).2.1 : Int), .int .i64 (frAll bs 0).2.2]) w') : CALL PR F_tumbrelref04_All [bv] w R := by
  refine C_tumbrelref04_All ?_
  unfold M_tumbrelref04_All
  refine newnil_step encFr fun t w0 s0 f0 z0 => ?_
  refine ⟨fun o t w' => ∃ (k : Nat) (done : List Fra) (G B : List Nat), t = .int .i64 (k : Int) ∧ FrmL w' o done G B ∧ (∀ b ∈ G, hsz w ≤ b) ∧ (∀ b ∈ B, hsz w ≤ b) ∧ Fr [] w w' ∧ k ≤ bs.length ∧ done.length ≤ k ∧ frAll bs 0 = (done ++ (frAll (bs.drop k) k).1, (frAll (bs.drop k) k).2),
    fun _ t _ => match t with | .int _ n => bs.length - n.toNat | _ => 0, ⟨0, [], [hsz w], [], rfl, ⟨⟨[], s0, rfl, by simp⟩, by simp⟩, by simp, by simp, f0, by omega, by simp, by simp⟩, ?_⟩
  rintro _ o _ w1 ⟨k, done, G, B, rfl, h1, hG, hB, f1, hk, hdl, heq⟩
  by_cases hlt : k < bs.length
  · obtain ⟨va, ea, aa⟩ := (hb.fr f1 (by simp)).from (lo := k) (by omega)
    (repeat (first | refine BND_step hb.len ?_ | refine gg ?_))
    have hne : bs.drop k ≠ [] := by intro e; have := congrArg List.length e; simp at this; omega
    refine r4_Read aa (by rw [List.length_drop]; omega) fun w2 v2 G2 s2 g2 f2 => ?_
    (repeat refine gg ?_)
    refine box_step (n := 2) (zs := [_, _]) (vs := encFr ((frRead (bs.drop k)).1.1, v2)) rfl rfl (encFr_one _) (by simp [encFr]) fun w4 b4 f4 z4 => ?_
    have f24 := (f1.trans' f2).trans' f4
    have h4 := (h1.fr f2).fr f4
    by_cases he : (frRead (bs.drop k)).2.2 = 0
    · obtain ⟨u1, u2, u3, u4⟩ := read_ok he
      rw [List.length_drop] at u2
      (repeat (first | refine BND_step (loadn_all' b4 rfl) ?_ | refine gg ?_))
      have gr1 := f1.grow
      refine frm_push (x := (frRead (bs.drop k)).1) h4 (s2.fr f4 (by simp)) (fun b hb hb' => ?_) rfl (by omega) (by omega) fun v6 w6 G6 s6 g6 f6 => ?_
      · obtain ⟨⟨cs, q1, _⟩, _⟩ := h1
        have := q1.lt b hb'
        have := g2 b hb
        omega
      · (repeat (first | refine BND_step (addn_ (n := k) (by omega)) ?_ | refine gg ?_))
        rw [frAll_ok k hne he] at heq
        refine ⟨⟨k + (frRead (bs.drop k)).2.1, done ++ [(frRead (bs.drop k)).1], G6, G2 ++ B, rfl, s6, fun b hb => ?_, fun b hb => ?_, f24.trans f6 fun b hb => .inr (hG b hb), by omega, by simp; omega, ?_⟩, ?_⟩
        · rcases g6 b hb with hq | hq
          · exact hG b hq
          · have := f24.grow; omega
        · rcases List.mem_append.1 hb with hb | hb
          · have := g2 b hb; omega
          · exact hB b hb
        · rw [heq, List.drop_drop]; simp
        · simp only [Int.toNat_natCast]; omega
    · (repeat refine gg ?_)
      rw [frAll_bad k hne he] at heq
      have := hR w4 o G B (by rw [heq]; simpa using h4) hG hB f24 (by rw [heq]; simp; omega)
      rw [heq] at this
      exact this
  · (repeat (first | refine BND_step hb.len ?_ | refine gg ?_))
    rw [List.drop_eq_nil_of_le (by omega), frAll_nil] at heq
    have := hR w1 o G B (by rw [heq]; simpa using h1) hG hB f1 (by rw [heq]; simp; omega)
    rw [heq] at this
    exact this
end
end Go.Proofs.YtofllgbdphakiaaGreatDoor
end

section
namespace Go.Proofs.YtofllgbdphakiaaGreatDoor
open Go.Den Go.Disk Go.Vint Go.Crc Go.Frame Go.Rec
def encZ (x : Int) : List Value := [.int .i64 x]
theorem encZ_len (x : Int) : (encZ x).length = 1 := rfl
def manyI : List Int := [-1, 0, 5, 2, 1, 2, 2, 1, 1, 1, 1, 1, 5, 7, 10, 2, 1, 1]
def manyZ (k : Int) : Int := if 1 ≤ k ∧ k ≤ 17 then ((manyOf k.toNat : Nat) : Int) else -1
theorem many_get : ∀ k : Fin 18, manyI[k.val]? = some (manyZ (k.val : Int)) := by decide
theorem manyZ_known {k : Int} (h : knownB k = true) : manyZ k = ((manyOf k.toNat : Nat) : Int) := by
  unfold knownB at h
  simp only [Bool.and_eq_true, decide_eq_true_eq] at h
  unfold manyZ; rw [if_pos h]
theorem manyZ_not {k : Int} (h : knownB k = false) : manyZ k = -1 := by
  unfold knownB at h
  simp only [Bool.and_eq_false_iff, decide_eq_false_iff_not] at h
  unfold manyZ; rw [if_neg (by omega)]
theorem join_v2 {f : (Value → Value → World → Prop) → Prop} {k : Value → Value → World → Prop} (Q : Value → Value → World → Prop) (h : ∀ K, (∀ a b w', Q a b w' → K a b w') → f K) (hk : ∀ a b w', Q a b w' → k a b w') : JOIN f k := h k hk
theorem BYTES_step {E : Nat} {s : ByteArray} {w : World} {k : Value → World → Prop} (h : ∀ v w', Arr encB 1 w' v s.data.toList → Fr [] w w' → k v w') : BYTES E (.string s) w k := by
  refine ⟨s, rfl, fun c w' hc hh hr => ?_⟩
  have hl : s.data.toList.length = s.size := Array.length_toList
  refine h _ _ ⟨some ⟨hsz w', 0, none⟩, c, by rw [hl]; rfl, .inr ⟨_, 0, _, _, _, rfl, blk_alloc_new _ _, fun i x hx => ?_⟩⟩ ?_
  · have hi := (List.getElem?_eq_some_iff.1 hx).1
    rw [hl] at hi
    have hi' : i < s.data.size := hi
    refine ⟨by simp; omega, fun j hj => ?_⟩
    obtain rfl : j = 0 := by omega
    simp only [Nat.zero_add, Nat.mul_one, Nat.add_zero]
    rw [Array.getElem?_append_left (by simpa using hi'), Array.getElem?_map]
    have : s.data[i]? = some x := by rw [← Array.getElem?_toList]; exact hx
    rw [this]; rfl
  · refine ⟨by unfold hsz; rw [← hh]; simp, fun b hb _ => ?_, hr.1, hr.2.1, hr.2.2⟩
    have e : hsz w' = hsz w := by unfold hsz; rw [hh]
    rw [blk_alloc_old (by omega), heap_ext hh]
set_option linter.unusedSimpArgs false
set_option linter.unusedVariables false
set_option maxRecDepth 20000
set_option maxHeartbeats 4000000
attribute [local congr] BND_cg COND_cg GEF_cg
attribute [local irreducible] capl slicea load1 loadn iaddr iaddra faddr storev newslice binv lookv mupd mdel mlenv mentry mestore slicev slicev3 slices indexs indexav textv rangev nexts clearv shiftv eqaggv convi buildv pickv lens lenl unv nilchk extractv partn JOIN
section
variable {w : World} {R : Value → World → Prop}
theorem r5_many (k : Int) (hR : ∀ w', Fr [] w w' → R (.int .i64 (manyZ k)) w') : CALL PR F_tumbrelref05_many [.int .i64 k] w R := by
  refine C_tumbrelref05_many ?_
  unfold M_tumbrelref05_many
  refine newparts_step encZ_len (val := fun x : Int => Value.int .i64 x) (fun _ => rfl) manyI rfl rfl fun t w1 s1 f1 z1 => ?_
  by_cases h0 : k < 0
  · (repeat refine gg ?_)
    rw [manyZ, if_neg (by omega)] at hR
    exact hR _ f1
  · by_cases h17 : 17 < k
    · (repeat refine gg ?_)
      rw [manyZ, if_neg (by omega)] at hR
      exact hR _ f1
    · obtain ⟨n, rfl⟩ : ∃ n : Nat, k = (n : Int) := ⟨k.toNat, by omega⟩
      obtain ⟨b1, o1, i1, _, _, l1⟩ := s1.arr.spot (i := n) (many_get ⟨n, by omega⟩) rfl .i64
      (repeat (first | (apply BND_step; exact (l1 (w' := w1) rfl (j := 0) rfl)) | refine gg ?_))
      exact hR _ f1
theorem r5_texts (k : Int) (m : Nat) (hR : R (.bool (fitsB k m)) w) : CALL PR F_tumbrelref05_texts [.int .i64 k, .int .i64 (m : Int)] w R := by
  refine C_tumbrelref05_texts ?_
  unfold M_tumbrelref05_texts
  unfold fitsB wordedB at hR
  have e1 : decide ((m : Int) ≤ 64) = decide (m ≤ 64) := by rw [decide_eq_decide]; omega
  have e2 : decide ((m : Int) = 0) = decide (m = 0) := by rw [decide_eq_decide]; omega
  have e3 : (decide (m = 0) || decide (m ≤ 64)) = decide (m ≤ 64) := by by_cases h : m = 0 <;> simp [h]
  by_cases h1 : k = 10
  · (repeat refine gg ?_)
    simpa [h1, e1, e3] using hR
  · by_cases h2 : k = 11
    · (repeat refine gg ?_)
      simpa [h2, e1, e3] using hR
    · by_cases h3 : k = 16
      · (repeat refine gg ?_)
        simpa [h3, e1, e3] using hR
      · (repeat refine gg ?_)
        simpa [h1, h2, h3, e2] using hR
theorem r5_Right {nv : SV} {ns : List Nat} (k : Int) (t : ByteArray) (hn : Arr encU 1 w nv.v ns) (hR : ∀ w', Fr [] w w' → R (.bool (rightB k ns.length t.size)) w') : CALL PR F_tumbrelref05_Right [.agg (encRc (k, nv, t)).toArray] w R := by
  refine C_tumbrelref05_Right ?_
  unfold M_tumbrelref05_Right
  refine NEW_intro fun w1 b1 f1 z1 => ?_
  replace b1 : blk w1.drew (hsz w) = some (.cells (encRc (k, nv, t)).toArray 39 (0, 0)) := b1
  have f1d := f1.trans' (Fr.drew [] w1)
  unfold rightB at hR
  refine ⟨fun _ w' => blk w' (hsz w) = some (.cells (encRc (k, nv, t)).toArray 39 (0, 0)), b1, ?_⟩
  (repeat refine gg ?_)
  refine r5_many k fun w2 f2 => ?_
  have b2 := f2.some (by simp) b1
  refine ⟨b2, ?_⟩
  have f12 := f1d.trans' f2
  cases hk : knownB k with
  | false =>
    rw [hk, Bool.false_and, Bool.false_and] at hR
    rw [manyZ_not hk]
    (repeat refine gg ?_)
    refine ⟨undef, fun _ _ => rfl, ?_⟩
    (repeat refine gg ?_)
    refine ⟨b2, ?_⟩
    (repeat refine gg ?_)
    exact hR _ f12
  | true =>
    rw [hk, Bool.true_and] at hR
    rw [manyZ_known hk]
    (repeat (first | refine BND_step hn.len ?_ | refine gg ?_))
    refine r5_many k fun w3 f3 => ?_
    have b3 := f3.some (by simp) b2
    refine ⟨b3, ?_⟩
    rw [manyZ_known hk]
    have e : decide ((ns.length : Int) = ((manyOf k.toNat : Nat) : Int)) = decide (ns.length = manyOf k.toNat) := by rw [decide_eq_decide]; omega
    by_cases hm : ns.length = manyOf k.toNat
    · have hm' : (ns.length : Int) = ((manyOf k.toNat : Nat) : Int) := by omega
      rw [decide_eq_true hm, Bool.true_and] at hR
      (repeat refine gg ?_)
      refine r5_texts _ _ ?_
      (repeat refine gg ?_)
      exact hR _ (f12.trans' f3)
    · have hm' : ¬ (ns.length : Int) = ((manyOf k.toNat : Nat) : Int) := by omega
      rw [decide_eq_false hm, Bool.false_and] at hR
      (repeat refine gg ?_)
      exact hR _ (f12.trans' f3)
theorem r5_Bytes {nv : SV} {ns : List Nat} (k : Int) (t : ByteArray) (hn : Arr encU 1 w nv.v ns) (hs : ∀ n ∈ ns, n < 18446744073709551616) (hR0 : ∀ w', rightB k ns.length t.size = false → Fr [] w w' → R (.tuple #[.slice none 0 0, .int .i64 1]) w')
    (hR : ∀ w' v G, rightB k ns.length t.size = true → Slc encB 1 w' v (recB k.toNat ns t.data.toList) G → (∀ b ∈ G, hsz w ≤ b) → Fr [] w w' → R (.tuple #[v, .int .i64 0]) w') : CALL PR F_tumbrelref05_Bytes [.agg (encRc (k, nv, t)).toArray] w R := by
  refine C_tumbrelref05_Bytes ?_
  unfold M_tumbrelref05_Bytes
  have htl : t.data.toList.length = t.size := Array.length_toList
  refine NEW_intro fun w1 b1 f1 z1 => ?_
  replace b1 : blk w1 (hsz w) = some (.cells (encRc (k, nv, t)).toArray 39 (0, 0)) := b1
  (repeat (first | refine BND_step (loadn_all' b1 rfl) ?_ | refine gg ?_))
  refine r5_Right k t (hn.fr f1 (by simp)) fun w2 f2 => ?_
  have f02 := f1.trans' f2
  have b2 := f2.some (by simp) b1
  replace b2 : blk w2.drew (hsz w) = some (.cells (encRc (k, nv, t)).toArray 39 (0, 0)) := b2
  cases hr : rightB k ns.length t.size with
  | false =>
    (repeat refine gg ?_)
    exact hR0 _ hr f02
  | true =>
    obtain ⟨hk1, hk2, hm, hf⟩ := right_known hr
    have hsm := body_small (t := t.data.toList) (by rw [htl]; exact hr) hs
    obtain ⟨kn, rfl⟩ : ∃ kn : Nat, k = (kn : Int) := ⟨k.toNat, by omega⟩
    have f02d := f02.trans' (Fr.drew [] w2)
    (repeat refine gg ?_)
    refine ⟨fun _ w' => blk w' (hsz w) = some (.cells (encRc ((kn : Int), nv, t)).toArray 39 (0, 0)), b2, b2, b2, ?_⟩
    have e8 := conv8i kn
    rw [Nat.mod_eq_of_lt (show kn < 256 by omega)] at e8
    have ek : ((kn : Nat) : Int) = ((UInt8.ofNat kn).toNat : Int) := by rw [ofNat_toNat (by omega)]
    (repeat refine gg ?_)
    have hlb : (ns.flatMap layV).length + t.data.toList.length = (bodyOf_ ns t.data.toList).length := by unfold bodyOf_; rw [List.length_append]
    have hml := manyOf_le (kn : Int).toNat
    have e2 : hsz w2.drew = hsz w2 := rfl
    have gr2 := f02.grow
    have last : ∀ (K : Value → Value → World → Prop) (w4 : World) (va vb : Value) (G : List Nat), Fr [] w2.drew w4 → blk w4 (hsz w) = some (.cells (encRc ((kn : Int), nv, t)).toArray 39 (0, 0)) → Slc encB 1 w4 va (ns.flatMap layV) G → (∀ b ∈ G, hsz w2 ≤ b) → Arr encB 1 w4 vb t.data.toList →
        (∀ a b w', (b = .int .i64 0 ∧ ∃ G, Slc encB 1 w' a (recB kn ns t.data.toList) G ∧ (∀ b ∈ G, hsz w ≤ b) ∧ Fr [] w w') → K a b w') →
        APPEND 5 1 1 (Value.int .u8 0) va vb w4 fun t16 w6 => blk w6 (hsz w) = some (.cells (encRc ((kn : Int), nv, t)).toArray 39 (0, 0)) ∧
          BND (buildv #[(Value.int .u8 0), (Value.slice none 0 0)] [(0, 1, .int .u8 (kn : Int)), (1, 1, t16)]) fun t17 => CALL PR F_tumbrelref04_Bytes [t17] w6 fun t18 w7 => BND (extractv t18 0) fun t19 => BND (extractv t18 1) fun t20 => K t19 t20 w7 := by
      intro K w4 va vb G f4 b4 sa gG ab hK
      refine APPEND_slc sa (ab.src encB_len (by omega)) encB_len encB_one rfl (by omega) (by omega) fun v5 w5 G5 s5 f5 sub5 => ?_
      refine ⟨f5.some (fun hb => by have := gG _ hb; have := blk_lt b2; omega) b4, ?_⟩
      obtain ⟨x5, rfl⟩ := slc_sv s5
      (repeat (first | refine gg ?_ | (apply BND_build ([.int .u8 (kn : Int), x5.v]); exact rfl)))
      rw [show ([Value.int .u8 (kn : Int), x5.v] : List Value) = encFr (UInt8.ofNat kn, x5) by unfold encFr; rw [← ek]]
      have f25 : Fr [] w2.drew w5 := f4.trans f5 fun b hb => .inr (by have := gG b hb; omega)
      refine r4_Bytes (body := bodyOf_ ns t.data.toList) s5.arr (by omega) (fun w6 h6 _ => by omega) fun w6 v6 G6 _ s6 g6 f6 => ?_
      (repeat refine gg ?_)
      refine hK _ _ _ ⟨rfl, G6, s6, fun b hb => ?_, (f02d.trans' f25).trans' f6⟩
      have := g6 b hb; have := f25.grow; omega
    refine join_v2 (fun a b w' => b = .int .i64 0 ∧ ∃ G, Slc encB 1 w' a (recB kn ns t.data.toList) G ∧ (∀ b ∈ G, hsz w ≤ b) ∧ Fr [] w w') (fun K hK => ⟨?_, ?_⟩) ?_
    · refine r2_All (hn.fr f02d (by simp)) hs (by omega) fun w3 v3 G3 s3 g3 f3 => ?_
      have b3 := f3.some (by simp) b2
      refine ⟨b3, b3, ?_⟩
      refine BYTES_step fun v4 w4 a4 f4 => ?_
      have b4 := f4.some (by simp) b3
      refine ⟨b4, b4, ?_⟩
      exact last K w4 v3 v4 G3 (f3.trans' f4) b4 (s3.fr f4 (by simp)) (fun b hb => by have := g3 b hb; omega) a4 hK
    · refine BYTES_step fun v3 w3 a3 f3 => ?_
      have b3 := f3.some (by simp) b2
      refine ⟨b3, b3, ?_⟩
      refine r2_All ((hn.fr f02d (by simp)).fr f3 (by simp)) hs (by omega) fun w4 v4 G4 s4 g4 f4 => ?_
      have b4 := f4.some (by simp) b3
      refine ⟨b4, b4, ?_⟩
      exact last K w4 v4 v3 G4 (f3.trans' f4) b4 s4 (fun b hb => by have := g4 b hb; have := f3.grow; omega) (a3.fr f4 (by simp)) hK
    · rintro a _ w' ⟨rfl, G, s, g, f⟩
      (repeat refine gg ?_)
      exact hR _ _ G hr s g f
theorem r5_Read {s0 : SV} {x : Fra} (hb : ArrC encB 1 w s0.v x.2) (hn : x.2.length < 1000000)
    (hR : ∀ w' nv G, Slc encU 1 w' (SV.v nv) (recRead x).1.n G → (∀ b ∈ G, hsz w ≤ b) → Fr [] w w' → R (.tuple #[.agg (encRc (((recRead x).1.kind : Int), nv, txB (recRead x).1.text)).toArray, .int .i64 (recRead x).2]) w') : CALL PR F_tumbrelref05_Read [.agg (encFr (x.1, s0)).toArray] w R := by
  refine C_tumbrelref05_Read ?_
  unfold M_tumbrelref05_Read
  refine NEW_intro fun w1 b1 f1 z1 => ?_
  replace b1 : blk w1 (hsz w) = some (.cells (encFr (x.1, s0)).toArray 176 (0, 0)) := b1
  refine NEW_intro fun w2 b2 f2 z2 => ?_
  replace b2 : blk w2 (hsz w1) = some (.cells [Value.int .i64 0, .slice none 0 0, .string .empty].toArray 39 (0, 0)) := b2
  have hkl := x.1.toNat_lt
  have b1' := f2.some (by simp) b1
  have ec := convi64 (k := .u8) (x := x.1.toNat) (by omega)
  have bad : ∀ (w6 : World) (e : Int), Fr [] w w6 → blk w6 (hsz w1) = some (.cells [Value.int .i64 0, .slice none 0 0, .string .empty].toArray 39 (0, 0)) → recRead x = (zeroR, e) →
      (BND (buildv #[(Value.int .i64 0), (Value.slice none 0 0), (Value.string ByteArray.empty)] []) fun t => BND (storev 3 w6 (.pointer (some ⟨hsz w1, 0, none⟩)) t) fun w7 => BND (loadn 3 w7 (.pointer (some ⟨hsz w1, 0, none⟩))) fun r => R (.tuple #[r, (Value.int .i64 e)]) w7) := by
    intro w6 e f6 b6 he
    rw [he] at hR
    (repeat (first | refine gg ?_ | (apply BND_build ([.int .i64 0, .slice none 0 0, .string .empty]); exact rfl)))
    refine put_step (n := 3) (vs := [.int .i64 0, .slice none 0 0, .string .empty]) b6 rfl rfl (by intro u hu; simp at hu; rcases hu with rfl | rfl | rfl <;> rfl) (by simp) fun w7 b7 f7 _ => ?_
    (repeat (first | refine BND_step (loadn_all' b7 rfl) ?_ | refine gg ?_))
    exact hR w7 ⟨none, 0, 0⟩ [] (Slc.nil _ _ _) (by simp) (f6.trans f7 fun b hb => .inr (by have := f1.grow; simp at hb; omega))
  (repeat refine gg ?_)
  refine r5_many _ fun w3 f3 => ?_
  have b13 := f3.some (by simp) b1'
  have b23 := f3.some (by simp) b2
  have f03 := (f1.trans' f2).trans' f3
  have gr3 := f3.grow
  unfold recRead at hR
  cases hk : knownB (x.1.toNat : Int) with
  | false =>
    rw [manyZ_not hk]
    (repeat refine gg ?_)
    exact bad w3 2 f03 b23 (by unfold recRead; rw [if_pos hk])
  | true =>
    have hkn : ¬ knownB (x.1.toNat : Int) = false := by rw [hk]; simp
    rw [if_neg hkn] at hR
    rw [manyZ_known hk, Int.toNat_natCast]
    have h10 := manyOf_le x.1.toNat
    generalize hmany : manyOf x.1.toNat = many at *
    (repeat (first | refine gg ?_ | (apply BND_build ([.int .i64 (x.1.toNat : Int), .slice none 0 0, .string .empty]); exact rfl)))
    refine box_step (n := 3) (zs := [_, _, _]) (vs := encRc ((x.1.toNat : Int), ⟨none, 0, 0⟩, .empty)) rfl rfl (encRc_one _) (by simp [encRc]) fun w4 b4 f4 z4 => ?_
    have b14 := f4.some (by simp) b13
    have b24 := f4.some (by simp) b23
    have f04 := f03.trans' f4
    have gr4 := f4.grow
    refine loop_up2 (o := .int .i64 0) 0 many (fun o i w' => ∃ (at_ : Nat) (done : List Nat) (nv : SV) (G : List Nat), o = .int .i64 (at_ : Int) ∧ at_ ≤ x.2.length ∧ blk w' (hsz w3) = some (.cells (encRc ((x.1.toNat : Int), nv, .empty)).toArray 39 (0, 0)) ∧ Slc encU 1 w' nv.v done G ∧ (∀ b ∈ G, hsz w4 ≤ b) ∧
        Fr [] w w' ∧ hsz w4 ≤ hsz w' ∧ blk w' (hsz w1) = some (.cells [Value.int .i64 0, .slice none 0 0, .string .empty].toArray 39 (0, 0)) ∧ blk w' (hsz w) = some (.cells (encFr (x.1, s0)).toArray 176 (0, 0)) ∧ done.length = i ∧
        readN many x.2 = (done ++ (readN (many - i) (x.2.drop at_)).1, (readN (many - i) (x.2.drop at_)).2))
      ⟨0, [], ⟨none, 0, 0⟩, [], rfl, by omega, b4, Slc.nil _ _ _, by simp, f04, Nat.le_refl _, b24, b14, rfl, by simp⟩ (by omega) ?_
    rintro _ i w8 - hi ⟨at_, done, nv, G, rfl, hat, b8, s8, g8, f8, gr8, b28, b18, hdl, heq⟩ J m hJ
    obtain ⟨va, ea, aa0⟩ := hb.from (lo := at_) hat
    have aa := aa0.fr f8 (by simp)
    have hlr : (x.2.drop at_).length = x.2.length - at_ := List.length_drop
    by_cases hlt : i < many
    · obtain ⟨mm, hmm⟩ : ∃ mm, many - i = mm + 1 := ⟨many - i - 1, by omega⟩
      rw [hmm, readN_step] at heq
      (repeat refine gg ?_)
      refine r2_Get aa.arr (by omega) ?_
      by_cases he : (getV (x.2.drop at_)).2.2 = 0
      · rw [if_pos he] at heq
        have hu := getV_used he
        (repeat refine gg ?_)
        refine newone_step (enc := encU) (x := (getV (x.2.drop at_)).1) (y := .int .u64 ((getV (x.2.drop at_)).1 : Int)) encU_len rfl fun t w11 s11 f11 z11 => ?_
        have b11 := f11.some (by simp) b8
        refine APPEND_slc (s8.fr f11 (by simp)) (s11.loads encU_len) encU_len encU_one rfl (by simp; omega) (by simp; omega) fun v12 w12 G12 s12 f12 sub12 => ?_
        obtain ⟨x12, rfl⟩ := slc_sv s12
        have b12 := f12.some (fun hb => by have := g8 _ hb; omega) b11
        (repeat refine gg ?_)
        refine fstore_step b12 ⟨rfl, rfl⟩ (by simp [encRc]) fun w13 b13' f13 _ => ?_
        (repeat (first | refine BND_step (addn_ (n := at_) (by omega)) ?_ | refine gg ?_))
        have gr11 := f11.grow
        have gr12 := f12.grow
        have gr13 := f13.grow
        have g12 : ∀ b ∈ G12, hsz w4 ≤ b := fun b hb => by
          rcases sub12 b hb with hq | hq
          · exact g8 b hq
          · omega
        have f812 : Fr [] w w12 := (f8.trans' f11).trans f12 fun b hb => .inr (by have := g8 b hb; have := f04.grow; omega)
        have f813 : Fr [] w w13 := f812.trans f13 fun b hb => .inr (by simp at hb; have := f03.grow; omega)
        have keep : ∀ (b : Nat) (o : Obj), b < hsz w3 → blk w8 b = some o → blk w13 b = some o := fun b o hb h => by
          have q1 := f11.some (by simp) h
          have q2 := f12.some (fun hb' => by have := g8 _ hb'; omega) q1
          exact f13.some (by simp; omega) q2
        refine hJ _ _ hlt ⟨at_ + (getV (x.2.drop at_)).2.1, done ++ [(getV (x.2.drop at_)).1], x12, G12, rfl, by omega, b13', s12.fr f13 (fun b hb hb' => ?_), g12, f813, by omega, keep _ _ (by omega) b28, keep _ _ (by have := f1.grow; omega) b18, by simp [hdl], ?_⟩
        · have := g12 b hb; simp at hb'; omega
        · rw [show many - (i + 1) = mm by omega, heq, List.drop_drop]; simp
      · rw [if_neg he] at heq
        (repeat refine gg ?_)
        refine bad w8 _ f8 b28 ?_
        unfold recRead
        rw [if_neg hkn, hmany, heq, if_neg he]
    · rw [show many - i = 0 by omega] at heq
      simp only [readN, List.append_nil] at heq
      rw [heq] at hR
      simp only [if_true] at hR
      have hrw : recRead x = if fitsB (x.1.toNat : Int) (x.2.drop at_).length = true then (⟨x.1.toNat, done, x.2.drop at_⟩, 0) else (zeroR, 2) := by
        unfold recRead
        rw [if_neg hkn, hmany, heq]
        rfl
      (repeat (first | refine BND_step hb.len ?_ | refine BND_step (subn_ (n := x.2.length) (m := at_) hat (by omega)) ?_ | refine gg ?_))
      refine r5_texts _ _ ?_
      rw [← hlr]
      cases hf : fitsB (x.1.toNat : Int) (x.2.drop at_).length with
      | false =>
        rw [hf] at hrw
        (repeat refine gg ?_)
        exact bad w8 2 f8 b28 hrw
      | true =>
        rw [hf] at hR
        simp only [if_true] at hR
        (repeat (first | refine BND_step (textB aa.arr) ?_ | refine gg ?_))
        refine fstore_step b8 ⟨rfl, rfl⟩ (by simp [encRc]) fun w9 b9 f9 _ => ?_
        replace b9 : blk w9 (hsz w3) = some (.cells (encRc ((x.1.toNat : Int), nv, txB (x.2.drop at_))).toArray 39 (0, 0)) := b9
        have b29 := f9.some (by simp; omega) b28
        (repeat (first | refine BND_step (loadn_all' b9 rfl) ?_ | refine gg ?_))
        refine put_step (n := 3) (vs := encRc ((x.1.toNat : Int), nv, txB (x.2.drop at_))) b29 rfl rfl (encRc_one _) (by simp [encRc]) fun w10 b10 f10 _ => ?_
        (repeat (first | refine BND_step (loadn_all' b10 rfl) ?_ | refine gg ?_))
        have gg := f03.grow
        have gg1 := f1.grow
        exact hR w10 nv G ((s8.fr f9 (fun b hb hb' => by have := g8 b hb; simp at hb'; omega)).fr f10 (fun b hb hb' => by have := g8 b hb; simp at hb'; omega)) (fun b hb => by have := g8 b hb; omega)
          ((f8.trans f9 fun b hb => .inr (by simp at hb; omega)).trans f10 fun b hb => .inr (by simp at hb; omega))
theorem r5_All {bv : Value} {bs : List UInt8} (hb : ArrC encB 1 w bv bs) (hn : bs.length < 10000000)
    (hR : ∀ w' v ev G B E, RecL w' v (recAll bs).1 G B → Slc encO 1 w' ev (recAll bs).2.1 E → (∀ b ∈ G, hsz w ≤ b) → (∀ b ∈ B, hsz w ≤ b) → (∀ b ∈ E, hsz w ≤ b) → Fr [] w w' → R (.tuple #[v, ev, .int .i64 (recAll bs).2.2]) w') : CALL PR F_tumbrelref05_All [bv] w R := by
  refine C_tumbrelref05_All ?_
  unfold M_tumbrelref05_All
  refine newnil_step encRc fun t0 wa sa fa za => ?_
  refine newnil_step encO fun t1 wb sb fb zb => ?_
  have fab := fa.trans' fb
  refine r4_All (hb.fr fab (by simp)) (by omega) fun w1 lv G1 B1 h1 gG1 gB1 f1 hle => ?_
  have f01 := fab.trans' f1
  have hsm := frAll_small bs.length bs 0 rfl
  unfold recAll at hR
  generalize hfs : (frAll bs 0).1 = fs at *
  generalize (frAll bs 0).2.2 = e0 at *
  have ga := fa.grow
  have gb := fb.grow
  have g01 := f1.grow
  (repeat refine gg ?_)
  refine loop_up4 (a := t0) (b := t1) (c := .int .i64 0) 0 fs.length (fun o ev t i w' => ∃ (k : Nat) (done : List Rc) (ends : List Nat) (G B E : List Nat), t = .int .i64 (k : Int) ∧ RecL w' o done G B ∧ Slc encO 1 w' ev ends E ∧ (∀ b ∈ G, hsz w ≤ b ∧ b ∉ E) ∧ (∀ b ∈ B, hsz w ≤ b ∧ b ∉ E) ∧ (∀ b ∈ E, hsz w ≤ b) ∧
      Fr [] w w' ∧ (∀ b ∈ G1, b ∉ G ∧ b ∉ E) ∧ (∀ b ∈ B1, b ∉ G ∧ b ∉ E) ∧ FrmL w' lv fs G1 B1 ∧ k ≤ i * 500 ∧ done.length = i ∧ ends.length = i ∧ recAllF fs 0 e0 = (done ++ (recAllF (fs.drop i) k e0).1, ends ++ (recAllF (fs.drop i) k e0).2.1, (recAllF (fs.drop i) k e0).2.2))
    ⟨0, [], [], [hsz w], [], [hsz wa], rfl, ⟨⟨[], ((sa.fr fb (by simp)).fr f1 (by simp)), rfl, by simp⟩, by simp⟩, sb.fr f1 (by simp), fun b hb => by simp at hb ⊢; omega, by simp, fun b hb => by simp at hb; omega, f01, fun b hb => by have := gG1 b hb; simp; omega, fun b hb => by have := gB1 b hb; simp; omega, h1, by omega, rfl, rfl, by simp⟩ (by omega) ?_
  rintro o ev _ i w2 - hi ⟨k, done, ends, G, B, E, rfl, h2, se, gG, gB, gE, f2, dG, dB, h12, hk, hdl, hel, heq⟩ J m hJ
  by_cases hlt : i < fs.length
  · have hx := List.getElem?_eq_getElem hlt
    have hm := List.getElem_mem hlt
    have hdr : fs.drop i = fs[i] :: fs.drop (i + 1) := List.drop_eq_getElem_cons hlt
    generalize fs[i] = x at hx hm hdr
    have hx4 := hsm x hm
    rw [hdr, recAllF_cons] at heq
    have hlen := h12.len
    have h12' := h12
    obtain ⟨⟨cs, q1, q2, q3⟩, q4⟩ := h12
    obtain ⟨s, H, c1, c2, c3⟩ := q3 i x hx
    obtain ⟨bp, op, ia, ln, _, ld⟩ := q1.arr.spot c1 rfl .i64
    (repeat refine gg ?_)
    refine r5_Read c2.arrC (by omega) fun w5 nv Gn sn gn f5 => ?_
    (repeat refine gg ?_)
    refine box_step (n := 3) (zs := [_, _, _]) (vs := encRc (((recRead x).1.kind : Int), nv, txB (recRead x).1.text)) rfl rfl (encRc_one _) (by simp [encRc]) fun w7 b7 f7 z7 => ?_
    have f27 := f5.trans' f7
    have f07 := f2.trans' f27
    by_cases he : (recRead x).2 = 0
    · rw [if_pos he] at heq
      obtain ⟨bp', op', ia', ln', _, ld'⟩ := (q1.fr f27 (by simp)).arr.spot c1 rfl .i64
      have el := c2.len
      have e1 : binv .int .add (.int .i64 ((k + x.2.length : Nat) : Int)) (.int .i64 11) = some (.int .i64 ((k + (11 + x.2.length) : Nat) : Int)) := (addn_ (n := k + x.2.length) (m := 11) (by omega)).trans (by congr 3; omega)
      (repeat (first | (apply BND_step; exact (ld' (w' := w7) rfl (j := 1) rfl)) | refine BND_step (addn_ (n := k) (m := x.2.length) (by omega)) ?_ | refine BND_step (loadn_all' b7 rfl) ?_ | refine gg ?_))
      have gr2 := f2.grow
      have gr27 := f27.grow
      refine rec_push (x := (recRead x).1) (h2.fr f27) (sn.fr f7 (by simp)) (fun b hb hb' => by have := gn b hb; have := h2.lt b hb'; omega) rfl (by omega) (by omega) fun v10 w10 G10 h10 g10 f10 => ?_
      have se10 := (se.fr f27 (by simp)).fr f10 (fun b hb hb' => (gG b hb').2 hb)
      refine push_step (enc := encO) (x := k + (11 + x.2.length)) (y := .int .i64 ((k + (11 + x.2.length) : Nat) : Int)) se10 encO_len encO_one rfl rfl (by omega) (by omega) fun v12 w12 E12 s12 g12 f12 => ?_
      have gr10 := f10.grow
      have gr5 := f5.grow
      have ltG : ∀ b ∈ G, b < hsz w2 := h2.lt
      have ltE : ∀ b ∈ E, b < hsz w2 := se.lt
      have nG : ∀ b ∈ G10, hsz w ≤ b ∧ b ∉ E12 := fun b hb => by
        have hlt10 := h10.lt b hb
        rcases g10 b hb with hq | hq
        · refine ⟨(gG b hq).1, fun hb' => ?_⟩
          rcases g12 b hb' with hq2 | hq2
          · exact (gG b hq).2 hq2
          · omega
        · refine ⟨by omega, fun hb' => ?_⟩
          rcases g12 b hb' with hq2 | hq2
          · have := ltE b hq2; omega
          · omega
      have nB : ∀ b ∈ Gn ++ B, hsz w ≤ b ∧ b ∉ E12 := fun b hb => by
        rcases List.mem_append.1 hb with hb | hb
        · have h5 := gn b hb
          have h6 := sn.lt b hb
          refine ⟨by omega, fun hb' => ?_⟩
          rcases g12 b hb' with hq2 | hq2
          · have := ltE b hq2; omega
          · have := f7.grow; omega
        · refine ⟨(gB b hb).1, fun hb' => ?_⟩
          rcases g12 b hb' with hq2 | hq2
          · exact (gB b hb).2 hq2
          · have := (h2.2 b hb).2; omega
      have nE : ∀ b ∈ E12, hsz w ≤ b := fun b hb => by
        rcases g12 b hb with hq | hq
        · exact gE b hq
        · omega
      have lt1 : ∀ b ∈ G1, b < hsz w2 := q1.lt
      have lt1B : ∀ b ∈ B1, b < hsz w2 := fun b hb => (q4 b hb).2
      have d1 : ∀ b, (b ∈ G1 ∨ b ∈ B1) → b ∉ G10 ∧ b ∉ E12 := fun b hb => by
        have hl : b < hsz w2 := hb.elim (lt1 b) (lt1B b)
        have hd : b ∉ G ∧ b ∉ E := hb.elim (dG b) (dB b)
        refine ⟨fun h => ?_, fun h => ?_⟩
        · rcases g10 b h with hq | hq
          · exact hd.1 hq
          · omega
        · rcases g12 b h with hq | hq
          · exact hd.2 hq
          · omega
      have h12n : FrmL w12 lv fs G1 B1 := by
        obtain ⟨⟨cs', r1, r2, r3⟩, r4⟩ := h12'.fr f27
        refine ⟨⟨cs', (r1.fr f10 (fun b hb => (dG b hb).1)).fr f12 (fun b hb => (dG b hb).2), r2, fun i' y hy => ?_⟩, fun b hb => ⟨(r4 b hb).1, by have := (r4 b hb).2; have := f12.grow; omega⟩⟩
        obtain ⟨s', H', p1, p2, p3⟩ := r3 i' y hy
        exact ⟨s', H', p1, (p2.fr f10 (fun b hb => (dB b (p3 b hb)).1)).fr f12 (fun b hb => (dB b (p3 b hb)).2), p3⟩
      (repeat refine gg ?_)
      refine hJ _ _ _ _ hlt ⟨k + (11 + x.2.length), done ++ [(recRead x).1], ends ++ [k + (11 + x.2.length)], G10, Gn ++ B, E12, rfl, h10.far f12 (fun b hb hb' => ?_) (fun b hb hb' => ?_), s12, nG, nB, nE, (f07.trans f10 fun b hb => .inr (gG b hb).1).trans f12 fun b hb => .inr (gE b hb), fun b hb => d1 b (.inl hb), fun b hb => d1 b (.inr hb), h12n, by omega, by simp [hdl], by simp [hel], ?_⟩
      · rcases g10 b hb with hq | hq
        · exact (gG b hq).2 hb'
        · have := ltE b hb'; omega
      · rcases List.mem_append.1 hb with hb | hb
        · have := gn b hb; have := ltE b hb'; omega
        · exact (gB b hb).2 hb'
      · rw [heq]; simp
    · rw [if_neg he] at heq
      (repeat refine gg ?_)
      rw [heq, List.append_nil, List.append_nil] at hR
      exact hR _ _ _ G B E (h2.fr f27) (se.fr f27 (by simp)) (fun b hb => (gG b hb).1) (fun b hb => (gB b hb).1) gE f07
  · obtain rfl : i = fs.length := by omega
    rw [List.drop_length] at heq
    simp only [recAllF, List.append_nil] at heq
    (repeat (first | refine BND_step h12.len ?_ | refine gg ?_))
    rw [heq] at hR
    exact hR _ _ _ G B E h2 se (fun b hb => (gG b hb).1) (fun b hb => (gB b hb).1) gE f2
end
end Go.Proofs.YtofllgbdphakiaaGreatDoor
end

section
namespace Go.Proofs.YtofllgbdphakiaaGreatDoor
open Go.Den Go.Disk Go.Nm Go.Rec Go.Frame Go.Vint Go.Crc Go.Sg
def sysR (d : Nat) (s : Dk) : Option (Nat × Lg) → List HP
  | none => [rfHP d s]
  | some (p, l) => [pts p (lgC d l), rfHP d s]
theorem ptr_nnilS {d : Nat} : binv .ptr .neq (ptrTo d) (.pointer none) = some (.bool true) := rfl
theorem recAll_none {b : List UInt8} (hb : b ≠ []) (h : (recAll b).1.length = 0) : (recAll b).2.2 ≠ 0 := by
  unfold recAll at h ⊢
  by_cases h1 : (frRead b).2.2 = 0
  · rw [frAll_ok 0 hb h1] at h ⊢
    simp only [recAllF_cons] at h ⊢
    split at h
    · simp at h
    · rename_i h2
      rw [if_neg h2]
      exact h2
  · rw [frAll_bad 0 hb h1]
    exact h1
set_option linter.unusedSimpArgs false
set_option linter.unusedVariables false
set_option maxRecDepth 20000
set_option maxHeartbeats 4000000
attribute [local congr] BND_cg COND_cg GEF_cg
attribute [local irreducible] capl slicea load1 loadn iaddr iaddra faddr storev newslice binv lookv mupd mdel mlenv mentry mestore slicev slicev3 slices indexs indexav textv rangev nexts clearv shiftv eqaggv convi buildv pickv lens lenl unv nilchk extractv partn JOIN
section
variable {w0 w w' : World} {F0 : List Nat} {d p : Nat} {s : Dk} {l : Lg} {R : Value → World → Prop}
theorem rg_disk (h : At w0 F0 (stars [pts p (lgC d l), rfHP d s]) w) : ∃ A, At w A (rfHP d s) w ∧ ∀ w2 s2, At w A (rfHP d s2) w2 → At w0 F0 (stars [pts p (lgC d l), rfHP d s2]) w2 := by
  obtain ⟨A, a, back⟩ := At.zoom h 1 rfl
  exact ⟨A, a, fun w2 s2 h2 => back w2 _ h2⟩
theorem r15_may (seg : Nat) (most : Int) (hR : R (.bool (mayL seg most)) w) : CALL PR F_tumbrelref15_may [ptrTo d, .int .u64 (seg : Int), .int .i64 most] w R := by
  refine C_tumbrelref15_may ?_
  unfold M_tumbrelref15_may
  have nn := ptr_nnilS (d := d)
  unfold mayL at hR
  by_cases q1 : 64 ≤ most
  · by_cases q2 : most ≤ 65536
    · rw [decide_eq_true q1, decide_eq_true q2] at hR
      simp only [Bool.true_and] at hR
      (repeat refine gg ?_)
      have e : decide ((seg : Int) ≤ 9999999999) = okS seg := by
        rw [Bool.eq_iff_iff, decide_eq_true_eq, okS_iff]; omega
      rw [e]
      exact hR
    · rw [decide_eq_false q2, Bool.and_false, Bool.false_and] at hR
      (repeat refine gg ?_)
      exact hR
  · rw [decide_eq_false q1, Bool.false_and, Bool.false_and] at hR
    (repeat refine gg ?_)
    exact hR
theorem r15_file {k : Nat} (hk : okS k = true) (hR : ∀ w', Fr [] w w' → R (.string (sgN k)) w') : CALL PR F_tumbrelref15_file [.int .u64 (k : Int)] w R := by
  refine C_tumbrelref15_file ?_
  unfold M_tumbrelref15_file
  have := okS_iff.1 hk
  refine r14_Of 109 k (by omega) fun w1 f1 => ?_
  rw [nameOf_S hk]
  (repeat refine gg ?_)
  exact hR _ f1
theorem sgN_sz {k : Nat} (hk : okS k = true) : (sgN k).size ≤ 9223372036854775807 := Nat.le_trans (nmB_named (show okN 109 k = true from hk)).2.2 (by omega)
theorem r15_Begin (h : At w0 F0 (rfHP d s) w) (hi : Inv s) (hn : s.dirs.length < 100000000) (hn2 : s.files.length < 100000000) (seg : Nat) (most : Int)
    (hR : ∀ w' o, o.map (·.2) = (lgBegin s seg most).2.1 → At w0 F0 (stars (sysR d (lgBegin s seg most).1 o)) w' → R (.tuple #[valL o, .int .i64 (lgBegin s seg most).2.2]) w') :
    CALL PR F_tumbrelref15_Begin [ptrTo d, .int .u64 (seg : Int), .int .i64 most] w R := by
  refine C_tumbrelref15_Begin ?_
  unfold M_tumbrelref15_Begin
  unfold lgBegin at hR
  refine r15_may seg most ?_
  cases hm : mayL seg most with
  | false =>
    rw [hm] at hR
    (repeat refine gg ?_)
    exact hR _ none rfl (At.wrap h)
  | true =>
    rw [hm] at hR
    simp only [if_true] at hR
    have hok := (may_iff.1 hm).1
    (repeat refine gg ?_)
    refine r15_file hok fun w1 f1 => ?_
    refine rf_Create (h.fr0 f1) hi.wf (by omega) (by omega) (sgN seg) (sgN_sz hok) fun w2 h2 => ?_
    by_cases he : (create s (sgN seg)).2 = 0
    · rw [if_pos he] at hR
      (repeat (first | refine gg ?_ | (apply BND_build (lgC d ⟨seg, 0, most, seg, true⟩); exact rfl)))
      refine NEW_intro fun w3 b3 f3 z3 => ?_
      refine hR _ (some (hsz w2, ⟨seg, 0, most, seg, true⟩)) rfl ((At.wrap h2).add f3 (P := pts (hsz w2) (lgC d ⟨seg, 0, most, seg, true⟩)) (A := [hsz w2]) ⟨⟨_, b3⟩, rfl⟩ (by simp))
    · rw [if_neg he] at hR
      (repeat refine gg ?_)
      exact hR _ none rfl (At.wrap h2)
theorem r15_Open (h : At w0 F0 (rfHP d s) w) (hi : Inv s) (hn : s.dirs.length < 100000000) (seg at_ : Nat) (ha : at_ < 18446744073709551616) (most : Int)
    (hR : ∀ w' o, o.map (·.2) = (lgOpen s seg at_ most).2.1 → At w0 F0 (stars (sysR d (lgOpen s seg at_ most).1 o)) w' → R (.tuple #[valL o, .int .i64 (lgOpen s seg at_ most).2.2]) w') :
    CALL PR F_tumbrelref15_Open [ptrTo d, .int .u64 (seg : Int), .int .u64 (at_ : Int), .int .i64 most] w R := by
  refine C_tumbrelref15_Open ?_
  unfold M_tumbrelref15_Open
  unfold lgOpen at hR
  have hrs := read_sm hi (sgN seg)
  refine r15_may seg most ?_
  cases hm : mayL seg most with
  | false =>
    rw [hm] at hR
    (repeat refine gg ?_)
    exact hR _ none rfl (At.wrap h)
  | true =>
    rw [hm] at hR
    simp only [if_true] at hR
    have hok := (may_iff.1 hm).1
    have hseg := okS_iff.1 hok
    (repeat refine gg ?_)
    refine r15_file hok fun w1 f1 => ?_
    refine rf_Read (h.fr0 f1) hi.wf (by omega) (sgN seg) fun w2 v2 G2 h2 s2 _ _ => ?_
    generalize Disk.read s (sgN seg) = rd at *
    obtain ⟨bs, e⟩ := rd
    simp only at hR hrs s2 ⊢
    by_cases he : e = 0
    · rw [if_pos he] at hR
      have l2 := s2.len
      have cl := cu64 (n := bs.length) (by omega)
      have fin : ∀ w' s', At w0 F0 (rfHP d s') w' → (∀ w'' o, o.map (·.2) = some ⟨seg, at_, most, seg + 1, false⟩ → At w0 F0 (stars (sysR d s' o)) w'' → R (.tuple #[valL o, .int .i64 0]) w'') →
          BND (binv .int .add (.int .u64 (seg : Int)) (Value.int .u64 1)) fun t51 => BND (buildv #[(Value.pointer none), (Value.int .u64 0), (Value.int .u64 0), (Value.int .i64 0), (Value.int .u64 0), (Value.bool false)] [(0, 1, ptrTo d), (1, 1, .int .u64 (seg : Int)), (2, 1, .int .u64 (at_ : Int)), (3, 1, .int .i64 most), (4, 1, t51)]) fun t52 =>
            NEW (newv 76 w' t52) fun t53 w5 => R (.tuple #[t53, (Value.int .i64 0)]) w5 := by
        intro w' s' h' hk
        (repeat (first | refine BND_step (inc_u (x := seg) (by omega)) ?_ | refine gg ?_ | (apply BND_build (lgC d ⟨seg, at_, most, seg + 1, false⟩); exact rfl)))
        refine NEW_intro fun w3 b3 f3 z3 => ?_
        exact hk _ (some (hsz w', ⟨seg, at_, most, seg + 1, false⟩)) rfl ((At.wrap h').add f3 (P := pts (hsz w') (lgC d ⟨seg, at_, most, seg + 1, false⟩)) (A := [hsz w']) ⟨⟨_, b3⟩, rfl⟩ (by simp))
      by_cases q1 : bs.length < at_
      · rw [if_pos q1] at hR
        (repeat refine gg ?_)
        exact hR _ none rfl (At.wrap h2)
      · rw [if_neg q1] at hR
        by_cases q2 : at_ < bs.length
        · rw [if_pos q2] at hR
          (repeat refine gg ?_)
          refine join_w (fun w' => (cut s (sgN seg) at_).2 = 0 ∧ At w0 F0 (rfHP d (cut s (sgN seg) at_).1) w') (fun K hK => ?_) fun w' hq => ?_
          · (repeat refine gg ?_)
            refine r15_file hok fun w3 f3 => ?_
            (repeat (first | refine BND_step (ci64 (n := at_) (by omega)) ?_ | refine gg ?_))
            refine rf_Cut (h2.fr0 f3) hi.wf (by omega) (sgN seg) at_ fun w4 h4 => ?_
            by_cases hc : (cut s (sgN seg) at_).2 = 0
            · (repeat refine gg ?_)
              exact hK _ ⟨hc, h4⟩
            · rw [if_neg hc] at hR
              (repeat refine gg ?_)
              exact hR _ none rfl (At.wrap h4)
          · rw [if_pos hq.1] at hR
            exact fin w' _ hq.2 hR
        · rw [if_neg q2] at hR
          (repeat refine gg ?_)
          refine join_w (fun w' => w' = w2) (fun K hK => ?_) fun w' hq => ?_
          · (repeat refine gg ?_)
            exact hK _ rfl
          · subst hq
            exact fin w' _ h2 hR
    · rw [if_neg he] at hR
      (repeat refine gg ?_)
      exact hR _ none rfl (At.wrap h2)
theorem r15_turn {K : World → Prop} (h : At w0 F0 (stars [pts p (lgC d l), rfHP d s]) w) (hi : Inv s) (hn : s.dirs.length < 100000000) (hn2 : s.files.length < 100000000) {m : Nat} (hl : LgOk l m)
    (hR0 : (lgTurn s l).2.2 ≠ 0 → ∀ w', At w0 F0 (stars [pts p (lgC d (lgTurn s l).2.1), rfHP d (lgTurn s l).1]) w' → R (.tuple #[.int .u64 0, .int .u64 0, .int .i64 (lgTurn s l).2.2]) w')
    (hK : (lgTurn s l).2.2 = 0 → ∀ w', At w0 F0 (stars [pts p (lgC d (lgTurn s l).2.1), rfHP d (lgTurn s l).1]) w' → K w') :
  BND (nilchk (ptrTo p)) fun t39_95 =>
  BND (faddr 1 t39_95) fun t40_96 =>
  BND (load1 w t40_96) fun t41_97 =>
  BND (binv .int .eql t41_97 (Value.int .u64 9999999999)) fun t42_98 =>
  COND t42_98
  (R (.tuple #[(Value.int .u64 0), (Value.int .u64 0), (Value.int .i64 4)]) w)
  (∃ S_99 : Nat → World → Prop,
  S_99 3 w.drew ∧
  BND (nilchk (ptrTo p)) fun t44_100 =>
  BND (faddr 0 t44_100) fun t45_101 =>
  FLT (S_99 3) (fun w_ => load1 w_ t45_101) fun t46_102 =>
  BND (nilchk (ptrTo p)) fun t48_103 =>
  BND (faddr 1 t48_103) fun t49_104 =>
  BND (load1 w.drew t49_104) fun t50_105 =>
  BND (binv .int .add t50_105 (Value.int .u64 1)) fun t51_106 =>
  CALL PR F_tumbrelref15_file [t51_106] w.drew fun t52_107 w8 =>
  S_99 3 w8 ∧
  CALL PR F_tumbrelref06_Disk_Create [t46_102, t52_107] w8 fun t53_108 w9 =>
  BND (binv .int .neq t53_108 (Value.int .i64 0)) fun t55_109 =>
  COND t55_109
  (R (.tuple #[(Value.int .u64 0), (Value.int .u64 0), t53_108]) w9)
  (BND (nilchk (ptrTo p)) fun t58_110 =>
  BND (faddr 1 t58_110) fun t59_111 =>
  BND (load1 w9 t59_111) fun t60_112 =>
  BND (binv .int .add t60_112 (Value.int .u64 1)) fun t61_113 =>
  BND (nilchk (ptrTo p)) fun t62_114 =>
  BND (faddr 1 t62_114) fun t63_115 =>
  BND (storev 1 w9 t63_115 t61_113) fun w10 =>
  BND (nilchk (ptrTo p)) fun t65_116 =>
  BND (faddr 2 t65_116) fun t66_117 =>
  BND (storev 1 w10 t66_117 (Value.int .u64 0)) fun w11 =>
  BND (nilchk (ptrTo p)) fun t68_118 =>
  BND (faddr 5 t68_118) fun t69_119 =>
  BND (storev 1 w11 t69_119 (Value.bool true)) fun w12 =>
  K w12)) := by
  have hseg := okS_iff.1 hl.seg
  unfold lgTurn at hR0 hK
  obtain ⟨T, b⟩ := h.cell (i := 0) rfl
  unfold ptrTo
  unfold lgC ptrTo at b
  (repeat refine gg ?_)
  by_cases q : l.seg = 9999999999
  · have hk : okS (l.seg + 1) = false := by
      cases hh : okS (l.seg + 1) with
      | false => rfl
      | true => have := okS_iff.1 hh; omega
    rw [hk] at hR0
    have q' : (l.seg : Int) = 9999999999 := by omega
    (repeat refine gg ?_)
    exact hR0 (by simp) _ h
  · have hk : okS (l.seg + 1) = true := okS_iff.2 (by omega)
    rw [hk] at hR0 hK
    simp only [if_true] at hR0 hK
    have q' : ¬ (l.seg : Int) = 9999999999 := by omega
    (repeat refine gg ?_)
    have hd := h.fr0 (Fr.drew [] w)
    obtain ⟨T1, b1⟩ := hd.cell (i := 0) rfl
    unfold lgC ptrTo at b1
    refine ⟨fun _ w' => blk w' p = some (.cells [.pointer (some ⟨d, 0, none⟩), .int .u64 (l.seg : Int), .int .u64 (l.at_ : Int), .int .i64 l.most, .int .u64 (l.dirty : Int), .bool l.begun].toArray T1 (0, 0)), b1, ?_⟩
    (repeat (first | refine BND_step (inc_u (x := l.seg) (by omega)) ?_ | refine gg ?_))
    refine r15_file hk fun w1 f1 => ?_
    have h1 := hd.fr0 f1
    refine ⟨f1.some (by simp) b1, ?_⟩
    obtain ⟨A, z, back⟩ := rg_disk h1
    (repeat refine gg ?_)
    refine rf_Create z hi.wf (by omega) (by omega) (sgN (l.seg + 1)) (sgN_sz hk) fun w2 z2 => ?_
    have h2 := back _ _ z2
    obtain ⟨T2, b2⟩ := h2.cell (i := 0) rfl
    unfold lgC ptrTo at b2
    by_cases he : (create s (sgN (l.seg + 1))).2 = 0
    · rw [if_pos he] at hK
      (repeat (first | refine BND_step (inc_u (x := l.seg) (by omega)) ?_ | refine gg ?_))
      refine h2.store (i := 0) rfl ⟨rfl, rfl⟩ (by simp [lgC]) fun w3 h3 _ => ?_
      (repeat refine gg ?_)
      refine h3.store (i := 0) rfl ⟨rfl, rfl⟩ (by simp [lgC]) fun w4 h4 _ => ?_
      (repeat refine gg ?_)
      refine h4.store (i := 0) rfl ⟨rfl, rfl⟩ (by simp [lgC]) fun w5 h5 _ => ?_
      exact hK rfl _ h5
    · rw [if_neg he] at hR0
      (repeat refine gg ?_)
      exact hR0 he _ h2
theorem r15_put (h : At w0 F0 (stars [pts p (lgC d l), rfHP d s]) w) (hi : Inv s) (hn : s.dirs.length < 1000000000) (hn2 : s.files.length < 1000000000) {m : Nat} (hl : LgOk l m) (hm : m < 1000000000) {v : Value} {bs : List UInt8} {G : List Nat} (sb : Slc encB 1 w0 v bs G) (hG : ∀ b ∈ G, b ∉ F0) (hb : bs.length < 1000000)
    (hR : ∀ w', At w0 F0 (stars [pts p (lgC d (lgPut s l bs).2.1), rfHP d (lgPut s l bs).1]) w' → R (.tuple #[.int .u64 ((lgPut s l bs).2.2.1 : Int), .int .u64 ((lgPut s l bs).2.2.2.1 : Int), .int .i64 (lgPut s l bs).2.2.2.2]) w') :
  ∃ S_61 : Nat → World → Prop,
  S_61 3 w.drew ∧
  BND (nilchk (ptrTo p)) fun t71_62 =>
  BND (faddr 0 t71_62) fun t72_63 =>
  FLT (S_61 3) (fun w_ => load1 w_ t72_63) fun t73_64 =>
  BND (nilchk (ptrTo p)) fun t75_65 =>
  BND (faddr 1 t75_65) fun t76_66 =>
  BND (load1 w.drew t76_66) fun t77_67 =>
  CALL PR F_tumbrelref15_file [t77_67] w.drew fun t78_68 w4 =>
  S_61 3 w4 ∧
  CALL PR F_tumbrelref06_Disk_Append [t73_64, t78_68, v] w4 fun t80_69 w5 =>
  BND (binv .int .neq t80_69 (Value.int .i64 0)) fun t82_70 =>
  COND t82_70
  (R (.tuple #[(Value.int .u64 0), (Value.int .u64 0), t80_69]) w5)
  (BND (nilchk (ptrTo p)) fun t85_71 =>
  BND (faddr 2 t85_71) fun t86_72 =>
  BND (load1 w5 t86_72) fun t87_73 =>
  BND (nilchk (ptrTo p)) fun t90_74 =>
  BND (faddr 2 t90_74) fun t91_75 =>
  BND (load1 w5 t91_75) fun t92_76 =>
  BND (lenl v) fun t94_77 =>
  BND (convi .u64 t94_77) fun t95_78 =>
  BND (binv .int .add t92_76 t95_78) fun t96_79 =>
  BND (nilchk (ptrTo p)) fun t97_80 =>
  BND (faddr 2 t97_80) fun t98_81 =>
  BND (storev 1 w5 t98_81 t96_79) fun w6 =>
  BND (nilchk (ptrTo p)) fun t101_82 =>
  BND (faddr 4 t101_82) fun t102_83 =>
  BND (nilchk (ptrTo p)) fun t105_84 =>
  BND (faddr 1 t105_84) fun t106_85 =>
  BND (load1 w6.drew t102_83) fun t103_86 =>
  BND (load1 w6.drew t106_85) fun t107_87 =>
  BND (min2v t103_86 t107_87) fun t108_88 =>
  BND (nilchk (ptrTo p)) fun t109_89 =>
  BND (faddr 4 t109_89) fun t110_90 =>
  BND (storev 1 w6.drew t110_90 t108_88) fun w7 =>
  BND (nilchk (ptrTo p)) fun t112_91 =>
  BND (faddr 1 t112_91) fun t113_92 =>
  BND (load1 w7 t113_92) fun t114_93 =>
  R (.tuple #[t114_93, t87_73, (Value.int .i64 0)]) w7) := by
  have hat := hl.at_
  have hdd := hl.dirty
  unfold lgPut at hR
  have hd := h.fr0 (Fr.drew [] w)
  obtain ⟨T, b⟩ := hd.cell (i := 0) rfl
  unfold ptrTo
  unfold lgC ptrTo at b
  refine ⟨fun _ w' => blk w' p = some (.cells [.pointer (some ⟨d, 0, none⟩), .int .u64 (l.seg : Int), .int .u64 (l.at_ : Int), .int .i64 l.most, .int .u64 (l.dirty : Int), .bool l.begun].toArray T (0, 0)), b, ?_⟩
  (repeat refine gg ?_)
  refine r15_file hl.seg fun w1 f1 => ?_
  have h1 := hd.fr0 f1
  refine ⟨f1.some (by simp) b, ?_⟩
  have l2 := sb.len
  obtain ⟨A, za, hAa, hA0, back⟩ := At.zoom3 h1 (Fr.refl _ _) 1 rfl
  (repeat refine gg ?_)
  refine rf_Append za hi.wf (by omega) (by omega) (sgN l.seg) (by omega) l2 (fun w' f => ?_) fun w2 z2 => ?_
  · have fw : Fr F0 w0 w' := h1.frame.trans f hA0
    exact (sb.fr fw hG).loads encB_len
  have h2 := back _ _ z2
  simp only [List.set_cons_succ, List.set_cons_zero] at h2
  obtain ⟨T2, b2⟩ := h2.cell (i := 0) rfl
  unfold lgC ptrTo at b2
  by_cases he : (append s (sgN l.seg) bs).2 = 0
  · rw [if_pos he] at hR
    have cl := cu64 (n := bs.length) (by omega)
    have ea := add_u (x := l.at_) (y := bs.length) (by omega)
    have em := min_u l.dirty l.seg
    (repeat refine gg ?_)
    refine h2.store (i := 0) rfl ⟨rfl, rfl⟩ (by simp [lgC]) fun w3 h3 _ => ?_
    have h3d := h3.fr0 (Fr.drew [] w3)
    obtain ⟨T3, b3⟩ := h3d.cell (i := 0) rfl
    replace b3 : blk w3.drew p = some (.cells [.pointer (some ⟨d, 0, none⟩), .int .u64 (l.seg : Int), .int .u64 ((l.at_ + bs.length : Nat) : Int), .int .i64 l.most, .int .u64 (l.dirty : Int), .bool l.begun].toArray T3 (0, 0)) := b3
    (repeat refine gg ?_)
    refine h3d.store (i := 0) rfl ⟨rfl, rfl⟩ (by simp [lgC]) fun w4 h4 _ => ?_
    obtain ⟨T4, b4⟩ := h4.cell (i := 0) rfl
    replace b4 : blk w4 p = some (.cells [.pointer (some ⟨d, 0, none⟩), .int .u64 (l.seg : Int), .int .u64 ((l.at_ + bs.length : Nat) : Int), .int .i64 l.most, .int .u64 ((min l.dirty l.seg : Nat) : Int), .bool l.begun].toArray T4 (0, 0)) := b4
    (repeat refine gg ?_)
    exact hR _ h4
  · rw [if_neg he] at hR
    (repeat refine gg ?_)
    exact hR _ h2
theorem r15_Append (h : At w0 F0 (stars [pts p (lgC d l), rfHP d s]) w) (hi : Inv s) (hn : s.dirs.length < 100000000) (hn2 : s.files.length < 100000000) {m : Nat} (hl : LgOk l m) (hm : m < 1000000000) {nv : SV} {ns : List Nat} (k : Int) (t : ByteArray) (hv : Arr encU 1 w nv.v ns) (hs : ∀ n ∈ ns, n < 18446744073709551616)
    (hR : ∀ w', At w0 F0 (stars [pts p (lgC d (lgAppend s l k ns t.data.toList).2.1), rfHP d (lgAppend s l k ns t.data.toList).1]) w' → R (.tuple #[.int .u64 ((lgAppend s l k ns t.data.toList).2.2.1 : Int), .int .u64 ((lgAppend s l k ns t.data.toList).2.2.2.1 : Int), .int .i64 (lgAppend s l k ns t.data.toList).2.2.2.2]) w') :
    CALL PR F_tumbrelref15_Log_Append [ptrTo p, .agg (encRc (k, nv, t)).toArray] w R := by
  refine C_tumbrelref15_Log_Append ?_
  unfold M_tumbrelref15_Log_Append
  have ets : t.data.toList.length = t.size := Array.length_toList
  unfold lgAppend at hR
  rw [ets] at hR
  refine NEW_intro fun w1 b1 f1 z1 => ?_
  replace b1 : blk w1 (hsz w) = some (.cells (encRc (k, nv, t)).toArray 39 (0, 0)) := b1
  (repeat (first | refine BND_step (loadn_all' b1 rfl) ?_ | refine gg ?_))
  refine r5_Bytes k t (hv.fr f1 (by simp)) hs (fun w2 hno f2 => ?_) fun w2 v2 G2 hyes s2 g2 f2 => ?_
  · rw [hno] at hR
    (repeat refine gg ?_)
    exact hR _ ((h.fr0 f1).fr0 f2)
  · rw [hyes] at hR
    simp only [if_true] at hR
    have hlen := recB_len (k := k) (ns := ns) (t := t.data.toList) (by rw [ets]; exact hyes) hs
    generalize recB k.toNat ns t.data.toList = bs at *
    have s2d := s2.fr (Fr.drew [] w2) (by simp)
    have g2d : ∀ b ∈ G2, hsz w ≤ b := fun b hb => by have := g2 b hb; have := f1.grow; omega
    have hat := hl.at_
    have hlo := hl.lo
    have hhi := hl.hi
    have l2 := s2.len
    obtain ⟨A, hA, hAlt, hA0, back⟩ := At.re3 h ((f1.trans' f2).trans' (Fr.drew [] w2))
    have hGA : ∀ b ∈ G2, b ∉ A := fun b hb hb' => by have := g2d b hb; have := hAlt b hb'; omega
    replace hR := fun w' h' => hR w' (back _ _ h')
    unfold lgB at hR
    obtain ⟨T2, b2⟩ := hA.cell (i := 0) rfl
    unfold ptrTo
    unfold lgC ptrTo at b2
    have ca := ci64 (n := l.at_) (by omega)
    have ea := addn_ (n := l.at_) (m := bs.length) (by omega)
    by_cases q : 0 < l.at_ ∧ l.most < ((l.at_ + bs.length : Nat) : Int)
    · rw [if_pos q] at hR
      have q1 := q.1
      have q2 : l.most < ((l.at_ + bs.length : Nat) : Int) := q.2
      (repeat refine gg ?_)
      refine join_w (fun w' => (lgTurn s l).2.2 = 0 ∧ At w2.drew A (stars [pts p (lgC d (lgTurn s l).2.1), rfHP d (lgTurn s l).1]) w') (fun K hK => ?_) fun w' hq => ?_
      · refine (COND_true _ _).2 ?_
        refine r15_turn hA hi hn hn2 hl (fun he w3 h3 => ?_) fun he w3 h3 => hK _ ⟨he, h3⟩
        rw [if_neg he] at hR
        exact hR _ h3
      · rw [if_pos hq.1] at hR
        have hmo := create_mo s (sgN (l.seg + 1))
        have hto : (lgTurn s l).1.dirs.length ≤ s.dirs.length + 1 ∧ (lgTurn s l).1.files.length ≤ s.files.length + 1 := by
          unfold lgTurn
          split
          · split <;> exact hmo
          · simp
        exact r15_put hq.2 (inv_turn hi l) (by omega) (by omega) (turn_ok hl) hm s2d hGA (by omega) hR
    · rw [if_neg q] at hR
      have fin : ∀ w', w' = w2.drew → At w2.drew A (stars [pts p (lgC d l), rfHP d s]) w' := fun w' e => by rw [e]; exact hA
      by_cases q1 : 0 < l.at_
      · have q2 : ¬ l.most < ((l.at_ + bs.length : Nat) : Int) := fun h => q ⟨q1, h⟩
        (repeat refine gg ?_)
        refine join_w (fun w' => w' = w2.drew) (fun K hK => ?_) fun w' hq => ?_
        · (repeat refine gg ?_)
          exact hK _ rfl
        · exact r15_put (fin w' hq) hi (by omega) (by omega) hl hm s2d hGA (by omega) hR
      · (repeat refine gg ?_)
        refine join_w (fun w' => w' = w2.drew) (fun K hK => ?_) fun w' hq => ?_
        · (repeat refine gg ?_)
          exact hK _ rfl
        · exact r15_put (fin w' hq) hi (by omega) (by omega) hl hm s2d hGA (by omega) hR
theorem r15_Read (h : At w0 F0 (rfHP d s) w) (hi : Inv s) (hn : s.dirs.length < 100000000) (seg at_ : Nat) (ha : at_ < 18446744073709551616)
    (hR : ∀ w' (nv : SV) G, At w0 F0 (rfHP d s) w' → Slc encU 1 w' nv.v (lgRead s seg at_).1.n G → (∀ b ∈ G, hsz w ≤ b) → Fr [] w w' → R (.tuple #[.agg (encRc (((lgRead s seg at_).1.kind : Int), nv, txB (lgRead s seg at_).1.text)).toArray, .int .i64 ((lgRead s seg at_).2.1 : Int), .int .i64 (lgRead s seg at_).2.2]) w') :
    CALL PR F_tumbrelref15_Read [ptrTo d, .int .u64 (seg : Int), .int .u64 (at_ : Int)] w R := by
  refine C_tumbrelref15_Read ?_
  unfold M_tumbrelref15_Read
  unfold lgRead at hR
  have hrs := read_sm hi (sgN seg)
  refine NEW_intro fun w1 b1 f1 z1 => ?_
  have h1 := (At.wrap h).add f1 (P := pts (hsz w) [.int .i64 0, .slice none 0 0, .string ByteArray.empty]) (A := [hsz w]) ⟨⟨_, b1⟩, rfl⟩ (by simp)
  have none_ : ∀ {w2} (e : Int), At w0 F0 (stars [pts (hsz w) [.int .i64 0, .slice none 0 0, .string ByteArray.empty], rfHP d s]) w2 → Fr [] w w2 → (∀ w' (nv : SV) G, At w0 F0 (rfHP d s) w' → Slc encU 1 w' nv.v zeroR.n G → (∀ b ∈ G, hsz w ≤ b) → Fr [] w w' → R (.tuple #[.agg (encRc ((zeroR.kind : Int), nv, txB zeroR.text)).toArray, .int .i64 ((0 : Nat) : Int), .int .i64 e]) w') →
      BND (buildv #[(Value.int .i64 0), (Value.slice none 0 0), (Value.string ByteArray.empty)] []) fun t21 => BND (storev 3 w2 (.pointer (some ⟨hsz w, 0, none⟩)) t21) fun w3 => BND (loadn 3 w3 (.pointer (some ⟨hsz w, 0, none⟩))) fun r => R (.tuple #[r, (Value.int .i64 0), .int .i64 e]) w3 := by
    intro w2 e h2 f02 hR
    (repeat (first | refine gg ?_ | (apply BND_build ([.int .i64 0, .slice none 0 0, .string ByteArray.empty]); exact rfl)))
    refine h2.put (i := 0) rfl rfl rfl (by intro u hu; simp at hu; rcases hu with rfl | rfl | rfl <;> rfl) (by simp) fun w3 h3 f3 => ?_
    obtain ⟨T3, b3⟩ := h3.cell (i := 0) rfl
    (repeat (first | refine BND_step (loadn_all' b3 rfl) ?_ | refine gg ?_))
    exact hR w3 ⟨none, 0, 0⟩ [] (At.unwrap h3.tail) (Slc.nil _ _ _) (by simp) (f02.trans f3 fun b hb => .inr (by simp at hb; omega))
  cases hk : okS seg with
  | false =>
    rw [hk] at hR
    have q : (9999999999 : Int) < (seg : Int) := by
      rcases Nat.lt_or_ge seg 10000000000 with h | h
      · rw [okS_iff.2 h] at hk; cases hk
      · omega
    (repeat refine gg ?_)
    exact none_ 1 h1 f1 hR
  | true =>
    rw [hk] at hR
    simp only [if_true] at hR
    have hseg := okS_iff.1 hk
    have q : ¬ (9999999999 : Int) < (seg : Int) := by omega
    (repeat refine gg ?_)
    refine r15_file hk fun w2 f2 => ?_
    have h2 := h1.fr0 f2
    have f02 := f1.trans' f2
    obtain ⟨A, z, back⟩ := At.zoom h2 1 rfl
    refine rf_Read z hi.wf (by omega) (sgN seg) fun w4 v4 G4 z4 s4 g4 f4 => ?_
    have h4 := back _ _ z4
    simp only [List.set_cons_succ, List.set_cons_zero] at h4
    have f04 := f02.trans' f4
    generalize Disk.read s (sgN seg) = rd at *
    obtain ⟨bs, e⟩ := rd
    simp only at hR hrs s4 ⊢
    by_cases he : e = 0
    · rw [if_pos he] at hR
      have l4 := s4.len
      have cl := cu64 (n := bs.length) (by omega)
      by_cases q1 : bs.length ≤ at_
      · have q1' : ((bs.length : Nat) : Int) ≤ (at_ : Int) := by omega
        have hz : (if bs.length < at_ then (zeroR, 0, 3) else firstR (recAll (bs.drop at_))) = (zeroR, 0, 3) := by
          by_cases h0 : bs.length < at_
          · rw [if_pos h0]
          · rw [if_neg h0, List.drop_eq_nil_of_le q1]
            unfold recAll
            rw [frAll_nil]; rfl
        rw [hz] at hR
        (repeat refine gg ?_)
        exact none_ 3 h4 f04 hR
      · have q1' : ¬ ((bs.length : Nat) : Int) ≤ (at_ : Int) := by omega
        rw [if_neg (by omega)] at hR
        obtain ⟨pv, ep, sp⟩ : ∃ pv, slicev 1 v4 (some (.int .u64 (at_ : Int))) none = some pv ∧ ArrC encB 1 w4 pv (bs.drop at_) := by
          obtain ⟨pv, e1, e2⟩ := s4.arrC.from (lo := at_) (by omega)
          exact ⟨pv, (slicev_u _ _ _).trans e1, e2⟩
        have hne : bs.drop at_ ≠ [] := by
          intro h0
          have := congrArg List.length h0
          rw [List.length_drop, List.length_nil] at this
          omega
        have hno := recAll_none hne
        (repeat refine gg ?_)
        refine r5_All sp (by rw [List.length_drop]; omega) fun w7 v7 ev7 G7 B7 E7 rl se gG gB gE f7 => ?_
        have h7 := h4.fr0 f7
        have f07 := f04.trans' f7
        have hlen := recAll_ends (bs.drop at_)
        have rll := rl.len
        generalize recAll (bs.drop at_) = ra at *
        by_cases q2 : 0 < ra.1.length
        · obtain ⟨sv, bv, be, x, en, ex, ee, i1, i2, rfl, rfl, ld, le, H, sh, hH⟩ := recs_first rl se hlen q2
          have hfirst : firstR ra = (x, en, 0) := by
            obtain ⟨l1, l2, e3⟩ := ra
            unfold firstR
            cases l1 with
            | nil => simp at ex
            | cons a r =>
              cases l2 with
              | nil => simp at ee
              | cons b r2 =>
                simp at ex ee
                subst ex; subst ee
                rfl
          rw [hfirst] at hR
          have q2' : ¬ ((ra.1.length : Nat) : Int) = 0 := by omega
          (repeat refine gg ?_)
          refine ⟨fun _ w' => load1 w' (.pointer (some ⟨be, 0, none⟩)) = some (.int .i64 (en : Int)), le _ rfl, ?_⟩
          (repeat (first | refine BND_step (ld w7.drew rfl) ?_ | refine gg ?_ | refine FLT.mk _ (fun _ hw_ => hw_) ?_))
          have h7d := h7.fr0 (Fr.drew [] w7)
          refine h7d.put (i := 0) rfl rfl (encRc_len _) (encRc_one _) (by simp [encRc]) fun w8 h8 f8 => ?_
          have gr := (f04.trans' f7).grow
          have gr0 := f04.grow
          have gr1 := (f2.trans' f4).grow
          have bne : be ≠ hsz w := fun e => by have := gE be (by simp); have := f1.grow; omega
          refine ⟨?_, ?_⟩
          · exact le w8 (f8.keep be (by have := se.lt be (by simp); exact this) (by simpa using bne))
          obtain ⟨T8, b8⟩ := h8.cell (i := 0) rfl
          (repeat (first | refine BND_step (loadn_all' b8 (encRc_len _)) ?_ | refine gg ?_))
          refine hR w8 sv H (At.unwrap h8.tail) ((sh.fr (Fr.drew [] w7) (by simp)).fr f8 fun b hb hb' => ?_) (fun b hb => ?_) ((f07.trans' (Fr.drew [] w7)).trans f8 fun b hb => .inr (by simp at hb; omega))
          · have := gB b (hH b hb); simp at hb'; omega
          · have := gB b (hH b hb); omega
        · have hz : ra.1 = [] := List.length_eq_zero_iff.1 (by omega)
          have hn0 := hno (by omega)
          have hfirst : firstR ra = (zeroR, 0, ra.2.2) := by
            obtain ⟨l1, l2, e3⟩ := ra
            simp at hz; subst hz
            unfold firstR
            simp only at hn0 ⊢
            rw [if_neg hn0]
          rw [hfirst] at hR
          have q2' : ((ra.1.length : Nat) : Int) = 0 := by omega
          (repeat refine gg ?_)
          exact none_ _ h7 f07 hR
    · rw [if_neg he] at hR
      (repeat refine gg ?_)
      exact none_ e h4 f04 hR
theorem r15_Sync (h : At w0 F0 (stars [pts p (lgC d l), rfHP d s]) w) (hi : Inv s) (hn : s.dirs.length < 100000000) {m : Nat} (hl : LgOk l m)
    (hR : ∀ w', At w0 F0 (stars [pts p (lgC d (lgSync s l).2.1), rfHP d (lgSync s l).1]) w' → R (.int .i64 (lgSync s l).2.2) w') : CALL PR F_tumbrelref15_Log_Sync [ptrTo p] w R := by
  refine C_tumbrelref15_Log_Sync ?_
  unfold M_tumbrelref15_Log_Sync
  have hseg := okS_iff.1 hl.seg
  have hdd := hl.dirty
  obtain ⟨T, c⟩ := h.cell (i := 0) rfl
  unfold lgC ptrTo at c
  unfold ptrTo
  (repeat refine gg ?_)
  unfold lgSync at hR
  simp only at hR
  generalize hN : l.seg + 1 - l.dirty = N at *
  refine ⟨fun t w' => ∃ (i : Nat) (s' : Dk), t = .int .u64 ((l.dirty + i : Nat) : Int) ∧ i ≤ N ∧ At w0 F0 (stars [pts p (lgC d l), rfHP d s']) w' ∧ Inv s' ∧ s'.dirs.length < 100000000 ∧ syncs N l.dirty s = syncs (N - i) (l.dirty + i) s', fun t _ => match t with | .int _ k => l.dirty + N - k.toNat | _ => 0, ⟨0, s, rfl, by omega, h, hi, hn, rfl⟩, ?_⟩
  rintro _ _ w1 ⟨i, s', rfl, hiN, h1, hi1, hn1, hsy⟩
  obtain ⟨T1, c1⟩ := h1.cell (i := 0) rfl
  unfold lgC ptrTo at c1
  by_cases hlt : i < N
  · have hle : ((l.dirty + i : Nat) : Int) ≤ (l.seg : Int) := by omega
    have hok : okS (l.dirty + i) = true := okS_iff.2 (by omega)
    (repeat refine gg ?_)
    have h1d := h1.fr0 (Fr.drew [] w1)
    obtain ⟨T3, c3⟩ := h1d.cell (i := 0) rfl
    unfold lgC ptrTo at c3
    refine ⟨fun _ w' => blk w' p = some (.cells [.pointer (some ⟨d, 0, none⟩), .int .u64 (l.seg : Int), .int .u64 (l.at_ : Int), .int .i64 l.most, .int .u64 (l.dirty : Int), .bool l.begun].toArray T3 (0, 0)), c3, ?_⟩
    (repeat refine gg ?_)
    refine r15_file hok fun w2 f2 => ?_
    have h2 := h1d.fr0 f2
    refine ⟨f2.some (by simp) c3, ?_⟩
    obtain ⟨A, z, back⟩ := rg_disk h2
    (repeat refine gg ?_)
    refine rf_Sync z hi1.wf (by omega) (sgN (l.dirty + i)) fun w3 z3 => ?_
    have h3 := back _ _ z3
    obtain ⟨j, hj⟩ : ∃ j, N - i = j + 1 := ⟨N - i - 1, by omega⟩
    rw [hj] at hsy
    rw [syncs_succ] at hsy
    by_cases he : (sync s' (sgN (l.dirty + i))).2 = 0
    · rw [if_pos he] at hsy
      (repeat (first | refine BND_step (inc_u (x := l.dirty + i) (by omega)) ?_ | refine gg ?_))
      have := sync_same' s' (sgN (l.dirty + i))
      refine ⟨⟨i + 1, _, by rw [Nat.add_assoc], by omega, h3, inv_sync hi1 _, by omega, ?_⟩, by simp only [Int.toNat_natCast]; omega⟩
      rw [hsy, show N - (i + 1) = j by omega, Nat.add_assoc]
    · rw [if_neg he] at hsy
      rw [hsy, if_neg he] at hR
      (repeat refine gg ?_)
      exact hR _ h3
  · have hiN' : i = N := by omega
    subst hiN'
    rw [Nat.sub_self] at hsy
    rw [syncs_zero] at hsy
    rw [hsy] at hR
    simp only [if_true] at hR
    have hle : ¬ ((l.dirty + i : Nat) : Int) ≤ (l.seg : Int) := by omega
    (repeat refine gg ?_)
    have fin : ∀ (s2 : Dk) w', At w0 F0 (stars [pts p (lgC d l), rfHP d s2]) w' → (∀ w'', At w0 F0 (stars [pts p (lgC d { l with dirty := l.seg + 1, begun := false }), rfHP d s2]) w'' → R (.int .i64 0) w'') →
        BND (nilchk (ptrTo p)) fun t62 => BND (faddr 1 t62) fun t63 => BND (load1 w' t63) fun t64 => BND (binv .int .add t64 (Value.int .u64 1)) fun t65 => BND (nilchk (ptrTo p)) fun t66 => BND (faddr 4 t66) fun t67 => BND (storev 1 w' t67 t65) fun w5 =>
          BND (nilchk (ptrTo p)) fun t68 => BND (faddr 5 t68) fun t69 => BND (storev 1 w5 t69 (Value.bool false)) fun w6 => R (Value.int .i64 0) w6 := by
      intro s2 w' h' hk
      obtain ⟨T', c'⟩ := h'.cell (i := 0) rfl
      unfold lgC ptrTo at c'
      unfold ptrTo
      (repeat (first | refine BND_step (inc_u (x := l.seg) (by omega)) ?_ | refine gg ?_))
      refine h'.store (i := 0) rfl ⟨rfl, rfl⟩ (by simp [lgC]) fun w5 h5 _ => ?_
      (repeat refine gg ?_)
      refine h5.store (i := 0) rfl ⟨rfl, rfl⟩ (by simp [lgC]) fun w6 h6 _ => ?_
      exact hk _ h6
    cases hbg : l.begun with
    | false =>
      rw [hbg] at hR
      simp only [Bool.false_eq_true, if_false] at hR
      refine join_w (fun w' => w' = w1) (fun K hK => ?_) fun w' hq => ?_
      · (repeat refine gg ?_)
        exact hK _ rfl
      · rw [hq]
        exact fin s' w1 h1 hR
    | true =>
      rw [hbg] at hR
      simp only [if_true] at hR
      refine join_w (fun w' => (dirsync s').2 = 0 ∧ At w0 F0 (stars [pts p (lgC d l), rfHP d (dirsync s').1]) w') (fun K hK => ?_) fun w' hq => ?_
      · obtain ⟨A, z, back⟩ := rg_disk h1
        (repeat refine gg ?_)
        refine rf_DirSync z hi1.wf (by omega) fun w3 z3 => ?_
        have h3 := back _ _ z3
        by_cases he : (dirsync s').2 = 0
        · (repeat refine gg ?_)
          exact hK _ ⟨he, h3⟩
        · rw [if_neg he] at hR
          (repeat refine gg ?_)
          exact hR _ h3
      · rw [if_pos hq.1] at hR
        exact fin _ w' hq.2 hR
end
end Go.Proofs.YtofllgbdphakiaaGreatDoor
end

section
namespace Go.Proofs.YtofllgbdphakiaaGreatDoor
open Go.Den Go.Disk Go.Nm Go.Rec Go.Frame Go.Vint Go.Crc Go.Sg Go.Ev
theorem At.sink3 {w0 w : World} {F0 : List Nat} {P Q1 Q2 : HP} {L : List HP} (h : At w0 F0 (stars [P, Q1, Q2, stars L]) w) : At w0 F0 (stars [Q1, Q2, stars (P :: L)]) w := by
  obtain ⟨F, ⟨A, _, p1, ⟨B, _, p2, ⟨C, _, p3, ⟨D, _, p4, ⟨_, rfl⟩, rfl, _⟩, rfl, d3⟩, rfl, d2⟩, rfl, d1⟩, hF, fr⟩ := h
  refine ⟨B ++ (C ++ ((A ++ D) ++ [])), ⟨B, _, p2, ⟨C, _, p3, ⟨A ++ D, [], ⟨A, D, p1, p4, rfl, fun b hb hd => d1 b hb (by simp [hd])⟩, ⟨trivial, rfl⟩, rfl, by simp⟩, rfl, fun b hb hd => ?_⟩, rfl, fun b hb hd => ?_⟩, fun b hb => hF b ?_, fr⟩
  · simp at hd
    rcases hd with hd | hd
    · exact d1 b hd (by simp [hb])
    · exact d3 b hb (by simp [hd])
  · simp at hd
    rcases hd with hd | hd | hd
    · exact d2 b hb (by simp [hd])
    · exact d1 b hd (by simp [hb])
    · exact d2 b hb (by simp [hd])
  · simp at hb ⊢
    rcases hb with h | h | h | h
    · exact .inr (.inl h)
    · exact .inr (.inr (.inl h))
    · exact .inl h
    · exact .inr (.inr (.inr h))
theorem At.put3 {w0 w : World} {F0 : List Nat} {ps : List HP} {i b : Nat} {a0 a1 a2 a3 a4 a5 a6 v3 v4 v5 : Value} {K : World → Prop} (h : At w0 F0 (stars ps) w) (hi : ps[i]? = some (pts b [a0, a1, a2, a3, a4, a5, a6])) (h1 : ∀ u ∈ [v3, v4, v5], u.oneCell' = true)
    (hK : ∀ w', At w0 F0 (stars (ps.set i (pts b [a0, a1, a2, v3, v4, v5, a6]))) w' → K w') : BND (storev 3 w (.pointer (some ⟨b, 3, none⟩)) (.agg [v3, v4, v5].toArray)) K := by
  obtain ⟨A, ⟨⟨T, c⟩, rfl⟩, upd⟩ := h.upd i hi
  refine BND_step (storevn_blk (o := 3) c rfl (by simp) h1 (by simp)) ?_
  refine hK _ (upd _ [b] (pts b [a0, a1, a2, v3, v4, v5, a6]) ⟨⟨T, ?_⟩, rfl⟩ (Fr.setB (.inl (by simp)) _) (fun _ hb => .inl hb))
  rw [blk_setB_same c]
  congr 2
theorem nil_ne_nil : binv .ptr .neq (.pointer none) (.pointer none) = some (.bool false) := rfl
theorem loadn_rec {w : World} {b T : Nat} {f : Nat × Nat} {x : FS} (h : blk w b = some (.cells (encFS x).toArray T f)) : loadn 3 w (.pointer (some ⟨b, 4, none⟩)) = some (.agg (encRc (x.k, x.nv, x.tx)).toArray) := by
  rw [loadn_blk h (by simp [encFS])]
  rfl
set_option linter.unusedSimpArgs false
set_option linter.unusedVariables false
set_option maxRecDepth 20000
set_option maxHeartbeats 4000000
attribute [local congr] BND_cg COND_cg GEF_cg
attribute [local irreducible] capl slicea load1 loadn iaddr iaddra faddr storev newslice binv lookv mupd mdel mlenv mentry mestore slicev slicev3 slices indexs indexav textv rangev nexts clearv shiftv eqaggv convi buildv pickv lens lenl unv nilchk extractv partn JOIN
section
variable {w0 w w' : World} {F0 : List Nat} {d p : Nat} {s : Dk} {l : Lg} {o : Option (Nat × Lg)} {R : Value → World → Prop}
theorem sysL_disk (h : At w0 F0 (stars (sysL d s o)) w) : ∃ A, At w A (diskHP d s) w ∧ (∀ b ∈ A, b ∈ F0 ∨ hsz w0 ≤ b) ∧ ∀ w2 s2, At w A (diskHP d s2) w2 → At w0 F0 (stars (sysL d s2 o)) w2 := by
  obtain _ | ⟨p, l⟩ := o
  · obtain ⟨A, z, _, zA, back⟩ := At.zoom3 h (Fr.refl _ _) 0 rfl
    exact ⟨A, z, zA, fun w2 s2 h2 => back w2 _ h2⟩
  · obtain ⟨A, z, _, zA, back⟩ := At.zoom3 h (Fr.refl _ _) 1 rfl
    exact ⟨A, z, zA, fun w2 s2 h2 => back w2 _ h2⟩
theorem sysL_drop (h : At w0 F0 (stars (sysL d s o)) w) : At w0 F0 (diskHP d s) w := by
  obtain _ | ⟨p, l⟩ := o
  · exact At.unwrap h
  · exact At.unwrap (At.tail h)
theorem sg_do (hT : TabS w0 F0) (h : At w0 F0 (stars (sysL d s o)) w) (hi : Inv s) (hn : s.dirs.length < 10000000) (hn2 : s.files.length < 10000000) {m : Nat} (ho : ∀ l, o.map (·.2) = some l → LgOk l m) (hm : m < 100000000) (x : FS) (hx : ∀ w', Fr F0 w0 w' → FsE w' x) (size : Int)
    (hR : ∀ w' o' sv, o'.map (·.2) = (actS s (o.map (·.2)) x size).2.1 → At w0 F0 (stars (slc encU 1 sv.v (actS s (o.map (·.2)) x size).2.2.r.n :: sysL d (actS s (o.map (·.2)) x size).1 o')) w' → R (.tuple #[valL o', .agg (encTd (actS s (o.map (·.2)) x size).2.2 sv).toArray]) w') :
    CALL PR F_tumbrellaw15_do [ptrTo d, valL o, .agg (encFS x).toArray, .int .i64 size] w R := by
  refine C_tumbrellaw15_do ?_
  unfold M_tumbrellaw15_do
  refine NEW_intro fun w1 b1 f1 z1 => ?_
  replace b1 : blk w1 (hsz w) = some (.cells (encFS x).toArray 59 (0, 0)) := b1
  have h1' := h.fr0 f1
  obtain ⟨A, h1, zlt, zA, back⟩ := At.re3 h f1
  have hT1 : TabS w1 A := fun w' fr => hT w' (h1'.frame.trans fr zA)
  have hx1 : ∀ w', Fr A w1 w' → FsE w' x := fun w' fr => hx w' (h1'.frame.trans fr zA)
  have nx : hsz w ∉ A := fun hb => by have := zlt _ hb; omega
  refine NEW_intro fun w2 b2 f2 z2 => NEW_intro fun w3 b3 f3 z3 => ?_
  have h2 : At w1 A (stars [pts (hsz w1) (encTd td0 sv0), stars (sysL d s o)]) w2 := (At.wrap h1).add f2 (P := pts (hsz w1) (encTd td0 sv0)) (A := [hsz w1]) ⟨⟨_, b2⟩, rfl⟩ (by simp)
  have h3 : At w1 A (stars [pts (hsz w2) (encTd td0 sv0), pts (hsz w1) (encTd td0 sv0), stars (sysL d s o)]) w3 := h2.add f3 (P := pts (hsz w2) (encTd td0 sv0)) (A := [hsz w2]) ⟨⟨_, b3⟩, rfl⟩ (by simp)
  have b3x := (f2.trans' f3).some (by simp) b1
  obtain ⟨Q, hQ⟩ : ∃ Q : Value → World → Prop, Q = fun v w' => ∃ o' sv, v = valL o' ∧ o'.map (·.2) = (actS s (o.map (·.2)) x size).2.1 ∧ At w1 A (stars [pts (hsz w2) (encTd (actS s (o.map (·.2)) x size).2.2 sv), pts (hsz w1) (encTd td0 sv0), stars (slc encU 1 sv.v (actS s (o.map (·.2)) x size).2.2.r.n :: sysL d (actS s (o.map (·.2)) x size).1 o')]) w' := ⟨_, rfl⟩
  have mk2 : ∀ w' o' sv, o'.map (·.2) = (actS s (o.map (·.2)) x size).2.1 → At w1 A (stars [pts (hsz w2) (encTd (actS s (o.map (·.2)) x size).2.2 sv), pts (hsz w1) (encTd td0 sv0), stars (slc encU 1 sv.v (actS s (o.map (·.2)) x size).2.2.r.n :: sysL d (actS s (o.map (·.2)) x size).1 o')]) w' → Q (valL o') w' := by
    intro w' o' sv ho' h'
    rw [hQ]
    exact ⟨o', sv, rfl, ho', h'⟩
  have mk : (actS s (o.map (·.2)) x size).2.2.r.n = [] → ∀ w' o', o'.map (·.2) = (actS s (o.map (·.2)) x size).2.1 → At w1 A (stars [pts (hsz w2) (encTd (actS s (o.map (·.2)) x size).2.2 sv0), pts (hsz w1) (encTd td0 sv0), stars (sysL d (actS s (o.map (·.2)) x size).1 o')]) w' → Q (valL o') w' := by
    intro hr w' o' ho' h'
    refine mk2 w' o' sv0 ho' ?_
    obtain ⟨A', z', back'⟩ := At.zoom h' 2 rfl
    refine back' w' _ ?_
    exact z'.add0 (P := slc encU 1 sv0.v (actS s (o.map (·.2)) x size).2.2.r.n) (show Slc encU 1 w' sv0.v _ [] from .inl ⟨rfl, hr, rfl⟩)
  (repeat refine gg ?_)
  refine join_v Q (fun K hK => ?_) ?_
  · by_cases q0 : x.dn = 0
    · simp only [actS, if_pos q0] at mk
      obtain _ | ⟨p, l⟩ := o
      · unfold valL
        have nn := nil_ne_nil
        (repeat refine gg ?_)
        refine join_w (fun w' => Q (.pointer none) w') (fun K1 hK1 => ?_) (fun w' hq => hK _ _ hq)
        (repeat refine gg ?_)
        exact hK1 _ (mk rfl _ none rfl h3)
      · unfold valL
        have nn := ptr_nnilS (d := p)
        (repeat refine gg ?_)
        refine join_w (fun w' => Q (ptrTo p) w') (fun K1 hK1 => ?_) (fun w' hq => hK _ _ hq)
        have e3 := loadn_rec b3x
        (repeat refine gg ?_)
        obtain ⟨A7, z7, _, zA7, back7⟩ := At.zoom3 h3 (Fr.refl _ _) 2 rfl
        have hx3 := hx1 _ h3.frame
        refine sg_Append (fun w' fr => hT1 w' (h3.frame.trans fr zA7)) z7 hi (by omega) (by omega) (ho l rfl) (by omega) x.k x.tx hx3.ns hx3.sm fun w7 z7' => ?_
        have h7 := back7 _ _ z7'
        (repeat refine gg ?_)
        refine h7.store (i := 0) rfl ⟨rfl, rfl⟩ (by simp [encTd]) fun w8 h8 _ => ?_
        (repeat refine gg ?_)
        refine h8.store (i := 0) rfl ⟨rfl, rfl⟩ (by simp [encTd]) fun w9 h9 _ => ?_
        (repeat refine gg ?_)
        refine h9.store (i := 0) rfl ⟨rfl, rfl⟩ (by simp [encTd]) fun w10 h10 _ => ?_
        exact hK1 _ (mk rfl _ (some (p, _)) rfl h10)
    (repeat refine gg ?_)
    refine join_v Q (fun K1 hK1 => ?_) hK
    by_cases q1 : x.dn = 1
    · simp only [actS, if_neg q0, if_pos q1] at mk mk2
      obtain _ | ⟨p, l⟩ := o
      · unfold valL
        have nn := nil_ne_nil
        (repeat refine gg ?_)
        refine join_w (fun w' => Q (.pointer none) w') (fun K2 hK2 => ?_) (fun w' hq => hK1 _ _ hq)
        (repeat refine gg ?_)
        exact hK2 _ (mk rfl _ none rfl h3)
      · unfold valL
        have nn := ptr_nnilS (d := p)
        (repeat refine gg ?_)
        refine join_w (fun w' => Q (ptrTo p) w') (fun K2 hK2 => ?_) (fun w' hq => hK1 _ _ hq)
        (repeat refine gg ?_)
        refine NEW_intro fun w4 b4 f4 z4 => ?_
        have h4 := h3.add f4 (P := pts (hsz w3) (encRc (0, sv0, ByteArray.empty))) (A := [hsz w3]) ⟨⟨_, b4⟩, rfl⟩ (by simp)
        have b4x := f4.some (by simp) b3x
        (repeat refine gg ?_)
        obtain ⟨A5, z5, _, zA5, back5⟩ := At.zoom3 h4 (Fr.refl _ _) 3 rfl
        have hx4 := hx1 _ h4.frame
        refine sg_Read (fun w' fr => hT1 w' (h4.frame.trans fr zA5)) z5 hi (by omega) x.seg x.at_ hx4.seg hx4.at_ fun w5 nv G _ s5 g5 f5 => ?_
        have hlen := lgRead_n s x.seg x.at_
        obtain ⟨rd, hrd⟩ : ∃ rd, lgRead s x.seg x.at_ = rd := ⟨_, rfl⟩
        rw [hrd] at s5 hlen mk2 ⊢
        have h5 := h4.add f5 (P := slc encU 1 nv.v rd.1.n) s5 g5
        (repeat refine gg ?_)
        refine h5.put (i := 1) rfl (encRc_len _) (encRc_len _) (encRc_one _) (by simp [encRc]) fun w6 h6 _ => ?_
        (repeat refine gg ?_)
        refine h6.store (i := 2) rfl ⟨rfl, rfl⟩ (by simp [encTd]) fun w7 h7 _ => ?_
        (repeat refine gg ?_)
        refine h7.store (i := 2) rfl ⟨rfl, rfl⟩ (by simp [encTd]) fun w8 h8 _ => ?_
        obtain ⟨T8, b8⟩ := h8.cell (i := 1) rfl
        have e8 := loadn_all' b8 (encRc_len _)
        (repeat refine gg ?_)
        refine At.put3 (i := 2) (v3 := .int .i64 (rd.1.kind : Int)) (v4 := nv.v) (v5 := .string (txB rd.1.text)) h8 rfl (encRc_one ((rd.1.kind : Int), nv, txB rd.1.text)) fun w9 h9 => ?_
        have b9x := h9.frame.some nx b1
        (repeat refine gg ?_)
        obtain ⟨A9, z9, _, zA9, back9⟩ := At.zoom3 h9 (Fr.refl _ _) 4 rfl
        obtain ⟨B9, y9, yB9, _⟩ := sysL_disk (o := some (p, l)) z9
        have hx9 := hx1 _ h9.frame
        have up9 : ∀ b ∈ B9, b ∈ A ∨ hsz w1 ≤ b := fun b hb => (yB9 b hb).elim (zA9 b) fun h => .inr (by have := h9.frame.grow; omega)
        refine sg_At (fun w' fr => hT1 w' (h9.frame.trans fr up9)) y9 hi (by omega) x.seg x.at_ hx9.seg hx9.at_ fun w10 nv2 G2 _ s10 g10 f10 => ?_
        rw [hrd] at s10 ⊢
        have h10 := h9.fr0 f10
        (repeat refine gg ?_)
        refine box_step (n := 3) (zs := [_, _, _]) (vs := encRc ((rd.1.kind : Int), nv2, txB rd.1.text)) rfl rfl (encRc_one _) (by simp [encRc]) fun w11 b11 f11 z11 => ?_
        have h11 := h10.fr0 f11
        obtain ⟨T11, c11⟩ := h11.cell (i := 1) rfl
        have e11 := loadn_all' b11 (encRc_len _)
        have e12 := loadn_all' c11 (encRc_len _)
        (repeat refine gg ?_)
        obtain ⟨_, sn, _⟩ := h11.slc1 (i := 0) rfl
        refine rq_Same (ns := rd.1.n) (s10.fr f11 (by simp)).arr sn.arr (by omega) fun w12 f12 => ?_
        have h12 := h11.fr0 f12
        obtain ⟨T12, c12⟩ := h12.cell (i := 2) rfl
        (repeat refine gg ?_)
        refine join_w (fun w' => w' = w12) (fun K3 hK3 => ?_) (fun w' hq => ?_)
        · (repeat refine gg ?_)
          exact hK3 _ rfl
        · subst hq
          exact hK2 _ (mk2 _ (some (p, l)) nv rfl (At.sink3 (At.tail (At.swap h12))))
    (repeat refine gg ?_)
    refine join_v Q (fun K2 hK2 => ?_) hK1
    by_cases q2 : x.dn = 2
    · simp only [actS, if_neg q0, if_neg q1, if_pos q2] at mk
      obtain _ | ⟨p, l⟩ := o
      · unfold valL
        have nn := nil_ne_nil
        (repeat refine gg ?_)
        refine join_w (fun w' => Q (.pointer none) w') (fun K3 hK3 => ?_) (fun w' hq => hK2 _ _ hq)
        (repeat refine gg ?_)
        exact hK3 _ (mk rfl _ none rfl h3)
      · unfold valL
        have nn := ptr_nnilS (d := p)
        (repeat refine gg ?_)
        refine join_w (fun w' => Q (ptrTo p) w') (fun K3 hK3 => ?_) (fun w' hq => hK2 _ _ hq)
        (repeat refine gg ?_)
        obtain ⟨A7, z7, _, zA7, back7⟩ := At.zoom3 h3 (Fr.refl _ _) 2 rfl
        refine sg_Sync (fun w' fr => hT1 w' (h3.frame.trans fr zA7)) z7 hi (by omega) (ho l rfl) fun w7 z7' => ?_
        have h7 := back7 _ _ z7'
        (repeat refine gg ?_)
        refine h7.store (i := 0) rfl ⟨rfl, rfl⟩ (by simp [encTd]) fun w8 h8 _ => ?_
        exact hK3 _ (mk rfl _ (some (p, _)) rfl h8)
    (repeat refine gg ?_)
    refine join_v Q (fun K3 hK3 => ?_) hK2
    obtain ⟨A7, z7, _, zA7, back7⟩ := At.zoom3 h3 (Fr.refl _ _) 2 rfl
    obtain ⟨B7, y7, yB7, backd⟩ := sysL_disk z7
    have hx3 := hx1 _ h3.frame
    have up7 : ∀ b ∈ B7, b ∈ A ∨ hsz w1 ≤ b := fun b hb => (yB7 b hb).elim (zA7 b) fun h => .inr (by have := h3.frame.grow; omega)
    by_cases q3 : x.dn = 3
    · simp only [actS, if_neg q0, if_neg q1, if_neg q2, if_pos q3] at mk
      (repeat refine gg ?_)
      refine dk_Fuse y7 x.n fun w8 z8 => ?_
      exact hK3 _ _ (mk rfl _ o rfl (back7 _ _ (backd _ _ z8)))
    (repeat refine gg ?_)
    refine join_v Q (fun K4 hK4 => ?_) hK3
    by_cases q4 : x.dn = 4
    · simp only [actS, if_neg q0, if_neg q1, if_neg q2, if_neg q3, if_pos q4] at mk
      (repeat refine gg ?_)
      refine dk_Crash y7 hi.wf (by omega) x.n (tails := x.tails) (fun w' fr => (hx1 w' (h3.frame.trans fr up7)).tails) fun w8 z8 => ?_
      have h8 := sysL_drop (backd _ _ z8)
      have b8x := (back7 _ _ (backd _ _ z8)).frame.some nx b1
      (repeat refine gg ?_)
      have hcl : (crash s x.n x.tails).dirs.length = 1 := by simp [crash]
      refine sg_Open (fun w' fr => hT1 w' (h3.frame.trans fr zA7)) h8 (inv_crash hi _ _) (by omega) x.seg x.at_ hx3.seg hx3.at_ size fun w9 o' ho' z9 => ?_
      have h9 := back7 _ _ z9
      (repeat refine gg ?_)
      refine h9.store (i := 0) rfl ⟨rfl, rfl⟩ (by simp [encTd]) fun w10 h10 _ => ?_
      exact hK4 _ _ (mk rfl _ o' ho' h10)
    · simp only [actS, if_neg q0, if_neg q1, if_neg q2, if_neg q3, if_neg q4] at mk
      (repeat refine gg ?_)
      refine dk_Create y7 hi.wf (by omega) naA fun w8 z8 => ?_
      refine mkB 20 (by omega) _ w8 fun t9 w9 s9 f9 zz9 => ?_
      obtain ⟨C9, y9, lt9, up9, back9⟩ := At.re3 z8 f9
      have l9 := s9.len
      have mo := create_mo s naA
      have cf : ∀ w', Fr C9 w9 w' → cellsOfArg w' 1 t9 = some (flat encB (List.replicate 20 0), (List.replicate 20 (0 : UInt8)).length) := fun w' fr => (s9.fr fr (fun b hb hb' => by have := lt9 b hb'; simp at hb; omega)).loads encB_len
      (repeat refine gg ?_)
      refine dk_Append y9 (wf_create hi.wf _) (by omega) (by omega) naA (bs := List.replicate 20 0) (by simp) l9 cf fun w10 z10 => ?_
      have h10 := back7 _ _ (backd _ _ (back9 _ _ z10))
      (repeat refine gg ?_)
      refine h10.store (i := 0) rfl ⟨rfl, rfl⟩ (by simp [encTd]) fun w11 h11 _ => ?_
      exact hK4 _ _ (mk rfl _ o rfl h11)
  rw [hQ]
  rintro v w4 ⟨o', sv, rfl, ho', h4⟩
  have h4d := h4.fr0 (Fr.drew [] w4)
  obtain ⟨T4, c4⟩ := h4d.cell (i := 0) rfl
  have e4 := loadn_all' c4 (encTd_len _ _)
  (repeat refine gg ?_)
  refine h4d.put (i := 1) rfl (encTd_len _ _) (encTd_len _ _) (encTd_one _ _) (by simp [encTd]) fun w5 h5 _ => ?_
  obtain ⟨T5, c5⟩ := h5.cell (i := 1) rfl
  have e5 := loadn_all' c5 (encTd_len _ _)
  (repeat refine gg ?_)
  exact hR _ o' sv ho' (back _ _ (At.unwrap (At.tail (At.tail h5))))
end
end Go.Proofs.YtofllgbdphakiaaGreatDoor
end

section
namespace Go.Proofs.YtofllgbdphakiaaGreatDoor
open Go.Den Go.Disk Go.Nm Go.Rec Go.Frame Go.Vint Go.Crc Go.Sg Go.Ev
set_option linter.unusedSimpArgs false
set_option linter.unusedVariables false
set_option maxRecDepth 20000
set_option maxHeartbeats 4000000
attribute [local congr] BND_cg COND_cg GEF_cg
attribute [local irreducible] capl slicea load1 loadn iaddr iaddra faddr storev newslice binv lookv mupd mdel mlenv mentry mestore slicev slicev3 slices indexs indexav textv rangev nexts clearv shiftv eqaggv convi buildv pickv lens lenl unv nilchk extractv partn JOIN
section
variable {w0 w w' : World} {F0 : List Nat} {d p : Nat} {s : Dk} {l : Lg} {o : Option (Nat × Lg)} {R : Value → World → Prop}
theorem sysR_disk (h : At w0 F0 (stars (sysR d s o)) w) : ∃ A, At w A (rfHP d s) w ∧ (∀ b ∈ A, b ∈ F0 ∨ hsz w0 ≤ b) ∧ ∀ w2 s2, At w A (rfHP d s2) w2 → At w0 F0 (stars (sysR d s2 o)) w2 := by
  obtain _ | ⟨p, l⟩ := o
  · obtain ⟨A, z, _, zA, back⟩ := At.zoom3 h (Fr.refl _ _) 0 rfl
    exact ⟨A, z, zA, fun w2 s2 h2 => back w2 _ h2⟩
  · obtain ⟨A, z, _, zA, back⟩ := At.zoom3 h (Fr.refl _ _) 1 rfl
    exact ⟨A, z, zA, fun w2 s2 h2 => back w2 _ h2⟩
theorem sysR_drop (h : At w0 F0 (stars (sysR d s o)) w) : At w0 F0 (rfHP d s) w := by
  obtain _ | ⟨p, l⟩ := o
  · exact At.unwrap h
  · exact At.unwrap (At.tail h)
theorem r15_own (h : At w0 F0 (stars (sysR d s o)) w) (hi : Inv s) (hn : s.dirs.length < 10000000) (hn2 : s.files.length < 10000000) {m : Nat} (ho : ∀ l, o.map (·.2) = some l → LgOk l m) (hm : m < 100000000) (x : FS) (hx : ∀ w', Fr F0 w0 w' → FsE w' x) (size : Int)
    (hR : ∀ w' o' sv, o'.map (·.2) = (actS s (o.map (·.2)) x size).2.1 → At w0 F0 (stars (slc encU 1 sv.v (actS s (o.map (·.2)) x size).2.2.r.n :: sysR d (actS s (o.map (·.2)) x size).1 o')) w' → R (.tuple #[valL o', .agg (encTd (actS s (o.map (·.2)) x size).2.2 sv).toArray]) w') :
    CALL PR F_tumbrellaw15_own [ptrTo d, valL o, .agg (encFS x).toArray, .int .i64 size] w R := by
  refine C_tumbrellaw15_own ?_
  unfold M_tumbrellaw15_own
  refine NEW_intro fun w1 b1 f1 z1 => ?_
  replace b1 : blk w1 (hsz w) = some (.cells (encFS x).toArray 59 (0, 0)) := b1
  have h1' := h.fr0 f1
  obtain ⟨A, h1, zlt, zA, back⟩ := At.re3 h f1
  have hx1 : ∀ w', Fr A w1 w' → FsE w' x := fun w' fr => hx w' (h1'.frame.trans fr zA)
  have nx : hsz w ∉ A := fun hb => by have := zlt _ hb; omega
  refine NEW_intro fun w2 b2 f2 z2 => NEW_intro fun w3 b3 f3 z3 => ?_
  have h2 : At w1 A (stars [pts (hsz w1) (encTd td0 sv0), stars (sysR d s o)]) w2 := (At.wrap h1).add f2 (P := pts (hsz w1) (encTd td0 sv0)) (A := [hsz w1]) ⟨⟨_, b2⟩, rfl⟩ (by simp)
  have h3 : At w1 A (stars [pts (hsz w2) (encTd td0 sv0), pts (hsz w1) (encTd td0 sv0), stars (sysR d s o)]) w3 := h2.add f3 (P := pts (hsz w2) (encTd td0 sv0)) (A := [hsz w2]) ⟨⟨_, b3⟩, rfl⟩ (by simp)
  have b3x := (f2.trans' f3).some (by simp) b1
  obtain ⟨Q, hQ⟩ : ∃ Q : Value → World → Prop, Q = fun v w' => ∃ o' sv, v = valL o' ∧ o'.map (·.2) = (actS s (o.map (·.2)) x size).2.1 ∧ At w1 A (stars [pts (hsz w2) (encTd (actS s (o.map (·.2)) x size).2.2 sv), pts (hsz w1) (encTd td0 sv0), stars (slc encU 1 sv.v (actS s (o.map (·.2)) x size).2.2.r.n :: sysR d (actS s (o.map (·.2)) x size).1 o')]) w' := ⟨_, rfl⟩
  have mk2 : ∀ w' o' sv, o'.map (·.2) = (actS s (o.map (·.2)) x size).2.1 → At w1 A (stars [pts (hsz w2) (encTd (actS s (o.map (·.2)) x size).2.2 sv), pts (hsz w1) (encTd td0 sv0), stars (slc encU 1 sv.v (actS s (o.map (·.2)) x size).2.2.r.n :: sysR d (actS s (o.map (·.2)) x size).1 o')]) w' → Q (valL o') w' := by
    intro w' o' sv ho' h'
    rw [hQ]
    exact ⟨o', sv, rfl, ho', h'⟩
  have mk : (actS s (o.map (·.2)) x size).2.2.r.n = [] → ∀ w' o', o'.map (·.2) = (actS s (o.map (·.2)) x size).2.1 → At w1 A (stars [pts (hsz w2) (encTd (actS s (o.map (·.2)) x size).2.2 sv0), pts (hsz w1) (encTd td0 sv0), stars (sysR d (actS s (o.map (·.2)) x size).1 o')]) w' → Q (valL o') w' := by
    intro hr w' o' ho' h'
    refine mk2 w' o' sv0 ho' ?_
    obtain ⟨A', z', back'⟩ := At.zoom h' 2 rfl
    refine back' w' _ ?_
    exact z'.add0 (P := slc encU 1 sv0.v (actS s (o.map (·.2)) x size).2.2.r.n) (show Slc encU 1 w' sv0.v _ [] from .inl ⟨rfl, hr, rfl⟩)
  (repeat refine gg ?_)
  refine join_v Q (fun K hK => ?_) ?_
  · by_cases q0 : x.dn = 0
    · simp only [actS, if_pos q0] at mk
      obtain _ | ⟨p, l⟩ := o
      · unfold valL
        have nn := nil_ne_nil
        (repeat refine gg ?_)
        refine join_w (fun w' => Q (.pointer none) w') (fun K1 hK1 => ?_) (fun w' hq => hK _ _ hq)
        (repeat refine gg ?_)
        exact hK1 _ (mk rfl _ none rfl h3)
      · unfold valL
        have nn := ptr_nnilS (d := p)
        (repeat refine gg ?_)
        refine join_w (fun w' => Q (ptrTo p) w') (fun K1 hK1 => ?_) (fun w' hq => hK _ _ hq)
        have e3 := loadn_rec b3x
        (repeat refine gg ?_)
        obtain ⟨A7, z7, _, zA7, back7⟩ := At.zoom3 h3 (Fr.refl _ _) 2 rfl
        have hx3 := hx1 _ h3.frame
        refine r15_Append z7 hi (by omega) (by omega) (ho l rfl) (by omega) x.k x.tx hx3.ns hx3.sm fun w7 z7' => ?_
        have h7 := back7 _ _ z7'
        (repeat refine gg ?_)
        refine h7.store (i := 0) rfl ⟨rfl, rfl⟩ (by simp [encTd]) fun w8 h8 _ => ?_
        (repeat refine gg ?_)
        refine h8.store (i := 0) rfl ⟨rfl, rfl⟩ (by simp [encTd]) fun w9 h9 _ => ?_
        (repeat refine gg ?_)
        refine h9.store (i := 0) rfl ⟨rfl, rfl⟩ (by simp [encTd]) fun w10 h10 _ => ?_
        exact hK1 _ (mk rfl _ (some (p, _)) rfl h10)
    (repeat refine gg ?_)
    refine join_v Q (fun K1 hK1 => ?_) hK
    by_cases q1 : x.dn = 1
    · simp only [actS, if_neg q0, if_pos q1] at mk mk2
      obtain _ | ⟨p, l⟩ := o
      · unfold valL
        have nn := nil_ne_nil
        (repeat refine gg ?_)
        refine join_w (fun w' => Q (.pointer none) w') (fun K2 hK2 => ?_) (fun w' hq => hK1 _ _ hq)
        (repeat refine gg ?_)
        exact hK2 _ (mk rfl _ none rfl h3)
      · unfold valL
        have nn := ptr_nnilS (d := p)
        (repeat refine gg ?_)
        refine join_w (fun w' => Q (ptrTo p) w') (fun K2 hK2 => ?_) (fun w' hq => hK1 _ _ hq)
        (repeat refine gg ?_)
        obtain ⟨A5, z5, _, zA5, back5⟩ := At.zoom3 h3 (Fr.refl _ _) 2 rfl
        obtain ⟨B5, y5, yB5, _⟩ := sysR_disk (o := some (p, l)) z5
        have hx4 := hx1 _ h3.frame
        refine r15_Read y5 hi (by omega) x.seg x.at_ hx4.at_ fun w5 nv G _ s5 g5 f5 => ?_
        have hlen := lgRead_n s x.seg x.at_
        obtain ⟨rd, hrd⟩ : ∃ rd, lgRead s x.seg x.at_ = rd := ⟨_, rfl⟩
        rw [hrd] at s5 hlen mk2 ⊢
        have h5 := h3.add f5 (P := slc encU 1 nv.v rd.1.n) s5 g5
        (repeat refine gg ?_)
        refine At.put3 (i := 1) (v3 := .int .i64 (rd.1.kind : Int)) (v4 := nv.v) (v5 := .string (txB rd.1.text)) h5 rfl (encRc_one ((rd.1.kind : Int), nv, txB rd.1.text)) fun w6 h6 => ?_
        (repeat refine gg ?_)
        refine h6.store (i := 1) rfl ⟨rfl, rfl⟩ (by simp) fun w7 h7 _ => ?_
        (repeat refine gg ?_)
        refine h7.store (i := 1) rfl ⟨rfl, rfl⟩ (by simp) fun w8 h8 _ => ?_
        exact hK2 _ (mk2 _ (some (p, l)) nv rfl (At.sink3 h8))
    (repeat refine gg ?_)
    refine join_v Q (fun K2 hK2 => ?_) hK1
    by_cases q2 : x.dn = 2
    · simp only [actS, if_neg q0, if_neg q1, if_pos q2] at mk
      obtain _ | ⟨p, l⟩ := o
      · unfold valL
        have nn := nil_ne_nil
        (repeat refine gg ?_)
        refine join_w (fun w' => Q (.pointer none) w') (fun K3 hK3 => ?_) (fun w' hq => hK2 _ _ hq)
        (repeat refine gg ?_)
        exact hK3 _ (mk rfl _ none rfl h3)
      · unfold valL
        have nn := ptr_nnilS (d := p)
        (repeat refine gg ?_)
        refine join_w (fun w' => Q (ptrTo p) w') (fun K3 hK3 => ?_) (fun w' hq => hK2 _ _ hq)
        (repeat refine gg ?_)
        obtain ⟨A7, z7, _, zA7, back7⟩ := At.zoom3 h3 (Fr.refl _ _) 2 rfl
        refine r15_Sync z7 hi (by omega) (ho l rfl) fun w7 z7' => ?_
        have h7 := back7 _ _ z7'
        (repeat refine gg ?_)
        refine h7.store (i := 0) rfl ⟨rfl, rfl⟩ (by simp [encTd]) fun w8 h8 _ => ?_
        exact hK3 _ (mk rfl _ (some (p, _)) rfl h8)
    (repeat refine gg ?_)
    refine join_v Q (fun K3 hK3 => ?_) hK2
    obtain ⟨A7, z7, _, zA7, back7⟩ := At.zoom3 h3 (Fr.refl _ _) 2 rfl
    obtain ⟨B7, y7, yB7, backd⟩ := sysR_disk z7
    have hx3 := hx1 _ h3.frame
    have up7 : ∀ b ∈ B7, b ∈ A ∨ hsz w1 ≤ b := fun b hb => (yB7 b hb).elim (zA7 b) fun h => .inr (by have := h3.frame.grow; omega)
    by_cases q3 : x.dn = 3
    · simp only [actS, if_neg q0, if_neg q1, if_neg q2, if_pos q3] at mk
      (repeat refine gg ?_)
      refine rf_Fuse y7 x.n fun w8 z8 => ?_
      exact hK3 _ _ (mk rfl _ o rfl (back7 _ _ (backd _ _ z8)))
    (repeat refine gg ?_)
    refine join_v Q (fun K4 hK4 => ?_) hK3
    by_cases q4 : x.dn = 4
    · simp only [actS, if_neg q0, if_neg q1, if_neg q2, if_neg q3, if_pos q4] at mk
      (repeat refine gg ?_)
      refine rf_Crash y7 hi.wf (by omega) x.n (tails := x.tails) (fun w' fr => (hx1 w' (h3.frame.trans fr up7)).tails) fun w8 z8 => ?_
      have h8 := sysR_drop (backd _ _ z8)
      have b8x := (back7 _ _ (backd _ _ z8)).frame.some nx b1
      (repeat refine gg ?_)
      have hcl : (crash s x.n x.tails).dirs.length = 1 := by simp [crash]
      refine r15_Open h8 (inv_crash hi _ _) (by omega) x.seg x.at_ hx3.at_ size fun w9 o' ho' z9 => ?_
      have h9 := back7 _ _ z9
      (repeat refine gg ?_)
      refine h9.store (i := 0) rfl ⟨rfl, rfl⟩ (by simp [encTd]) fun w10 h10 _ => ?_
      exact hK4 _ _ (mk rfl _ o' ho' h10)
    · simp only [actS, if_neg q0, if_neg q1, if_neg q2, if_neg q3, if_neg q4] at mk
      (repeat refine gg ?_)
      refine rf_Create y7 hi.wf (by omega) (by omega) naA (by decide) fun w8 z8 => ?_
      refine mkB 20 (by omega) _ w8 fun t9 w9 s9 f9 zz9 => ?_
      obtain ⟨C9, y9, lt9, up9, back9⟩ := At.re3 z8 f9
      have l9 := s9.len
      have mo := create_mo s naA
      have cf : ∀ w', Fr C9 w9 w' → cellsOfArg w' 1 t9 = some (flat encB (List.replicate 20 0), (List.replicate 20 (0 : UInt8)).length) := fun w' fr => (s9.fr fr (fun b hb hb' => by have := lt9 b hb'; simp at hb; omega)).loads encB_len
      (repeat refine gg ?_)
      refine rf_Append y9 (wf_create hi.wf _) (by omega) (by omega) naA (bs := List.replicate 20 0) (by simp) l9 cf fun w10 z10 => ?_
      have h10 := back7 _ _ (backd _ _ (back9 _ _ z10))
      (repeat refine gg ?_)
      refine h10.store (i := 0) rfl ⟨rfl, rfl⟩ (by simp [encTd]) fun w11 h11 _ => ?_
      exact hK4 _ _ (mk rfl _ o rfl h11)
  rw [hQ]
  rintro v w4 ⟨o', sv, rfl, ho', h4⟩
  have h4d := h4.fr0 (Fr.drew [] w4)
  obtain ⟨T4, c4⟩ := h4d.cell (i := 0) rfl
  have e4 := loadn_all' c4 (encTd_len _ _)
  (repeat refine gg ?_)
  refine h4d.put (i := 1) rfl (encTd_len _ _) (encTd_len _ _) (encTd_one _ _) (by simp [encTd]) fun w5 h5 _ => ?_
  obtain ⟨T5, c5⟩ := h5.cell (i := 1) rfl
  have e5 := loadn_all' c5 (encTd_len _ _)
  (repeat refine gg ?_)
  exact hR _ o' sv ho' (back _ _ (At.unwrap (At.tail (At.tail h5))))
end
end Go.Proofs.YtofllgbdphakiaaGreatDoor
end

section
namespace Go.Proofs.YtofllgbdphakiaaGreatDoor
open Go.Den Go.Disk Go.Nm Go.Rec Go.Frame Go.Vint Go.Crc Go.Sg Go.Ev
theorem loadn_td {w : World} {b T : Nat} {f : Nat × Nat} {t : Td} {sv : SV} (h : blk w b = some (.cells (encTd t sv).toArray T f)) : loadn 3 w (.pointer (some ⟨b, 3, none⟩)) = some (.agg (encRc ((t.r.kind : Int), sv, txB t.r.text)).toArray) := by
  rw [loadn_blk h (by simp [encTd])]
  rfl
theorem loadn_rec' {w : World} {b T : Nat} {f : Nat × Nat} {x : FS} (h : blk w b = some (.cells (encFS x).toArray T f)) : loadn 3 w (.pointer (some ⟨b, 4, none⟩)) = some (.agg (encRc (x.k, x.nv, x.tx)).toArray) := by
  rw [loadn_blk h (by simp [encFS])]
  rfl
set_option linter.unusedSimpArgs false
set_option linter.unusedVariables false
set_option maxRecDepth 20000
set_option maxHeartbeats 4000000
attribute [local congr] BND_cg COND_cg GEF_cg
attribute [local irreducible] capl slicea load1 loadn iaddr iaddra faddr storev newslice binv lookv mupd mdel mlenv mentry mestore slicev slicev3 slices indexs indexav textv rangev nexts clearv shiftv eqaggv convi buildv pickv lens lenl unv nilchk extractv partn JOIN
section
variable {w : World} {R : Value → World → Prop}
theorem r2_SameN {a b : Value} {xs : List Nat} (ha : Arr encU 1 w a xs) (hb : Arr encU 1 w b xs) (hn : xs.length < 1000000000) (hR : ∀ w', Fr [] w w' → R (.bool true) w') :
    CALL PR F_tumbrelref02_Same [a, b] w R := by
  refine C_tumbrelref02_Same ?_
  unfold M_tumbrelref02_Same
  have la := ha.len
  have lb := hb.len
  (repeat refine gg ?_)
  refine loop_up 0 xs.length (fun i w' => Fr [] w w') (Fr.refl _ _) (by omega) ?_
  rintro i w1 - hi f1 J m hJ
  by_cases hlt : i < xs.length
  · have hx := List.getElem?_eq_getElem hlt
    generalize xs[i] = x at hx
    obtain ⟨b1, o1, i1, _, _, l1⟩ := (ha.fr f1 (by simp)).spot hx rfl .i64
    obtain ⟨b2, o2, i2, _, _, l2⟩ := (hb.fr f1 (by simp)).spot hx rfl .i64
    (repeat (first | refine BND_step (l1 (w' := w1.drew) rfl (j := 0) rfl) ?_ | refine BND_step (l2 (w' := w1.drew) rfl (j := 0) rfl) ?_ | refine gg ?_))
    exact hJ _ hlt (f1.trans' (Fr.drew _ _))
  · (repeat refine gg ?_)
    exact hR _ f1
theorem r5_SameOne {a b : Value} {k : Int} {t : ByteArray} {s1 s2 : SV} {ns : List Nat} (ha : Arr encRc 3 w a [(k, s1, t)]) (hb : Arr encRc 3 w b [(k, s2, t)]) (h1 : Arr encU 1 w s1.v ns) (h2 : Arr encU 1 w s2.v ns) (hn : ns.length < 1000000000) (hR : ∀ w', Fr [] w w' → R (.bool true) w') :
    CALL PR F_tumbrelref05_Same [a, b] w R := by
  refine C_tumbrelref05_Same ?_
  unfold M_tumbrelref05_Same
  have la := ha.len
  have lb := hb.len
  simp only [List.length_singleton] at la lb
  (repeat refine gg ?_)
  refine loop_up 0 1 (fun i w' => Fr [] w w') (Fr.refl _ _) (by omega) ?_
  rintro i w1 - hi f1 J m hJ
  by_cases hlt : i < 1
  · have hi0 : i = 0 := by omega
    subst hi0
    obtain ⟨b1, o1, i1, _, _, l1⟩ := (ha.fr f1 (by simp)).spot (i := 0) rfl rfl .i64
    obtain ⟨b2, o2, i2, _, _, l2⟩ := (hb.fr f1 (by simp)).spot (i := 0) rfl rfl .i64
    have fd := f1.trans' (Fr.drew [] w1)
    (repeat (first | refine BND_step (l1 (w' := w1.drew) rfl (j := 0) rfl) ?_ | refine BND_step (l2 (w' := w1.drew) rfl (j := 0) rfl) ?_ | refine BND_step (l1 (w' := w1.drew) rfl (j := 1) rfl) ?_ | refine BND_step (l2 (w' := w1.drew) rfl (j := 1) rfl) ?_ | refine BND_step (l1 (w' := w1.drew) rfl (j := 2) rfl) ?_ | refine BND_step (l2 (w' := w1.drew) rfl (j := 2) rfl) ?_ | refine gg ?_))
    refine r2_SameN (h1.fr fd (by simp)) (h2.fr fd (by simp)) hn fun w2 f2 => ?_
    (repeat refine gg ?_)
    exact hJ _ hlt (fd.trans' f2)
  · (repeat refine gg ?_)
    exact hR _ f1
theorem sg_alike {t : Td} {s1 s2 : SV} (h1 : Arr encU 1 w s1.v t.r.n) (h2 : Arr encU 1 w s2.v t.r.n) (hn : t.r.n.length < 1000000000) (hR : ∀ w', Fr [] w w' → R (.bool true) w') :
    CALL PR F_tumbrellaw15_alike [.agg (encTd t s1).toArray, .agg (encTd t s2).toArray] w R := by
  refine C_tumbrellaw15_alike ?_
  unfold M_tumbrellaw15_alike
  refine NEW_intro fun w1 b1 f1 z1 => NEW_intro fun w2 b2 f2 z2 => ?_
  replace b1 : blk w1 (hsz w) = some (.cells (encTd t s1).toArray 61 (0, 0)) := b1
  replace b2 : blk w2 (hsz w1) = some (.cells (encTd t s2).toArray 61 (0, 0)) := b2
  have b1x := f2.some (by simp) b1
  have f02 := f1.trans' f2
  have e1 := loadn_td b1x
  (repeat (first | refine gg ?_ | (apply BND_build (encRc ((t.r.kind : Int), s1, txB t.r.text)); exact rfl)))
  refine newone_step (enc := encRc) (x := ((t.r.kind : Int), s1, txB t.r.text)) encRc_len rfl fun t3 w3 s3 f3 z3 => ?_
  have b2x := f3.some (by simp) b2
  have e2 := loadn_td b2x
  (repeat (first | refine gg ?_ | (apply BND_build (encRc ((t.r.kind : Int), s2, txB t.r.text)); exact rfl)))
  refine newone_step (enc := encRc) (x := ((t.r.kind : Int), s2, txB t.r.text)) encRc_len rfl fun t4 w4 s4 f4 z4 => ?_
  have f24 := f3.trans' f4
  (repeat refine gg ?_)
  refine r5_SameOne (s3.fr f4 (by simp)).arr s4.arr (h1.fr (f02.trans' f24) (by simp)) (h2.fr (f02.trans' f24) (by simp)) hn fun w5 f5 => ?_
  (repeat refine gg ?_)
  exact hR _ ((f02.trans' f24).trans' f5)
structure FsIn (w : World) (lv : Value) (xs : List FS) : Prop where
  arr : Arr encFS 8 w lv xs
  ins : ∀ x ∈ xs, FsE w x
theorem FsIn.fr {w w' : World} {lv : Value} {xs : List FS} (h : FsIn w lv xs) (f : Fr [] w w') : FsIn w' lv xs := ⟨h.arr.fr f (by simp), fun x hx => (h.ins x hx).fr f⟩
theorem sg_large {lv : Value} {xs : List FS} (ha : FsIn w lv xs) (hR : ∀ w' b, (b = false → xs.length ≤ 60) → Fr [] w w' → R (.bool b) w') : CALL PR F_tumbrellaw15_large [lv] w R := by
  refine C_tumbrellaw15_large ?_
  unfold M_tumbrellaw15_large
  have hlen := ha.arr.len
  by_cases h60 : 60 < xs.length
  · have h60' : (60 : Int) < (xs.length : Int) := by omega
    (repeat refine gg ?_)
    exact hR w true (fun h => by cases h) (Fr.refl _ _)
  have h60' : ¬ (60 : Int) < (xs.length : Int) := by omega
  (repeat refine gg ?_)
  refine loop_up 0 xs.length (fun i w' => Fr [] w w') (Fr.refl _ _) (by omega) ?_
  rintro i w1 - hi f1 J m hJ
  by_cases hlt : i < xs.length
  · have hx := List.getElem?_eq_getElem hlt
    have hmem := List.getElem_mem hlt
    generalize xs[i] = x at hx hmem
    have ha1 := ha.fr f1
    have hk := ha1.ins _ hmem
    obtain ⟨bb, oo, ia, ln, _, _⟩ := ha1.arr.spot hx rfl .i64
    (repeat refine gg ?_)
    refine box_step (n := 8) (zs := [_, _, _, _, _, _, _, _]) (vs := encFS x) rfl rfl (encFS_one x) (by simp [encFS]) fun w3 b3 f3 z3 => ?_
    have e3 := loadn_rec' b3
    (repeat refine gg ?_)
    refine r5_Large1 (x.k, x.nv, x.tx) fun w4 f4 => ?_
    have fin := (f1.trans' f3).trans' f4
    have b4 := f4.some (by simp) b3
    have lt := ((hk.tails.fr f3 (by simp)).fr f4 (by simp)).len
    cases hl : largeR (x.k, x.nv, x.tx) with
    | true =>
      (repeat refine gg ?_)
      exact hR _ true (fun h => by cases h) fin
    | false =>
      by_cases q1 : (100 : Int) < (x.tails.length : Int)
      · (repeat refine gg ?_)
        exact hR _ true (fun h => by cases h) fin
      · (repeat refine gg ?_)
        exact hJ _ hlt fin
  · (repeat refine gg ?_)
    exact hR _ false (fun _ => by omega) f1
end
end Go.Proofs.YtofllgbdphakiaaGreatDoor
end

section
namespace Go.Proofs.YtofllgbdphakiaaGreatDoor
open Go.Den Go.Disk Go.Nm Go.Rec Go.Frame Go.Vint Go.Crc Go.Sg Go.Ev
theorem nilL (o : Option (Nat × Lg)) : binv .ptr .eql (valL o) (.pointer none) = some (.bool (o.map (·.2)).isNone) := by cases o <;> rfl
theorem ptr_nilP {d : Nat} : binv .ptr .eql (.pointer (some ⟨d, 0, none⟩)) (.pointer none) = some (.bool false) := rfl
theorem nil_nil : binv .ptr .eql (.pointer none) (.pointer none) = some (.bool true) := rfl
/-- what stands between two acts. -/
structure Stand (w w' : World) (d r i : Nat) (s : Dk) (o1 o2 : Option (Nat × Lg)) : Prop where
  eq : o2.map (·.2) = o1.map (·.2)
  at_ : At w [] (stars [stars (sysR r s o2), stars (sysL d s o1)]) w'
  inv : Inv s
  dirs : s.dirs.length ≤ 2 * i + 2
  files : s.files.length ≤ 2 * i + 2
  lg : ∀ l, o1.map (·.2) = some l → LgOk l (1048576 + 175 * i)
section
variable {w0 w w' : World} {F0 : List Nat} {d r : Nat} {s : Dk} {o1 o2 : Option (Nat × Lg)} {P1 P2 : HP}
theorem At.dropB (h : At w0 F0 (stars [stars (P2 :: sysR r s o2), stars (P1 :: sysL d s o1)]) w) : At w0 F0 (stars [stars (sysR r s o2), stars (sysL d s o1)]) w := by
  obtain ⟨A, z, back⟩ := At.zoom h 0 rfl
  have h1 := back _ _ (At.tail z)
  obtain ⟨B, y, back1⟩ := At.zoom h1 1 rfl
  exact back1 _ _ (At.tail y)
theorem At.arrOf {ps : List HP} {sv : SV} {ns : List Nat} {i : Nat} {L : List HP} (h : At w0 F0 (stars ps) w) (hi : ps[i]? = some (stars (slc encU 1 sv.v ns :: L))) : Arr encU 1 w sv.v ns := by
  obtain ⟨A, ⟨B, C, p1, _⟩, _⟩ := h.get i hi
  exact Slc.arr p1
end
set_option linter.unusedSimpArgs false
set_option linter.unusedVariables false
set_option maxRecDepth 20000
set_option maxHeartbeats 4000000
attribute [local congr] BND_cg COND_cg GEF_cg
attribute [local irreducible] capl slicea load1 loadn iaddr iaddra faddr storev newslice binv lookv mupd mdel mlenv mentry mestore slicev slicev3 slices indexs indexav textv rangev nexts clearv shiftv eqaggv convi buildv pickv lens lenl unv nilchk extractv partn JOIN
section
variable {w : World} {R : Value → World → Prop}
theorem sg_Does (hT : Tab w) (room : Int) (seg : Nat) (hseg : seg < 18446744073709551616) (size : Int) {lv : Value} {xs : List FS} (ha : FsIn w lv xs) (hR : ∀ w', Fr [] w w' → R (.bool true) w') :
    CALL PR F_tumbrellaw15_SeglogDoes [.int .i64 room, .int .u64 (seg : Int), .int .i64 size, lv] w R := by
  refine C_tumbrellaw15_SeglogDoes ?_
  unfold M_tumbrellaw15_SeglogDoes
  refine sg_awake hT fun w1 f1 => ?_
  (repeat refine gg ?_)
  refine dk_New room (fun hno => ?_) fun hroom w3 d h3 => ?_
  · (repeat refine gg ?_)
    refine rf_New room (fun _ => ?_) fun hroom _ _ _ => by omega
    have nn := nil_nil
    (repeat refine gg ?_)
    exact hR _ f1
  (repeat refine gg ?_)
  refine rf_New room (fun hno => by omega) fun _ w4 r h4 => ?_
  have nd := ptr_nilS (d := d)
  have nr := ptr_nilS (d := r)
  (repeat refine gg ?_)
  have hA : At w1 [] (stars [stars (sysR r (empty room) none), stars (sysL d (empty room) none)]) w4 := by
    obtain ⟨F, g1, g2, g3⟩ := At.wrap h4
    exact (At.wrap (At.wrap h3)).add g3 (P := stars (sysR r (empty room) none)) g1 (fun b hb => by have := g2 b hb; simpa using this)
  have hA4 := At.base f1 hA
  refine sg_large (ha.fr hA4.frame) fun w5 b hb f5 => ?_
  have hA5 := hA4.fr0 f5
  cases b with
  | true =>
    (repeat refine gg ?_)
    exact hR _ hA5.frame
  | false =>
  have hlen := hb rfl
  have hlx := ha.arr.len
  have ie := inv_empty hroom
  have mb := lgBegin_more (empty room) seg size
  have sm0 : (empty room).dirs.length = 1 ∧ (empty room).files.length = 0 := by simp [empty]
  (repeat refine gg ?_)
  obtain ⟨A5, z5, _, zA5, back5⟩ := At.zoom3 hA5 (Fr.refl _ _) 1 rfl
  refine sg_Begin (tabS_re hT hA5.frame zA5) (At.unwrap z5) ie (by omega) (by omega) seg hseg size fun w6 o1 ho1 z6 => ?_
  have h6 := back5 _ _ z6
  (repeat refine gg ?_)
  obtain ⟨A6, z6', _, zA6, back6⟩ := At.zoom3 h6 (Fr.refl _ _) 0 rfl
  refine r15_Begin (At.unwrap z6') ie (by omega) (by omega) seg size fun w7 o2 ho2 z7 => ?_
  have h7 := back6 _ _ z7
  have e1 := nilL o1
  have e2 := nilL o2
  rw [ho1] at e1
  rw [ho2] at e2
  have eb : binv .bool .neq (.bool (lgBegin (empty room) seg size).2.1.isNone) (.bool (lgBegin (empty room) seg size).2.1.isNone) = some (.bool false) := (binv_neb _ _).trans (by simp)
  (repeat refine gg ?_)
  have st0 : Stand w w7 d r 0 (lgBegin (empty room) seg size).1 o1 o2 := ⟨ho2.trans ho1.symm, h7, inv_lgBegin ie seg size, by omega, by omega, fun l hl => (begin_lg (hl ▸ ho1.symm)).more (by omega)⟩
  refine loop_up3 0 xs.length (fun a b i w' => ∃ s o1 o2, a = valL o1 ∧ b = valL o2 ∧ Stand w w' d r i s o1 o2) ⟨_, _, _, rfl, rfl, st0⟩ (by omega) ?_
  clear hA hA4 hA5 h3 h4 z5 h6 z6' h7 e1 e2 eb st0 z6 z7 ho1 ho2 back5 back6
  rintro _ _ i w7 - hi ⟨s, o1, o2, rfl, rfl, st⟩ J m hJ
  by_cases hlt : i < xs.length
  · have hx := List.getElem?_eq_getElem hlt
    have hmem := List.getElem_mem hlt
    generalize xs[i] = x at hx hmem
    have hk := ha.ins _ hmem
    obtain ⟨bb, oo, ia, ln, _, _⟩ := (ha.fr st.at_.frame).arr.spot hx rfl .i64
    (repeat refine gg ?_)
    refine box_step (n := 8) (zs := [_, _, _, _, _, _, _, _]) (vs := encFS x) rfl rfl (encFS_one x) (by simp [encFS]) fun w9 b9 f9 z9 => ?_
    have h9 := st.at_.add f9 (P := pts (hsz w7) (encFS x)) (A := [hsz w7]) ⟨⟨_, b9⟩, rfl⟩ (by simp)
    refine NEW_intro fun w10 b10 f10 z10 => ?_
    have h10 := h9.add f10 (P := pts (hsz w9) (encTd td0 sv0)) (A := [hsz w9]) ⟨⟨_, b10⟩, rfl⟩ (by simp)
    refine NEW_intro fun w11 b11 f11 z11 => ?_
    have h11 := h10.add f11 (P := pts (hsz w10) (encTd td0 sv0)) (A := [hsz w10]) ⟨⟨_, b11⟩, rfl⟩ (by simp)
    have inv' := inv_actS st.inv (o1.map (·.2)) x size hk.n
    have more' := more_actS st.inv (o1.map (·.2)) x size
    have lg' := actS_lg st.inv st.lg (by omega) x hk.sm size
    have n' := actS_n s (o1.map (·.2)) x size
    have sd := st.dirs
    have sf := st.files
    have eqo := st.eq
    obtain ⟨T11, c11⟩ := h11.cell (i := 2) rfl
    have e11 := loadn_all' c11 (encFS_len x)
    (repeat refine gg ?_)
    obtain ⟨A11, z11', _, zA11, back11⟩ := At.zoom3 h11 (Fr.refl _ _) 4 rfl
    refine sg_do (tabS_re hT h11.frame zA11) z11' st.inv (by omega) (by omega) st.lg (by omega) x (fun w' fr => hk.fr (h11.frame.trans fr zA11)) size fun w12 o1' sv1 ho1' z12 => ?_
    have h12 := back11 _ _ z12
    (repeat refine gg ?_)
    refine h12.put (i := 1) rfl (encTd_len _ _) (encTd_len _ _) (encTd_one _ _) (by simp [encTd]) fun w13 h13 _ => ?_
    obtain ⟨T13, c13⟩ := h13.cell (i := 2) rfl
    have e13 := loadn_all' c13 (encFS_len x)
    (repeat refine gg ?_)
    obtain ⟨A13, z13', _, zA13, back13⟩ := At.zoom3 h13 (Fr.refl _ _) 3 rfl
    refine r15_own z13' st.inv (by omega) (by omega) (fun l hl => st.lg l (st.eq ▸ hl)) (by omega) x (fun w' fr => hk.fr (h13.frame.trans fr zA13)) size fun w14 o2' sv2 ho2' z14 => ?_
    rw [eqo] at z14 ho2' ⊢
    have h14 := back13 _ _ z14
    (repeat refine gg ?_)
    refine h14.put (i := 0) rfl (encTd_len _ _) (encTd_len _ _) (encTd_one _ _) (by simp [encTd]) fun w15 h15 _ => ?_
    obtain ⟨y, hy⟩ : ∃ y, actS s (o1.map (·.2)) x size = y := ⟨_, rfl⟩
    rw [hy] at inv' more' lg' n' ho1' ho2'
    obtain ⟨s', ol', td⟩ := y
    have h15' : At w [] (stars [pts (hsz w10) (encTd td sv2), pts (hsz w9) (encTd td sv1), pts (hsz w7) (encFS x), stars (slc encU 1 sv2.v td.r.n :: sysR r s' o2'), stars (slc encU 1 sv1.v td.r.n :: sysL d s' o1')]) w15 := by
      have := h15
      simp only [hy] at this
      exact this
    clear h15 h14 h13 h12 h11 h10 h9 z14 z12 back11 back13
    dsimp only at inv' more' lg' n' ho1' ho2'
    have hd := h15'.fr0 (Fr.drew [] w15)
    have hbb : At w [] (stars [stars (sysR r s' o2'), stars (sysL d s' o1')]) w15.drew := At.dropB (At.tail (At.tail (At.tail hd)))
    obtain ⟨Az, hz, _⟩ := At.zoom hbb 0 rfl
    obtain ⟨fv, dv, fc, es, hs⟩ := rf_open (sysR_drop hz)
    obtain ⟨T2, c⟩ := hs.cell (i := 0) rfl
    unfold rfC at c
    refine ⟨fun _ w' => blk w' r = some (.cells [.int .i64 s'.room, fv, dv, .int .i64 s'.burn, .bool s'.gone].toArray T2 (0, 0)), c, ?_⟩
    obtain ⟨Tp, cp⟩ := hd.cell (i := 1) rfl
    obtain ⟨Tq, cq⟩ := hd.cell (i := 0) rfl
    have ep := loadn_all' cp (encTd_len _ _)
    have eq := loadn_all' cq (encTd_len _ _)
    (repeat refine gg ?_)
    refine sg_alike (At.arrOf hd (i := 4) rfl) (At.arrOf hd (i := 3) rfl) (by omega) fun w16 f16 => ?_
    have c16 := f16.some (by simp) c
    refine ⟨c16, ?_⟩
    have h16 := hbb.fr0 f16
    have e1 := nilL o1'
    have e2 := nilL o2'
    rw [ho1'] at e1
    rw [ho2'] at e2
    have eb : binv .bool .neq (.bool ol'.isNone) (.bool ol'.isNone) = some (.bool false) := (binv_neb _ _).trans (by simp)
    have hwf := inv'.wf
    have h60 := hwf.many _ (now_mem hwf)
    obtain ⟨A16, z16, _⟩ := At.zoom h16 1 rfl
    (repeat refine gg ?_)
    refine dk_Names (sysL_drop z16) hwf (by omega) fun w17 v17 G17 _ s17 g17 f17 => ?_
    have c17 := f17.some (by simp) c16
    refine ⟨c17, ?_⟩
    have h17 := h16.fr0 f17
    obtain ⟨A17, z17, _⟩ := At.zoom h17 0 rfl
    (repeat refine gg ?_)
    refine rf_Names (sysR_drop z17) hwf (by omega) fun w18 v18 G18 _ s18 g18 f18 => ?_
    have c18 := f18.some (by simp) c17
    refine ⟨c18, ?_⟩
    have h18 := h17.fr0 f18
    (repeat refine gg ?_)
    refine r6_Same (s17.fr f18 (by simp)).arr s18.arr (by simp; omega) fun w19 f19 => ?_
    rw [decide_eq_true rfl]
    have c19 := f19.some (by simp) c18
    refine ⟨c19, ?_⟩
    have h19 := h18.fr0 f19
    obtain ⟨A19, z19, _⟩ := At.zoom h19 1 rfl
    (repeat refine gg ?_)
    refine dk_Held (sysL_drop z19) hwf (by omega) (by omega) fun w20 f20 => ?_
    have c20 := f20.some (by simp) c19
    refine ⟨c20, ?_⟩
    have h20 := h19.fr0 f20
    obtain ⟨A20, z20, _⟩ := At.zoom h20 0 rfl
    (repeat refine gg ?_)
    refine rf_Held (sysR_drop z20) hwf (by omega) (by omega) fun w21 f21 => ?_
    have c21 := f21.some (by simp) c20
    refine ⟨c21, ?_⟩
    have h21 := h20.fr0 f21
    unfold ptrTo
    (repeat refine gg ?_)
    obtain ⟨A21, z21, _⟩ := At.zoom h21 1 rfl
    refine dk_Down (sysL_drop z21) ?_
    refine ⟨c21, ?_⟩
    have eg : binv .bool .neq (.bool s'.gone) (.bool s'.gone) = some (.bool false) := (binv_neb _ _).trans (by simp)
    have fin : ∀ w', Fr [] w21 w' → J (valL o1') (valL o2') (.int .i64 ((i + 1 : Nat) : Int)) w' ∧ m (valL o1') (valL o2') (.int .i64 ((i + 1 : Nat) : Int)) w' < m (valL o1) (valL o2) (.int .i64 (i : Int)) w7 := fun w' f' =>
      hJ _ _ _ hlt ⟨s', o1', o2', rfl, rfl, ho2'.trans ho1'.symm, h21.fr0 f', inv', by omega, by omega, fun l hl => (lg' l (ho1'.symm.trans hl)).more (by omega)⟩
    obtain _ | ⟨p1, l1⟩ := o1'
    · have eo : ol' = none := by rw [← ho1']; rfl
      rw [eo] at e1
      (repeat refine gg ?_)
      exact fin _ (Fr.refl _ _)
    · have eo : ol' = some l1 := by rw [← ho1']; rfl
      rw [eo] at e1 ho2'
      obtain _ | ⟨p2, l2⟩ := o2'
      · cases ho2'
      · obtain rfl : l2 = l1 := by simpa using ho2'
        (repeat refine gg ?_)
        refine sg_End z21 ?_
        have h22 := h21.fr0 (Fr.drew [] w21)
        obtain ⟨A22, z22, _⟩ := At.zoom h22 0 rfl
        obtain ⟨T22, c22⟩ := At.cell (i := 0) (b := p2) (cs := lgC r l2) z22 rfl
        unfold lgC ptrTo at c22
        have fin' := fin _ (Fr.drew [] w21)
        unfold valL ptrTo at fin' ⊢
        (repeat refine gg ?_)
        exact fin'
  · (repeat refine gg ?_)
    exact hR _ st.at_.frame
end
end Go.Proofs.YtofllgbdphakiaaGreatDoor
end

section
namespace Go.Proofs.YtofllgbdphakiaaGreatDoor
open Go.Den Go.Disk Go.Rec Go.Vint
open Go.ChangeShapes Go.WideShapes Go.ChangeAt Go.RowKit
set_option linter.unusedVariables false
theorem i64_leS {x : Int} (h : (Lit.int .i64 x).wf = true) : x ≤ 9223372036854775807 := by
  have := h
  simp [Lit.wf, IntKind.min, IntKind.max, IntKind.signed, IntKind.bits] at this
  omega
section
variable {H : Type} {enc : TypeId × Value → H} {w : World}
set_option maxRecDepth 100000 in
theorem rec1_dec (fuel : Nat) (cs : List Value) (y : DataW H × List MemPlace) (h : DataW.trod enc Tryz.prog w 0 (fun _ => true) true fuel 37 cs = some y) : ∃ (a0 : Int) (a1 : Value) (a2 : ByteArray), cs = [.int .i64 a0, a1, .string a2] ∧ (Lit.int .i64 a0).wf = true ∧ (Capd a1 ∧ ∃ xs, Arr encU 1 w a1 xs ∧ (∀ x ∈ xs, (fun n => n < 18446744073709551616) x) ∧ ((y.1.weights Tryz.prog 37).all (· ≤ reachBytes) = true → xs.length * Tryz.prog.bytesOf 22 ≤ reachBytes)) ∧ a2.size ≤ 9223372036854775807 := by
  obtain ⟨y0, y1, y2, n, hy, hl, h0, h1, h2⟩ := trodS3 Tryz.underlying37 h
  have hc : Tryz.prog.cellsOf 37 = 3 := by kernel_rfl
  rw [hc] at hl
  have c0 : Tryz.prog.cellsOf 3 = 1 := by kernel_rfl
  have c1 : Tryz.prog.cellsOf 35 = 1 := by kernel_rfl
  have c2 : Tryz.prog.cellsOf 9 = 1 := by kernel_rfl
  match cs, hl with
  | [u0, u1, u2], _ =>
    simp only [c0, c1, c2, List.drop_zero, List.take_succ_cons, List.take_zero, List.drop_succ_cons] at h0 h1 h2
    have hWs : (y.1.weights Tryz.prog 37).all (· ≤ reachBytes) = true → (y0.1.weights Tryz.prog 3).all (· ≤ reachBytes) = true ∧ (y1.1.weights Tryz.prog 35).all (· ≤ reachBytes) = true ∧ (y2.1.weights Tryz.prog 9).all (· ≤ reachBytes) = true := by
      intro hW
      rw [hy] at hW
      simpa only [DataW.weights, Tryz.underlying37, List.map_cons, List.map_nil, DataW.weightsEach, List.all_append, List.all_nil, Bool.and_eq_true, and_true] using hW
    obtain ⟨a0, e0, _, q0⟩ := DataW.trod_int Tryz.underlying3 h0
    obtain ⟨a1, e1, q1⟩ := arr_of_cells (P := Tryz.prog) (encS := encU) (OK := (fun n => n < 18446744073709551616)) Tryz.underlying35 (show Tryz.prog.cellsOf 22 = 1 by kernel_rfl) (by omega) encU_len (u64n_dec) h1
    obtain ⟨a2, e2, _, q2⟩ := DataW.trod_string Tryz.underlying9 h2
    simp only [List.cons.injEq, and_true] at e0 e1 e2
    subst e0
    subst e1
    subst e2
    exact ⟨a0, u1, a2, rfl, q0, ⟨q1.1, q1.2.elim fun xs p => ⟨xs, p.1, p.2.1, fun hW => p.2.2 (hWs hW).2.1⟩⟩, q2⟩
set_option maxRecDepth 100000 in
theorem fs0_dec (fuel : Nat) (cs : List Value) (y : DataW H × List MemPlace) (h : DataW.trod enc Tryz.prog w 0 (fun _ => true) true fuel 59 cs = some y) : ∃ (a0 : Int) (a1 : Int) (a2 : Int) (a3 : Int) (a4 : Int) (a5 : Value) (a6 : ByteArray) (a7 : Value), cs = [.int .i64 a0, .int .i64 a1, .int .u64 a2, .int .u64 a3, .int .i64 a4, a5, .string a6, a7] ∧ (Lit.int .i64 a0).wf = true ∧ (Lit.int .i64 a1).wf = true ∧ (Lit.int .u64 a2).wf = true ∧ (Lit.int .u64 a3).wf = true ∧ (Lit.int .i64 a4).wf = true ∧ (Capd a5 ∧ ∃ xs, Arr encU 1 w a5 xs ∧ (∀ x ∈ xs, (fun n => n < 18446744073709551616) x) ∧ ((y.1.weights Tryz.prog 59).all (· ≤ reachBytes) = true → xs.length * Tryz.prog.bytesOf 22 ≤ reachBytes)) ∧ a6.size ≤ 9223372036854775807 ∧ (Capd a7 ∧ ∃ xs, Arr encI 1 w a7 xs ∧ (∀ x ∈ xs, (fun _ => True) x) ∧ ((y.1.weights Tryz.prog 59).all (· ≤ reachBytes) = true → xs.length * Tryz.prog.bytesOf 3 ≤ reachBytes)) := by
  obtain ⟨y0, y1, y2, y3, y4, y5, n, hy, hl, h0, h1, h2, h3, h4, h5⟩ := trodS6 Tryz.underlying59 h
  have hc : Tryz.prog.cellsOf 59 = 8 := by kernel_rfl
  rw [hc] at hl
  have c0 : Tryz.prog.cellsOf 3 = 1 := by kernel_rfl
  have c1 : Tryz.prog.cellsOf 22 = 1 := by kernel_rfl
  have c2 : Tryz.prog.cellsOf 37 = 3 := by kernel_rfl
  have c3 : Tryz.prog.cellsOf 24 = 1 := by kernel_rfl
  match cs, hl with
  | [u0, u1, u2, u3, u4, u5, u6, u7], _ =>
    simp only [c0, c1, c2, c3, List.drop_zero, List.take_succ_cons, List.take_zero, List.drop_succ_cons] at h0 h1 h2 h3 h4 h5
    have hWs : (y.1.weights Tryz.prog 59).all (· ≤ reachBytes) = true → (y0.1.weights Tryz.prog 3).all (· ≤ reachBytes) = true ∧ (y1.1.weights Tryz.prog 3).all (· ≤ reachBytes) = true ∧ (y2.1.weights Tryz.prog 22).all (· ≤ reachBytes) = true ∧ (y3.1.weights Tryz.prog 22).all (· ≤ reachBytes) = true ∧ (y4.1.weights Tryz.prog 37).all (· ≤ reachBytes) = true ∧ (y5.1.weights Tryz.prog 24).all (· ≤ reachBytes) = true := by
      intro hW
      rw [hy] at hW
      simpa only [DataW.weights, Tryz.underlying59, List.map_cons, List.map_nil, DataW.weightsEach, List.all_append, List.all_nil, Bool.and_eq_true, and_true] using hW
    obtain ⟨a0, e0, _, q0⟩ := DataW.trod_int Tryz.underlying3 h0
    obtain ⟨a1, e1, _, q1⟩ := DataW.trod_int Tryz.underlying3 h1
    obtain ⟨a2, e2, _, q2⟩ := DataW.trod_int Tryz.underlying22 h2
    obtain ⟨a3, e3, _, q3⟩ := DataW.trod_int Tryz.underlying22 h3
    obtain ⟨a4, a5, a6, e4, q4_0, q4_1, q4_2⟩ := rec1_dec _ _ _ h4
    obtain ⟨a7, e5, q5⟩ := arr_of_cells (P := Tryz.prog) (encS := encI) (OK := (fun _ => True)) Tryz.underlying24 (show Tryz.prog.cellsOf 3 = 1 by kernel_rfl) (by omega) encIq_len (intz_dec) h5
    simp only [List.cons.injEq, and_true] at e0 e1 e2 e3 e4 e5
    subst e0
    subst e1
    subst e2
    subst e3
    obtain ⟨rfl, rfl, rfl⟩ := e4
    subst e5
    exact ⟨a0, a1, a2, a3, a4, u5, a6, u7, rfl, q0, q1, q2, q3, q4_0, ⟨q4_1.1, q4_1.2.elim fun xs p => ⟨xs, p.1, p.2.1, fun hW => p.2.2 (hWs hW).2.2.2.2.1⟩⟩, q4_2, ⟨q5.1, q5.2.elim fun xs p => ⟨xs, p.1, p.2.1, fun hW => p.2.2 (hWs hW).2.2.2.2.2⟩⟩⟩
theorem fsact_dec (fuel : Nat) (cs : List Value) (y : DataW H × List MemPlace) (h : DataW.trod enc Tryz.prog w 0 (fun _ => true) true fuel 59 cs = some y) : ∃ x : FS, cs = encFS x ∧ FsE w x := by
  obtain ⟨a0, a1, a2, a3, a4, a5, a6, a7, e, q0, q1, q2, q3, q4, ⟨⟨p5, n5, c5, rfl, _⟩, x5, h5, k5, _⟩, _, ⟨⟨p7, n7, c7, rfl, _⟩, x7, h7, k7, _⟩⟩ := fs0_dec _ _ _ h
  obtain ⟨g2, rfl, hg2⟩ := u64_nat q2
  obtain ⟨g3, rfl, hg3⟩ := u64_nat q3
  exact ⟨⟨a0, a1, g2, g3, a4, ⟨p5, n5, c5⟩, a6, ⟨p7, n7, c7⟩, x5, x7⟩, e, h5, h7, k5, hg2, hg3, i64_leS q1⟩
end
theorem sg_DoesI {w : World} {R : Value → World → Prop} (hT : Tab w) {room seg size : Int} (hs : (Lit.int .u64 seg).wf = true) {lv : Value} {xs : List FS} (ha : Arr encFS 8 w lv xs) (hi : ∀ x ∈ xs, FsE w x) (hR : ∀ w', Fr [] w w' → R (.bool true) w') :
    CALL PR F_tumbrellaw15_SeglogDoes [.int .i64 room, .int .u64 seg, .int .i64 size, lv] w R := by
  obtain ⟨n, rfl, hn⟩ := u64_nat hs
  exact sg_Does hT room n hn size ⟨ha, hi⟩ hR
end Go.Proofs.YtofllgbdphakiaaGreatDoor
end
