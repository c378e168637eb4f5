/- The document's disk: files. No condition but sizes. -/
import Derived.Test.YtpefokoiioeomaaDiskRef3
import Derived.Test.YtpefokoiioeomaaMa
namespace Go.Proofs.Ytpefokoiioeomaa
open Go.Den Go.Disk
theorem absorb {P Q R I I' : HP} {w0 w : World} {F0 : List Nat} (h : At w0 F0 (stars [P, Q, R, I]) w) (hI : ∀ A B, P.p w A → I.p w B → I'.p w (B ++ A)) : At w0 F0 (stars [Q, R, I']) w := by
  refine At.mono2 h fun F hF => ?_
  obtain ⟨A, _, n2, ⟨A2, _, hp, ⟨A3, _, hs, ⟨A4, _, hi, ⟨_, rfl⟩, rfl, d4⟩, rfl, d3⟩, rfl, d2⟩, rfl, d1⟩ := hF
  refine ⟨A2 ++ (A3 ++ ((A4 ++ A) ++ [])), ⟨A2, _, hp, ⟨A3, _, hs, ⟨A4 ++ A, [], hI _ _ n2 hi, ⟨trivial, rfl⟩, rfl, by simp⟩, rfl, fun b hb hb' => ?_⟩, rfl, fun b hb hb' => ?_⟩, fun b hb => ?_⟩
  · simp only [List.append_nil, List.mem_append] at hb'
    rcases hb' with hb' | hb'
    · exact d3 b hb (by simp [hb'])
    · exact d1 b hb' (by simp [hb])
  · simp only [List.append_nil, List.mem_append] at hb'
    rcases hb' with hb' | hb' | hb'
    · exact d2 b hb (by simp [hb'])
    · exact d2 b hb (by simp [hb'])
    · exact d1 b hb' (by simp [hb])
  · simp only [List.append_nil, List.mem_append] at hb ⊢
    rcases hb with hb | hb | hb | hb <;> simp [hb]
section
variable {w0 w w' : World} {F0 : List Nat} {d : Nat} {s : Dk} {fv dv : Value} {fc : List (SV × Nat)} {es : List SV} {f : Nat} {x : Fl}
/-- where a file's row stands, how it reads, and is changed. -/
theorem rf_spot (h : At w0 F0 (stars (rfL d s fv dv fc es)) w) (hx : s.files[f]? = some x) : ∃ (b : Nat) (v : SV), iaddr 2 fv (.int .i64 (f : Int)) = some (.pointer (some ⟨b, f * 2, none⟩)) ∧
    (∀ w', Fr [] w w' → load1 w' (.pointer (some ⟨d, 1, none⟩)) = some fv ∧ load1 w' (.pointer (some ⟨b, f * 2 + 0, none⟩)) = some v.v ∧ load1 w' (.pointer (some ⟨b, f * 2 + 1, none⟩)) = some (.int .i64 (x.sure : Int)) ∧ loadn 2 w' (.pointer (some ⟨b, f * 2, none⟩)) = some (.agg #[v.v, .int .i64 (x.sure : Int)]) ∧ ∃ G, Slc encB 1 w' v.v x.b G) ∧
    (∀ w' v' G' bs K, Fr [] w w' → Slc encB 1 w' (SV.v v') bs G' → (∀ b ∈ G', hsz w ≤ b) → (∀ w'', At w0 F0 (stars (rfL d (setF s f ⟨bs, x.sure⟩) fv dv (fc.set f (v', x.sure)) es)) w'' → K w'') → BND (storev 1 w' (.pointer (some ⟨b, f * 2 + 0, none⟩)) (SV.v v')) K) ∧
    (∀ w' (k : Nat) K, Fr [] w w' → (∀ w'', At w0 F0 (stars (rfL d (setF s f ⟨x.b, k⟩) fv dv (fc.set f (v, k)) es)) w'' → K w'') → BND (storev 1 w' (.pointer (some ⟨b, f * 2 + 1, none⟩)) (.int .i64 (k : Int))) K) ∧
    (∀ w' v' G' bs (k : Nat) K, Fr [] w w' → Slc encB 1 w' (SV.v v') bs G' → (∀ b ∈ G', hsz w ≤ b) → (∀ w'', At w0 F0 (stars (rfL d (setF s f ⟨bs, k⟩) fv dv (fc.set f (v', k)) es)) w'' → K w'') → BND (storev 2 w' (.pointer (some ⟨b, f * 2, none⟩)) (.agg #[SV.v v', .int .i64 (k : Int)])) K) := by
  obtain ⟨T, c⟩ := h.cell (i := 0) rfl
  obtain ⟨F, ⟨_, _, _, ⟨hfl, hF⟩⟩, _⟩ := h.get 2 rfl
  obtain ⟨v, G, hv, sb, _⟩ := hF f x hx
  obtain ⟨Ff, sf, _⟩ := h.slc1 (i := 1) rfl
  have hlt : f < fc.length := (List.getElem?_eq_some_iff.1 hv).1
  obtain ⟨b, rfl, ia⟩ := sf.iaddr hlt .i64
  have same : ∀ {w'}, Fr [] w w' → ∀ {A}, Slc encG 2 w' fv fc A → A = [b] := fun fr A sA => by
    obtain ⟨b', rfl, ia'⟩ := sA.iaddr hlt .i64
    rw [ia] at ia'
    simp only [Option.some.injEq, Value.pointer.injEq, Addr.mk.injEq] at ia'
    rw [ia'.1]
  refine ⟨b, v, ia, fun w' fr => ?_, fun w' v' G' bs K fr sv hg hK => ?_, fun w' k K fr hK => ?_, fun w' v' G' bs k K fr sv hg hK => ?_⟩
  · have sf' := sf.fr fr (by simp)
    have c' := fr.some (by simp) c
    have q0 := sf'.load1 (i := f) (j := 0) hv (by omega)
    have q1 := sf'.load1 (i := f) (j := 1) hv (by omega)
    have ld : ∀ j u, (encG (v, x.sure))[j]? = some u → load1 w' (.pointer (some ⟨b, f * 2 + j, none⟩)) = some u := fun j u hu => by
      have hj : j < 2 := by have := (List.getElem?_eq_some_iff.1 hu).1; simpa [encG] using this
      rw [sf'.load1 (i := f) (j := j) hv hj, hu]
    obtain ⟨cap, cc, TT, _, hb, hc, hs, he⟩ := sf'.cells rfl
    refine ⟨load1_at c' rfl, ld 0 _ rfl, ld 1 _ rfl, ?_, G, sb.fr fr (by simp)⟩
    obtain ⟨b2, o2, i2, l2, _, _⟩ := sf'.arr.spot hv rfl .i64
    rw [ia] at i2
    cases i2
    exact l2
  · have ha := h.add fr (P := slc encB 1 (SV.v v') bs) sv hg
    obtain ⟨A, sA, upd⟩ := ha.upd 2 rfl
    replace sA : Slc encG 2 w' fv fc A := sA
    obtain rfl := same fr sA
    obtain ⟨w2, e2, s2, f2, _⟩ := sA.set1 (j := 0) (y := (v', x.sure)) (u := SV.v v') hv (by omega) (by intro m hm; rcases m with _ | _ | m <;> first | (simp [encG]; done) | omega) rfl rfl
    refine BND_step e2 (hK w2 (absorb (upd w2 [b] (slc encG 2 fv (fc.set f (v', x.sure))) s2 f2 (fun _ hb => .inl hb)) fun A B hA hB => ?_))
    obtain ⟨i1, ⟨G5, i2, i3⟩, i4, i5⟩ := hB
    replace hA : Slc encB 1 w2 (SV.v v') bs A := hA
    refine ⟨fun b hb => ?_, ⟨G5, i2, fun b hb => by simp [i3 b hb]⟩, i4.sub fun b hb => by simp [hb], (i5.sub fun b hb => by simp [hb]).set (x := ⟨bs, x.sure⟩) hA (fun b hb => by simp [hb])⟩
    rcases List.mem_append.1 hb with hb | hb
    · exact i1 b hb
    · exact hA.lt b hb
  · have ha := h.add fr (P := emp) ⟨trivial, rfl⟩ (A := []) (by simp)
    obtain ⟨A, sA, upd⟩ := ha.upd 2 rfl
    replace sA : Slc encG 2 w' fv fc A := sA
    obtain rfl := same fr sA
    obtain ⟨w2, e2, s2, f2, _⟩ := sA.set1 (j := 1) (y := (v, k)) (u := .int .i64 (k : Int)) hv (by omega) (by intro m hm; rcases m with _ | _ | m <;> first | (simp [encG]; done) | omega) rfl rfl
    refine BND_step e2 (hK w2 (absorb (upd w2 [b] (slc encG 2 fv (fc.set f (v, k))) s2 f2 (fun _ hb => .inl hb)) fun A B hA hB => ?_))
    obtain ⟨_, rfl⟩ := hA
    obtain ⟨i1, ⟨G5, i2, i3⟩, i4, i5⟩ := hB
    obtain ⟨v2, G2, hv2, sb2, g2⟩ := i5.2 f x hx
    rw [hv] at hv2
    cases hv2
    rw [List.append_nil]
    exact ⟨i1, ⟨G5, i2, i3⟩, i4, i5.set (x := ⟨x.b, k⟩) sb2 g2⟩
  · have ha := h.add fr (P := slc encB 1 (SV.v v') bs) sv hg
    obtain ⟨A, sA, upd⟩ := ha.upd 2 rfl
    replace sA : Slc encG 2 w' fv fc A := sA
    obtain rfl := same fr sA
    obtain ⟨w2, e2, s2, f2, _⟩ := sA.set (x := (v', k)) hlt rfl (encG_one _) (by omega)
    refine BND_step e2 (hK w2 (absorb (upd w2 [b] (slc encG 2 fv (fc.set f (v', k))) s2 f2 (fun _ hb => .inl hb)) fun A B hA hB => ?_))
    obtain ⟨i1, ⟨G5, i2, i3⟩, i4, i5⟩ := hB
    replace hA : Slc encB 1 w2 (SV.v v') bs A := hA
    refine ⟨fun b hb => ?_, ⟨G5, i2, fun b hb => by simp [i3 b hb]⟩, i4.sub fun b hb => by simp [hb], (i5.sub fun b hb => by simp [hb]).set (x := ⟨bs, k⟩) hA (fun b hb => by simp [hb])⟩
    rcases List.mem_append.1 hb with hb | hb
    · exact i1 b hb
    · exact hA.lt b hb
end
set_option linter.unusedSimpArgs false
set_option linter.unusedVariables false
set_option maxRecDepth 20000
set_option maxHeartbeats 4000000
attribute [local congr] BND_cg COND_cg GEF_cg
attribute [local irreducible] load1 loadn iaddr iaddra faddr storev newslice binv lookv mupd mdel mlenv mentry mestore slicev slicev3 slices indexs indexav textv rangev nexts clearv shiftv eqaggv convi buildv pickv lens lenl unv nilchk extractv partn JOIN
section
variable {w0 w w' : World} {F0 : List Nat} {d : Nat} {s : Dk} {R : Value → World → Prop}
theorem rf_Read (h : At w0 F0 (rfHP d s) w) (hw : s.Wf) (hn : s.dirs.length < 1000000000) (n : ByteArray) (hR : ∀ w' v G, At w0 F0 (rfHP d s) w' → Slc encB 1 w' v (Disk.read s n).1 G → (∀ b ∈ G, hsz w ≤ b) → Fr [] w w' → R (.tuple #[v, .int .i64 (Disk.read s n).2]) w') : CALL PR F_tumbrelref06_Disk_Read [ptrTo d, .string n] w R := by
  obtain ⟨fv, dv, fc, es, hs⟩ := rf_open h
  refine C_tumbrelref06_Disk_Read ?_
  unfold M_tumbrelref06_Disk_Read
  unfold Disk.read at hR
  obtain ⟨T, c⟩ := hs.cell (i := 0) rfl
  cases hg : s.gone with
  | true =>
    unfold rfC at c
    rw [hg] at hR c
    unfold ptrTo
    (repeat (first | (apply BND_ld c; exact rfl) | refine stp ?_ | (apply BND_inc; omega) | (apply BND_dec; omega) | refine BND_step (rfl : some _ = some _) ?_ | (apply cyes; first | assumption | omega) | (apply cno; first | assumption | omega) | refine (COND_true _ _).2 ?_ | refine (COND_false _ _).2 ?_ | simp (disch := first | assumption | omega) only [gs1, gs2, decide_true, decide_false, eq_self, beq_self_eq_true, Bool.not_true, Bool.not_false]))
    exact hR w _ [] h (Slc.nil _ _ _) (by simp) (Fr.refl _ _)
  | false =>
    rw [hg] at hR
    unfold rfC at c
    rw [hg] at c
    unfold ptrTo
    (repeat (first | (apply BND_ld c; exact rfl) | refine stp ?_ | (apply BND_inc; omega) | (apply BND_dec; omega) | refine BND_step (rfl : some _ = some _) ?_ | (apply cyes; first | assumption | omega) | (apply cno; first | assumption | omega) | refine (COND_true _ _).2 ?_ | refine (COND_false _ _).2 ?_ | simp (disch := first | assumption | omega) only [gs1, gs2, decide_true, decide_false, eq_self, beq_self_eq_true, Bool.not_true, Bool.not_false]))
    refine rf_find h hw hn n fun w1 f1 => ?_
    cases hf : s.find n with
    | none =>
      rw [hf] at hR
      have e1 : numOf (none : Option Nat) = -1 := rfl
      rw [e1]
      (repeat (first | refine stp ?_ | (apply BND_inc; omega) | (apply BND_dec; omega) | refine BND_step (rfl : some _ = some _) ?_ | (apply cyes; first | assumption | omega) | (apply cno; first | assumption | omega) | refine (COND_true _ _).2 ?_ | refine (COND_false _ _).2 ?_ | simp (disch := first | assumption | omega) only [gs1, gs2, decide_true, decide_false, eq_self, beq_self_eq_true, Bool.not_true, Bool.not_false]))
      exact hR w1 _ [] (h.fr0 f1) (Slc.nil _ _ _) (by simp) f1
    | some f =>
      rw [hf] at hR
      have e1 : numOf (some f) = (f : Int) := rfl
      rw [e1]
      have hx := wf_pick hw hf
      obtain ⟨b, v, ia, rd, _⟩ := rf_spot hs hx
      (repeat (first | refine stp ?_ | (apply BND_inc; omega) | (apply BND_dec; omega) | refine BND_step (rfl : some _ = some _) ?_ | (apply cyes; first | assumption | omega) | (apply cno; first | assumption | omega) | refine (COND_true _ _).2 ?_ | refine (COND_false _ _).2 ?_ | simp (disch := first | assumption | omega) only [gs1, gs2, decide_true, decide_false, eq_self, beq_self_eq_true, Bool.not_true, Bool.not_false]))
      refine newnil_step encB fun t w2 s2 f2 z2 => ?_
      obtain ⟨l1, l2, _, _, Gb, sb⟩ := rd w2 (f1.trans' f2)
      have hsm := hw.small _ (List.mem_of_getElem? hx)
      have hrm := hw.room
      (repeat (first | refine BND_step l1 ?_ | refine BND_step ia ?_ | refine BND_step l2 ?_ | refine stp ?_ | (apply BND_inc; omega) | (apply BND_dec; omega) | refine BND_step (rfl : some _ = some _) ?_ | (apply cyes; first | assumption | omega) | (apply cno; first | assumption | omega) | refine (COND_true _ _).2 ?_ | refine (COND_false _ _).2 ?_ | simp (disch := first | assumption | omega) only [gs1, gs2, decide_true, decide_false, eq_self, beq_self_eq_true, Bool.not_true, Bool.not_false]))
      refine APPEND_slc s2 (sb.loads encB_len) encB_len encB_one rfl (by simp; omega) (by simp; omega) fun v3 w3 G3 s3 f3 sub3 => ?_
      rw [List.nil_append] at s3
      have f03 : Fr [] w w3 := (f1.trans' f2).trans f3 fun b hb => .inr (by have := f1.grow; simp at hb; omega)
      (repeat (first | refine stp ?_ | (apply BND_inc; omega) | (apply BND_dec; omega) | refine BND_step (rfl : some _ = some _) ?_ | (apply cyes; first | assumption | omega) | (apply cno; first | assumption | omega) | refine (COND_true _ _).2 ?_ | refine (COND_false _ _).2 ?_ | simp (disch := first | assumption | omega) only [gs1, gs2, decide_true, decide_false, eq_self, beq_self_eq_true, Bool.not_true, Bool.not_false]))
      refine hR w3 v3 G3 (h.fr0 f03) s3 (fun b hb => ?_) f03
      have := f1.grow
      rcases sub3 b hb with hq | hq
      · simp at hq; omega
      · omega
theorem rf_Names (h : At w0 F0 (rfHP d s) w) (hw : s.Wf) (hn : s.dirs.length < 1000000000) (hR : ∀ w' v G, At w0 F0 (rfHP d s) w' → Slc encN 1 w' v (s.now.map (·.1)) G → (∀ b ∈ G, hsz w ≤ b) → Fr [] w w' → R v w') : CALL PR F_tumbrelref06_Disk_Names [ptrTo d] w R := by
  obtain ⟨fv, dv, fc, es, hs⟩ := rf_open h
  refine C_tumbrelref06_Disk_Names ?_
  unfold M_tumbrelref06_Disk_Names
  have h60 := hw.many _ (now_mem hw)
  refine newnil_step encN fun t w1 s1 f1 z1 => ?_
  obtain ⟨F, ⟨_, _, ⟨_, hE⟩, _⟩, _⟩ := hs.get 2 rfl
  obtain ⟨e0, Ge, he0, se0, _⟩ := hE _ _ (dk_now_get hw.ne)
  refine rf_now (hs.fr0 f1) hw.ne hn fun e _ he _ => ?_
  rw [he0] at he
  cases he
  have f2 := f1.trans' (Fr.drew [] w1)
  have se := se0.fr f2 (by simp)
  refine loop_up2 (o := t) 0 s.now.length (fun o i w' => ∃ H, Slc encN 1 w' o ((s.now.take i).map (·.1)) H ∧ (∀ b ∈ H, hsz w ≤ b) ∧ Fr [] w w' ∧ Slc encE 2 w' e0.v s.now Ge ∧ ∀ b ∈ Ge, b ∉ H) ⟨[hsz w], s1.fr (Fr.drew [] w1) (by simp), by simp, f2, se, fun b hb hb' => by have := se0.lt b hb; simp at hb'; omega⟩ (by omega) ?_
  rintro o i w3 - hi ⟨H, s3, h3, f3, se3, hd⟩ J m hJ
  by_cases hlt : i < s.now.length
  · have hx := List.getElem?_eq_getElem hlt
    generalize s.now[i] = x at hx
    obtain ⟨b, o2, ia, _, _, l1⟩ := se3.arr.spot hx rfl .i64
    (repeat (first | refine BND_step se3.len ?_ | refine BND_step ia ?_ | (apply BND_step; exact (l1 (w' := w3) rfl (j := 0) rfl)) | refine stp ?_ | (apply BND_inc; omega) | (apply BND_dec; omega) | refine BND_step (rfl : some _ = some _) ?_ | (apply cyes; first | assumption | omega) | (apply cno; first | assumption | omega) | refine (COND_true _ _).2 ?_ | refine (COND_false _ _).2 ?_ | simp (disch := first | assumption | omega) only [gs1, gs2, decide_true, decide_false, eq_self, beq_self_eq_true, Bool.not_true, Bool.not_false]))
    refine push_step (enc := encN) (x := x.1) s3 encN_len encN_one rfl rfl (by omega) (by simp; omega) fun v4 w4 G4 s4 g4 f4 => ?_
    (repeat (first | refine stp ?_ | (apply BND_inc; omega) | (apply BND_dec; omega) | refine BND_step (rfl : some _ = some _) ?_ | (apply cyes; first | assumption | omega) | (apply cno; first | assumption | omega) | refine (COND_true _ _).2 ?_ | refine (COND_false _ _).2 ?_ | simp (disch := first | assumption | omega) only [gs1, gs2, decide_true, decide_false, eq_self, beq_self_eq_true, Bool.not_true, Bool.not_false]))
    refine hJ _ _ hlt ⟨G4, ?_, fun b hb => ?_, f3.trans f4 fun b hb => .inr (h3 b hb), se3.fr f4 hd, fun b hb hb' => ?_⟩
    · rw [List.take_add_one, hx, List.map_append]; exact s4
    · rcases g4 b hb with hq | hq
      · exact h3 b hq
      · have := f3.grow; omega
    · rcases g4 b hb' with hq | hq
      · exact hd b hb hq
      · have := se3.lt b hb; omega
  · (repeat (first | refine BND_step se3.len ?_ | refine stp ?_ | (apply BND_inc; omega) | (apply BND_dec; omega) | refine BND_step (rfl : some _ = some _) ?_ | (apply cyes; first | assumption | omega) | (apply cno; first | assumption | omega) | refine (COND_true _ _).2 ?_ | refine (COND_false _ _).2 ?_ | simp (disch := first | assumption | omega) only [gs1, gs2, decide_true, decide_false, eq_self, beq_self_eq_true, Bool.not_true, Bool.not_false]))
    rw [List.take_of_length_le (by omega)] at s3
    exact hR w3 o H (h.fr0 f3) s3 h3 f3
theorem rf_Sync (h : At w0 F0 (rfHP d s) w) (hw : s.Wf) (hn : s.dirs.length < 1000000000) (n : ByteArray) (hR : ∀ w', At w0 F0 (rfHP d (sync s n).1) w' → R (.int .i64 (sync s n).2) w') : CALL PR F_tumbrelref06_Disk_Sync [ptrTo d, .string n] w R := by
  refine C_tumbrelref06_Disk_Sync ?_
  unfold M_tumbrelref06_Disk_Sync
  refine rf_find h hw hn n fun w1 f1 => ?_
  have h1 := h.fr0 f1
  (repeat (first | refine stp ?_ | (apply BND_inc; omega) | (apply BND_dec; omega) | refine BND_step (rfl : some _ = some _) ?_ | (apply cyes; first | assumption | omega) | (apply cno; first | assumption | omega) | refine (COND_true _ _).2 ?_ | refine (COND_false _ _).2 ?_ | simp (disch := first | assumption | omega) only [gs1, gs2, decide_true, decide_false, eq_self, beq_self_eq_true, Bool.not_true, Bool.not_false]))
  refine join_v (Q := fun v w' => v = .int .i64 (there s n) ∧ w' = w1) (fun k hk => ?_) ?_
  · rw [there_num] at hk
    by_cases hf : numOf (s.find n) < 0
    · (repeat (first | refine stp ?_ | (apply BND_inc; omega) | (apply BND_dec; omega) | refine BND_step (rfl : some _ = some _) ?_ | (apply cyes; first | assumption | omega) | (apply cno; first | assumption | omega) | refine (COND_true _ _).2 ?_ | refine (COND_false _ _).2 ?_ | simp (disch := first | assumption | omega) only [gs1, gs2, decide_true, decide_false, eq_self, beq_self_eq_true, Bool.not_true, Bool.not_false]))
      exact hk _ _ ⟨by rw [if_pos hf], rfl⟩
    · (repeat (first | refine stp ?_ | (apply BND_inc; omega) | (apply BND_dec; omega) | refine BND_step (rfl : some _ = some _) ?_ | (apply cyes; first | assumption | omega) | (apply cno; first | assumption | omega) | refine (COND_true _ _).2 ?_ | refine (COND_false _ _).2 ?_ | simp (disch := first | assumption | omega) only [gs1, gs2, decide_true, decide_false, eq_self, beq_self_eq_true, Bool.not_true, Bool.not_false]))
      exact hk _ _ ⟨by rw [if_neg hf], rfl⟩
  rintro _ _ ⟨rfl, rfl⟩
  refine rf_can h1 _ hw.burn fun w3 h3 => ?_
  unfold sync at hR
  by_cases hc : (can s (there s n)).2 = 0
  · simp only [hc, if_true] at hR
    rw [hc]
    obtain ⟨f, hf⟩ : ∃ f, s.find n = some f := by
      have h0 := can_zero hc
      rw [there_num] at h0
      cases hq : s.find n with
      | none => rw [hq] at h0; simp [numOf] at h0
      | some f => exact ⟨f, rfl⟩
    rw [hf] at hR ⊢
    have e1 : numOf (some f) = (f : Int) := rfl
    rw [e1]
    simp only [Option.getD_some] at hR
    obtain ⟨k1, k2, k3⟩ := can_keep s (there s n)
    have hx := wf_pick hw hf
    generalize (can s (there s n)).1 = s1 at *
    (repeat (first | refine stp ?_ | (apply BND_inc; omega) | (apply BND_dec; omega) | refine BND_step (rfl : some _ = some _) ?_ | (apply cyes; first | assumption | omega) | (apply cno; first | assumption | omega) | refine (COND_true _ _).2 ?_ | refine (COND_false _ _).2 ?_ | simp (disch := first | assumption | omega) only [gs1, gs2, decide_true, decide_false, eq_self, beq_self_eq_true, Bool.not_true, Bool.not_false]))
    refine join_w (fun w' => At w0 F0 (rfHP d (setF s1 f { fileAt s f with sure := (fileAt s f).b.length })) w') (fun K hK => ?_) (fun w' hw' => hR w' hw')
    obtain ⟨fv, dv, fc, es, hs⟩ := rf_open h3
    obtain ⟨b, v, ia, rd, _, st, _⟩ := rf_spot hs (f := f) (by rw [k1]; exact hx)
    obtain ⟨l1, l2, _, _, Gb, sb⟩ := rd w3.drew (Fr.drew _ _)
    unfold ptrTo
    (repeat (first | refine BND_step l1 ?_ | refine BND_step ia ?_ | refine BND_step l2 ?_ | refine BND_step sb.len ?_ | refine stp ?_ | (apply BND_inc; omega) | (apply BND_dec; omega) | refine BND_step (rfl : some _ = some _) ?_ | (apply cyes; first | assumption | omega) | (apply cno; first | assumption | omega) | refine (COND_true _ _).2 ?_ | refine (COND_false _ _).2 ?_ | simp (disch := first | assumption | omega) only [gs1, gs2, decide_true, decide_false, eq_self, beq_self_eq_true, Bool.not_true, Bool.not_false]))
    refine st w3.drew _ _ (Fr.drew _ _) fun w5 h5 => ?_
    (repeat (first | refine stp ?_ | (apply BND_inc; omega) | (apply BND_dec; omega) | refine BND_step (rfl : some _ = some _) ?_ | (apply cyes; first | assumption | omega) | (apply cno; first | assumption | omega) | refine (COND_true _ _).2 ?_ | refine (COND_false _ _).2 ?_ | simp (disch := first | assumption | omega) only [gs1, gs2, decide_true, decide_false, eq_self, beq_self_eq_true, Bool.not_true, Bool.not_false]))
    exact hK _ (rf_shut h5)
  · simp only [hc, if_false] at hR
    (repeat (first | refine stp ?_ | (apply BND_inc; omega) | (apply BND_dec; omega) | refine BND_step (rfl : some _ = some _) ?_ | (apply cyes; first | assumption | omega) | (apply cno; first | assumption | omega) | refine (COND_true _ _).2 ?_ | refine (COND_false _ _).2 ?_ | simp (disch := first | assumption | omega) only [gs1, gs2, decide_true, decide_false, eq_self, beq_self_eq_true, Bool.not_true, Bool.not_false]))
    refine join_w (fun w' => At w0 F0 (rfHP d (can s (there s n)).1) w') (fun K hK => ?_) (fun w' hw' => hR w' hw')
    (repeat (first | refine stp ?_ | (apply BND_inc; omega) | (apply BND_dec; omega) | refine BND_step (rfl : some _ = some _) ?_ | (apply cyes; first | assumption | omega) | (apply cno; first | assumption | omega) | refine (COND_true _ _).2 ?_ | refine (COND_false _ _).2 ?_ | simp (disch := first | assumption | omega) only [gs1, gs2, decide_true, decide_false, eq_self, beq_self_eq_true, Bool.not_true, Bool.not_false]))
    exact hK _ h3
end
end Go.Proofs.Ytpefokoiioeomaa
