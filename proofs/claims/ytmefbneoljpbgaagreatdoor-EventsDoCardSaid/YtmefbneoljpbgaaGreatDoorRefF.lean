
/- The document's names, and events, walked. Conditions: numbers are of 64 bits; sizes. -/
import Derived.Test.YtmefbneoljpbgaaGreatDoorRefE
import Derived.Test.YtmefbneoljpbgaaGreatDoorEvW
import Derived.Test.YtmefbneoljpbgaaGreatDoorEvH
import Derived.Test.YtmefbneoljpbgaaGreatDoorGf
import Derived.Test.YtmefbneoljpbgaaGreatDoorMb
namespace Go.Proofs.YtmefbneoljpbgaaGreatDoor
open Go.Den Go.Disk Go.Vint Go.Crc Go.Frame Go.Rec Go.Ev Go.Nm
theorem dig_conv {n : Nat} (h : n < 10) : convi .u8 (.int .u64 ((48 + n : Nat) : Int)) = some (.int .u8 ((UInt8.ofNat (48 + n)).toNat : Int)) := by
  rw [conv8n, UInt8.toNat_ofNat']
theorem dec_size {n : Nat} (h : n < 18446744073709551616) : (Lib.decDigits n).length ≤ 20 := (dec_len 19 n (by omega)).1
theorem txB_one (c : UInt8) : txB [c] = ⟨#[c]⟩ := rfl
theorem dec_cat {n : Nat} (h : ¬ n < 10) : (⟨(Lib.decDigits (n / 10)).toArray⟩ : ByteArray) ++ txB [UInt8.ofNat (48 + n % 10)] = ⟨(Lib.decDigits n).toArray⟩ := by
  refine ByteArray.ext (Array.ext' ?_)
  rw [dec_big h]
  simp [txB]
set_option linter.unusedSimpArgs false
set_option linter.unusedVariables false
set_option maxRecDepth 20000
set_option maxHeartbeats 4000000
attribute [local congr] BND_cg COND_cg GEF_cg
attribute [local irreducible] capl slicea load1 loadn iaddr iaddra faddr storev newslice binv lookv mupd mdel mlenv mentry mestore slicev slicev3 slices indexs indexav textv rangev nexts clearv shiftv eqaggv convi buildv pickv lens lenl unv nilchk extractv partn JOIN
theorem r14_digits : ∀ (n : Nat), n < 18446744073709551616 → ∀ {w : World} {R : Value → World → Prop}, (∀ w', Fr [] w w' → R (.string ⟨(Lib.decDigits n).toArray⟩) w') → CALL PR F_tumbrelref14_digits [.int .u64 (n : Int)] w R := by
  intro n
  induction n using Nat.strongRecOn with
  | _ n ih =>
    intro hn w R hR
    refine C_tumbrelref14_digits ?_
    unfold M_tumbrelref14_digits
    have e1 := remU n 10 (by omega)
    have e2 : binv .int .add (.int .u64 48) (.int .u64 ((n % 10 : Nat) : Int)) = some (.int .u64 ((48 + n % 10 : Nat) : Int)) := addU (x := 48) (by omega)
    have e3 := dig_conv (n := n % 10) (by omega)
    (repeat refine gg ?_)
    refine newone_step (enc := encB) (x := UInt8.ofNat (48 + n % 10)) (y := .int .u8 ((UInt8.ofNat (48 + n % 10)).toNat : Int)) encB_len rfl fun t w1 s1 f1 z1 => ?_
    have et := textB s1.arr
    by_cases h : n < 10
    · (repeat refine gg ?_)
      have := hR w1 f1
      rw [dec_small h] at this
      rw [show n % 10 = n by omega]
      exact this
    · have e4 := quoU n 10 (by omega) hn
      (repeat refine gg ?_)
      refine ih (n / 10) (by omega) (by omega) fun w2 f2 => ?_
      have hs := dec_size (n := n / 10) (by omega)
      have ec := cat_ (x := ⟨(Lib.decDigits (n / 10)).toArray⟩) (y := txB [UInt8.ofNat (48 + n % 10)]) (by rw [arr_size (Lib.decDigits (n / 10))]; show _ + 1 < 1000000; omega)
      rw [dec_cat h] at ec
      (repeat refine gg ?_)
      exact hR _ (f1.trans' f2)
section
variable {w : World} {R : Value → World → Prop}
theorem r14_Of (k : UInt8) (n : Nat) (hn : n < 18446744073709551616) (hR : ∀ w', Fr [] w w' → R (.tuple #[.string (nameOf k n).1, .int .i64 (nameOf k n).2]) w') : CALL PR F_tumbrelref14_Of [.int .u8 (k.toNat : Int), .int .u64 (n : Int)] w R := by
  refine C_tumbrelref14_Of ?_
  unfold M_tumbrelref14_Of
  obtain ⟨L, hL⟩ : ∃ L : Int, L = 9999999999 := ⟨_, rfl⟩
  rw [← hL]
  have kinj : ∀ c : UInt8, ((k.toNat : Nat) : Int) = ((c.toNat : Nat) : Int) ↔ k = c := fun c => by rw [Int.ofNat_inj, UInt8.toNat_inj]
  have bad : okN k n = false → R (.tuple #[.string ⟨#[]⟩, .int .i64 1]) w := fun h => by
    have := hR w (Fr.refl _ _)
    unfold nameOf at this
    rw [if_neg (by rw [h]; simp)] at this
    exact this
  have good : kindN k = true → n < 10000000000 → ∀ (f : (Value → Value → World → Prop) → Prop), (∀ K : Value → Value → World → Prop, (∀ w', Fr [] w w' → K (.string (nmB k n)) (.int .i64 0) w') →
      ((BND (newslice 5 #[(Value.int .u8 0)] 1 2 [(0, 1, .int .u8 (k.toNat : Int)), (1, 1, (Value.int .u8 46))] w.drew) fun p_ => NEW p_ fun t21 w2 => BND (textv .u8 textOfBytes w2 t21) fun t22 => CALL PR F_tumbrelref14_digits [.int .u64 (n : Int)] w2 fun t24 w3 => BND (binv .str .add t22 t24) fun t25 => K t25 (Value.int .i64 0) w3) ∧
      (BND (newslice 5 #[(Value.int .u8 0)] 1 2 [(0, 1, .int .u8 (k.toNat : Int)), (1, 1, (Value.int .u8 46))] w.drew) fun p_ => NEW p_ fun t21 w4 => CALL PR F_tumbrelref14_digits [.int .u64 (n : Int)] w4 fun t24 w5 => BND (textv .u8 textOfBytes w5 t21) fun t22 => BND (binv .str .add t22 t24) fun t25 => K t25 (Value.int .i64 0) w5) ∧
      (CALL PR F_tumbrelref14_digits [.int .u64 (n : Int)] w.drew fun t24 w6 => BND (newslice 5 #[(Value.int .u8 0)] 1 2 [(0, 1, .int .u8 (k.toNat : Int)), (1, 1, (Value.int .u8 46))] w6) fun p_ => NEW p_ fun t21 w7 => BND (textv .u8 textOfBytes w7 t21) fun t22 => BND (binv .str .add t22 t24) fun t25 => K t25 (Value.int .i64 0) w7)) → f K) →
      JOIN f fun t4 t5 w1 => R (.tuple #[t4, t5]) w1 := by
    intro hk hlt f hf
    have hs := dec_size hn
    have ec := cat_ (x := txB [k, 46]) (y := ⟨(Lib.decDigits n).toArray⟩) (by rw [arr_size (Lib.decDigits n)]; show 2 + _ < 1000000; omega)
    have en : txB [k, 46] ++ (⟨(Lib.decDigits n).toArray⟩ : ByteArray) = nmB k n := by
      refine ByteArray.ext (Array.ext' ?_)
      simp [nmB, nmL, txB]
    rw [en] at ec
    have ok : okN k n = true := by unfold okN; rw [hk, decide_eq_true hlt]; rfl
    refine join_v2 (fun a b w' => a = .string (nmB k n) ∧ b = .int .i64 0 ∧ Fr [] w w') (fun K hK => hf K (fun w' fr => hK _ _ _ ⟨rfl, rfl, fr⟩) ⟨?_, ?_, ?_⟩) ?_
    · refine newparts_step encB_len (val := fun x : UInt8 => Value.int .u8 (x.toNat : Int)) (fun _ => rfl) [k, 46] rfl rfl fun t w2 s2 f2 z2 => ?_
      have et := textB s2.arr
      (repeat refine gg ?_)
      refine r14_digits n hn fun w3 f3 => ?_
      (repeat refine gg ?_)
      exact hK _ _ _ ⟨rfl, rfl, ((Fr.drew [] w).trans' f2).trans' f3⟩
    · refine newparts_step encB_len (val := fun x : UInt8 => Value.int .u8 (x.toNat : Int)) (fun _ => rfl) [k, 46] rfl rfl fun t w2 s2 f2 z2 => ?_
      refine r14_digits n hn fun w3 f3 => ?_
      have et := textB (s2.fr f3 (by simp)).arr
      (repeat refine gg ?_)
      exact hK _ _ _ ⟨rfl, rfl, ((Fr.drew [] w).trans' f2).trans' f3⟩
    · refine r14_digits n hn fun w3 f3 => ?_
      refine newparts_step encB_len (val := fun x : UInt8 => Value.int .u8 (x.toNat : Int)) (fun _ => rfl) [k, 46] rfl rfl fun t w2 s2 f2 z2 => ?_
      have et := textB s2.arr
      (repeat refine gg ?_)
      exact hK _ _ _ ⟨rfl, rfl, ((Fr.drew [] w).trans' f3).trans' f2⟩
    · rintro _ _ w' ⟨rfl, rfl, fr⟩
      have := hR w' fr
      unfold nameOf at this
      rw [if_pos ok] at this
      exact this
  by_cases hk : kindN k = true
  · have hk' := hk
    unfold kindN at hk'
    simp only [Bool.or_eq_true, decide_eq_true_eq] at hk'
    have big : L < (n : Int) → R (.tuple #[.string ⟨#[]⟩, .int .i64 1]) w := fun h => bad (by unfold okN; rw [decide_eq_false (show ¬ n < 10000000000 by omega)]; simp)
    by_cases hn' : L < (n : Int)
    · rcases hk' with (rfl | rfl) | rfl
      · have e : (((109 : UInt8).toNat : Nat) : Int) = 109 := rfl
        rw [e]
        (repeat refine gg ?_)
        exact big hn'
      · have e : (((101 : UInt8).toNat : Nat) : Int) = 101 := rfl
        rw [e]
        (repeat refine gg ?_)
        exact big hn'
      · have e : (((115 : UInt8).toNat : Nat) : Int) = 115 := rfl
        rw [e]
        (repeat refine gg ?_)
        exact big hn'
    · rcases hk' with (rfl | rfl) | rfl
      · have e : (((109 : UInt8).toNat : Nat) : Int) = 109 := rfl
        rw [e]
        (repeat refine gg ?_)
        refine ⟨fun _ _ => True, ?_⟩
        exact good hk (by omega) _ fun K _ h => h
      · have e : (((101 : UInt8).toNat : Nat) : Int) = 101 := rfl
        rw [e]
        (repeat refine gg ?_)
        refine ⟨fun _ _ => True, ?_⟩
        exact good hk (by omega) _ fun K _ h => h
      · have e : (((115 : UInt8).toNat : Nat) : Int) = 115 := rfl
        rw [e]
        (repeat refine gg ?_)
        refine ⟨fun _ _ => True, ?_⟩
        exact good hk (by omega) _ fun K _ h => h
  · have hk' := hk
    unfold kindN at hk'
    simp only [Bool.or_eq_true, decide_eq_true_eq, not_or] at hk'
    have n1 : ¬ ((k.toNat : Nat) : Int) = 109 := fun h => hk'.1.1 ((kinj 109).1 h)
    have n2 : ¬ ((k.toNat : Nat) : Int) = 101 := fun h => hk'.1.2 ((kinj 101).1 h)
    have n3 : ¬ ((k.toNat : Nat) : Int) = 115 := fun h => hk'.2 ((kinj 115).1 h)
    (repeat refine gg ?_)
    exact bad (by unfold okN; rw [Bool.eq_false_iff.2 hk]; rfl)
end
section
variable {w0 w w' : World} {F0 : List Nat} {d : Nat} {s : Dk} {R : Value → World → Prop}
theorem rapp_step (h : At w0 F0 (rfHP d s) w) (f : Fr [] w w') (hw : s.Wf) (hn : s.dirs.length < 1000000000) (hn2 : s.files.length < 1000000000) (n : ByteArray) {u : Value} {bs : List UInt8} {G : List Nat} (su : Slc encB 1 w' u bs G) (hG : ∀ b ∈ G, hsz w ≤ b) (hbs : bs.length < 1000000000)
    (hR : ∀ w2, At w0 F0 (rfHP d (append s n bs).1) w2 → R (.int .i64 (append s n bs).2) w2) : CALL PR F_tumbrelref06_Disk_Append [ptrTo d, .string n, u] w' R := by
  obtain ⟨A, hz, hA, back⟩ := At.re2 h f
  refine rf_Append hz hw hn hn2 n hbs su.len (fun w'' f' => ?_) fun w2 h2 => hR w2 (back _ _ h2)
  exact (su.fr f' fun b hb hb' => by have := hG b hb; have := hA b hb'; omega).loads encB_len
theorem rv_Begin (h : At w0 F0 (rfHP d s) w) (hi : Inv s) (hn : s.dirs.length < 100000000) (hn2 : s.files.length < 100000000) (g : Nat) (hg : g < 18446744073709551616) (hR : ∀ w', At w0 F0 (rfHP d (evBegin s g).1) w' → R (.int .i64 (evBegin s g).2) w') :
    CALL PR F_tumbrelref17_Begin [ptrTo d, .int .u64 (g : Int)] w R := by
  refine C_tumbrelref17_Begin ?_
  unfold M_tumbrelref17_Begin
  refine r14_Of 101 g hg fun w1 f1 => ?_
  have h1 := h.fr0 f1
  unfold evBegin at hR
  cases hk : okG g with
  | false =>
    rw [nameOf_no hk]
    rw [hk] at hR
    (repeat refine gg ?_)
    exact hR _ h1
  | true =>
    rw [nameOf_yes hk]
    rw [hk] at hR
    (repeat refine gg ?_)
    have hsz_ := (nmB_named (show okN 101 g = true from hk)).2.2
    refine rf_Create h1 hi.wf (by omega) (by omega) (evN g) (Nat.le_trans hsz_ (by omega)) fun w2 h2 => ?_
    by_cases he : (create s (evN g)).2 = 0
    · (repeat refine gg ?_)
      have hm := create_more s (evN g)
      refine rf_Sync h2 (inv_create hi _).wf (by omega) (evN g) fun w3 h3 => ?_
      simp only [if_true, if_pos he] at hR
      exact hR _ h3
    · (repeat refine gg ?_)
      simp only [if_true, if_neg he] at hR
      exact hR _ h2
theorem rv_Sync (h : At w0 F0 (rfHP d s) w) (hi : Inv s) (hn : s.dirs.length < 100000000) (g : Nat) (hg : g < 18446744073709551616) (hR : ∀ w', At w0 F0 (rfHP d (evSync s g).1) w' → R (.int .i64 (evSync s g).2) w') :
    CALL PR F_tumbrelref17_Sync [ptrTo d, .int .u64 (g : Int)] w R := by
  refine C_tumbrelref17_Sync ?_
  unfold M_tumbrelref17_Sync
  refine r14_Of 101 g hg fun w1 f1 => ?_
  have h1 := h.fr0 f1
  unfold evSync at hR
  cases hk : okG g with
  | false =>
    rw [nameOf_no hk]
    rw [hk] at hR
    (repeat refine gg ?_)
    exact hR _ h1
  | true =>
    rw [nameOf_yes hk]
    rw [hk] at hR
    (repeat refine gg ?_)
    refine rf_Sync h1 hi.wf (by omega) (evN g) fun w3 h3 => ?_
    exact hR _ h3
theorem rv_Cut (h : At w0 F0 (rfHP d s) w) (hi : Inv s) (hn : s.dirs.length < 100000000) (g : Nat) (hg : g < 18446744073709551616) (k : Int) (hR : ∀ w', At w0 F0 (rfHP d (evCut s g k).1) w' → R (.int .i64 (evCut s g k).2) w') :
    CALL PR F_tumbrelref17_Cut [ptrTo d, .int .u64 (g : Int), .int .i64 k] w R := by
  refine C_tumbrelref17_Cut ?_
  unfold M_tumbrelref17_Cut
  refine r14_Of 101 g hg fun w1 f1 => ?_
  have h1 := h.fr0 f1
  unfold evCut at hR
  cases hk : okG g with
  | false =>
    rw [nameOf_no hk]
    rw [hk] at hR
    (repeat refine gg ?_)
    exact hR _ h1
  | true =>
    rw [nameOf_yes hk]
    rw [hk] at hR
    simp only [if_true] at hR
    (repeat refine gg ?_)
    refine rf_Read h1 hi.wf (by omega) (evN g) fun w2 v G h2 s2 g2 f2 => ?_
    by_cases he : (Disk.read s (evN g)).2 = 0
    · rw [if_pos he] at hR
      by_cases hl : ((Disk.read s (evN g)).1.length : Int) ≤ k
      · rw [if_pos hl] at hR
        (repeat (first | refine BND_step s2.len ?_ | refine gg ?_))
        exact hR _ h2
      · rw [if_neg hl] at hR
        (repeat (first | refine BND_step s2.len ?_ | refine gg ?_))
        refine rf_Cut h2 hi.wf (by omega) (evN g) k fun w3 h3 => ?_
        exact hR _ h3
    · rw [if_neg he] at hR
      (repeat refine gg ?_)
      exact hR _ h2
theorem rv_Append (h : At w0 F0 (rfHP d s) w) (hi : Inv s) (hn : s.dirs.length < 100000000) (hn2 : s.files.length < 100000000) (g : Nat) (hg : g < 18446744073709551616) {lv : Value} {xs : List Ax} (ha : Arr encAx 8 w lv xs) (hk : ∀ a ∈ xs, OkA a) (hl : xs.length < 100000)
    (hR : ∀ w', At w0 F0 (rfHP d (evAppend s g xs).1) w' → R (.int .i64 (evAppend s g xs).2) w') : CALL PR F_tumbrelref17_Append [ptrTo d, .int .u64 (g : Int), lv] w R := by
  refine C_tumbrelref17_Append ?_
  unfold M_tumbrelref17_Append
  refine r14_Of 101 g hg fun w1 f1 => ?_
  have h1 := h.fr0 f1
  unfold evAppend at hR
  cases hk0 : okG g with
  | false =>
    rw [nameOf_no hk0]
    rw [hk0] at hR
    (repeat refine gg ?_)
    exact hR _ h1
  | true =>
    rw [nameOf_yes hk0]
    rw [hk0] at hR
    simp only [if_true] at hR
    (repeat refine gg ?_)
    refine newnil_step encB fun t w2 s2 f2 z2 => ?_
    have ha1 := ha.fr f1 (by simp)
    refine loop_up2 (o := t) 0 xs.length (fun o i w' => ∃ H, Slc encB 1 w' o (allB (xs.take i)) H ∧ (∀ b ∈ H, hsz w1 ≤ b) ∧ (∀ a ∈ xs.take i, rightA a = true) ∧ Fr [] w1 w') ⟨_, s2, by simp, by simp, f2⟩ (by omega) ?_
    rintro o i w3 - hi3 ⟨H, s3, gH, hp, f3⟩ J m hJ
    by_cases hlt : i < xs.length
    · have hx := List.getElem?_eq_getElem hlt
      have hm := List.getElem_mem hlt
      generalize xs[i] = a at hx hm
      have ha3 := ha1.fr f3 (by simp)
      have hl3 := ha3.len
      obtain ⟨bp, op, ia, ln, _, _⟩ := ha3.spot hx rfl .i64
      (repeat refine gg ?_)
      refine r12_Record a (fun hr w4 f4 => ?_) fun hr w4 sv U sl gU f4 => ?_
      · (repeat refine gg ?_)
        refine box_step (n := 3) (zs := encRc (0, nilV, noB)) (vs := encRc (0, nilV, noB)) rfl rfl (encRc_one _) (by simp [encRc]) fun w5 b5 f5 z5 => ?_
        (repeat refine gg ?_)
        have : xs.all rightA = false := List.all_eq_false.2 ⟨a, hm, by rw [hr]; simp⟩
        rw [this] at hR
        exact hR _ (((h1.fr0 f3).fr0 f4).fr0 f5)
      · (repeat refine gg ?_)
        refine box_step (n := 3) (zs := encRc (0, nilV, noB)) (vs := encRc (a.d, sv, a.name)) rfl rfl (encRc_one _) (by simp [encRc]) fun w5 b5 f5 z5 => ?_
        have q2 := hk a hm
        obtain ⟨r1, r2', _⟩ := right_rec hr q2
        have ets : a.name.size = a.name.data.toList.length := by show a.name.data.size = _; simp
        (repeat (first | refine BND_step (loadn_all' b5 rfl) ?_ | refine gg ?_))
        refine r5_Bytes a.d a.name (sl.fr f5 (by simp)).arr r2' (fun w6 hno _ => by rw [ets, r1] at hno; cases hno) fun w6 v6 G6 _ s6 g6 f6 => ?_
        have f36 := (f4.trans' f5).trans' f6
        have hgp : GoodA (xs.take i) := fun b hb => ⟨hp b hb, hk b (List.mem_of_mem_take hb)⟩
        have hba := (bytesA_len hr q2).2
        have hbt := allB_len hgp
        have htl : (xs.take i).length = i := by rw [List.length_take]; omega
        have gr3 := f3.grow
        have gr36 := f36.grow
        have gr345 := (f4.trans' f5).grow
        have eb : recB a.d.toNat (numsA a) a.name.data.toList = bytesA a := rfl
        rw [eb] at s6
        (repeat refine gg ?_)
        refine APPEND_slc (s3.fr f36 (by simp)) (s6.loads encB_len) encB_len encB_one rfl (by omega) (by omega) fun v7 w7 G7 s7 f7 g7 => ?_
        (repeat refine gg ?_)
        refine hJ _ _ hlt ⟨G7, ?_, fun b hb => ?_, fun b hb => ?_, (f3.trans' f36).trans f7 fun b hb => .inr (gH b hb)⟩
        · rw [take_snoc hx]
          have : allB (xs.take i ++ [a]) = allB (xs.take i) ++ bytesA a := by simp [allB]
          rw [this]; exact s7
        · rcases g7 b hb with hq | hq
          · exact gH b hq
          · omega
        · rw [take_snoc hx] at hb
          rcases List.mem_append.1 hb with hb | hb
          · exact hp b hb
          · simp at hb; subst hb; exact hr
    · obtain rfl : i = xs.length := by omega
      rw [List.take_length] at s3 hp
      have hgood : GoodA xs := fun a ha' => ⟨hp a ha', hk a ha'⟩
      have hbt := allB_len hgood
      have hl3 := (ha1.fr f3 (by simp)).len
      (repeat refine gg ?_)
      have gr1 := f1.grow
      rw [List.all_eq_true.2 hp] at hR
      refine rapp_step h1 f3 hi.wf (by omega) (by omega) (evN g) s3 gH (by omega) fun w4 h4 => ?_
      exact hR _ h4
theorem rv_Load (h : At w0 F0 (rfHP d s) w) (hi : Inv s) (hn : s.dirs.length < 100000000) (g : Nat) (hg : g < 18446744073709551616)
    (hR : ∀ w' v ev G E, Slc encAx 8 w' v (evLoad s g).1 G → Slc encO 1 w' ev (evLoad s g).2.1 E → (∀ b ∈ G, hsz w ≤ b) → (∀ b ∈ E, hsz w ≤ b) → Fr [] w w' → R (.tuple #[v, ev, .int .i64 (evLoad s g).2.2]) w') : CALL PR F_tumbrelref17_Load [ptrTo d, .int .u64 (g : Int)] w R := by
  refine C_tumbrelref17_Load ?_
  unfold M_tumbrelref17_Load
  refine r14_Of 101 g hg fun w1 f1 => ?_
  have h1 := h.fr0 f1
  unfold evLoad at hR
  cases hk : okG g with
  | false =>
    rw [nameOf_no hk]
    rw [hk] at hR
    (repeat refine gg ?_)
    exact hR _ _ _ [] [] (Slc.nil _ _ _) (Slc.nil _ _ _) (by simp) (by simp) f1
  | true =>
    rw [nameOf_yes hk]
    rw [hk] at hR
    simp only [if_true] at hR
    (repeat refine gg ?_)
    have hrs := read_small hi (evN g)
    refine rf_Read h1 hi.wf (by omega) (evN g) fun w2 v G _ s2 g2 f2 => ?_
    have f02 := f1.trans' f2
    by_cases he : (Disk.read s (evN g)).2 = 0
    · rw [if_pos he] at hR
      (repeat refine gg ?_)
      refine r5_All s2.arrC (by omega) fun w3 v3 e3 G3 B3 E3 r3 s3 gG gB gE f3 => ?_
      have hl := recAll_len (Disk.read s (evN g)).1
      have hrt := recAllF_right (frAll (Disk.read s (evN g)).1 0).1 0 (frAll (Disk.read s (evN g)).1 0).2.2
      have f03 := f02.trans' f3
      have g02 := f02.grow
      have g03 := f03.grow
      obtain ⟨xs, hxs⟩ : ∃ xs, xs = (recAll (Disk.read s (evN g)).1).1 := ⟨_, rfl⟩
      have hrt' : ∀ x ∈ xs, rightB x.kind x.n.length x.text.length = true := by rw [hxs]; exact hrt
      unfold loadB at hR
      rw [← hxs] at r3 hl hR
      (repeat refine gg ?_)
      refine newnil_step encAx fun t w4 s4 f4 z4 => ?_
      refine loop_up2 (o := t) 0 xs.length (fun o i w' => ∃ H, Slc encAx 8 w' o ((xs.take i).map fun a => (ofA a).1) H ∧ (∀ b ∈ H, hsz w3 ≤ b) ∧ (∀ a ∈ xs.take i, (ofA a).2 = 0) ∧ Fr [] w3 w') ⟨_, s4, by simp, by simp, f4⟩ (by omega) ?_
      rintro o i w5 - hi5 ⟨H, h5, gH, hall, f5⟩ J m hJ
      have r5 := r3.fr f5
      have lr5 := r5.len
      by_cases hlt : i < xs.length
      · have hx := List.getElem?_eq_getElem hlt
        generalize xs[i] = a at hx
        obtain ⟨⟨cs, c1, c2, c3⟩, c4⟩ := r5
        obtain ⟨sv, U, e1, e2, e3'⟩ := c3 i a hx
        obtain ⟨bp, op, ia, ln, _, _⟩ := c1.arr.spot e1 rfl .i64
        (repeat refine gg ?_)
        refine r12_Of (a.kind : Int) (txB a.text) e2.arr fun w6 f6 => ?_
        have ets : (txB a.text).size = a.text.length := by show a.text.toArray.size = _; simp
        have eo : ofR (a.kind : Int) a.n (txB a.text) = ofA a := by
          unfold ofR
          rw [ets, if_pos (hrt' a (List.mem_of_getElem? hx))]
          simp [txB]
        rw [eo]
        (repeat refine gg ?_)
        refine box_step (n := 8) (zs := encAx zeroA) (vs := encAx (ofA a).1) rfl rfl (encAx_one _) (by simp [encAx]) fun w8 b8 f8 z8 => ?_
        have f58 := f6.trans' f8
        have f38 := f5.trans' f58
        by_cases he2 : (ofA a).2 = 0
        · (repeat (first | refine BND_step (loadn_all' b8 rfl) ?_ | refine gg ?_))
          refine push_step (enc := encAx) (x := (ofA a).1) (h5.fr f58 (by simp)) encAx_len encAx_one rfl rfl (by omega) (by simp; omega) fun v9 w9 G9 s9 g9 f9 => ?_
          (repeat refine gg ?_)
          have gr38 := f38.grow
          refine hJ _ _ hlt ⟨G9, ?_, fun b hb => ?_, fun b hb => ?_, f38.trans f9 fun b hb => .inr (gH b hb)⟩
          · rw [take_snoc hx, List.map_append]; exact s9
          · rcases g9 b hb with hq | hq
            · exact gH b hq
            · omega
          · rw [take_snoc hx] at hb
            rcases List.mem_append.1 hb with hb | hb
            · exact hall b hb
            · simp at hb; subst hb; exact he2
        · (repeat refine gg ?_)
          rw [turnL_bad hx hall he2, if_pos he2] at hR
          exact hR _ _ _ [] [] (Slc.nil _ _ _) (Slc.nil _ _ _) (by simp) (by simp) (f03.trans' f38)
      · obtain rfl : i = xs.length := by omega
        rw [List.take_length] at h5 hall
        rw [turnL_good hall] at hR
        have f05 := f03.trans' f5
        simp only [ne_eq, not_true_eq_false, if_false] at hR
        by_cases h0 : (recAll (Disk.read s (evN g)).1).2.2 = 0
        · rw [if_neg (by simp [h0])] at hR
          (repeat refine gg ?_)
          exact hR _ _ _ _ _ h5 (s3.fr f5 (by simp)) (fun b hb => by have := gH b hb; omega) (fun b hb => by have := gE b hb; omega) f05
        · by_cases h3 : (recAll (Disk.read s (evN g)).1).2.2 = 3
          · rw [if_neg (by simp [h3])] at hR
            (repeat refine gg ?_)
            exact hR _ _ _ _ _ h5 (s3.fr f5 (by simp)) (fun b hb => by have := gH b hb; omega) (fun b hb => by have := gE b hb; omega) f05
          · rw [if_pos ⟨h0, h3⟩] at hR
            (repeat refine gg ?_)
            exact hR _ _ _ [] [] (Slc.nil _ _ _) (Slc.nil _ _ _) (by simp) (by simp) f05
    · rw [if_neg he] at hR
      (repeat refine gg ?_)
      exact hR _ _ _ [] [] (Slc.nil _ _ _) (Slc.nil _ _ _) (by simp) (by simp) f02
end
end Go.Proofs.YtmefbneoljpbgaaGreatDoor
