/- Records, messages, snapshots in memory; which records may be (Right), by the program and by the document. No condition but sizes. -/
import Derived.Test.YtkifjfjhghogjaaSortD
import Derived.Test.YtkifjfjhghogjaaWalk
import Derived.Test.YtkifjfjhghogjaaMa
namespace Go.Proofs.Ytkifjfjhghogjaa
open Go.Den
set_option linter.unusedSimpArgs false
set_option linter.unusedVariables false

abbrev encU := Sort64.enU
theorem encU_len (r : Int) : (encU r).length = 1 := rfl
theorem encU_one (r : Int) : ∀ u ∈ encU r, u.oneCell' = true := Sort64.enU_one r
abbrev Row := Int × Int
def encRow (r : Row) : List Value := [.int .u64 r.1, .int .u64 r.2]
abbrev Cur := ByteArray × Int
def encC (c : Cur) : List Value := [.string c.1, .int .u64 c.2]
theorem encRow_len (r : Row) : (encRow r).length = 2 := rfl
theorem encC_len (r : Cur) : (encC r).length = 2 := rfl
theorem encRow_one (r : Row) : ∀ u ∈ encRow r, u.oneCell' = true := by intro u hu; simp [encRow] at hu; rcases hu with rfl | rfl <;> rfl
theorem encC_one (r : Cur) : ∀ u ∈ encC r, u.oneCell' = true := by intro u hu; simp [encC] at hu; rcases hu with rfl | rfl <;> rfl
structure Itm where
  id : Int
  lane : Int
  status : Int
  count : Int
  due : Int
  token : Int
  turn : Int
  seg : Int
  at_ : Int
  size : Int
  deriving DecidableEq
def encI (x : Itm) : List Value := [.int .u64 x.id, .int .i64 x.lane, .int .i64 x.status, .int .i64 x.count, .int .u64 x.due, .int .u64 x.token, .int .u64 x.turn, .int .u64 x.seg, .int .u64 x.at_, .int .i64 x.size]
theorem encI_len (x : Itm) : (encI x).length = 10 := rfl
theorem encI_one (x : Itm) : ∀ u ∈ encI x, u.oneCell' = true := by
  intro u hu; simp [encI] at hu; rcases hu with rfl | rfl | rfl | rfl | rfl | rfl | rfl | rfl | rfl | rfl <;> rfl
def zItm : List Value := [.int .u64 0, .int .i64 0, .int .i64 0, .int .i64 0, .int .u64 0, .int .u64 0, .int .u64 0, .int .u64 0, .int .u64 0, .int .i64 0]
/-- a record as it lies in memory, and what it says. -/
structure Rec where
  k : Int
  a : Option Addr
  n : Nat
  c : Nat
  t : ByteArray
def Rec.nv (r : Rec) : Value := .slice r.a r.n r.c
def encR (r : Rec) : List Value := [.int .i64 r.k, r.nv, .string r.t]
theorem encR_len (r : Rec) : (encR r).length = 3 := rfl
theorem encR_one (r : Rec) : ∀ u ∈ encR r, u.oneCell' = true := by intro u hu; simp [encR, Rec.nv] at hu; rcases hu with rfl | rfl | rfl <;> rfl
structure LRec where
  k : Int
  ns : List Int
  t : ByteArray
  deriving DecidableEq
def RecOf (w : World) (r : Rec) (l : LRec) : Prop := r.k = l.k ∧ r.t = l.t ∧ Arr encU 1 w r.nv l.ns
def RecsR (w : World) (v : Value) (ls : List LRec) : Prop :=
  ∃ rs : List Rec, Arr encR 3 w v rs ∧ rs.length = ls.length ∧ (∀ (i : Nat) r l, rs[i]? = some r → ls[i]? = some l → RecOf w r l) ∧ Capd v
section
variable {w w' : World} {v : Value} {r : Rec} {l : LRec} {ls : List LRec}
theorem RecOf.fr (h : RecOf w r l) {F : List Nat} (hf : Fr F w w') (hF : ∀ b ∈ F, hsz w ≤ b) : RecOf w' r l := ⟨h.1, h.2.1, h.2.2.fr hf hF⟩
theorem RecsR.fr (h : RecsR w v ls) {F : List Nat} (hf : Fr F w w') (hF : ∀ b ∈ F, hsz w ≤ b) : RecsR w' v ls := by
  obtain ⟨rs, h1, h2, h3, h4⟩ := h
  exact ⟨rs, h1.fr hf hF, h2, fun i r l hr hl => (h3 i r l hr hl).fr hf hF, h4⟩
theorem RecsR.fr0 (h : RecsR w v ls) (hf : Fr [] w w') : RecsR w' v ls := h.fr hf (by simp)
theorem RecsR.len (h : RecsR w v ls) : lenl v = some (.int .i64 ls.length) := by
  obtain ⟨rs, h1, h2, h3, h4⟩ := h
  rw [h1.len, h2]
theorem RecsR.at (h : RecsR w v ls) {i : Nat} (hl : ls[i]? = some l) : ∃ r p, RecOf w r l ∧ Den.iaddr 3 v (.int .i64 (i : Int)) = some p ∧ Den.loadn 3 w p = some (.agg (encR r).toArray) ∧ (∀ j, j < 3 → ∃ q, faddr j p = some q ∧ Den.load1 w q = (encR r)[j]?) := by
  obtain ⟨rs, h1, h2, h3, h4⟩ := h
  have hi : i < rs.length := by have := (List.getElem?_eq_some_iff.1 hl).1; omega
  have hx := List.getElem?_eq_getElem hi
  obtain ⟨p, e1, e2, e3⟩ := h1.at hx (encR_len _) .i64
  exact ⟨rs[i], p, h3 i _ _ hx hl, e1, e2, e3⟩
theorem RecOf.nlen (h : RecOf w r l) : r.n = l.ns.length := by
  obtain ⟨a, c, e, _⟩ := h.2.2
  unfold Rec.nv at e
  injection e with _ h2 _
end

/-! ## Right -/
def numsT : List Nat := [0, 0, 5, 2, 1, 2, 2, 1, 1, 1, 1, 1, 5, 7, 10, 2, 1, 1]
def worded (k : Int) : Bool := decide (k = 10) || decide (k = 11) || decide (k = 16)
def rightR (k : Int) (n t : Nat) : Bool := decide (1 ≤ k) && decide (k ≤ 17) && decide (n = numsT.getD k.toNat 0) && (decide (t = 0) || worded k && decide (t ≤ 64))
def tabL : List Value := [.int .i64 0, .int .i64 0, .int .i64 5, .int .i64 2, .int .i64 1, .int .i64 2, .int .i64 2, .int .i64 1, .int .i64 1, .int .i64 1, .int .i64 1, .int .i64 1, .int .i64 5, .int .i64 7, .int .i64 10, .int .i64 2, .int .i64 1, .int .i64 1]
def tabV : Value := .agg tabL.toArray
section
variable {w : World} {R : Value → World → Prop}
theorem rc_known (k : Int) (hR : R (.bool (decide (1 ≤ k) && decide (k ≤ 17))) w) : CALL PR F_record_known [.int .i64 k] w R := by
  refine C_record_known ?_
  unfold M_record_known
  refine BND_step (binv_geq _ _ _ _) ?_
  by_cases h : 1 ≤ k
  · simp only [h, decide_true, isB_tt, grd_true, BND_some, binv_leq, pickv_true, Bool.true_and] at hR ⊢
    exact hR
  · simp only [h, decide_false, isB_ft, grd_false, BND_some, pickv_false, Bool.false_and] at hR ⊢
    exact hR
theorem rc_worded (k : Int) (hR : R (.bool (worded k)) w) : CALL PR F_record_worded [.int .i64 k] w R := by
  refine C_record_worded ?_
  unfold M_record_worded
  unfold worded at hR
  refine BND_step (binv_eql _ _ _ _) ?_
  by_cases h : k = 10
  · simp only [h, decide_true, isB_tf, grd_false, BND_some, pickv_true, Bool.true_or] at hR ⊢
    exact hR
  simp only [h, decide_false, isB_ff, grd_true, BND_some, binv_eql, pickv_false, Bool.false_or] at hR ⊢
  by_cases h2 : k = 11
  · simp only [h2, decide_true, isB_tf, grd_false, BND_some, pickv_true, Bool.true_or] at hR ⊢
    exact hR
  · simp only [h2, decide_false, isB_ff, grd_true, BND_some, binv_eql, pickv_false, Bool.false_or] at hR ⊢
    exact hR
theorem rc_fits (k : Int) (t : Nat) (hR : R (.bool (decide (t = 0) || worded k && decide (t ≤ 64))) w) : CALL PR F_record_fits [.int .i64 k, .int .i64 (t : Int)] w R := by
  refine C_record_fits ?_
  unfold M_record_fits
  refine BND_step (binv_eql _ _ _ _) ?_
  by_cases h : t = 0
  · subst h
    simp only [Int.natCast_zero, decide_true, isB_tf, grd_false, BND_some, GEF_false, isB_undef, pickv_true, Bool.true_or] at hR ⊢
    exact hR
  have h0 : ¬ (t : Int) = 0 := by omega
  simp only [h0, h, decide_false, isB_ff, grd_true, BND_some, GEF_true, Bool.false_or] at hR ⊢
  refine rc_worded k ?_
  cases hw : worded k with
  | false =>
    rw [hw] at hR
    simp only [isB_ft, grd_false, BND_some, pickv_false, Bool.false_and] at hR ⊢
    exact hR
  | true =>
    rw [hw] at hR
    simp only [isB_tt, grd_true, BND_some, binv_leq, pickv_true, pickv_false, Bool.true_and] at hR ⊢
    rw [show decide ((t : Int) ≤ 64) = decide (t ≤ 64) by simp; omega]
    exact hR
theorem rc_numbers (hR : ∀ w', Fr [] w w' → R tabV w') : CALL PR F_record_numbers [] w R := by
  refine C_record_numbers ?_
  unfold M_record_numbers
  refine NEW_intro fun w1 b1 f1 z1 => BND_step (v := tabV) rfl ?_
  have hone : ∀ u ∈ tabL, u.oneCell' = true := by
    intro u hu
    simp only [tabL, List.mem_cons, List.not_mem_nil, or_false] at hu
    rcases hu with rfl | rfl | rfl | rfl | rfl | rfl | rfl | rfl | rfl | rfl | rfl | rfl | rfl | rfl | rfl | rfl | rfl | rfl <;> rfl
  refine put_step b1 rfl (vs := tabL) rfl hone (by simp [tabL]) fun w2 b2 f2 z2 => BND_step (v := tabV) (loadn_all b2 rfl) ?_
  exact hR w2 (f1.trans f2 fun b hb => by simp at hb; subst hb; exact .inr (by omega))
theorem tab_at {k : Int} (h1 : 1 ≤ k) (h2 : k ≤ 17) : indexav false 18 1 tabV (.int .i64 k) = some (.int .i64 ((numsT.getD k.toNat 0 : Nat) : Int)) := by
  obtain ⟨n, rfl⟩ := Int.eq_ofNat_of_zero_le (by omega : 0 ≤ k)
  have hn1 : 1 ≤ n := by omega
  have hn2 : n ≤ 17 := by omega
  clear h1 h2
  have : ∀ m : Nat, m ≤ 17 → 1 ≤ m → indexav false 18 1 tabV (.int .i64 (m : Int)) = some (.int .i64 ((numsT.getD m 0 : Nat) : Int)) := by
    intro m h1 h2
    match m, h1, h2 with
    | 1, _, _ | 2, _, _ | 3, _, _ | 4, _, _ | 5, _, _ | 6, _, _ | 7, _, _ | 8, _, _ | 9, _, _ | 10, _, _ | 11, _, _ | 12, _, _ | 13, _, _ | 14, _, _ | 15, _, _ | 16, _, _ | 17, _, _ => rfl
    | m + 18, h1, _ => exact absurd h1 (by omega)
  exact this n hn2 hn1
theorem rc_Right (r : Rec) (hR : ∀ w', Fr [] w w' → R (.bool (rightR r.k r.n r.t.size)) w') : CALL PR F_record_Right [.agg (encR r).toArray] w R := by
  refine C_record_Right ?_
  unfold M_record_Right
  refine NEW_intro fun w1 b1 f1 z1 => ?_
  have bd : blk w1.drew (hsz w) = some (.cells (encR r).toArray _ (0, 0)) := b1
  have fd : Fr [] w w1.drew := f1.trans' (Fr.drew _ _)
  generalize w1.drew = w2 at bd fd
  refine ⟨fun _ w' => blk w' (hsz w) = some (.cells (encR r).toArray _ (0, 0)), bd, bd, ?_⟩
  refine BND_step (faddr_ptr _ _ _) <| BND_step (v := .int .i64 r.k) (load1_blk bd) <| rc_known r.k ⟨bd, bd, ?_⟩
  unfold rightR at hR
  cases hk : (decide (1 ≤ r.k) && decide (r.k ≤ 17)) with
  | false =>
    rw [hk] at hR
    simp only [isB_ft, grd_false, GEF_false, BND_some, pickv_false, Bool.false_and, isB_undef] at hR ⊢
    exact FLT.mk undef (fun _ _ => rfl) (FLT.mk undef (fun _ _ => rfl) ⟨bd, bd, hR w2 fd⟩)
  | true =>
    rw [hk] at hR
    simp only [Bool.and_eq_true, decide_eq_true_eq] at hk
    simp only [isB_tt, grd_true, GEF_true, Bool.true_and] at hR ⊢
    refine BND_step (faddr_ptr _ _ _) <| FLT.mk r.nv (fun w' hw => load1_blk hw) <| BND_step (lenl_slice _ _ _) <| BND_step (faddr_ptr _ _ _) <| FLT.mk (.int .i64 r.k) (fun w' hw => load1_blk hw) <| rc_numbers fun w3 f3 => ⟨f3.some (by simp) bd, f3.some (by simp) bd, ?_⟩
    have b3 := f3.some (by simp) bd
    have f3' := fd.trans' f3
    refine BND_step (tab_at hk.1 hk.2) <| BND_step (binv_eql _ _ _ _) <| BND_step (pickv_true _ _) ?_
    by_cases hn : r.n = numsT.getD r.k.toNat 0
    · have e1 : decide ((r.n : Int) = ((numsT.getD r.k.toNat 0 : Nat) : Int)) = true := by simp only [decide_eq_true_eq]; omega
      rw [e1]
      simp only [hn, decide_true, isB_tt, grd_true, GEF_true, Bool.true_and] at hR ⊢
      refine BND_step (faddr_ptr _ _ _) <| BND_step (faddr_ptr _ _ _) <| BND_step (v := .int .i64 r.k) (load1_blk b3) <| BND_step (v := .string r.t) (load1_blk b3) <| BND_step (lens_string _) <| rc_fits r.k r.t.size <| BND_step (pickv_true _ _) ?_
      exact hR w3 f3'
    · have e1 : decide ((r.n : Int) = ((numsT.getD r.k.toNat 0 : Nat) : Int)) = false := by simp only [decide_eq_false_iff_not]; omega
      rw [e1]
      simp only [hn, decide_false, isB_ft, grd_false, GEF_false, BND_some, pickv_false, Bool.false_and] at hR ⊢
      exact hR w3 f3'

/-! ## Right, by the document -/
theorem r5_many (k : Int) (hR : ∀ w' (m : Int), Fr [] w w' → ((decide (1 ≤ k) && decide (k ≤ 17)) = true → m = ((numsT.getD k.toNat 0 : Nat) : Int)) → ((decide (1 ≤ k) && decide (k ≤ 17)) = false → m = -1) → R (.int .i64 m) w') :
    CALL PR F_tumbrelref05_many [.int .i64 k] w R := by
  refine C_tumbrelref05_many ?_
  unfold M_tumbrelref05_many
  refine newparts_step (enc := fun n : Int => [Value.int .i64 n]) (val := fun n => Value.int .i64 n) (fun _ => rfl) (fun _ => rfl) [-1, 0, 5, 2, 1, 2, 2, 1, 1, 1, 1, 1, 5, 7, 10, 2, 1, 1] rfl rfl fun t w1 s1 f1 z1 => BND_step (binv_lss _ _ _ _) ?_
  have tab : ∀ m : Nat, m ≤ 17 → ([-1, 0, 5, 2, 1, 2, 2, 1, 1, 1, 1, 1, 5, 7, 10, 2, 1, 1] : List Int)[m]? = some (if m = 0 then -1 else ((numsT.getD m 0 : Nat) : Int)) := by decide +kernel
  by_cases h0 : k < 0
  · simp only [h0, decide_true, isB_tf, grd_false, BND_some, pickv_true, COND_true]
    exact hR w1 _ f1 (fun h => by simp at h; omega) (fun _ => rfl)
  simp only [h0, decide_false, isB_ff, grd_true, BND_some, binv_gtr, pickv_false]
  by_cases h17 : 17 < k
  · exact COND_dec_true h17 (hR w1 _ f1 (fun h => by simp at h; omega) (fun _ => rfl))
  obtain ⟨n, rfl⟩ := Int.eq_ofNat_of_zero_le (by omega : 0 ≤ k)
  have hx := tab n (by omega)
  obtain ⟨b, e, ei⟩ := s1.iaddr (i := n) (by simp; omega) .i64
  simp at e; subst e
  have hld := s1.load1 (j := 0) hx (show 0 < 1 by omega)
  refine COND_dec_false h17 <| BND_step ei <| BND_step (hld.trans rfl) <| hR w1 _ f1 (fun h => ?_) (fun h => ?_)
  · simp only [Bool.and_eq_true, decide_eq_true_eq] at h
    have hn0 : n ≠ 0 := by omega
    simp only [hn0, if_false, Int.toNat_natCast]
  · simp only [Bool.and_eq_false_iff, decide_eq_false_iff_not] at h
    have hn0 : n = 0 := by omega
    simp only [hn0, if_true]
theorem r5_texts (k : Int) (t : Nat) (hR : R (.bool (if worded k then decide (t ≤ 64) else decide (t = 0))) w) : CALL PR F_tumbrelref05_texts [.int .i64 k, .int .i64 (t : Int)] w R := by
  refine C_tumbrelref05_texts ?_
  unfold M_tumbrelref05_texts
  have hle : decide ((t : Int) ≤ 64) = decide (t ≤ 64) := by simp; omega
  have hz : decide ((t : Int) = 0) = decide (t = 0) := by simp
  have fin : ∀ B : Bool, B = worded k → COND (.bool B) (BND (binv .int .leq (.int .i64 (t : Int)) (Value.int .i64 64)) fun t16_8 => R t16_8 w) (R (.bool (decide ((t : Int) = 0))) w) := by
    intro B hB
    subst hB
    cases hw : worded k with
    | true =>
      rw [hw] at hR
      refine (COND_true _ _).2 <| BND_step (binv_leq _ _ _ _) ?_
      rw [hle]; exact hR
    | false =>
      rw [hw] at hR
      refine (COND_false _ _).2 ?_
      rw [hz]; exact hR
  refine BND_step (binv_eql _ _ _ _) ?_
  by_cases h : k = 10
  · simp only [h, decide_true, isB_tf, grd_false, BND_some, binv_eql, pickv_true]
    exact fin true (by unfold worded; simp [h])
  simp only [h, decide_false, isB_ff, grd_true, BND_some, binv_eql, pickv_false]
  by_cases h2 : k = 11
  · simp only [h2, decide_true, isB_tf, grd_false, BND_some, pickv_true]
    exact fin true (by unfold worded; simp [h2])
  simp only [h2, decide_false, isB_ff, grd_true, BND_some, binv_eql, pickv_false]
  exact fin (decide (k = 16)) (by unfold worded; simp [h, h2])
theorem r5_Right (r : Rec) (hR : ∀ w', Fr [] w w' → R (.bool (rightR r.k r.n r.t.size)) w') : CALL PR F_tumbrelref05_Right [.agg (encR r).toArray] w R := by
  refine C_tumbrelref05_Right ?_
  unfold M_tumbrelref05_Right
  refine NEW_intro fun w1 b1 f1 z1 => ?_
  have bd : blk w1.drew (hsz w) = some (.cells (encR r).toArray _ (0, 0)) := b1
  have fd : Fr [] w w1.drew := f1.trans' (Fr.drew _ _)
  generalize w1.drew = w2 at bd fd
  refine ⟨fun _ w' => blk w' (hsz w) = some (.cells (encR r).toArray _ (0, 0)), bd, ?_⟩
  refine BND_step (faddr_ptr _ _ _) <| BND_step (v := .int .i64 r.k) (load1_blk bd) <| r5_many r.k fun w3 m f3 hm1 hm0 => ⟨f3.some (by simp) bd, BND_step (binv_geq _ _ _ _) ?_⟩
  have b3 := f3.some (by simp) bd
  have f3' := fd.trans' f3
  unfold rightR at hR
  cases hk : (decide (1 ≤ r.k) && decide (r.k ≤ 17)) with
  | false =>
    rw [hk] at hR
    rw [hm0 hk]
    have e : decide ((0 : Int) ≤ -1) = false := by decide
    rw [e]
    simp only [isB_ft, grd_false, GEF_false, BND_some, pickv_false, Bool.false_and, isB_undef] at hR ⊢
    exact FLT.mk undef (fun _ _ => rfl) ⟨b3, hR w3 f3'⟩
  | true =>
    rw [hk] at hR
    rw [hm1 hk]
    have e : decide ((0 : Int) ≤ ((numsT.getD r.k.toNat 0 : Nat) : Int)) = true := by simp
    rw [e]
    simp only [isB_tt, grd_true, GEF_true, Bool.true_and] at hR ⊢
    refine BND_step (faddr_ptr _ _ _) <| FLT.mk r.nv (fun w' hw => load1_blk hw) <| BND_step (lenl_slice _ _ _) <| BND_step (faddr_ptr _ _ _) <| BND_step (v := .int .i64 r.k) (load1_blk b3) <| r5_many r.k fun w4 m4 f4 hm41 _ => ⟨f4.some (by simp) b3, BND_step (binv_eql _ _ _ _) <| BND_step (pickv_true _ _) ?_⟩
    have b4 := f4.some (by simp) b3
    have f4' := f3'.trans' f4
    rw [hm41 hk]
    by_cases hn : r.n = numsT.getD r.k.toNat 0
    · have e1 : decide ((r.n : Int) = ((numsT.getD r.k.toNat 0 : Nat) : Int)) = true := by simp only [decide_eq_true_eq]; omega
      rw [e1]
      simp only [hn, decide_true, isB_tt, grd_true, GEF_true, Bool.true_and] at hR ⊢
      refine BND_step (faddr_ptr _ _ _) <| BND_step (faddr_ptr _ _ _) <| BND_step (v := .int .i64 r.k) (load1_blk b4) <| BND_step (v := .string r.t) (load1_blk b4) <| BND_step (lens_string _) <| r5_texts r.k r.t.size <| BND_step (pickv_true _ _) ?_
      have := hR w4 f4'
      have e2 : (if worded r.k = true then decide (r.t.size ≤ 64) else decide (r.t.size = 0)) = (decide (r.t.size = 0) || worded r.k && decide (r.t.size ≤ 64)) := by
        cases worded r.k with
        | true =>
          simp only [if_true, Bool.true_and]
          by_cases h0 : r.t.size = 0
          · simp [h0]
          · simp [h0]
        | false => simp
      rw [e2]; exact this
    · have e1 : decide ((r.n : Int) = ((numsT.getD r.k.toNat 0 : Nat) : Int)) = false := by simp only [decide_eq_false_iff_not]; omega
      rw [e1]
      simp only [hn, decide_false, isB_ft, grd_false, GEF_false, BND_some, pickv_false, Bool.false_and] at hR ⊢
      exact hR w4 f4'
theorem r5_Large (r : Rec) (hR : ∀ w', Fr [] w w' → R (.bool (decide (100 < r.n) || decide (300 < r.t.size))) w') : CALL PR F_tumbrelref05_Large [.agg (encR r).toArray] w R := by
  refine C_tumbrelref05_Large ?_
  unfold M_tumbrelref05_Large
  refine NEW_intro fun w1 b1 f1 z1 => ?_
  have bd : blk w1 (hsz w) = some (.cells (encR r).toArray _ (0, 0)) := b1
  have h := hR w1 f1
  have e1 : decide ((100 : Int) < (r.n : Int)) = decide (100 < r.n) := by simp; omega
  have e2 : decide ((300 : Int) < (r.t.size : Int)) = decide (300 < r.t.size) := by simp; omega
  refine BND_step (faddr_ptr _ _ _) <| BND_step (v := r.nv) (load1_blk bd) <| BND_step (lenl_slice _ _ _) <| BND_step (binv_gtr _ _ _ _) ?_
  rw [e1]
  by_cases hn : 100 < r.n
  · simp only [hn, decide_true, isB_tf, grd_false, BND_some, pickv_true, Bool.true_or] at h ⊢
    exact h
  · simp only [hn, decide_false, isB_ff, grd_true, Bool.false_or] at h ⊢
    refine BND_step (faddr_ptr _ _ _) <| BND_step (v := .string r.t) (load1_blk bd) <| BND_step (lens_string _) <| BND_step (binv_gtr _ _ _ _) <| BND_step (pickv_false _ _) ?_
    rw [e2]; exact h
end
end Go.Proofs.Ytkifjfjhghogjaa
