/- SnapBack: the law's walk. No condition but that numbers are those of their kinds. -/
import Derived.Test.YtkifjfjhghogjaaSnapTells
import Derived.Test.YtkifjfjhghogjaaMa
namespace Go.Proofs.Ytkifjfjhghogjaa
open Go.Den

/-! ## Plain -/
structure SnapU (s : SnapL) : Prop where
  h : U64 s.now ∧ U64 s.next ∧ U64 s.leases ∧ U64 s.turns ∧ U64 s.deaths ∧ U64 s.seg ∧ U64 s.at_
  i : ∀ x ∈ s.items, U64 x.id ∧ U64 x.due ∧ U64 x.token ∧ U64 x.turn ∧ U64 x.seg ∧ U64 x.at_
  d : ∀ x ∈ s.dead, U64 x.1 ∧ U64 x.2
  c : ∀ x ∈ s.curs, U64 x.2
theorem u64w_u (n : Int) : U64 (u64w n) := by
  unfold u64w U64
  simp only [IntKind.wrap, IntKind.bits, IntKind.signed]
  simp
  omega
theorem nsU_save {s : SnapL} (h : SnapU s) (hl : s.items.length < 1000000 ∧ s.dead.length < 1000000 ∧ s.curs.length < 1000000) : NsU (saveL s) := by
  intro l hl' n hn
  unfold saveL at hl'
  rcases List.mem_append.1 hl' with hl' | hl'
  · unfold headL at hl'
    rcases List.mem_cons.1 hl' with rfl | hl'
    · obtain ⟨h1, h2, h3, h4, h5, h6, h7⟩ := h.h
      simp only [recB, List.mem_cons, List.not_mem_nil, or_false] at hn
      rcases hn with rfl | rfl | rfl | rfl | rfl | rfl | rfl <;> assumption
    · rcases List.mem_append.1 hl' with hl' | hl'
      · obtain ⟨x, hx, rfl⟩ := List.mem_map.1 hl'
        obtain ⟨h1, h2, h3, h4, h5, h6⟩ := h.i x hx
        simp only [recI, List.mem_cons, List.not_mem_nil, or_false] at hn
        rcases hn with rfl | rfl | rfl | rfl | rfl | rfl | rfl | rfl | rfl | rfl <;> first | assumption | exact u64w_u _
      · rcases List.mem_append.1 hl' with hl' | hl'
        · obtain ⟨x, hx, rfl⟩ := List.mem_map.1 hl'
          obtain ⟨h1, h2⟩ := h.d x hx
          simp only [recD, List.mem_cons, List.not_mem_nil, or_false] at hn
          rcases hn with rfl | rfl <;> assumption
        · obtain ⟨x, hx, rfl⟩ := List.mem_map.1 hl'
          have h1 := h.c x hx
          simp only [recC, List.mem_cons, List.not_mem_nil, or_false] at hn
          rcases hn with rfl; assumption
  · simp only [List.mem_cons, List.not_mem_nil, or_false] at hl'
    subst hl'
    simp only [recE, List.mem_cons, List.not_mem_nil, or_false] at hn
    subst hn
    have : (headL s).length = 1 + s.items.length + s.dead.length + s.curs.length := by simp [headL]; omega
    exact ⟨by omega, by omega⟩
theorem small_w {n : Int} (h : smallI n = true) : u64w n = n ∧ 0 ≤ n ∧ n ≤ 1000 := by
  unfold smallI at h
  simp only [Bool.and_eq_true, decide_eq_true_eq] at h
  exact ⟨wrap_u64 h.1 (by omega), h⟩
theorem item_recI {x : Itm} (h : okI x = true) : itemL (recI x).ns = x := by
  unfold okI at h
  simp only [Bool.and_eq_true] at h
  obtain ⟨⟨⟨h1, h2⟩, h3⟩, h4⟩ := h
  obtain ⟨a, b, c, d, e, f, g, i, j, k⟩ := x
  simp only at h1 h2 h3 h4
  simp only [itemL, recI, List.getD_cons_zero, List.getD_cons_succ, (small_w h1).1, (small_w h2).1, (small_w h3).1, (small_w h4).1]
theorem mid_save (s : SnapL) : midL (saveL s) = s.items.map recI ++ (s.dead.map recD ++ s.curs.map recC) := by
  have hl := saveL_len s
  unfold midL
  rw [hl]
  unfold saveL headL
  simp only [List.cons_append, List.drop_succ_cons, List.drop_zero]
  rw [List.take_append_of_le_length (by simp; omega), List.take_of_length_le (by simp; omega)]
theorem base_save (s : SnapL) : baseL (saveL s) = recB s := rfl
theorem filt {α : Type} (p : LRec → Bool) (f : α → LRec) (xs : List α) (b : Bool) (h : ∀ x, p (f x) = b) : (xs.map f).filter p = if b then xs.map f else [] := by
  cases b with
  | true => exact filter_all fun x hx => by obtain ⟨y, _, rfl⟩ := List.mem_map.1 hx; exact h y
  | false => exact filter_none fun x hx => by obtain ⟨y, _, rfl⟩ := List.mem_map.1 hx; exact h y
theorem got_save {s : SnapL} (h : okS s = true) : gotL (saveL s) = s := by
  unfold okS at h
  rw [Bool.and_eq_true, List.all_eq_true] at h
  have f1 : ∀ k : Int, (midL (saveL s)).filter (fun l => decide (l.k = k)) = (if (14 : Int) = k then s.items.map recI else []) ++ ((if (15 : Int) = k then s.dead.map recD else []) ++ (if (16 : Int) = k then s.curs.map recC else [])) := by
    intro k
    rw [mid_save, List.filter_append, List.filter_append, filt _ recI s.items (decide ((14 : Int) = k)) (fun _ => rfl), filt _ recD s.dead (decide ((15 : Int) = k)) (fun _ => rfl), filt _ recC s.curs (decide ((16 : Int) = k)) (fun _ => rfl)]
    simp only [decide_eq_true_eq]
  unfold gotL gath gathI gathD gathC
  rw [f1, f1, f1, base_save]
  simp only [if_true, show ¬ ((14 : Int) = 15) by omega, show ¬ ((14 : Int) = 16) by omega, show ¬ ((15 : Int) = 14) by omega, show ¬ ((15 : Int) = 16) by omega, show ¬ ((16 : Int) = 14) by omega, show ¬ ((16 : Int) = 15) by omega, if_false, List.append_nil, List.nil_append, List.map_map]
  have e1 : s.items.map ((fun l : LRec => itemL l.ns) ∘ recI) = s.items := by
    conv => rhs; rw [← List.map_id s.items]
    exact List.map_congr_left fun x hx => item_recI (h.1 x hx)
  have e2 : s.dead.map ((fun l : LRec => (l.ns.getD 0 0, l.ns.getD 1 0)) ∘ recD) = s.dead := by
    conv => rhs; rw [← List.map_id s.dead]
    exact List.map_congr_left fun x hx => rfl
  have e3 : s.curs.map ((fun l : LRec => (l.t, l.ns.getD 0 0)) ∘ recC) = s.curs := by
    conv => rhs; rw [← List.map_id s.curs]
    exact List.map_congr_left fun x hx => rfl
  rw [e1, e2, e3]
  rfl
theorem right_save {s : SnapL} (h : okS s = true) : (saveL s).all rightL = true := by
  unfold okS at h
  rw [Bool.and_eq_true, List.all_eq_true, List.all_eq_true] at h
  rw [List.all_eq_true]
  intro l hl
  unfold saveL headL at hl
  simp only [List.mem_append, List.mem_cons, List.mem_map, List.not_mem_nil, or_false] at hl
  rcases hl with (rfl | ⟨x, hx, rfl⟩ | ⟨x, hx, rfl⟩ | ⟨x, hx, rfl⟩) | rfl
  · rfl
  · rfl
  · rfl
  · have := h.2 x hx
    show rightR 16 1 x.1.size = true
    rw [right16]; exact this
  · rfl
theorem loads_save {s : SnapL} (h : okS s = true) : loadsL (saveL s) s := by
  have hl := saveL_len s
  have h2 := h
  unfold okS at h2
  rw [Bool.and_eq_true, List.all_eq_true] at h2
  refine ⟨⟨by omega, right_save h, rfl⟩, ?_, (got_save h).symm, h, rfl⟩
  rw [List.all_eq_true, mid_save]
  intro l hl
  unfold tightL
  rw [decide_eq_true_eq]
  intro hk
  rcases List.mem_append.1 hl with hl | hl
  · obtain ⟨x, hx, rfl⟩ := List.mem_map.1 hl
    have := h2.1 x hx
    unfold okI at this
    simp only [Bool.and_eq_true] at this
    obtain ⟨⟨⟨q1, q2⟩, q3⟩, q4⟩ := this
    simp only [recI, List.getD_cons_zero, List.getD_cons_succ, (small_w q1).1, (small_w q2).1, (small_w q3).1, (small_w q4).1]
    exact ⟨(small_w q1).2.2, (small_w q2).2.2, (small_w q3).2.2, (small_w q4).2.2⟩
  · rcases List.mem_append.1 hl with hl | hl
    · obtain ⟨x, hx, rfl⟩ := List.mem_map.1 hl; simp [recD] at hk
    · obtain ⟨x, hx, rfl⟩ := List.mem_map.1 hl; simp [recC] at hk
theorem headL_k {s : SnapL} : ∀ l ∈ headL s, l.k ≠ 17 := by
  obtain ⟨q1, q2, q3⟩ := saveL_k (s := s)
  intro l hl
  unfold headL at hl
  rcases List.mem_cons.1 hl with rfl | hl
  · simp [recB]
  · rcases List.mem_append.1 hl with hl | hl
    · rw [q1 l hl]; omega
    · rcases List.mem_append.1 hl with hl | hl
      · rw [q2 l hl]; omega
      · rw [q3 l hl]; omega
theorem cut_no {s : SnapL} {c : Nat} (h : c < (saveL s).length) : ¬ refOk ((saveL s).take c) := by
  intro hr
  have h2 := hr.1.1
  have hk := hr.2.1
  have hlen : ((saveL s).take c).length = c := by rw [List.length_take]; omega
  have hlh : (saveL s).length = (headL s).length + 1 := by simp [saveL]
  have e : lastL ((saveL s).take c) ∈ headL s := by
    have hx : ((saveL s).take c)[c - 1]? = some (lastL ((saveL s).take c)) := by
      unfold lastL
      rw [hlen, List.getD_eq_getElem?_getD, List.getElem?_eq_getElem (by omega)]; rfl
    rw [List.getElem?_take, if_pos (by omega)] at hx
    unfold saveL at hx
    rw [List.getElem?_append_left (by omega)] at hx
    exact List.mem_of_getElem? hx
  exact headL_k _ e hk
theorem more_no (s : SnapL) : ¬ refOk (saveL s ++ [recE (headL s).length]) := by
  intro hr
  have hg := hr.2.2.2.1
  have hlh : (saveL s).length = (headL s).length + 1 := by simp [saveL]
  have hpos : 0 < (headL s).length := by simp [headL]
  have := (hg (headL s).length hpos (by simp; omega)).2.1
  have hk : kAt (saveL s ++ [recE (headL s).length]) (headL s).length = 17 := by
    unfold kAt saveL
    rw [List.getElem?_append_left (by simp), List.getElem?_append_right (by omega)]
    simp [recE]
  omega
theorem last_save (s : SnapL) : (saveL s)[(saveL s).length - 1]? = some (recE (headL s).length) := by
  unfold saveL
  rw [List.getElem?_append_right (by simp)]
  simp
theorem slicev_upto3 {a : Option Addr} {n cap c : Nat} (h : c ≤ cap) : slicev 3 (.slice a n cap) none (some (.int .i64 (c : Int))) = some (.slice (if cap = 0 then a else a.map (·.add (0 * 3))) c cap) := slicev_to h
theorem RecsR.take {w : World} {v : Value} {ls : List LRec} (h : RecsR w v ls) {c : Nat} (hc : c ≤ ls.length) : ∃ v', slicev 3 v none (some (.int .i64 (c : Int))) = some v' ∧ RecsR w v' (ls.take c) := by
  obtain ⟨rs, ⟨a, cap, rfl, h1⟩, h2, h3, a', n', c', e, hcap⟩ := h
  cases e
  refine ⟨_, slicev_upto3 (by omega), rs.take c, ⟨if cap = 0 then a else a.map (·.add (0 * 3)), cap, ?_, ?_⟩, by simp; omega, fun i r l hr hl => ?_, ⟨_, _, _, rfl, by omega⟩⟩
  · congr 1; simp; omega
  · rcases h1 with rfl | ⟨b, o, cc, T, fz, rfl, hb, hx⟩
    · left; simp
    · by_cases h0 : cap = 0
      · left
        have : rs.length = 0 := by omega
        have : rs = [] := List.eq_nil_of_length_eq_zero this
        subst this; simp
      · right
        refine ⟨b, o, cc, T, fz, by simp [h0, add_none], hb, fun i x hxi => ?_⟩
        rw [List.getElem?_take] at hxi
        split at hxi
        · exact hx i x hxi
        · cases hxi
  · rw [List.getElem?_take] at hr hl
    split at hr
    · rename_i hi
      rw [if_pos hi] at hl
      exact h3 i r l hr hl
    · cases hr
/-- the region in which a record is put behind all others, and loaded, in any order. -/
def MORE_ (pv t77 : Value) (S : Nat → World → Prop) (k : Value → World → Prop) (w21 : World) : Prop :=
  JOIN (α := Value → World → Prop) (fun k_145 => (BND (newslice 62 #[(Value.int .i64 0), (Value.slice none 0 0), (Value.string ByteArray.empty)] 3 0 [] w21.drew) fun p_ => NEW p_ fun t69_146 w23 =>
  S 8 w23 ∧
  APPEND 62 3 48 (Value.agg #[(Value.int .i64 0), (Value.slice none 0 0), (Value.string ByteArray.empty)]) t69_146 pv w23 fun t71_147 w24 =>
  S 8 w24 ∧
  BND (newslice 62 #[(Value.int .i64 0), (Value.slice none 0 0), (Value.string ByteArray.empty)] 3 1 [(0, 3, t77)] w24) fun p_ => NEW p_ fun t78_148 w25 =>
  APPEND 62 3 48 (Value.agg #[(Value.int .i64 0), (Value.slice none 0 0), (Value.string ByteArray.empty)]) t71_147 t78_148 w25 fun t79_149 w26 =>
  CALL PR F_snap_Load [t79_149] w26 fun t80_150 w27 =>
  BND (extractv t80_150 0) fun t81_151 =>
  BND (extractv t80_150 1) fun t82_152 =>
  NEW (newv 29 w27 (Value.agg #[(Value.int .u64 0), (Value.int .u64 0), (Value.int .u64 0), (Value.int .u64 0), (Value.int .u64 0), (Value.slice none 0 0), (Value.slice none 0 0), (Value.slice none 0 0), (Value.int .u64 0), (Value.int .u64 0)])) fun t13_153 w28 =>
  S 8 w28 ∧
  BND (storev 10 w28 t13_153 t81_151) fun w29 =>
  k_145 t82_152 w29) ∧
  (BND (newslice 62 #[(Value.int .i64 0), (Value.slice none 0 0), (Value.string ByteArray.empty)] 3 0 [] w21.drew) fun p_ => NEW p_ fun t69_154 w30 =>
  S 8 w30 ∧
  APPEND 62 3 48 (Value.agg #[(Value.int .i64 0), (Value.slice none 0 0), (Value.string ByteArray.empty)]) t69_154 pv w30 fun t71_155 w31 =>
  S 8 w31 ∧
  BND (newslice 62 #[(Value.int .i64 0), (Value.slice none 0 0), (Value.string ByteArray.empty)] 3 1 [(0, 3, t77)] w31) fun p_ => NEW p_ fun t78_156 w32 =>
  APPEND 62 3 48 (Value.agg #[(Value.int .i64 0), (Value.slice none 0 0), (Value.string ByteArray.empty)]) t71_155 t78_156 w32 fun t79_157 w33 =>
  NEW (newv 29 w33 (Value.agg #[(Value.int .u64 0), (Value.int .u64 0), (Value.int .u64 0), (Value.int .u64 0), (Value.int .u64 0), (Value.slice none 0 0), (Value.slice none 0 0), (Value.slice none 0 0), (Value.int .u64 0), (Value.int .u64 0)])) fun t13_158 w34 =>
  S 8 w34 ∧
  CALL PR F_snap_Load [t79_157] w34 fun t80_159 w35 =>
  BND (extractv t80_159 0) fun t81_160 =>
  BND (extractv t80_159 1) fun t82_161 =>
  BND (storev 10 w35 t13_158 t81_160) fun w36 =>
  k_145 t82_161 w36) ∧
  (BND (newslice 62 #[(Value.int .i64 0), (Value.slice none 0 0), (Value.string ByteArray.empty)] 3 0 [] w21.drew) fun p_ => NEW p_ fun t69_162 w37 =>
  S 8 w37 ∧
  APPEND 62 3 48 (Value.agg #[(Value.int .i64 0), (Value.slice none 0 0), (Value.string ByteArray.empty)]) t69_162 pv w37 fun t71_163 w38 =>
  S 8 w38 ∧
  BND (newslice 62 #[(Value.int .i64 0), (Value.slice none 0 0), (Value.string ByteArray.empty)] 3 1 [(0, 3, t77)] w38) fun p_ => NEW p_ fun t78_164 w39 =>
  NEW (newv 29 w39 (Value.agg #[(Value.int .u64 0), (Value.int .u64 0), (Value.int .u64 0), (Value.int .u64 0), (Value.int .u64 0), (Value.slice none 0 0), (Value.slice none 0 0), (Value.slice none 0 0), (Value.int .u64 0), (Value.int .u64 0)])) fun t13_165 w40 =>
  S 8 w40 ∧
  APPEND 62 3 48 (Value.agg #[(Value.int .i64 0), (Value.slice none 0 0), (Value.string ByteArray.empty)]) t71_163 t78_164 w40 fun t79_166 w41 =>
  CALL PR F_snap_Load [t79_166] w41 fun t80_167 w42 =>
  BND (extractv t80_167 0) fun t81_168 =>
  BND (extractv t80_167 1) fun t82_169 =>
  BND (storev 10 w42 t13_165 t81_168) fun w43 =>
  k_145 t82_169 w43) ∧
  (BND (newslice 62 #[(Value.int .i64 0), (Value.slice none 0 0), (Value.string ByteArray.empty)] 3 0 [] w21.drew) fun p_ => NEW p_ fun t69_170 w44 =>
  S 8 w44 ∧
  APPEND 62 3 48 (Value.agg #[(Value.int .i64 0), (Value.slice none 0 0), (Value.string ByteArray.empty)]) t69_170 pv w44 fun t71_171 w45 =>
  S 8 w45 ∧
  NEW (newv 29 w45 (Value.agg #[(Value.int .u64 0), (Value.int .u64 0), (Value.int .u64 0), (Value.int .u64 0), (Value.int .u64 0), (Value.slice none 0 0), (Value.slice none 0 0), (Value.slice none 0 0), (Value.int .u64 0), (Value.int .u64 0)])) fun t13_172 w46 =>
  S 8 w46 ∧
  BND (newslice 62 #[(Value.int .i64 0), (Value.slice none 0 0), (Value.string ByteArray.empty)] 3 1 [(0, 3, t77)] w46) fun p_ => NEW p_ fun t78_173 w47 =>
  APPEND 62 3 48 (Value.agg #[(Value.int .i64 0), (Value.slice none 0 0), (Value.string ByteArray.empty)]) t71_171 t78_173 w47 fun t79_174 w48 =>
  CALL PR F_snap_Load [t79_174] w48 fun t80_175 w49 =>
  BND (extractv t80_175 0) fun t81_176 =>
  BND (extractv t80_175 1) fun t82_177 =>
  BND (storev 10 w49 t13_172 t81_176) fun w50 =>
  k_145 t82_177 w50) ∧
  (BND (newslice 62 #[(Value.int .i64 0), (Value.slice none 0 0), (Value.string ByteArray.empty)] 3 0 [] w21.drew) fun p_ => NEW p_ fun t69_178 w51 =>
  S 8 w51 ∧
  BND (newslice 62 #[(Value.int .i64 0), (Value.slice none 0 0), (Value.string ByteArray.empty)] 3 1 [(0, 3, t77)] w51) fun p_ => NEW p_ fun t78_179 w52 =>
  APPEND 62 3 48 (Value.agg #[(Value.int .i64 0), (Value.slice none 0 0), (Value.string ByteArray.empty)]) t69_178 pv w52 fun t71_180 w53 =>
  S 8 w53 ∧
  APPEND 62 3 48 (Value.agg #[(Value.int .i64 0), (Value.slice none 0 0), (Value.string ByteArray.empty)]) t71_180 t78_179 w53 fun t79_181 w54 =>
  CALL PR F_snap_Load [t79_181] w54 fun t80_182 w55 =>
  BND (extractv t80_182 0) fun t81_183 =>
  BND (extractv t80_182 1) fun t82_184 =>
  NEW (newv 29 w55 (Value.agg #[(Value.int .u64 0), (Value.int .u64 0), (Value.int .u64 0), (Value.int .u64 0), (Value.int .u64 0), (Value.slice none 0 0), (Value.slice none 0 0), (Value.slice none 0 0), (Value.int .u64 0), (Value.int .u64 0)])) fun t13_185 w56 =>
  S 8 w56 ∧
  BND (storev 10 w56 t13_185 t81_183) fun w57 =>
  k_145 t82_184 w57) ∧
  (BND (newslice 62 #[(Value.int .i64 0), (Value.slice none 0 0), (Value.string ByteArray.empty)] 3 0 [] w21.drew) fun p_ => NEW p_ fun t69_186 w58 =>
  S 8 w58 ∧
  BND (newslice 62 #[(Value.int .i64 0), (Value.slice none 0 0), (Value.string ByteArray.empty)] 3 1 [(0, 3, t77)] w58) fun p_ => NEW p_ fun t78_187 w59 =>
  APPEND 62 3 48 (Value.agg #[(Value.int .i64 0), (Value.slice none 0 0), (Value.string ByteArray.empty)]) t69_186 pv w59 fun t71_188 w60 =>
  S 8 w60 ∧
  APPEND 62 3 48 (Value.agg #[(Value.int .i64 0), (Value.slice none 0 0), (Value.string ByteArray.empty)]) t71_188 t78_187 w60 fun t79_189 w61 =>
  NEW (newv 29 w61 (Value.agg #[(Value.int .u64 0), (Value.int .u64 0), (Value.int .u64 0), (Value.int .u64 0), (Value.int .u64 0), (Value.slice none 0 0), (Value.slice none 0 0), (Value.slice none 0 0), (Value.int .u64 0), (Value.int .u64 0)])) fun t13_190 w62 =>
  S 8 w62 ∧
  CALL PR F_snap_Load [t79_189] w62 fun t80_191 w63 =>
  BND (extractv t80_191 0) fun t81_192 =>
  BND (extractv t80_191 1) fun t82_193 =>
  BND (storev 10 w63 t13_190 t81_192) fun w64 =>
  k_145 t82_193 w64) ∧
  (BND (newslice 62 #[(Value.int .i64 0), (Value.slice none 0 0), (Value.string ByteArray.empty)] 3 0 [] w21.drew) fun p_ => NEW p_ fun t69_194 w65 =>
  S 8 w65 ∧
  BND (newslice 62 #[(Value.int .i64 0), (Value.slice none 0 0), (Value.string ByteArray.empty)] 3 1 [(0, 3, t77)] w65) fun p_ => NEW p_ fun t78_195 w66 =>
  APPEND 62 3 48 (Value.agg #[(Value.int .i64 0), (Value.slice none 0 0), (Value.string ByteArray.empty)]) t69_194 pv w66 fun t71_196 w67 =>
  S 8 w67 ∧
  NEW (newv 29 w67 (Value.agg #[(Value.int .u64 0), (Value.int .u64 0), (Value.int .u64 0), (Value.int .u64 0), (Value.int .u64 0), (Value.slice none 0 0), (Value.slice none 0 0), (Value.slice none 0 0), (Value.int .u64 0), (Value.int .u64 0)])) fun t13_197 w68 =>
  S 8 w68 ∧
  APPEND 62 3 48 (Value.agg #[(Value.int .i64 0), (Value.slice none 0 0), (Value.string ByteArray.empty)]) t71_196 t78_195 w68 fun t79_198 w69 =>
  CALL PR F_snap_Load [t79_198] w69 fun t80_199 w70 =>
  BND (extractv t80_199 0) fun t81_200 =>
  BND (extractv t80_199 1) fun t82_201 =>
  BND (storev 10 w70 t13_197 t81_200) fun w71 =>
  k_145 t82_201 w71) ∧
  (BND (newslice 62 #[(Value.int .i64 0), (Value.slice none 0 0), (Value.string ByteArray.empty)] 3 0 [] w21.drew) fun p_ => NEW p_ fun t69_202 w72 =>
  S 8 w72 ∧
  BND (newslice 62 #[(Value.int .i64 0), (Value.slice none 0 0), (Value.string ByteArray.empty)] 3 1 [(0, 3, t77)] w72) fun p_ => NEW p_ fun t78_203 w73 =>
  NEW (newv 29 w73 (Value.agg #[(Value.int .u64 0), (Value.int .u64 0), (Value.int .u64 0), (Value.int .u64 0), (Value.int .u64 0), (Value.slice none 0 0), (Value.slice none 0 0), (Value.slice none 0 0), (Value.int .u64 0), (Value.int .u64 0)])) fun t13_204 w74 =>
  S 8 w74 ∧
  APPEND 62 3 48 (Value.agg #[(Value.int .i64 0), (Value.slice none 0 0), (Value.string ByteArray.empty)]) t69_202 pv w74 fun t71_205 w75 =>
  S 8 w75 ∧
  APPEND 62 3 48 (Value.agg #[(Value.int .i64 0), (Value.slice none 0 0), (Value.string ByteArray.empty)]) t71_205 t78_203 w75 fun t79_206 w76 =>
  CALL PR F_snap_Load [t79_206] w76 fun t80_207 w77 =>
  BND (extractv t80_207 0) fun t81_208 =>
  BND (extractv t80_207 1) fun t82_209 =>
  BND (storev 10 w77 t13_204 t81_208) fun w78 =>
  k_145 t82_209 w78) ∧
  (BND (newslice 62 #[(Value.int .i64 0), (Value.slice none 0 0), (Value.string ByteArray.empty)] 3 0 [] w21.drew) fun p_ => NEW p_ fun t69_210 w79 =>
  S 8 w79 ∧
  NEW (newv 29 w79 (Value.agg #[(Value.int .u64 0), (Value.int .u64 0), (Value.int .u64 0), (Value.int .u64 0), (Value.int .u64 0), (Value.slice none 0 0), (Value.slice none 0 0), (Value.slice none 0 0), (Value.int .u64 0), (Value.int .u64 0)])) fun t13_211 w80 =>
  S 8 w80 ∧
  APPEND 62 3 48 (Value.agg #[(Value.int .i64 0), (Value.slice none 0 0), (Value.string ByteArray.empty)]) t69_210 pv w80 fun t71_212 w81 =>
  S 8 w81 ∧
  BND (newslice 62 #[(Value.int .i64 0), (Value.slice none 0 0), (Value.string ByteArray.empty)] 3 1 [(0, 3, t77)] w81) fun p_ => NEW p_ fun t78_213 w82 =>
  APPEND 62 3 48 (Value.agg #[(Value.int .i64 0), (Value.slice none 0 0), (Value.string ByteArray.empty)]) t71_212 t78_213 w82 fun t79_214 w83 =>
  CALL PR F_snap_Load [t79_214] w83 fun t80_215 w84 =>
  BND (extractv t80_215 0) fun t81_216 =>
  BND (extractv t80_215 1) fun t82_217 =>
  BND (storev 10 w84 t13_211 t81_216) fun w85 =>
  k_145 t82_217 w85) ∧
  (BND (newslice 62 #[(Value.int .i64 0), (Value.slice none 0 0), (Value.string ByteArray.empty)] 3 0 [] w21.drew) fun p_ => NEW p_ fun t69_218 w86 =>
  S 8 w86 ∧
  NEW (newv 29 w86 (Value.agg #[(Value.int .u64 0), (Value.int .u64 0), (Value.int .u64 0), (Value.int .u64 0), (Value.int .u64 0), (Value.slice none 0 0), (Value.slice none 0 0), (Value.slice none 0 0), (Value.int .u64 0), (Value.int .u64 0)])) fun t13_219 w87 =>
  S 8 w87 ∧
  BND (newslice 62 #[(Value.int .i64 0), (Value.slice none 0 0), (Value.string ByteArray.empty)] 3 1 [(0, 3, t77)] w87) fun p_ => NEW p_ fun t78_220 w88 =>
  APPEND 62 3 48 (Value.agg #[(Value.int .i64 0), (Value.slice none 0 0), (Value.string ByteArray.empty)]) t69_218 pv w88 fun t71_221 w89 =>
  S 8 w89 ∧
  APPEND 62 3 48 (Value.agg #[(Value.int .i64 0), (Value.slice none 0 0), (Value.string ByteArray.empty)]) t71_221 t78_220 w89 fun t79_222 w90 =>
  CALL PR F_snap_Load [t79_222] w90 fun t80_223 w91 =>
  BND (extractv t80_223 0) fun t81_224 =>
  BND (extractv t80_223 1) fun t82_225 =>
  BND (storev 10 w91 t13_219 t81_224) fun w92 =>
  k_145 t82_225 w92) ∧
  (BND (newslice 62 #[(Value.int .i64 0), (Value.slice none 0 0), (Value.string ByteArray.empty)] 3 1 [(0, 3, t77)] w21.drew) fun p_ => NEW p_ fun t78_226 w93 =>
  BND (newslice 62 #[(Value.int .i64 0), (Value.slice none 0 0), (Value.string ByteArray.empty)] 3 0 [] w93) fun p_ => NEW p_ fun t69_227 w94 =>
  S 8 w94 ∧
  APPEND 62 3 48 (Value.agg #[(Value.int .i64 0), (Value.slice none 0 0), (Value.string ByteArray.empty)]) t69_227 pv w94 fun t71_228 w95 =>
  S 8 w95 ∧
  APPEND 62 3 48 (Value.agg #[(Value.int .i64 0), (Value.slice none 0 0), (Value.string ByteArray.empty)]) t71_228 t78_226 w95 fun t79_229 w96 =>
  CALL PR F_snap_Load [t79_229] w96 fun t80_230 w97 =>
  BND (extractv t80_230 0) fun t81_231 =>
  BND (extractv t80_230 1) fun t82_232 =>
  NEW (newv 29 w97 (Value.agg #[(Value.int .u64 0), (Value.int .u64 0), (Value.int .u64 0), (Value.int .u64 0), (Value.int .u64 0), (Value.slice none 0 0), (Value.slice none 0 0), (Value.slice none 0 0), (Value.int .u64 0), (Value.int .u64 0)])) fun t13_233 w98 =>
  S 8 w98 ∧
  BND (storev 10 w98 t13_233 t81_231) fun w99 =>
  k_145 t82_232 w99) ∧
  (BND (newslice 62 #[(Value.int .i64 0), (Value.slice none 0 0), (Value.string ByteArray.empty)] 3 1 [(0, 3, t77)] w21.drew) fun p_ => NEW p_ fun t78_234 w100 =>
  BND (newslice 62 #[(Value.int .i64 0), (Value.slice none 0 0), (Value.string ByteArray.empty)] 3 0 [] w100) fun p_ => NEW p_ fun t69_235 w101 =>
  S 8 w101 ∧
  APPEND 62 3 48 (Value.agg #[(Value.int .i64 0), (Value.slice none 0 0), (Value.string ByteArray.empty)]) t69_235 pv w101 fun t71_236 w102 =>
  S 8 w102 ∧
  APPEND 62 3 48 (Value.agg #[(Value.int .i64 0), (Value.slice none 0 0), (Value.string ByteArray.empty)]) t71_236 t78_234 w102 fun t79_237 w103 =>
  NEW (newv 29 w103 (Value.agg #[(Value.int .u64 0), (Value.int .u64 0), (Value.int .u64 0), (Value.int .u64 0), (Value.int .u64 0), (Value.slice none 0 0), (Value.slice none 0 0), (Value.slice none 0 0), (Value.int .u64 0), (Value.int .u64 0)])) fun t13_238 w104 =>
  S 8 w104 ∧
  CALL PR F_snap_Load [t79_237] w104 fun t80_239 w105 =>
  BND (extractv t80_239 0) fun t81_240 =>
  BND (extractv t80_239 1) fun t82_241 =>
  BND (storev 10 w105 t13_238 t81_240) fun w106 =>
  k_145 t82_241 w106) ∧
  (BND (newslice 62 #[(Value.int .i64 0), (Value.slice none 0 0), (Value.string ByteArray.empty)] 3 1 [(0, 3, t77)] w21.drew) fun p_ => NEW p_ fun t78_242 w107 =>
  BND (newslice 62 #[(Value.int .i64 0), (Value.slice none 0 0), (Value.string ByteArray.empty)] 3 0 [] w107) fun p_ => NEW p_ fun t69_243 w108 =>
  S 8 w108 ∧
  APPEND 62 3 48 (Value.agg #[(Value.int .i64 0), (Value.slice none 0 0), (Value.string ByteArray.empty)]) t69_243 pv w108 fun t71_244 w109 =>
  S 8 w109 ∧
  NEW (newv 29 w109 (Value.agg #[(Value.int .u64 0), (Value.int .u64 0), (Value.int .u64 0), (Value.int .u64 0), (Value.int .u64 0), (Value.slice none 0 0), (Value.slice none 0 0), (Value.slice none 0 0), (Value.int .u64 0), (Value.int .u64 0)])) fun t13_245 w110 =>
  S 8 w110 ∧
  APPEND 62 3 48 (Value.agg #[(Value.int .i64 0), (Value.slice none 0 0), (Value.string ByteArray.empty)]) t71_244 t78_242 w110 fun t79_246 w111 =>
  CALL PR F_snap_Load [t79_246] w111 fun t80_247 w112 =>
  BND (extractv t80_247 0) fun t81_248 =>
  BND (extractv t80_247 1) fun t82_249 =>
  BND (storev 10 w112 t13_245 t81_248) fun w113 =>
  k_145 t82_249 w113) ∧
  (BND (newslice 62 #[(Value.int .i64 0), (Value.slice none 0 0), (Value.string ByteArray.empty)] 3 1 [(0, 3, t77)] w21.drew) fun p_ => NEW p_ fun t78_250 w114 =>
  BND (newslice 62 #[(Value.int .i64 0), (Value.slice none 0 0), (Value.string ByteArray.empty)] 3 0 [] w114) fun p_ => NEW p_ fun t69_251 w115 =>
  S 8 w115 ∧
  NEW (newv 29 w115 (Value.agg #[(Value.int .u64 0), (Value.int .u64 0), (Value.int .u64 0), (Value.int .u64 0), (Value.int .u64 0), (Value.slice none 0 0), (Value.slice none 0 0), (Value.slice none 0 0), (Value.int .u64 0), (Value.int .u64 0)])) fun t13_252 w116 =>
  S 8 w116 ∧
  APPEND 62 3 48 (Value.agg #[(Value.int .i64 0), (Value.slice none 0 0), (Value.string ByteArray.empty)]) t69_251 pv w116 fun t71_253 w117 =>
  S 8 w117 ∧
  APPEND 62 3 48 (Value.agg #[(Value.int .i64 0), (Value.slice none 0 0), (Value.string ByteArray.empty)]) t71_253 t78_250 w117 fun t79_254 w118 =>
  CALL PR F_snap_Load [t79_254] w118 fun t80_255 w119 =>
  BND (extractv t80_255 0) fun t81_256 =>
  BND (extractv t80_255 1) fun t82_257 =>
  BND (storev 10 w119 t13_252 t81_256) fun w120 =>
  k_145 t82_257 w120) ∧
  (BND (newslice 62 #[(Value.int .i64 0), (Value.slice none 0 0), (Value.string ByteArray.empty)] 3 1 [(0, 3, t77)] w21.drew) fun p_ => NEW p_ fun t78_258 w121 =>
  NEW (newv 29 w121 (Value.agg #[(Value.int .u64 0), (Value.int .u64 0), (Value.int .u64 0), (Value.int .u64 0), (Value.int .u64 0), (Value.slice none 0 0), (Value.slice none 0 0), (Value.slice none 0 0), (Value.int .u64 0), (Value.int .u64 0)])) fun t13_259 w122 =>
  S 8 w122 ∧
  BND (newslice 62 #[(Value.int .i64 0), (Value.slice none 0 0), (Value.string ByteArray.empty)] 3 0 [] w122) fun p_ => NEW p_ fun t69_260 w123 =>
  S 8 w123 ∧
  APPEND 62 3 48 (Value.agg #[(Value.int .i64 0), (Value.slice none 0 0), (Value.string ByteArray.empty)]) t69_260 pv w123 fun t71_261 w124 =>
  S 8 w124 ∧
  APPEND 62 3 48 (Value.agg #[(Value.int .i64 0), (Value.slice none 0 0), (Value.string ByteArray.empty)]) t71_261 t78_258 w124 fun t79_262 w125 =>
  CALL PR F_snap_Load [t79_262] w125 fun t80_263 w126 =>
  BND (extractv t80_263 0) fun t81_264 =>
  BND (extractv t80_263 1) fun t82_265 =>
  BND (storev 10 w126 t13_259 t81_264) fun w127 =>
  k_145 t82_265 w127) ∧
  (NEW (newv 29 w21.drew (Value.agg #[(Value.int .u64 0), (Value.int .u64 0), (Value.int .u64 0), (Value.int .u64 0), (Value.int .u64 0), (Value.slice none 0 0), (Value.slice none 0 0), (Value.slice none 0 0), (Value.int .u64 0), (Value.int .u64 0)])) fun t13_266 w128 =>
  S 8 w128 ∧
  BND (newslice 62 #[(Value.int .i64 0), (Value.slice none 0 0), (Value.string ByteArray.empty)] 3 0 [] w128) fun p_ => NEW p_ fun t69_267 w129 =>
  S 8 w129 ∧
  APPEND 62 3 48 (Value.agg #[(Value.int .i64 0), (Value.slice none 0 0), (Value.string ByteArray.empty)]) t69_267 pv w129 fun t71_268 w130 =>
  S 8 w130 ∧
  BND (newslice 62 #[(Value.int .i64 0), (Value.slice none 0 0), (Value.string ByteArray.empty)] 3 1 [(0, 3, t77)] w130) fun p_ => NEW p_ fun t78_269 w131 =>
  APPEND 62 3 48 (Value.agg #[(Value.int .i64 0), (Value.slice none 0 0), (Value.string ByteArray.empty)]) t71_268 t78_269 w131 fun t79_270 w132 =>
  CALL PR F_snap_Load [t79_270] w132 fun t80_271 w133 =>
  BND (extractv t80_271 0) fun t81_272 =>
  BND (extractv t80_271 1) fun t82_273 =>
  BND (storev 10 w133 t13_266 t81_272) fun w134 =>
  k_145 t82_273 w134) ∧
  (NEW (newv 29 w21.drew (Value.agg #[(Value.int .u64 0), (Value.int .u64 0), (Value.int .u64 0), (Value.int .u64 0), (Value.int .u64 0), (Value.slice none 0 0), (Value.slice none 0 0), (Value.slice none 0 0), (Value.int .u64 0), (Value.int .u64 0)])) fun t13_274 w135 =>
  S 8 w135 ∧
  BND (newslice 62 #[(Value.int .i64 0), (Value.slice none 0 0), (Value.string ByteArray.empty)] 3 0 [] w135) fun p_ => NEW p_ fun t69_275 w136 =>
  S 8 w136 ∧
  BND (newslice 62 #[(Value.int .i64 0), (Value.slice none 0 0), (Value.string ByteArray.empty)] 3 1 [(0, 3, t77)] w136) fun p_ => NEW p_ fun t78_276 w137 =>
  APPEND 62 3 48 (Value.agg #[(Value.int .i64 0), (Value.slice none 0 0), (Value.string ByteArray.empty)]) t69_275 pv w137 fun t71_277 w138 =>
  S 8 w138 ∧
  APPEND 62 3 48 (Value.agg #[(Value.int .i64 0), (Value.slice none 0 0), (Value.string ByteArray.empty)]) t71_277 t78_276 w138 fun t79_278 w139 =>
  CALL PR F_snap_Load [t79_278] w139 fun t80_279 w140 =>
  BND (extractv t80_279 0) fun t81_280 =>
  BND (extractv t80_279 1) fun t82_281 =>
  BND (storev 10 w140 t13_274 t81_280) fun w141 =>
  k_145 t82_281 w141) ∧
  (NEW (newv 29 w21.drew (Value.agg #[(Value.int .u64 0), (Value.int .u64 0), (Value.int .u64 0), (Value.int .u64 0), (Value.int .u64 0), (Value.slice none 0 0), (Value.slice none 0 0), (Value.slice none 0 0), (Value.int .u64 0), (Value.int .u64 0)])) fun t13_282 w142 =>
  S 8 w142 ∧
  BND (newslice 62 #[(Value.int .i64 0), (Value.slice none 0 0), (Value.string ByteArray.empty)] 3 1 [(0, 3, t77)] w142) fun p_ => NEW p_ fun t78_283 w143 =>
  BND (newslice 62 #[(Value.int .i64 0), (Value.slice none 0 0), (Value.string ByteArray.empty)] 3 0 [] w143) fun p_ => NEW p_ fun t69_284 w144 =>
  S 8 w144 ∧
  APPEND 62 3 48 (Value.agg #[(Value.int .i64 0), (Value.slice none 0 0), (Value.string ByteArray.empty)]) t69_284 pv w144 fun t71_285 w145 =>
  S 8 w145 ∧
  APPEND 62 3 48 (Value.agg #[(Value.int .i64 0), (Value.slice none 0 0), (Value.string ByteArray.empty)]) t71_285 t78_283 w145 fun t79_286 w146 =>
  CALL PR F_snap_Load [t79_286] w146 fun t80_287 w147 =>
  BND (extractv t80_287 0) fun t81_288 =>
  BND (extractv t80_287 1) fun t82_289 =>
  BND (storev 10 w147 t13_282 t81_288) fun w148 =>
  k_145 t82_289 w148))
  k
set_option linter.unusedSimpArgs false
set_option linter.unusedVariables false
set_option maxRecDepth 20000
set_option maxHeartbeats 4000000
attribute [local congr] BND_cg COND_cg GEF_cg
attribute [local irreducible] load1 loadn iaddr iaddra faddr storev newslice binv lookv mupd mdel mlenv mentry mestore slicev slicev3 slices indexs indexav textv rangev nexts clearv shiftv eqaggv convi buildv pickv lens lenl unv nilchk extractv partn JOIN
section
variable {w : World} {R : Value → World → Prop}
theorem ld_no {ls : List LRec} (h : ¬ refOk ls) : ldE ls = 2 := by unfold ldE; rw [if_neg h]
theorem ld_yes {ls : List LRec} (h : refOk ls) : ldE ls = 0 ∧ ldS ls = gotL ls := by unfold ldE ldS; rw [if_pos h, if_pos h]; exact ⟨rfl, rfl⟩
theorem more_ok {pv : Value} {ls : List LRec} {rl : Rec} {S : Nat → World → Prop} {k : Value → World → Prop} {w21 : World} (hp : ∃ rs : List Rec, Arr encR 3 w21.drew pv rs ∧ rs.length = ls.length ∧ (∀ (i : Nat) r l, rs[i]? = some r → ls[i]? = some l → RecOf w21.drew r l)) {l : LRec} (hrl : RecOf w21.drew rl l)
    (hn : ls.length < 10000) (hsm0 : ∀ l ∈ ls, l.ns.length < 1000000) (hsl : l.ns.length < 1000000) (hu0 : NsU ls) (hul : ∀ n ∈ l.ns, U64 n) (hS0 : ∀ w', Fr [] w21.drew w' → S 8 w') (hno : ¬ refOk (ls ++ [l])) (hk : ∀ w', Fr [] w21 w' → k (.int .i64 2) w') :
    MORE_ pv (.agg (encR rl).toArray) S k w21 := by
  have fwd : Fr [] w21 w21.drew := Fr.drew _ _
  unfold MORE_
  obtain ⟨rs, h1, h2, h3⟩ := hp
  generalize w21.drew = wd at *
  have src : ∀ {w'}, Fr [] wd w' → cellsOfArg w' 3 pv = some (flat encR rs, rs.length) := fun f => (h1.fr f (by simp)).src encR_len (by omega)
  have hS : ∀ {w'}, Fr [] wd w' → S 8 w' := fun f => hS0 _ f
  have mk : ∀ {w' v G}, Fr [] wd w' → Slc encR 3 w' v ([] ++ rs ++ [rl]) G → RecsR w' v (ls ++ [l]) := by
    intro w' v G f s
    rw [List.nil_append] at s
    refine ⟨rs ++ [rl], s.arr, by simp [h2], fun i r x hr hx => ?_, s.capd⟩
    by_cases hi : i < rs.length
    · rw [List.getElem?_append_left hi] at hr
      rw [List.getElem?_append_left (by omega)] at hx
      exact (h3 i r x hr hx).fr f (by simp)
    · have hi' : i = rs.length := by
        have := (List.getElem?_eq_some_iff.1 hr).1
        simp at this; omega
      subst hi'
      rw [List.getElem?_append_right (by omega)] at hr hx
      rw [h2] at hx
      simp at hr hx; subst hr; subst hx
      exact hrl.fr f (by simp)
  have hlen : (ls ++ [l]).length < 100000 := by simp; omega
  have hsm : ∀ x ∈ ls ++ [l], x.ns.length < 1000000 := fun x hx => by
    rcases List.mem_append.1 hx with hx | hx
    · exact hsm0 x hx
    · simp at hx; subst hx; exact hsl
  have hnu : NsU (ls ++ [l]) := fun x hx => by
    rcases List.mem_append.1 hx with hx | hx
    · exact hu0 x hx
    · simp at hx; subst hx; exact hul
  have eE : ldE (ls ++ [l]) = 2 := ld_no hno
  refine join_v (fun t w' => t = .int .i64 2 ∧ Fr [] w21 w') (fun K hK => ?_) (fun t w' h => by rw [h.1]; exact hk w' h.2)
  refine ⟨?_, ?_, ?_, ?_, ?_, ?_, ?_, ?_, ?_, ?_, ?_, ?_, ?_, ?_, ?_, ?_, ?_, ?_⟩
    -- orders
  · refine newnil_step encR fun t69_146 w23 s_w23 f_w23 z_w23 => ?_
    have a_w23 := (At.nothing wd).add f_w23 (P := slc encR 3 t69_146 []) s_w23 (by simp)
    refine ⟨hS a_w23.frame, ?_⟩
    refine a_w23.append (i := 0) rfl (src a_w23.frame) encR_len encR_one rfl (by omega) (by simp only [List.length_nil]; omega) fun t71_147 w24 a_w24 _ => ?_
    refine ⟨hS a_w24.frame, ?_⟩
    refine newone_step (enc := encR) (x := rl) encR_len rfl fun t78_148 w25 s_w25 f_w25 z_w25 => ?_
    have a_w25 := a_w24.add f_w25 (P := slc encR 3 t78_148 [rl]) s_w25 (by simp)
    obtain ⟨F_w26, h_w26, _⟩ := a_w25.slc1 (i := 0) rfl
    refine a_w25.append (i := 1) rfl (h_w26.loads encR_len) encR_len encR_one rfl (by omega) (by simp; omega) fun t79_149 w26 a_w26 _ => ?_
    obtain ⟨G_w27, g_w27, _⟩ := a_w26.slc1 (i := 1) rfl
    refine sn_Load2 (mk a_w26.frame g_w27) hlen hsm hnu fun w27 i_w27 d_w27 c_w27 f_w27 v_w27 => ?_
    rw [eE]
    have a_w27 := a_w26.fr0 f_w27
    refine BND_ext rfl <| BND_ext rfl ?_
    refine NEW_intro fun w28 b_w28 f_w28 z_w28 => ?_
    have a_w28 := a_w27.add f_w28 (P := pts (hsz w27) zSn) ⟨⟨_, b_w28⟩, rfl⟩ (by simp)
    refine ⟨hS a_w28.frame, ?_⟩
    refine a_w28.put (i := 0) rfl rfl rfl (snC_one v_w27) (by simp [snC, stC]) fun w29 a_w29 _ => ?_
    exact hK _ _ ⟨rfl, fwd.trans' a_w29.frame⟩
  · refine newnil_step encR fun t69_154 w30 s_w30 f_w30 z_w30 => ?_
    have a_w30 := (At.nothing wd).add f_w30 (P := slc encR 3 t69_154 []) s_w30 (by simp)
    refine ⟨hS a_w30.frame, ?_⟩
    refine a_w30.append (i := 0) rfl (src a_w30.frame) encR_len encR_one rfl (by omega) (by simp only [List.length_nil]; omega) fun t71_155 w31 a_w31 _ => ?_
    refine ⟨hS a_w31.frame, ?_⟩
    refine newone_step (enc := encR) (x := rl) encR_len rfl fun t78_156 w32 s_w32 f_w32 z_w32 => ?_
    have a_w32 := a_w31.add f_w32 (P := slc encR 3 t78_156 [rl]) s_w32 (by simp)
    obtain ⟨F_w33, h_w33, _⟩ := a_w32.slc1 (i := 0) rfl
    refine a_w32.append (i := 1) rfl (h_w33.loads encR_len) encR_len encR_one rfl (by omega) (by simp; omega) fun t79_157 w33 a_w33 _ => ?_
    refine NEW_intro fun w34 b_w34 f_w34 z_w34 => ?_
    have a_w34 := a_w33.add f_w34 (P := pts (hsz w33) zSn) ⟨⟨_, b_w34⟩, rfl⟩ (by simp)
    refine ⟨hS a_w34.frame, ?_⟩
    obtain ⟨G_w35, g_w35, _⟩ := a_w34.slc1 (i := 2) rfl
    refine sn_Load2 (mk a_w34.frame g_w35) hlen hsm hnu fun w35 i_w35 d_w35 c_w35 f_w35 v_w35 => ?_
    rw [eE]
    have a_w35 := a_w34.fr0 f_w35
    refine BND_ext rfl <| BND_ext rfl ?_
    refine a_w35.put (i := 0) rfl rfl rfl (snC_one v_w35) (by simp [snC, stC]) fun w36 a_w36 _ => ?_
    exact hK _ _ ⟨rfl, fwd.trans' a_w36.frame⟩
  · refine newnil_step encR fun t69_162 w37 s_w37 f_w37 z_w37 => ?_
    have a_w37 := (At.nothing wd).add f_w37 (P := slc encR 3 t69_162 []) s_w37 (by simp)
    refine ⟨hS a_w37.frame, ?_⟩
    refine a_w37.append (i := 0) rfl (src a_w37.frame) encR_len encR_one rfl (by omega) (by simp only [List.length_nil]; omega) fun t71_163 w38 a_w38 _ => ?_
    refine ⟨hS a_w38.frame, ?_⟩
    refine newone_step (enc := encR) (x := rl) encR_len rfl fun t78_164 w39 s_w39 f_w39 z_w39 => ?_
    have a_w39 := a_w38.add f_w39 (P := slc encR 3 t78_164 [rl]) s_w39 (by simp)
    refine NEW_intro fun w40 b_w40 f_w40 z_w40 => ?_
    have a_w40 := a_w39.add f_w40 (P := pts (hsz w39) zSn) ⟨⟨_, b_w40⟩, rfl⟩ (by simp)
    refine ⟨hS a_w40.frame, ?_⟩
    obtain ⟨F_w41, h_w41, _⟩ := a_w40.slc1 (i := 1) rfl
    refine a_w40.append (i := 2) rfl (h_w41.loads encR_len) encR_len encR_one rfl (by omega) (by simp; omega) fun t79_166 w41 a_w41 _ => ?_
    obtain ⟨G_w42, g_w42, _⟩ := a_w41.slc1 (i := 2) rfl
    refine sn_Load2 (mk a_w41.frame g_w42) hlen hsm hnu fun w42 i_w42 d_w42 c_w42 f_w42 v_w42 => ?_
    rw [eE]
    have a_w42 := a_w41.fr0 f_w42
    refine BND_ext rfl <| BND_ext rfl ?_
    refine a_w42.put (i := 0) rfl rfl rfl (snC_one v_w42) (by simp [snC, stC]) fun w43 a_w43 _ => ?_
    exact hK _ _ ⟨rfl, fwd.trans' a_w43.frame⟩
  · refine newnil_step encR fun t69_170 w44 s_w44 f_w44 z_w44 => ?_
    have a_w44 := (At.nothing wd).add f_w44 (P := slc encR 3 t69_170 []) s_w44 (by simp)
    refine ⟨hS a_w44.frame, ?_⟩
    refine a_w44.append (i := 0) rfl (src a_w44.frame) encR_len encR_one rfl (by omega) (by simp only [List.length_nil]; omega) fun t71_171 w45 a_w45 _ => ?_
    refine ⟨hS a_w45.frame, ?_⟩
    refine NEW_intro fun w46 b_w46 f_w46 z_w46 => ?_
    have a_w46 := a_w45.add f_w46 (P := pts (hsz w45) zSn) ⟨⟨_, b_w46⟩, rfl⟩ (by simp)
    refine ⟨hS a_w46.frame, ?_⟩
    refine newone_step (enc := encR) (x := rl) encR_len rfl fun t78_173 w47 s_w47 f_w47 z_w47 => ?_
    have a_w47 := a_w46.add f_w47 (P := slc encR 3 t78_173 [rl]) s_w47 (by simp)
    obtain ⟨F_w48, h_w48, _⟩ := a_w47.slc1 (i := 0) rfl
    refine a_w47.append (i := 2) rfl (h_w48.loads encR_len) encR_len encR_one rfl (by omega) (by simp; omega) fun t79_174 w48 a_w48 _ => ?_
    obtain ⟨G_w49, g_w49, _⟩ := a_w48.slc1 (i := 2) rfl
    refine sn_Load2 (mk a_w48.frame g_w49) hlen hsm hnu fun w49 i_w49 d_w49 c_w49 f_w49 v_w49 => ?_
    rw [eE]
    have a_w49 := a_w48.fr0 f_w49
    refine BND_ext rfl <| BND_ext rfl ?_
    refine a_w49.put (i := 1) rfl rfl rfl (snC_one v_w49) (by simp [snC, stC]) fun w50 a_w50 _ => ?_
    exact hK _ _ ⟨rfl, fwd.trans' a_w50.frame⟩
  · refine newnil_step encR fun t69_178 w51 s_w51 f_w51 z_w51 => ?_
    have a_w51 := (At.nothing wd).add f_w51 (P := slc encR 3 t69_178 []) s_w51 (by simp)
    refine ⟨hS a_w51.frame, ?_⟩
    refine newone_step (enc := encR) (x := rl) encR_len rfl fun t78_179 w52 s_w52 f_w52 z_w52 => ?_
    have a_w52 := a_w51.add f_w52 (P := slc encR 3 t78_179 [rl]) s_w52 (by simp)
    refine a_w52.append (i := 1) rfl (src a_w52.frame) encR_len encR_one rfl (by omega) (by simp only [List.length_nil]; omega) fun t71_180 w53 a_w53 _ => ?_
    refine ⟨hS a_w53.frame, ?_⟩
    obtain ⟨F_w54, h_w54, _⟩ := a_w53.slc1 (i := 0) rfl
    refine a_w53.append (i := 1) rfl (h_w54.loads encR_len) encR_len encR_one rfl (by omega) (by simp; omega) fun t79_181 w54 a_w54 _ => ?_
    obtain ⟨G_w55, g_w55, _⟩ := a_w54.slc1 (i := 1) rfl
    refine sn_Load2 (mk a_w54.frame g_w55) hlen hsm hnu fun w55 i_w55 d_w55 c_w55 f_w55 v_w55 => ?_
    rw [eE]
    have a_w55 := a_w54.fr0 f_w55
    refine BND_ext rfl <| BND_ext rfl ?_
    refine NEW_intro fun w56 b_w56 f_w56 z_w56 => ?_
    have a_w56 := a_w55.add f_w56 (P := pts (hsz w55) zSn) ⟨⟨_, b_w56⟩, rfl⟩ (by simp)
    refine ⟨hS a_w56.frame, ?_⟩
    refine a_w56.put (i := 0) rfl rfl rfl (snC_one v_w55) (by simp [snC, stC]) fun w57 a_w57 _ => ?_
    exact hK _ _ ⟨rfl, fwd.trans' a_w57.frame⟩
  · refine newnil_step encR fun t69_186 w58 s_w58 f_w58 z_w58 => ?_
    have a_w58 := (At.nothing wd).add f_w58 (P := slc encR 3 t69_186 []) s_w58 (by simp)
    refine ⟨hS a_w58.frame, ?_⟩
    refine newone_step (enc := encR) (x := rl) encR_len rfl fun t78_187 w59 s_w59 f_w59 z_w59 => ?_
    have a_w59 := a_w58.add f_w59 (P := slc encR 3 t78_187 [rl]) s_w59 (by simp)
    refine a_w59.append (i := 1) rfl (src a_w59.frame) encR_len encR_one rfl (by omega) (by simp only [List.length_nil]; omega) fun t71_188 w60 a_w60 _ => ?_
    refine ⟨hS a_w60.frame, ?_⟩
    obtain ⟨F_w61, h_w61, _⟩ := a_w60.slc1 (i := 0) rfl
    refine a_w60.append (i := 1) rfl (h_w61.loads encR_len) encR_len encR_one rfl (by omega) (by simp; omega) fun t79_189 w61 a_w61 _ => ?_
    refine NEW_intro fun w62 b_w62 f_w62 z_w62 => ?_
    have a_w62 := a_w61.add f_w62 (P := pts (hsz w61) zSn) ⟨⟨_, b_w62⟩, rfl⟩ (by simp)
    refine ⟨hS a_w62.frame, ?_⟩
    obtain ⟨G_w63, g_w63, _⟩ := a_w62.slc1 (i := 2) rfl
    refine sn_Load2 (mk a_w62.frame g_w63) hlen hsm hnu fun w63 i_w63 d_w63 c_w63 f_w63 v_w63 => ?_
    rw [eE]
    have a_w63 := a_w62.fr0 f_w63
    refine BND_ext rfl <| BND_ext rfl ?_
    refine a_w63.put (i := 0) rfl rfl rfl (snC_one v_w63) (by simp [snC, stC]) fun w64 a_w64 _ => ?_
    exact hK _ _ ⟨rfl, fwd.trans' a_w64.frame⟩
  · refine newnil_step encR fun t69_194 w65 s_w65 f_w65 z_w65 => ?_
    have a_w65 := (At.nothing wd).add f_w65 (P := slc encR 3 t69_194 []) s_w65 (by simp)
    refine ⟨hS a_w65.frame, ?_⟩
    refine newone_step (enc := encR) (x := rl) encR_len rfl fun t78_195 w66 s_w66 f_w66 z_w66 => ?_
    have a_w66 := a_w65.add f_w66 (P := slc encR 3 t78_195 [rl]) s_w66 (by simp)
    refine a_w66.append (i := 1) rfl (src a_w66.frame) encR_len encR_one rfl (by omega) (by simp only [List.length_nil]; omega) fun t71_196 w67 a_w67 _ => ?_
    refine ⟨hS a_w67.frame, ?_⟩
    refine NEW_intro fun w68 b_w68 f_w68 z_w68 => ?_
    have a_w68 := a_w67.add f_w68 (P := pts (hsz w67) zSn) ⟨⟨_, b_w68⟩, rfl⟩ (by simp)
    refine ⟨hS a_w68.frame, ?_⟩
    obtain ⟨F_w69, h_w69, _⟩ := a_w68.slc1 (i := 1) rfl
    refine a_w68.append (i := 2) rfl (h_w69.loads encR_len) encR_len encR_one rfl (by omega) (by simp; omega) fun t79_198 w69 a_w69 _ => ?_
    obtain ⟨G_w70, g_w70, _⟩ := a_w69.slc1 (i := 2) rfl
    refine sn_Load2 (mk a_w69.frame g_w70) hlen hsm hnu fun w70 i_w70 d_w70 c_w70 f_w70 v_w70 => ?_
    rw [eE]
    have a_w70 := a_w69.fr0 f_w70
    refine BND_ext rfl <| BND_ext rfl ?_
    refine a_w70.put (i := 0) rfl rfl rfl (snC_one v_w70) (by simp [snC, stC]) fun w71 a_w71 _ => ?_
    exact hK _ _ ⟨rfl, fwd.trans' a_w71.frame⟩
  · refine newnil_step encR fun t69_202 w72 s_w72 f_w72 z_w72 => ?_
    have a_w72 := (At.nothing wd).add f_w72 (P := slc encR 3 t69_202 []) s_w72 (by simp)
    refine ⟨hS a_w72.frame, ?_⟩
    refine newone_step (enc := encR) (x := rl) encR_len rfl fun t78_203 w73 s_w73 f_w73 z_w73 => ?_
    have a_w73 := a_w72.add f_w73 (P := slc encR 3 t78_203 [rl]) s_w73 (by simp)
    refine NEW_intro fun w74 b_w74 f_w74 z_w74 => ?_
    have a_w74 := a_w73.add f_w74 (P := pts (hsz w73) zSn) ⟨⟨_, b_w74⟩, rfl⟩ (by simp)
    refine ⟨hS a_w74.frame, ?_⟩
    refine a_w74.append (i := 2) rfl (src a_w74.frame) encR_len encR_one rfl (by omega) (by simp only [List.length_nil]; omega) fun t71_205 w75 a_w75 _ => ?_
    refine ⟨hS a_w75.frame, ?_⟩
    obtain ⟨F_w76, h_w76, _⟩ := a_w75.slc1 (i := 1) rfl
    refine a_w75.append (i := 2) rfl (h_w76.loads encR_len) encR_len encR_one rfl (by omega) (by simp; omega) fun t79_206 w76 a_w76 _ => ?_
    obtain ⟨G_w77, g_w77, _⟩ := a_w76.slc1 (i := 2) rfl
    refine sn_Load2 (mk a_w76.frame g_w77) hlen hsm hnu fun w77 i_w77 d_w77 c_w77 f_w77 v_w77 => ?_
    rw [eE]
    have a_w77 := a_w76.fr0 f_w77
    refine BND_ext rfl <| BND_ext rfl ?_
    refine a_w77.put (i := 0) rfl rfl rfl (snC_one v_w77) (by simp [snC, stC]) fun w78 a_w78 _ => ?_
    exact hK _ _ ⟨rfl, fwd.trans' a_w78.frame⟩
  · refine newnil_step encR fun t69_210 w79 s_w79 f_w79 z_w79 => ?_
    have a_w79 := (At.nothing wd).add f_w79 (P := slc encR 3 t69_210 []) s_w79 (by simp)
    refine ⟨hS a_w79.frame, ?_⟩
    refine NEW_intro fun w80 b_w80 f_w80 z_w80 => ?_
    have a_w80 := a_w79.add f_w80 (P := pts (hsz w79) zSn) ⟨⟨_, b_w80⟩, rfl⟩ (by simp)
    refine ⟨hS a_w80.frame, ?_⟩
    refine a_w80.append (i := 1) rfl (src a_w80.frame) encR_len encR_one rfl (by omega) (by simp only [List.length_nil]; omega) fun t71_212 w81 a_w81 _ => ?_
    refine ⟨hS a_w81.frame, ?_⟩
    refine newone_step (enc := encR) (x := rl) encR_len rfl fun t78_213 w82 s_w82 f_w82 z_w82 => ?_
    have a_w82 := a_w81.add f_w82 (P := slc encR 3 t78_213 [rl]) s_w82 (by simp)
    obtain ⟨F_w83, h_w83, _⟩ := a_w82.slc1 (i := 0) rfl
    refine a_w82.append (i := 2) rfl (h_w83.loads encR_len) encR_len encR_one rfl (by omega) (by simp; omega) fun t79_214 w83 a_w83 _ => ?_
    obtain ⟨G_w84, g_w84, _⟩ := a_w83.slc1 (i := 2) rfl
    refine sn_Load2 (mk a_w83.frame g_w84) hlen hsm hnu fun w84 i_w84 d_w84 c_w84 f_w84 v_w84 => ?_
    rw [eE]
    have a_w84 := a_w83.fr0 f_w84
    refine BND_ext rfl <| BND_ext rfl ?_
    refine a_w84.put (i := 1) rfl rfl rfl (snC_one v_w84) (by simp [snC, stC]) fun w85 a_w85 _ => ?_
    exact hK _ _ ⟨rfl, fwd.trans' a_w85.frame⟩
  · refine newnil_step encR fun t69_218 w86 s_w86 f_w86 z_w86 => ?_
    have a_w86 := (At.nothing wd).add f_w86 (P := slc encR 3 t69_218 []) s_w86 (by simp)
    refine ⟨hS a_w86.frame, ?_⟩
    refine NEW_intro fun w87 b_w87 f_w87 z_w87 => ?_
    have a_w87 := a_w86.add f_w87 (P := pts (hsz w86) zSn) ⟨⟨_, b_w87⟩, rfl⟩ (by simp)
    refine ⟨hS a_w87.frame, ?_⟩
    refine newone_step (enc := encR) (x := rl) encR_len rfl fun t78_220 w88 s_w88 f_w88 z_w88 => ?_
    have a_w88 := a_w87.add f_w88 (P := slc encR 3 t78_220 [rl]) s_w88 (by simp)
    refine a_w88.append (i := 2) rfl (src a_w88.frame) encR_len encR_one rfl (by omega) (by simp only [List.length_nil]; omega) fun t71_221 w89 a_w89 _ => ?_
    refine ⟨hS a_w89.frame, ?_⟩
    obtain ⟨F_w90, h_w90, _⟩ := a_w89.slc1 (i := 0) rfl
    refine a_w89.append (i := 2) rfl (h_w90.loads encR_len) encR_len encR_one rfl (by omega) (by simp; omega) fun t79_222 w90 a_w90 _ => ?_
    obtain ⟨G_w91, g_w91, _⟩ := a_w90.slc1 (i := 2) rfl
    refine sn_Load2 (mk a_w90.frame g_w91) hlen hsm hnu fun w91 i_w91 d_w91 c_w91 f_w91 v_w91 => ?_
    rw [eE]
    have a_w91 := a_w90.fr0 f_w91
    refine BND_ext rfl <| BND_ext rfl ?_
    refine a_w91.put (i := 1) rfl rfl rfl (snC_one v_w91) (by simp [snC, stC]) fun w92 a_w92 _ => ?_
    exact hK _ _ ⟨rfl, fwd.trans' a_w92.frame⟩
  · refine newone_step (enc := encR) (x := rl) encR_len rfl fun t78_226 w93 s_w93 f_w93 z_w93 => ?_
    have a_w93 := (At.nothing wd).add f_w93 (P := slc encR 3 t78_226 [rl]) s_w93 (by simp)
    refine newnil_step encR fun t69_227 w94 s_w94 f_w94 z_w94 => ?_
    have a_w94 := a_w93.add f_w94 (P := slc encR 3 t69_227 []) s_w94 (by simp)
    refine ⟨hS a_w94.frame, ?_⟩
    refine a_w94.append (i := 0) rfl (src a_w94.frame) encR_len encR_one rfl (by omega) (by simp only [List.length_nil]; omega) fun t71_228 w95 a_w95 _ => ?_
    refine ⟨hS a_w95.frame, ?_⟩
    obtain ⟨F_w96, h_w96, _⟩ := a_w95.slc1 (i := 1) rfl
    refine a_w95.append (i := 0) rfl (h_w96.loads encR_len) encR_len encR_one rfl (by omega) (by simp; omega) fun t79_229 w96 a_w96 _ => ?_
    obtain ⟨G_w97, g_w97, _⟩ := a_w96.slc1 (i := 0) rfl
    refine sn_Load2 (mk a_w96.frame g_w97) hlen hsm hnu fun w97 i_w97 d_w97 c_w97 f_w97 v_w97 => ?_
    rw [eE]
    have a_w97 := a_w96.fr0 f_w97
    refine BND_ext rfl <| BND_ext rfl ?_
    refine NEW_intro fun w98 b_w98 f_w98 z_w98 => ?_
    have a_w98 := a_w97.add f_w98 (P := pts (hsz w97) zSn) ⟨⟨_, b_w98⟩, rfl⟩ (by simp)
    refine ⟨hS a_w98.frame, ?_⟩
    refine a_w98.put (i := 0) rfl rfl rfl (snC_one v_w97) (by simp [snC, stC]) fun w99 a_w99 _ => ?_
    exact hK _ _ ⟨rfl, fwd.trans' a_w99.frame⟩
  · refine newone_step (enc := encR) (x := rl) encR_len rfl fun t78_234 w100 s_w100 f_w100 z_w100 => ?_
    have a_w100 := (At.nothing wd).add f_w100 (P := slc encR 3 t78_234 [rl]) s_w100 (by simp)
    refine newnil_step encR fun t69_235 w101 s_w101 f_w101 z_w101 => ?_
    have a_w101 := a_w100.add f_w101 (P := slc encR 3 t69_235 []) s_w101 (by simp)
    refine ⟨hS a_w101.frame, ?_⟩
    refine a_w101.append (i := 0) rfl (src a_w101.frame) encR_len encR_one rfl (by omega) (by simp only [List.length_nil]; omega) fun t71_236 w102 a_w102 _ => ?_
    refine ⟨hS a_w102.frame, ?_⟩
    obtain ⟨F_w103, h_w103, _⟩ := a_w102.slc1 (i := 1) rfl
    refine a_w102.append (i := 0) rfl (h_w103.loads encR_len) encR_len encR_one rfl (by omega) (by simp; omega) fun t79_237 w103 a_w103 _ => ?_
    refine NEW_intro fun w104 b_w104 f_w104 z_w104 => ?_
    have a_w104 := a_w103.add f_w104 (P := pts (hsz w103) zSn) ⟨⟨_, b_w104⟩, rfl⟩ (by simp)
    refine ⟨hS a_w104.frame, ?_⟩
    obtain ⟨G_w105, g_w105, _⟩ := a_w104.slc1 (i := 1) rfl
    refine sn_Load2 (mk a_w104.frame g_w105) hlen hsm hnu fun w105 i_w105 d_w105 c_w105 f_w105 v_w105 => ?_
    rw [eE]
    have a_w105 := a_w104.fr0 f_w105
    refine BND_ext rfl <| BND_ext rfl ?_
    refine a_w105.put (i := 0) rfl rfl rfl (snC_one v_w105) (by simp [snC, stC]) fun w106 a_w106 _ => ?_
    exact hK _ _ ⟨rfl, fwd.trans' a_w106.frame⟩
  · refine newone_step (enc := encR) (x := rl) encR_len rfl fun t78_242 w107 s_w107 f_w107 z_w107 => ?_
    have a_w107 := (At.nothing wd).add f_w107 (P := slc encR 3 t78_242 [rl]) s_w107 (by simp)
    refine newnil_step encR fun t69_243 w108 s_w108 f_w108 z_w108 => ?_
    have a_w108 := a_w107.add f_w108 (P := slc encR 3 t69_243 []) s_w108 (by simp)
    refine ⟨hS a_w108.frame, ?_⟩
    refine a_w108.append (i := 0) rfl (src a_w108.frame) encR_len encR_one rfl (by omega) (by simp only [List.length_nil]; omega) fun t71_244 w109 a_w109 _ => ?_
    refine ⟨hS a_w109.frame, ?_⟩
    refine NEW_intro fun w110 b_w110 f_w110 z_w110 => ?_
    have a_w110 := a_w109.add f_w110 (P := pts (hsz w109) zSn) ⟨⟨_, b_w110⟩, rfl⟩ (by simp)
    refine ⟨hS a_w110.frame, ?_⟩
    obtain ⟨F_w111, h_w111, _⟩ := a_w110.slc1 (i := 2) rfl
    refine a_w110.append (i := 1) rfl (h_w111.loads encR_len) encR_len encR_one rfl (by omega) (by simp; omega) fun t79_246 w111 a_w111 _ => ?_
    obtain ⟨G_w112, g_w112, _⟩ := a_w111.slc1 (i := 1) rfl
    refine sn_Load2 (mk a_w111.frame g_w112) hlen hsm hnu fun w112 i_w112 d_w112 c_w112 f_w112 v_w112 => ?_
    rw [eE]
    have a_w112 := a_w111.fr0 f_w112
    refine BND_ext rfl <| BND_ext rfl ?_
    refine a_w112.put (i := 0) rfl rfl rfl (snC_one v_w112) (by simp [snC, stC]) fun w113 a_w113 _ => ?_
    exact hK _ _ ⟨rfl, fwd.trans' a_w113.frame⟩
  · refine newone_step (enc := encR) (x := rl) encR_len rfl fun t78_250 w114 s_w114 f_w114 z_w114 => ?_
    have a_w114 := (At.nothing wd).add f_w114 (P := slc encR 3 t78_250 [rl]) s_w114 (by simp)
    refine newnil_step encR fun t69_251 w115 s_w115 f_w115 z_w115 => ?_
    have a_w115 := a_w114.add f_w115 (P := slc encR 3 t69_251 []) s_w115 (by simp)
    refine ⟨hS a_w115.frame, ?_⟩
    refine NEW_intro fun w116 b_w116 f_w116 z_w116 => ?_
    have a_w116 := a_w115.add f_w116 (P := pts (hsz w115) zSn) ⟨⟨_, b_w116⟩, rfl⟩ (by simp)
    refine ⟨hS a_w116.frame, ?_⟩
    refine a_w116.append (i := 1) rfl (src a_w116.frame) encR_len encR_one rfl (by omega) (by simp only [List.length_nil]; omega) fun t71_253 w117 a_w117 _ => ?_
    refine ⟨hS a_w117.frame, ?_⟩
    obtain ⟨F_w118, h_w118, _⟩ := a_w117.slc1 (i := 2) rfl
    refine a_w117.append (i := 1) rfl (h_w118.loads encR_len) encR_len encR_one rfl (by omega) (by simp; omega) fun t79_254 w118 a_w118 _ => ?_
    obtain ⟨G_w119, g_w119, _⟩ := a_w118.slc1 (i := 1) rfl
    refine sn_Load2 (mk a_w118.frame g_w119) hlen hsm hnu fun w119 i_w119 d_w119 c_w119 f_w119 v_w119 => ?_
    rw [eE]
    have a_w119 := a_w118.fr0 f_w119
    refine BND_ext rfl <| BND_ext rfl ?_
    refine a_w119.put (i := 0) rfl rfl rfl (snC_one v_w119) (by simp [snC, stC]) fun w120 a_w120 _ => ?_
    exact hK _ _ ⟨rfl, fwd.trans' a_w120.frame⟩
  · refine newone_step (enc := encR) (x := rl) encR_len rfl fun t78_258 w121 s_w121 f_w121 z_w121 => ?_
    have a_w121 := (At.nothing wd).add f_w121 (P := slc encR 3 t78_258 [rl]) s_w121 (by simp)
    refine NEW_intro fun w122 b_w122 f_w122 z_w122 => ?_
    have a_w122 := a_w121.add f_w122 (P := pts (hsz w121) zSn) ⟨⟨_, b_w122⟩, rfl⟩ (by simp)
    refine ⟨hS a_w122.frame, ?_⟩
    refine newnil_step encR fun t69_260 w123 s_w123 f_w123 z_w123 => ?_
    have a_w123 := a_w122.add f_w123 (P := slc encR 3 t69_260 []) s_w123 (by simp)
    refine ⟨hS a_w123.frame, ?_⟩
    refine a_w123.append (i := 0) rfl (src a_w123.frame) encR_len encR_one rfl (by omega) (by simp only [List.length_nil]; omega) fun t71_261 w124 a_w124 _ => ?_
    refine ⟨hS a_w124.frame, ?_⟩
    obtain ⟨F_w125, h_w125, _⟩ := a_w124.slc1 (i := 2) rfl
    refine a_w124.append (i := 0) rfl (h_w125.loads encR_len) encR_len encR_one rfl (by omega) (by simp; omega) fun t79_262 w125 a_w125 _ => ?_
    obtain ⟨G_w126, g_w126, _⟩ := a_w125.slc1 (i := 0) rfl
    refine sn_Load2 (mk a_w125.frame g_w126) hlen hsm hnu fun w126 i_w126 d_w126 c_w126 f_w126 v_w126 => ?_
    rw [eE]
    have a_w126 := a_w125.fr0 f_w126
    refine BND_ext rfl <| BND_ext rfl ?_
    refine a_w126.put (i := 1) rfl rfl rfl (snC_one v_w126) (by simp [snC, stC]) fun w127 a_w127 _ => ?_
    exact hK _ _ ⟨rfl, fwd.trans' a_w127.frame⟩
  · refine NEW_intro fun w128 b_w128 f_w128 z_w128 => ?_
    have a_w128 := (At.nothing wd).add f_w128 (P := pts (hsz wd) zSn) ⟨⟨_, b_w128⟩, rfl⟩ (by simp)
    refine ⟨hS a_w128.frame, ?_⟩
    refine newnil_step encR fun t69_267 w129 s_w129 f_w129 z_w129 => ?_
    have a_w129 := a_w128.add f_w129 (P := slc encR 3 t69_267 []) s_w129 (by simp)
    refine ⟨hS a_w129.frame, ?_⟩
    refine a_w129.append (i := 0) rfl (src a_w129.frame) encR_len encR_one rfl (by omega) (by simp only [List.length_nil]; omega) fun t71_268 w130 a_w130 _ => ?_
    refine ⟨hS a_w130.frame, ?_⟩
    refine newone_step (enc := encR) (x := rl) encR_len rfl fun t78_269 w131 s_w131 f_w131 z_w131 => ?_
    have a_w131 := a_w130.add f_w131 (P := slc encR 3 t78_269 [rl]) s_w131 (by simp)
    obtain ⟨F_w132, h_w132, _⟩ := a_w131.slc1 (i := 0) rfl
    refine a_w131.append (i := 1) rfl (h_w132.loads encR_len) encR_len encR_one rfl (by omega) (by simp; omega) fun t79_270 w132 a_w132 _ => ?_
    obtain ⟨G_w133, g_w133, _⟩ := a_w132.slc1 (i := 1) rfl
    refine sn_Load2 (mk a_w132.frame g_w133) hlen hsm hnu fun w133 i_w133 d_w133 c_w133 f_w133 v_w133 => ?_
    rw [eE]
    have a_w133 := a_w132.fr0 f_w133
    refine BND_ext rfl <| BND_ext rfl ?_
    refine a_w133.put (i := 2) rfl rfl rfl (snC_one v_w133) (by simp [snC, stC]) fun w134 a_w134 _ => ?_
    exact hK _ _ ⟨rfl, fwd.trans' a_w134.frame⟩
  · refine NEW_intro fun w135 b_w135 f_w135 z_w135 => ?_
    have a_w135 := (At.nothing wd).add f_w135 (P := pts (hsz wd) zSn) ⟨⟨_, b_w135⟩, rfl⟩ (by simp)
    refine ⟨hS a_w135.frame, ?_⟩
    refine newnil_step encR fun t69_275 w136 s_w136 f_w136 z_w136 => ?_
    have a_w136 := a_w135.add f_w136 (P := slc encR 3 t69_275 []) s_w136 (by simp)
    refine ⟨hS a_w136.frame, ?_⟩
    refine newone_step (enc := encR) (x := rl) encR_len rfl fun t78_276 w137 s_w137 f_w137 z_w137 => ?_
    have a_w137 := a_w136.add f_w137 (P := slc encR 3 t78_276 [rl]) s_w137 (by simp)
    refine a_w137.append (i := 1) rfl (src a_w137.frame) encR_len encR_one rfl (by omega) (by simp only [List.length_nil]; omega) fun t71_277 w138 a_w138 _ => ?_
    refine ⟨hS a_w138.frame, ?_⟩
    obtain ⟨F_w139, h_w139, _⟩ := a_w138.slc1 (i := 0) rfl
    refine a_w138.append (i := 1) rfl (h_w139.loads encR_len) encR_len encR_one rfl (by omega) (by simp; omega) fun t79_278 w139 a_w139 _ => ?_
    obtain ⟨G_w140, g_w140, _⟩ := a_w139.slc1 (i := 1) rfl
    refine sn_Load2 (mk a_w139.frame g_w140) hlen hsm hnu fun w140 i_w140 d_w140 c_w140 f_w140 v_w140 => ?_
    rw [eE]
    have a_w140 := a_w139.fr0 f_w140
    refine BND_ext rfl <| BND_ext rfl ?_
    refine a_w140.put (i := 2) rfl rfl rfl (snC_one v_w140) (by simp [snC, stC]) fun w141 a_w141 _ => ?_
    exact hK _ _ ⟨rfl, fwd.trans' a_w141.frame⟩
  · refine NEW_intro fun w142 b_w142 f_w142 z_w142 => ?_
    have a_w142 := (At.nothing wd).add f_w142 (P := pts (hsz wd) zSn) ⟨⟨_, b_w142⟩, rfl⟩ (by simp)
    refine ⟨hS a_w142.frame, ?_⟩
    refine newone_step (enc := encR) (x := rl) encR_len rfl fun t78_283 w143 s_w143 f_w143 z_w143 => ?_
    have a_w143 := a_w142.add f_w143 (P := slc encR 3 t78_283 [rl]) s_w143 (by simp)
    refine newnil_step encR fun t69_284 w144 s_w144 f_w144 z_w144 => ?_
    have a_w144 := a_w143.add f_w144 (P := slc encR 3 t69_284 []) s_w144 (by simp)
    refine ⟨hS a_w144.frame, ?_⟩
    refine a_w144.append (i := 0) rfl (src a_w144.frame) encR_len encR_one rfl (by omega) (by simp only [List.length_nil]; omega) fun t71_285 w145 a_w145 _ => ?_
    refine ⟨hS a_w145.frame, ?_⟩
    obtain ⟨F_w146, h_w146, _⟩ := a_w145.slc1 (i := 1) rfl
    refine a_w145.append (i := 0) rfl (h_w146.loads encR_len) encR_len encR_one rfl (by omega) (by simp; omega) fun t79_286 w146 a_w146 _ => ?_
    obtain ⟨G_w147, g_w147, _⟩ := a_w146.slc1 (i := 0) rfl
    refine sn_Load2 (mk a_w146.frame g_w147) hlen hsm hnu fun w147 i_w147 d_w147 c_w147 f_w147 v_w147 => ?_
    rw [eE]
    have a_w147 := a_w146.fr0 f_w147
    refine BND_ext rfl <| BND_ext rfl ?_
    refine a_w147.put (i := 2) rfl rfl rfl (snC_one v_w147) (by simp [snC, stC]) fun w148 a_w148 _ => ?_
    exact hK _ _ ⟨rfl, fwd.trans' a_w148.frame⟩
    -- end of orders
theorem snap_back {a iv dv cv : Value} {s : SnapL} {ls : List LRec} {cut : Int} (hs : SnV w s iv dv cv) (hsu : SnapU s) (hl : RecsR w a ls) (hu : NsU ls) (hbig : s.items.length * 80 ≤ 140737488351232 ∧ s.dead.length * 16 ≤ 140737488351232 ∧ s.curs.length * 24 ≤ 140737488351232) (hR : ∀ w', Fr [] w w' → R (.bool true) w') :
    CALL PR F_tumbrellaw13_SnapBack [.agg (snC s iv dv cv).toArray, a, .int .i64 cut] w R := by
  refine C_tumbrellaw13_SnapBack ?_
  unfold M_tumbrellaw13_SnapBack
  refine NEW_intro fun w1 b1 f1 z1 => ?_
  obtain ⟨TS, b1⟩ : ∃ T, blk w1 (hsz w) = some (.cells (snC s iv dv cv).toArray T (0, 0)) := ⟨_, b1⟩
  refine lw_awake fun w2 f2 => ?_
  have f02 := f1.trans' f2
  have b2 := f2.some (by simp) b1
  (repeat (first | (apply BND_step; exact (loadn_all b2 rfl)) | refine stp ?_ | (apply BND_inc; omega) | (apply BND_dec; omega) | refine BND_step (rfl : some _ = some _) ?_ | (apply cyes; first | assumption | omega) | (apply cno; first | assumption | omega) | refine (COND_true _ _).2 ?_ | refine (COND_false _ _).2 ?_ | simp (disch := first | assumption | omega) only [gs1, gs2, decide_true, decide_false, eq_self, beq_self_eq_true, Bool.not_true, Bool.not_false]))
  refine lw_own (hs.fr0 f02) hbig.1 hbig.2.1 hbig.2.2 fun w3 i3 d3 c3 sv3 f3 => ?_
  have f03 := f02.trans' f3
  (repeat (first | (apply BND_part (stC s i3 d3 c3); exact rfl) | refine stp ?_ | (apply BND_inc; omega) | (apply BND_dec; omega) | refine BND_step (rfl : some _ = some _) ?_ | (apply cyes; first | assumption | omega) | (apply cno; first | assumption | omega) | refine (COND_true _ _).2 ?_ | refine (COND_false _ _).2 ?_ | simp (disch := first | assumption | omega) only [gs1, gs2, decide_true, decide_false, eq_self, beq_self_eq_true, Bool.not_true, Bool.not_false]))
  refine r13_Large sv3 fun w4 f4 => ?_
  have f04 := f03.trans' f4
  cases hL : LargeS s with
  | true =>
    (repeat (first | refine stp ?_ | (apply BND_inc; omega) | (apply BND_dec; omega) | refine BND_step (rfl : some _ = some _) ?_ | (apply cyes; first | assumption | omega) | (apply cno; first | assumption | omega) | refine (COND_true _ _).2 ?_ | refine (COND_false _ _).2 ?_ | simp (disch := first | assumption | omega) only [gs1, gs2, decide_true, decide_false, eq_self, beq_self_eq_true, Bool.not_true, Bool.not_false]))
    exact hR _ f04
  | false =>
  obtain ⟨li, ld, lc⟩ := largeS_small hL
  (repeat (first | refine stp ?_ | (apply BND_inc; omega) | (apply BND_dec; omega) | refine BND_step (rfl : some _ = some _) ?_ | (apply cyes; first | assumption | omega) | (apply cno; first | assumption | omega) | refine (COND_true _ _).2 ?_ | refine (COND_false _ _).2 ?_ | simp (disch := first | assumption | omega) only [gs1, gs2, decide_true, decide_false, eq_self, beq_self_eq_true, Bool.not_true, Bool.not_false]))
  refine lw_large (hl.fr0 f04) fun w5 f5 => ?_
  have f05 := f04.trans' f5
  cases hL2 : largeL ls with
  | true =>
    (repeat (first | refine stp ?_ | (apply BND_inc; omega) | (apply BND_dec; omega) | refine BND_step (rfl : some _ = some _) ?_ | (apply cyes; first | assumption | omega) | (apply cno; first | assumption | omega) | refine (COND_true _ _).2 ?_ | refine (COND_false _ _).2 ?_ | simp (disch := first | assumption | omega) only [gs1, gs2, decide_true, decide_false, eq_self, beq_self_eq_true, Bool.not_true, Bool.not_false]))
    exact hR _ f05
  | false =>
  obtain ⟨ll, lns⟩ := large_small hL2
  have b5 := (f3.trans' (f4.trans' f5)).some (by simp) b2
  (repeat (first | (apply BND_step; exact (loadn_all b5 rfl)) | refine stp ?_ | (apply BND_inc; omega) | (apply BND_dec; omega) | refine BND_step (rfl : some _ = some _) ?_ | (apply cyes; first | assumption | omega) | (apply cno; first | assumption | omega) | refine (COND_true _ _).2 ?_ | refine (COND_false _ _).2 ?_ | simp (disch := first | assumption | omega) only [gs1, gs2, decide_true, decide_false, eq_self, beq_self_eq_true, Bool.not_true, Bool.not_false]))
  refine sn_Save2 (hs.fr0 f05) (by omega) (by omega) (by omega) fun w6 p6 f6 h6 => ?_
  have f06 := f05.trans' f6
  have b6 := f6.some (by simp) b5
  (repeat (first | refine stp ?_ | (apply BND_inc; omega) | (apply BND_dec; omega) | refine BND_step (rfl : some _ = some _) ?_ | (apply cyes; first | assumption | omega) | (apply cno; first | assumption | omega) | refine (COND_true _ _).2 ?_ | refine (COND_false _ _).2 ?_ | simp (disch := first | assumption | omega) only [gs1, gs2, decide_true, decide_false, eq_self, beq_self_eq_true, Bool.not_true, Bool.not_false]))
  refine join_w (fun w' => Fr [] w w') (fun K hK => ?_) (fun w7 f7 => ?_)
  · cases hok : okS s with
    | false =>
      have e1 : svE s = 1 := by unfold svE; rw [hok]; rfl
      rw [e1]
      (repeat (first | refine stp ?_ | (apply BND_inc; omega) | (apply BND_dec; omega) | refine BND_step (rfl : some _ = some _) ?_ | (apply cyes; first | assumption | omega) | (apply cno; first | assumption | omega) | refine (COND_true _ _).2 ?_ | refine (COND_false _ _).2 ?_ | simp (disch := first | assumption | omega) only [gs1, gs2, decide_true, decide_false, eq_self, beq_self_eq_true, Bool.not_true, Bool.not_false]))
      exact hK _ f06
    | true =>
    have e1 : svE s = 0 := by unfold svE; rw [hok]; rfl
    have e2 : svL s = saveL s := by unfold svL; rw [hok]; rfl
    have hlen := saveL_len s
    rw [e2] at h6
    rw [e1]
    (repeat (first | refine stp ?_ | (apply BND_inc; omega) | (apply BND_dec; omega) | refine BND_step (rfl : some _ = some _) ?_ | (apply cyes; first | assumption | omega) | (apply cno; first | assumption | omega) | refine (COND_true _ _).2 ?_ | refine (COND_false _ _).2 ?_ | simp (disch := first | assumption | omega) only [gs1, gs2, decide_true, decide_false, eq_self, beq_self_eq_true, Bool.not_true, Bool.not_false]))
    have hsu' := nsU_save hsu (by omega)
    have hsm : ∀ l ∈ saveL s, l.ns.length < 1000000 := fun l hl => by
      unfold saveL headL at hl
      simp only [List.mem_append, List.mem_cons, List.mem_map, List.not_mem_nil, or_false] at hl
      rcases hl with (rfl | ⟨x, _, rfl⟩ | ⟨x, _, rfl⟩ | ⟨x, _, rfl⟩) | rfl <;> simp [recB, recI, recD, recC, recE]
    have hls := (refOk_conv (loads_save hok)).1
    refine sn_Load2 h6 (by omega) hsm hsu' fun w8 i8 d8 c8 f8 sv8 => ?_
    rw [(ld_yes hls).2, got_save hok] at sv8 ⊢
    rw [(ld_yes hls).1]
    (repeat (first | refine stp ?_ | (apply BND_inc; omega) | (apply BND_dec; omega) | refine BND_step (rfl : some _ = some _) ?_ | (apply cyes; first | assumption | omega) | (apply cno; first | assumption | omega) | refine (COND_true _ _).2 ?_ | refine (COND_false _ _).2 ?_ | simp (disch := first | assumption | omega) only [gs1, gs2, decide_true, decide_false, eq_self, beq_self_eq_true, Bool.not_true, Bool.not_false]))
    refine box_step rfl (vs := snC s i8 d8 c8) rfl (snC_one sv8) (by simp [snC, stC]) fun w10 b10 f10 z10 => ?_
    have f6a := f8.trans' f10
    have c10 : blk w10.drew (hsz w) = some (.cells (snC s iv dv cv).toArray TS (0, 0)) := f6a.some (by simp) b6
    have d10 : blk w10.drew (hsz w8) = some (.cells (snC s i8 d8 c8).toArray _ (0, 0)) := b10
    have f6d : Fr [] w6 w10.drew := f6a.trans' (Fr.drew _ _)
    have f8d : Fr [] w8 w10.drew := f10.trans' (Fr.drew _ _)
    generalize w10.drew = wd at c10 d10 f6d f8d
    refine ⟨fun _ w' => blk w' (hsz w) = some (.cells (snC s iv dv cv).toArray TS (0, 0)), c10, ?_⟩
    (repeat (first | refine FLT.mk _ (fun _ hw_ => (loadn_all hw_ rfl)) ?_ | (apply BND_step; exact (loadn_all d10 rfl)) | refine stp ?_ | (apply BND_inc; omega) | (apply BND_dec; omega) | refine BND_step (rfl : some _ = some _) ?_ | (apply cyes; first | assumption | omega) | (apply cno; first | assumption | omega) | refine (COND_true _ _).2 ?_ | refine (COND_false _ _).2 ?_ | simp (disch := first | assumption | omega) only [gs1, gs2, decide_true, decide_false, eq_self, beq_self_eq_true, Bool.not_true, Bool.not_false]))
    refine lw_own (sv8.fr0 f8d) hbig.1 hbig.2.1 hbig.2.2 fun w11 i11 d11 c11 sv11 f11 => ⟨f11.some (by simp) c10, ?_⟩
    (repeat (first | refine stp ?_ | (apply BND_inc; omega) | (apply BND_dec; omega) | refine BND_step (rfl : some _ = some _) ?_ | (apply cyes; first | assumption | omega) | (apply cno; first | assumption | omega) | refine (COND_true _ _).2 ?_ | refine (COND_false _ _).2 ?_ | simp (disch := first | assumption | omega) only [gs1, gs2, decide_true, decide_false, eq_self, beq_self_eq_true, Bool.not_true, Bool.not_false]))
    refine lw_own (hs.fr0 ((f06.trans' f6d).trans' f11)) hbig.1 hbig.2.1 hbig.2.2 fun w12 i12 d12 c12 sv12 f12 => ?_
    (repeat (first | refine stp ?_ | (apply BND_inc; omega) | (apply BND_dec; omega) | refine BND_step (rfl : some _ = some _) ?_ | (apply cyes; first | assumption | omega) | (apply cno; first | assumption | omega) | refine (COND_true _ _).2 ?_ | refine (COND_false _ _).2 ?_ | simp (disch := first | assumption | omega) only [gs1, gs2, decide_true, decide_false, eq_self, beq_self_eq_true, Bool.not_true, Bool.not_false]))
    refine r13_Same (sv11.fr0 f12) sv12 (by omega) (by omega) (by omega) fun w13 f13 => ?_
    (repeat (first | refine stp ?_ | (apply BND_inc; omega) | (apply BND_dec; omega) | refine BND_step (rfl : some _ = some _) ?_ | (apply cyes; first | assumption | omega) | (apply cno; first | assumption | omega) | refine (COND_true _ _).2 ?_ | refine (COND_false _ _).2 ?_ | simp (disch := first | assumption | omega) only [gs1, gs2, decide_true, decide_false, eq_self, beq_self_eq_true, Bool.not_true, Bool.not_false]))
    have f6e := ((f6d.trans' f11).trans' f12).trans' f13
    have h13 := h6.fr0 f6e
    have f013 := f06.trans' f6e
    -- a beginning
    have cutp : ∀ K2 : World → Prop, (∀ w', Fr [] w6 w' → K2 w') → ∀ c : Nat, c < (saveL s).length → cut = (c : Int) →
        BND (slicev 3 p6 none (some (.int .i64 cut))) fun t62_291 => CALL PR F_snap_Load [t62_291] w13 fun t63_292 w149 => BND (extractv t63_292 0) fun t64_293 => BND (extractv t63_292 1) fun t65_294 =>
        NEW (newv 29 w149 (Value.agg #[(Value.int .u64 0), (Value.int .u64 0), (Value.int .u64 0), (Value.int .u64 0), (Value.int .u64 0), (Value.slice none 0 0), (Value.slice none 0 0), (Value.slice none 0 0), (Value.int .u64 0), (Value.int .u64 0)])) fun y_295 w150 =>
        BND (storev 10 w150 y_295 t64_293) fun w151 => BND (binv .int .neq t65_294 (Value.int .i64 2)) fun t67_296 => COND t67_296 (R (Value.bool false) w151) (K2 w151) := by
      intro K2 hK2 c hc e
      subst e
      obtain ⟨v', ev, hv⟩ := h13.take (c := c) (by omega)
      refine BND_step ev <| sn_Load2 hv (by rw [List.length_take]; omega) (fun l hl => hsm l (List.take_subset _ _ hl)) (fun l hl => hsu' l (List.take_subset _ _ hl)) fun w14 i14 d14 c14 f14 sv14 => ?_
      rw [ld_no (cut_no hc)]
      refine BND_ext rfl <| BND_ext rfl ?_
      refine box_step rfl (vs := snC (ldS ((saveL s).take c)) i14 d14 c14) rfl (snC_one sv14) (by simp [snC, stC]) fun w15 b15 f15 z15 => ?_
      (repeat (first | refine stp ?_ | (apply BND_inc; omega) | (apply BND_dec; omega) | refine BND_step (rfl : some _ = some _) ?_ | (apply cyes; first | assumption | omega) | (apply cno; first | assumption | omega) | refine (COND_true _ _).2 ?_ | refine (COND_false _ _).2 ?_ | simp (disch := first | assumption | omega) only [gs1, gs2, decide_true, decide_false, eq_self, beq_self_eq_true, Bool.not_true, Bool.not_false]))
      exact hK2 _ ((f6e.trans' f14).trans' f15)
    -- one more
    have more : ∀ w21, Fr [] w6 w21 → ∃ S : Nat → World → Prop, S 8 w21.drew ∧
        BND (lenl p6) fun t74_130 => BND (binv .int .sub t74_130 (Value.int .i64 1)) fun t75_131 => BND (iaddr 3 p6 t75_131) fun t76_132 => FLT (S 8) (fun w_ => loadn 3 w_ t76_132) fun t77_133 =>
        MORE_ p6 t77_133 S (fun t14_135 w22 => BND (binv .int .neq t14_135 (Value.int .i64 2)) fun t84_144 => COND t84_144 (R (Value.bool false) w22) (K w22)) w21 := by
      intro w21 f21
      have fd := f21.trans' (Fr.drew [] w21)
      have hd := h6.fr0 fd
      obtain ⟨rl, B, o, gl, il, nl, hB, _⟩ := hd.spot (last_save s)
      refine ⟨fun _ w' => blk w' B = blk w21.drew B, rfl, ?_⟩
      (repeat (first | refine BND_step hd.len ?_ | refine BND_step il ?_ | refine FLT.mk _ (fun _ hw_ => ((loadn_congr hw_).trans nl)) ?_ | refine stp ?_ | (apply BND_inc; omega) | (apply BND_dec; omega) | refine BND_step (rfl : some _ = some _) ?_ | (apply cyes; first | assumption | omega) | (apply cno; first | assumption | omega) | refine (COND_true _ _).2 ?_ | refine (COND_false _ _).2 ?_ | simp (disch := first | assumption | omega) only [gs1, gs2, decide_true, decide_false, eq_self, beq_self_eq_true, Bool.not_true, Bool.not_false]))
      refine more_ok (ls := saveL s) (l := recE (headL s).length) (by obtain ⟨rs, q1, q2, q3, _⟩ := hd; exact ⟨rs, q1, q2, q3⟩) gl (by omega) hsm (by simp [recE]) hsu' (fun n hn => ?_) (fun w' f => f.keep _ hB (by simp)) (more_no s) fun w' f => ?_
      · exact hsu' (recE (headL s).length) (by simp [saveL]) n hn
      · (repeat (first | refine stp ?_ | (apply BND_inc; omega) | (apply BND_dec; omega) | refine BND_step (rfl : some _ = some _) ?_ | (apply cyes; first | assumption | omega) | (apply cno; first | assumption | omega) | refine (COND_true _ _).2 ?_ | refine (COND_false _ _).2 ?_ | simp (disch := first | assumption | omega) only [gs1, gs2, decide_true, decide_false, eq_self, beq_self_eq_true, Bool.not_true, Bool.not_false]))
        exact hK _ ((f06.trans' f21).trans' f)
    have hcut : (0 ≤ cut ∧ cut < ((saveL s).length : Int)) → ∃ c : Nat, c < (saveL s).length ∧ cut = (c : Int) := fun h => ⟨cut.toNat, by omega, by omega⟩
    by_cases hc0 : 0 ≤ cut
    · by_cases hc1 : cut < ((saveL s).length : Int)
      · (repeat (first | refine BND_step h13.len ?_ | refine stp ?_ | (apply BND_inc; omega) | (apply BND_dec; omega) | refine BND_step (rfl : some _ = some _) ?_ | (apply cyes; first | assumption | omega) | (apply cno; first | assumption | omega) | refine (COND_true _ _).2 ?_ | refine (COND_false _ _).2 ?_ | simp (disch := first | assumption | omega) only [gs1, gs2, decide_true, decide_false, eq_self, beq_self_eq_true, Bool.not_true, Bool.not_false]))
        refine join_w (fun w' => Fr [] w6 w') (fun K2 hK2 => ?_) (fun w21 f21 => more w21 f21)
        (repeat (first | refine stp ?_ | (apply BND_inc; omega) | (apply BND_dec; omega) | refine BND_step (rfl : some _ = some _) ?_ | (apply cyes; first | assumption | omega) | (apply cno; first | assumption | omega) | refine (COND_true _ _).2 ?_ | refine (COND_false _ _).2 ?_ | simp (disch := first | assumption | omega) only [gs1, gs2, decide_true, decide_false, eq_self, beq_self_eq_true, Bool.not_true, Bool.not_false]))
        obtain ⟨c, q1, q2⟩ := hcut ⟨hc0, hc1⟩
        exact cutp K2 hK2 c q1 q2
      · (repeat (first | refine BND_step h13.len ?_ | refine stp ?_ | (apply BND_inc; omega) | (apply BND_dec; omega) | refine BND_step (rfl : some _ = some _) ?_ | (apply cyes; first | assumption | omega) | (apply cno; first | assumption | omega) | refine (COND_true _ _).2 ?_ | refine (COND_false _ _).2 ?_ | simp (disch := first | assumption | omega) only [gs1, gs2, decide_true, decide_false, eq_self, beq_self_eq_true, Bool.not_true, Bool.not_false]))
        refine join_w (fun w' => Fr [] w6 w') (fun K2 hK2 => ?_) (fun w21 f21 => more w21 f21)
        (repeat (first | refine stp ?_ | (apply BND_inc; omega) | (apply BND_dec; omega) | refine BND_step (rfl : some _ = some _) ?_ | (apply cyes; first | assumption | omega) | (apply cno; first | assumption | omega) | refine (COND_true _ _).2 ?_ | refine (COND_false _ _).2 ?_ | simp (disch := first | assumption | omega) only [gs1, gs2, decide_true, decide_false, eq_self, beq_self_eq_true, Bool.not_true, Bool.not_false]))
        exact hK2 _ f6e
    · (repeat (first | refine stp ?_ | (apply BND_inc; omega) | (apply BND_dec; omega) | refine BND_step (rfl : some _ = some _) ?_ | (apply cyes; first | assumption | omega) | (apply cno; first | assumption | omega) | refine (COND_true _ _).2 ?_ | refine (COND_false _ _).2 ?_ | simp (disch := first | assumption | omega) only [gs1, gs2, decide_true, decide_false, eq_self, beq_self_eq_true, Bool.not_true, Bool.not_false]))
      refine join_w (fun w' => Fr [] w6 w') (fun K2 hK2 => ?_) (fun w21 f21 => more w21 f21)
      (repeat (first | refine stp ?_ | (apply BND_inc; omega) | (apply BND_dec; omega) | refine BND_step (rfl : some _ = some _) ?_ | (apply cyes; first | assumption | omega) | (apply cno; first | assumption | omega) | refine (COND_true _ _).2 ?_ | refine (COND_false _ _).2 ?_ | simp (disch := first | assumption | omega) only [gs1, gs2, decide_true, decide_false, eq_self, beq_self_eq_true, Bool.not_true, Bool.not_false]))
      exact hK2 _ f6e
  · refine sn_Load2 (hl.fr0 f7) (by omega) (fun l hl => by have := (lns l hl).1; omega) hu fun w8 i8 d8 c8 f8 sv8 => ?_
    (repeat (first | refine stp ?_ | (apply BND_inc; omega) | (apply BND_dec; omega) | refine BND_step (rfl : some _ = some _) ?_ | (apply cyes; first | assumption | omega) | (apply cno; first | assumption | omega) | refine (COND_true _ _).2 ?_ | refine (COND_false _ _).2 ?_ | simp (disch := first | assumption | omega) only [gs1, gs2, decide_true, decide_false, eq_self, beq_self_eq_true, Bool.not_true, Bool.not_false]))
    refine box_step rfl (vs := snC (ldS ls) i8 d8 c8) rfl (snC_one sv8) (by simp [snC, stC]) fun w10 b10 f10 z10 => ?_
    have f010 := (f7.trans' f8).trans' f10
    obtain ⟨TX, b10⟩ : ∃ T, blk w10 (hsz w8) = some (.cells (snC (ldS ls) i8 d8 c8).toArray T (0, 0)) := ⟨_, b10⟩
    have sv10 := sv8.fr0 f10
    by_cases hr : refOk ls
    · rw [(ld_yes hr).1]
      have hll := refOk_of hu hr
      have hlens := ldS_len ls
      (repeat (first | (apply BND_step; exact (loadn_all b10 rfl)) | refine stp ?_ | (apply BND_inc; omega) | (apply BND_dec; omega) | refine BND_step (rfl : some _ = some _) ?_ | (apply cyes; first | assumption | omega) | (apply cno; first | assumption | omega) | refine (COND_true _ _).2 ?_ | refine (COND_false _ _).2 ?_ | simp (disch := first | assumption | omega) only [gs1, gs2, decide_true, decide_false, eq_self, beq_self_eq_true, Bool.not_true, Bool.not_false]))
      refine sn_Save2 sv10 (by omega) (by omega) (by omega) fun w11 v11 f11 h11 => ?_
      have e1 : svE (ldS ls) = 0 := by unfold svE; rw [(ld_yes hr).2, hll.2.2.2.1]; rfl
      have e2 : svL (ldS ls) = ls := by unfold svL; rw [(ld_yes hr).2, hll.2.2.2.1]; exact hll.2.2.2.2
      rw [e1]
      rw [e2] at h11
      (repeat (first | refine stp ?_ | (apply BND_inc; omega) | (apply BND_dec; omega) | refine BND_step (rfl : some _ = some _) ?_ | (apply cyes; first | assumption | omega) | (apply cno; first | assumption | omega) | refine (COND_true _ _).2 ?_ | refine (COND_false _ _).2 ?_ | simp (disch := first | assumption | omega) only [gs1, gs2, decide_true, decide_false, eq_self, beq_self_eq_true, Bool.not_true, Bool.not_false]))
      refine lw_owns h11 (by omega) fun v12 w12 h12 f12 => ?_
      (repeat (first | refine stp ?_ | (apply BND_inc; omega) | (apply BND_dec; omega) | refine BND_step (rfl : some _ = some _) ?_ | (apply cyes; first | assumption | omega) | (apply cno; first | assumption | omega) | refine (COND_true _ _).2 ?_ | refine (COND_false _ _).2 ?_ | simp (disch := first | assumption | omega) only [gs1, gs2, decide_true, decide_false, eq_self, beq_self_eq_true, Bool.not_true, Bool.not_false]))
      have f012 := (f010.trans' f11).trans' f12
      refine lw_owns (hl.fr0 f012) (by omega) fun v13 w13 h13 f13 => ?_
      (repeat (first | refine stp ?_ | (apply BND_inc; omega) | (apply BND_dec; omega) | refine BND_step (rfl : some _ = some _) ?_ | (apply cyes; first | assumption | omega) | (apply cno; first | assumption | omega) | refine (COND_true _ _).2 ?_ | refine (COND_false _ _).2 ?_ | simp (disch := first | assumption | omega) only [gs1, gs2, decide_true, decide_false, eq_self, beq_self_eq_true, Bool.not_true, Bool.not_false]))
      refine r5_Same (h12.fr0 f13) h13 (by omega) (fun l hl => by have := (lns l hl).1; omega) fun w14 f14 => ?_
      (repeat (first | refine stp ?_ | (apply BND_inc; omega) | (apply BND_dec; omega) | refine BND_step (rfl : some _ = some _) ?_ | (apply cyes; first | assumption | omega) | (apply cno; first | assumption | omega) | refine (COND_true _ _).2 ?_ | refine (COND_false _ _).2 ?_ | simp (disch := first | assumption | omega) only [gs1, gs2, decide_true, decide_false, eq_self, beq_self_eq_true, Bool.not_true, Bool.not_false]))
      exact hR _ ((f012.trans' f13).trans' f14)
    · rw [ld_no hr]
      have e1 : ldS ls = emptyS := by unfold ldS; rw [if_neg hr]
      rw [e1] at b10 sv10
      have q1 : (emptyS.items.length : Int) = 0 := rfl
      have q2 : emptyS.seg = 0 := rfl
      (repeat (first | (apply BND_ld b10; exact rfl) | refine BND_step sv10.i.len ?_ | refine stp ?_ | (apply BND_inc; omega) | (apply BND_dec; omega) | refine BND_step (rfl : some _ = some _) ?_ | (apply cyes; first | assumption | omega) | (apply cno; first | assumption | omega) | refine (COND_true _ _).2 ?_ | refine (COND_false _ _).2 ?_ | simp (disch := first | assumption | omega) only [gs1, gs2, decide_true, decide_false, eq_self, beq_self_eq_true, Bool.not_true, Bool.not_false]))
      exact hR _ f010
end
end Go.Proofs.Ytkifjfjhghogjaa
