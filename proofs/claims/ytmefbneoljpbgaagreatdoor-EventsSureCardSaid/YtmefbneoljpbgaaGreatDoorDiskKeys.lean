
/- A directory's names, sorted (slices.Sorted of maps.Keys); maps.Clone: by the kit's contracts. No condition but sizes. -/
import Derived.Test.YtmefbneoljpbgaaGreatDoorDiskHP
import Derived.Test.YtmefbneoljpbgaaGreatDoorShelf
import Derived.Lib.SmallJoins
namespace Go.Proofs.YtmefbneoljpbgaaGreatDoor
open Go.Den Go.Disk Go.RowKit Go.Maps Go.Sort Go.Shelf
abbrev noVal : Value → Option (DataW Unit × List MemPlace) := fun _ => some (.lit (.bool false), [])
def keyBytesOf : Value → List UInt8
  | .string s => s.data.toList
  | _ => []
theorem fr_of_below {w w' : World} (h : Below w.heap.size w w') : Fr [] w w' := ⟨h.size, fun b hb _ => h.block b hb, h.os, h.tape, h.output⟩
set_option maxRecDepth 100000 in
theorem map_data {es : Array MapEntry} {ck : Nat} {L : List (ByteArray × Value)} (h : MapB (fun s : ByteArray => Value.string s) es ck L) (hs : L.length < 1000000) (hsmall : ∀ p ∈ L, p.1.size < 1000000)
    {w : World} {mb : Nat} (hb : blk w mb = some (.map es ck)) :
    ∃ D : DataW Unit, w.ownsMap Tryz.prog 9 noVal mb L.length D ∧ (strKeys D).Perm (L.map fun p => p.1.data.toList) ∧ Maps.size D = L.length := by
  have hsz : es.size = L.length := by rw [h.l.size]
  have hents := h.l.ents
  have hkeys : es.toList.map (·.key) = L.map fun p => Value.string p.1 := by
    have := congrArg (List.map Prod.fst) hents
    simpa [List.map_map, Function.comp_def] using this
  have hread : ∀ x ∈ es.toList, ∃ s : ByteArray, x.key = .string s ∧ s.size < 1000000 := by
    intro x hx
    have : x.key ∈ es.toList.map (·.key) := List.mem_map.2 ⟨x, hx, rfl⟩
    rw [hkeys] at this
    obtain ⟨p, hp, e⟩ := List.mem_map.1 this
    exact ⟨p.1, e.symm, hsmall p hp⟩
  have hrd : ∀ x ∈ es.toList, ∀ s : ByteArray, x.key = .string s → s.size < 1000000 → WideElems.rd Tryz.prog 9 noVal x = some (.string s.data.toList, .lit (.bool false)) := by
    intro x hx s hk hss
    have hkey : keyOf Tryz.prog 9 x.key = some (.string s.data.toList) := by
      have hml : s.size ≤ maxLen := by unfold maxLen; omega
      simp [keyOf, Tryz.underlying9, mapKey, hk, hml]
    simp [WideElems.rd, hkey, noVal]
  refine ⟨.map ((es.toList.map (WideElems.rg Tryz.prog 9 noVal)).foldr DataW.insert []), ⟨es, ck, hb, ⟨by rw [hsz]; unfold maxLen; omega, ⟨h.lt, h.nd, ?_⟩, ?_⟩, by rw [hsz]; exact Nat.le_refl _, rfl⟩, ?_, ?_⟩
  · rw [hkeys]
    have := h.l.once
    rw [List.nodup_iff_pairwise_ne, List.pairwise_map] at this ⊢
    exact this.imp fun h e => h (by injection e)
  · intro x hx
    obtain ⟨s, hk, hss⟩ := hread x hx
    exact ⟨_, hrd x hx s hk hss⟩
  · have hf : ∀ x ∈ es.toList, strOf (WideElems.rg Tryz.prog 9 noVal x).1 = keyBytesOf x.key := by
      intro x hx
      obtain ⟨s, hk, hss⟩ := hread x hx
      rw [WideElems.rg_of (hrd x hx s hk hss), hk]
      rfl
    have h1 : (strKeys (.map ((es.toList.map (WideElems.rg Tryz.prog 9 noVal)).foldr DataW.insert []))).Perm ((es.toList.map (WideElems.rg Tryz.prog 9 noVal)).map fun p => strOf p.1) := (WideShapes.sorted_perm _).map _
    refine h1.trans ?_
    rw [List.map_map, show es.toList.map ((fun p : Lit × DataW Unit => strOf p.1) ∘ WideElems.rg Tryz.prog 9 noVal) = es.toList.map (fun x => keyBytesOf x.key) from List.map_congr_left (fun x hx => hf x hx)]
    have h2 : es.toList.map (fun x => keyBytesOf x.key) = (es.toList.map (·.key)).map keyBytesOf := by rw [List.map_map]; rfl
    rw [h2, hkeys, List.map_map]
    exact .refl _
  · rw [Maps.size_eq, (WideShapes.sorted_perm _).length_eq, List.length_map, Array.length_toList, hsz]
def txt (l : List UInt8) : ByteArray := ⟨l.toArray⟩
theorem txt_of (s : ByteArray) : txt s.data.toList = s := by simp [txt]
theorem slc_of_owns {w : World} {base e : Nat} {v : Value} {ss : List (List UInt8)} (h : w.ownsRow base e 1 v ss.length (ss.map encStr)) : ∃ G, Slc encN 1 w v (ss.map txt) G ∧ ∀ b ∈ G, base ≤ b := by
  obtain ⟨_, h⟩ := h
  rcases h with ⟨rfl, h0⟩ | ⟨g, cap, cur, rfl, hb, hg, hn, hm, hs, ht⟩
  · have : ss = [] := List.eq_nil_of_length_eq_zero h0
    subst this
    exact ⟨[], Slc.nil _ _ _, by simp⟩
  · refine ⟨[g], .inr ⟨g, cap, cur, e, by simp, hg, by simpa using hn, hs, rfl, fun i x hx j hj => ?_⟩, by simpa using hb⟩
    obtain rfl : j = 0 := by omega
    rw [Nat.mul_one, Nat.add_zero]
    have hi : i < ss.length := by have := (List.getElem?_eq_some_iff.1 hx).1; simpa using this
    have h1 := congrArg (fun l : List Value => l[i]?) ht
    simp only [List.getElem?_take, Nat.mul_one, hi, if_true, Array.getElem?_toList] at h1
    rw [h1]
    simp only [List.getElem?_map] at hx ⊢
    cases hss : ss[i]? with
    | none => simp [hss] at hx
    | some l => simp [hss] at hx; subst hx; rfl
/-- names that rise, the same ones, are the same list. -/
theorem names_ext : ∀ {l m : List ByteArray}, l.Pairwise (fun a b => bl a b = true) → m.Pairwise (fun a b => bl a b = true) → (∀ x, x ∈ l ↔ x ∈ m) → l = m
  | [], [], _, _, _ => rfl
  | [], y :: m, _, _, h => by have := (h y).2 (by simp); simp at this
  | x :: l, [], _, _, h => by have := (h x).1 (by simp); simp at this
  | x :: l, y :: m, hl, hm, h => by
    obtain ⟨p1, p2⟩ := List.pairwise_cons.1 hl
    obtain ⟨q1, q2⟩ := List.pairwise_cons.1 hm
    have hxy : x = y := by
      rcases List.mem_cons.1 ((h x).1 (by simp)) with h1 | h1
      · exact h1
      · rcases List.mem_cons.1 ((h y).2 (by simp)) with h2 | h2
        · exact h2.symm
        · have a1 := p1 y h2; have a2 := q1 x h1
          rw [bl_asym a1] at a2; cases a2
    subst hxy
    congr 1
    refine names_ext p2 q2 fun z => ⟨fun hz => ?_, fun hz => ?_⟩
    · rcases List.mem_cons.1 ((h z).1 (by simp [hz])) with h1 | h1
      · subst h1; have := p1 z hz; rw [bl_irr] at this; cases this
      · exact h1
    · rcases List.mem_cons.1 ((h z).2 (by simp [hz])) with h1 | h1
      · subst h1; have := q1 z hz; rw [bl_irr] at this; cases this
      · exact h1
theorem rise_names {l : Dir} (h : riseD l) : (l.map (·.1)).Pairwise fun a b => bl a b = true := List.pairwise_map.2 h
theorem sorted_rise {ss : List (List UInt8)} (hn : ss.Nodup) : ((ss.mergeSort (fun x y => decide (x ≤ y))).map txt).Pairwise fun a b => bl a b = true := by
  have h1 : (ss.mergeSort (fun x y => decide (x ≤ y))).Pairwise (fun x y => decide (x ≤ y) = true) :=
    List.pairwise_mergeSort (fun a b c h1 h2 => by
      rw [decide_eq_true_eq] at *
      exact List.le_trans h1 h2) (fun a b => by
      rw [Bool.or_eq_true, decide_eq_true_eq, decide_eq_true_eq]
      exact List.le_total a b) ss
  have h2 : (ss.mergeSort (fun x y => decide (x ≤ y))).Nodup := (List.mergeSort_perm _ _).nodup_iff.2 hn
  rw [List.pairwise_map]
  refine (h1.and (List.nodup_iff_pairwise_ne.1 h2)).imp fun {a b} ⟨h3, h4⟩ => ?_
  rw [decide_eq_true_eq] at h3
  have ea : (txt a).toList = a := by rw [ByteArray.toList_eq]; simp [txt]
  have eb : (txt b).toList = b := by rw [ByteArray.toList_eq]; simp [txt]
  unfold bl
  rw [ea, eb]
  have h5 : Op.bytesLess b a = false := by
    rw [bytesLess_eq, decide_eq_false_iff_not]
    exact List.not_lt.2 h3
  exact bytesLess_tri b a (fun e => h4 e.symm) h5
section
variable {w : World} {R : Value → World → Prop}
theorem dk_keys {m : Nat} {fb : List Nat} {es : Array MapEntry} {ck : Nat} {L : List (ByteArray × Value)} {l : Dir} (b1 : blk w m = some (.map es ck)) (b2 : MapB (fun s : ByteArray => Value.string s) es ck L) (b3 : L.Perm (dirL fb l)) (hr : riseD l)
    (hn : l.length ≤ 60) (hsm : ∀ x ∈ l, named x.1 = true) (hR : ∀ w' v G, Slc encN 1 w' v (l.map (·.1)) G → (∀ b ∈ G, hsz w ≤ b) → Fr [] w w' → R v w') :
    CALL PR F_maps_Keys_file [.map (some m)] w fun t w1 => CALL PR F_slices_Sorted_string [t] w1 R := by
  refine ⟨(callsIn_wide.1 (AnyZ.keys_in Tryz.keysA Fence.wide 5 trivial rfl (some m) w)).mono ?_⟩
  rintro e w1 ⟨rfl, hw1⟩
  replace hw1 : w1 = w.alloc (.cells #[.map (some m)] 73) := hw1
  refine ⟨_, rfl, ?_⟩
  have hLl : L.length = l.length := by rw [b3.length_eq]; simp [dirL]
  obtain ⟨D, hown, hperm, hsiz⟩ := map_data b2 (by omega) (fun p hp => by
    obtain ⟨x, hx, rfl⟩ := List.mem_map.1 (b3.mem_iff.1 hp)
    have := hsm x hx
    unfold named at this
    simp only [Bool.and_eq_true, decide_eq_true_eq] at this
    show x.1.size < 1000000
    omega) b1
  have hbl := hown.lt
  have f1 : Fr [] w w1 := by rw [hw1]; exact Fr.alloc _ _ _
  have z1 : hsz w1 = hsz w + 1 := by rw [hw1]; simp
  have hseq : SeqGives Fence.wide 2 Tryz.prog F_maps_Keys_file_1 #[.pointer (some ⟨w.heap.size, 0, none⟩)] encStr (fun ss => ss.Perm (strKeys D)) (Maps.size D) (w.alloc (.cells #[.map (some m)] 73)) :=
    AnyZ.keys_gives (ρ := Tryz.keysA_ren) { Tryz.keysA with } Fence.wide _ trivial rfl (by omega) w.heap.size m L.length D _ (by simp [-heap_size]) (by simp [-heap_size]) (by
      obtain ⟨es, clock, hb, Ft, hs, hD⟩ := hown
      exact ⟨es, clock, (Below.heap_alloc _ _ m hbl).trans hb, Ft, hs, hD⟩)
  rw [hw1]
  refine ⟨(callsIn_wide.1 (AnyZ.sorted_in Tryz.sortedA Fence.wide 5 trivial trivial trivial trivial rfl (by omega) (⟨fun blk off cap ss W hH hblk hsz => callsIn_wide.2 (AnyM.slices_Sort_string Tryz.sortA blk off cap ss W hH hblk hsz), fun p cap W => callsIn_wide.2 (AnyM.slices_Sort_string_none Tryz.sortA p cap W)⟩ : AnyZ.SortsIn Tryz.prog Tryz.sortedA_ren Fence.wide _)
    (enters_of Tryz.func90 (by kernel_rfl) rfl) F_maps_Keys_file_1 #[.pointer (some ⟨w.heap.size, 0, none⟩)] trivial (enters_of Tryz.func91 (by kernel_rfl) rfl) _ _ (by rw [hsiz]; unfold maxLen; omega) (by rw [hsiz]; omega) _ hseq)).mono ?_⟩
  rintro e w2 ⟨v, ss, rfl, hss, hrow, _, hbel⟩
  refine ⟨_, rfl, ?_⟩
  have hlen : ss.length = (ss.mergeSort (fun x y => decide (x ≤ y))).length := by rw [List.length_mergeSort]
  rw [hlen] at hrow
  obtain ⟨G, hslc, hG⟩ := slc_of_owns hrow
  have f2 : Fr [] (w.alloc (.cells #[.map (some m)] 73)) w2 := fr_of_below hbel
  rw [← hw1] at f2 hG
  have hks : (ss.map txt).Perm (l.map (·.1)) := by
    refine ((hss.trans hperm).map txt).trans ?_
    rw [List.map_map]
    have e : L.map (txt ∘ fun p => p.1.data.toList) = L.map (·.1) := List.map_congr_left fun p _ => txt_of p.1
    rw [e]
    have := b3.map (·.1)
    refine this.trans ?_
    unfold dirL
    rw [List.map_map]
    exact .refl _
  have hnd : ss.Nodup := by
    have h1 : (l.map (·.1)).Nodup := by
      rw [List.nodup_iff_pairwise_ne]
      exact (rise_names hr).imp fun {a b} h e => by subst e; rw [bl_irr] at h; cases h
    have h2 := hks.nodup_iff.2 h1
    rw [List.nodup_iff_pairwise_ne, List.pairwise_map] at h2
    rw [List.nodup_iff_pairwise_ne]
    exact h2.imp fun h e => h (by rw [e])
  have heq : (ss.mergeSort (fun x y => decide (x ≤ y))).map txt = l.map (·.1) := names_ext (sorted_rise hnd) (rise_names hr) fun x => by
    rw [((List.mergeSort_perm ss _).map txt).mem_iff, hks.mem_iff]
  rw [heq] at hslc
  exact hR w2 v G hslc (fun b hb => by have := hG b hb; rw [heap_size] at this; omega) (f1.trans' f2)
/-- maps.Clone. -/
theorem dk_clone {m : Nat} {es : Array MapEntry} {ck : Nat} (b1 : blk w m = some (.map es ck)) (hR : ∀ w', blk w' (hsz w) = some (.map es ck) → Fr [] w w' → hsz w' = hsz w + 1 → R (.map (some (hsz w))) w') : CALL PR F_maps_Clone_file [.map (some m)] w R := by
  refine ⟨(AnyW.maps_Clone Tryz.cloneA m es ck w b1).mono ?_⟩
  rintro e w1 ⟨rfl, rfl⟩
  exact ⟨_, rfl, hR _ (blk_alloc_new _ _) (Fr.alloc _ _ _) (by simp)⟩
end
end Go.Proofs.YtmefbneoljpbgaaGreatDoor
