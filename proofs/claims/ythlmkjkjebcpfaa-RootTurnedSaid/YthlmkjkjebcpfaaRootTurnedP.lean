/- A root of which bits are turned, in plain words. No condition. -/
import Derived.Test.YthlmkjkjebcpfaaRootP
import Derived.Test.YthlmkjkjebcpfaaCrcTurn
set_option linter.unusedSimpArgs false
set_option linter.unusedVariables false
namespace Go.Root
open Go.Den Go.Disk Go.Rec Go.Crc Go.Frame Go.Proofs.Ythlmkjkjebcpfaa
theorem fr_turned {x : Fra} {c : List UInt8} {a : Int} (hx : x.2.length ≤ 400) (hb : Burst (frB x) c a) : (c = frB x ∨ frRead c = ((0, []), 0, 8)) ∧ ∀ k, 0 < k → k < c.length → (frRead (c.take k)).2.2 ≠ 0 := by
  have hlen := hb.1
  rw [frB_len] at hlen
  obtain ⟨h3, hh3⟩ : ∃ h, h = [x.1, UInt8.ofNat (x.2.length % 256), UInt8.ofNat (x.2.length / 256 % 256)] := ⟨_, rfl⟩
  have hB : frB x = putS h3 ++ putS x.2 := by rw [hh3]; rfl
  have hp : (putS h3).length = 7 := by rw [putS_len, hh3]; rfl
  have es : sizeOf_ h3 = x.2.length := by
    rw [hh3]
    unfold sizeOf_
    simp only [List.getD_cons_succ, List.getD_cons_zero]
    rw [UInt8.toNat_ofNat', UInt8.toNat_ofNat']
    omega
  have t1 : (frB x).take 7 = putS h3 := by rw [hB, List.take_append_of_le_length (by omega), List.take_of_length_le (by omega)]
  have t2 : (frB x).drop 7 = putS x.2 := by rw [hB, List.drop_append_of_le_length (by omega), List.drop_of_length_le (by omega), List.nil_append]
  have hb1 := hb.take 7
  have hb2 := hb.drop 7
  rw [t1] at hb1
  rw [t2] at hb2
  have v1 : (cutS (putS h3)).isSome = true := by rw [cut_put]; rfl
  have v2 : (cutS (putS x.2)).isSome = true := by rw [cut_put]; rfl
  cases h1 : cutS (c.take 7) with
  | none =>
    refine ⟨.inr ?_, fun k hk0 hk => ?_⟩
    · unfold frRead; rw [if_neg (by omega), h1]
    · unfold frRead
      by_cases h7 : (c.take k).length < 7
      · rw [if_pos h7]; simp
      · rw [if_neg h7, List.take_take, show min 7 k = 7 by rw [List.length_take] at h7; omega, h1]; simp
  | some g =>
    have e1 : putS h3 = c.take 7 := no_burst v1 (by rw [h1]; rfl) hb1
    have e2 : cutS (c.take 7) = some h3 := by rw [← e1, cut_put]
    refine ⟨?_, fun k hk0 hk => ?_⟩
    · cases h2 : cutS (c.drop 7) with
      | none =>
        right
        unfold frRead
        rw [if_neg (by omega), e2]
        simp only
        rw [es, if_neg (by omega), if_neg (by omega), List.take_of_length_le (show c.length ≤ 11 + x.2.length by omega), h2]
      | some g2 =>
        left
        have e3 : putS x.2 = c.drop 7 := no_burst v2 (by rw [h2]; rfl) hb2
        rw [hB, e1, e3, List.take_append_drop]
    · unfold frRead
      by_cases h7 : (c.take k).length < 7
      · rw [if_pos h7]; simp
      · rw [if_neg h7, List.take_take, show min 7 k = 7 by rw [List.length_take] at h7; omega, e2]
        simp only
        rw [es, if_neg (by omega), if_pos (by rw [List.length_take]; omega)]
        simp
theorem turned_root {r : Rt} {c : List UInt8} {a : Int} (hr : RightT r) (hb : Burst (bytesT r) c a) (hne : c ≠ bytesT r) : fromB c = (zeroT, 8) := by
  have hs := body_small (k := 12) (ns := numsT r) (t := []) (right12 _ rfl) (nums_small hr)
  obtain ⟨h1, _⟩ := fr_turned (x := toFra 12 (numsT r) []) (by unfold toFra; simp only; omega) hb
  rcases h1 with h1 | h1
  · exact absurd h1 hne
  · have hl := hb.1
    have hp := (bytesT_len hr).1
    have hc : c ≠ [] := by
      intro e
      have := congrArg List.length e
      rw [List.length_nil] at this
      omega
    have e : recAll c = ([], [], 8) := by unfold recAll; rw [frAll_bad 0 hc (by rw [h1]; simp), h1]; rfl
    unfold fromB
    rw [e]; simp
theorem cut_root {r : Rt} {c : List UInt8} {a : Int} (hr : RightT r) (hb : Burst (bytesT r) c a) {k : Nat} (hk : k < (bytesT r).length) : (fromB (c.take k)).2 ≠ 0 := by
  have hs := body_small (k := 12) (ns := numsT r) (t := []) (right12 _ rfl) (nums_small hr)
  obtain ⟨_, h1⟩ := fr_turned (x := toFra 12 (numsT r) []) (by unfold toFra; simp only; omega) hb
  have hl := hb.1
  by_cases h0 : k = 0
  · subst h0
    unfold fromB recAll
    rw [List.take_zero, frAll_nil]
    simp [recAllF]
  · have h2 := h1 k (by omega) (by omega)
    have hc : c.take k ≠ [] := by
      intro e
      have := congrArg List.length e
      rw [List.length_take, List.length_nil] at this
      omega
    have e : recAll (c.take k) = ([], [], (frRead (c.take k)).2.2) := by unfold recAll; rw [frAll_bad 0 hc h2]; rfl
    unfold fromB
    rw [e]
    simp only
    rw [if_pos h2]
    exact h2
structure Td (s : Dk) (f n : Nat) (room : Int) (b : List UInt8) : Prop where
  inv : Inv s
  dirs : s.dirs = [[(nf, f)]]
  room_ : s.room = room
  gone : s.gone = false
  burn : s.burn = -1
  files : s.files.length = n
  at_ : fileAt s f = ⟨b, (fileAt s f).sure⟩
theorem Td.find {s : Dk} {f n : Nat} {room : Int} {b : List UInt8} (h : Td s f n room b) : s.find nf = some f := by unfold Dk.find Dk.now; rw [h.dirs]; simp [findD]
theorem Td.read {s : Dk} {f n : Nat} {room : Int} {b : List UInt8} (h : Td s f n room b) : Disk.read s nf = (b, 0) := by
  unfold Disk.read; rw [h.gone, h.find]
  simp only [Bool.false_eq_true, if_false]
  rw [h.at_]
theorem Td.lt {s : Dk} {f n : Nat} {room : Int} {b : List UInt8} (h : Td s f n room b) : f < s.files.length := h.inv.wf.idx [(nf, f)] (by rw [h.dirs]; simp) (nf, f) (by simp)
theorem Td.set {s : Dk} {f n : Nat} {room : Int} {b b' : List UInt8} {k : Nat} (h : Td s f n room b) (hi : Inv (setF s f ⟨b', k⟩)) : Td (setF s f ⟨b', k⟩) f n room b' :=
  ⟨hi, h.dirs, h.room_, h.gone, h.burn, by show (s.files.set f _).length = n; rw [List.length_set]; exact h.files, by rw [fileAt_set h.lt]; simp⟩
theorem td_cut {s : Dk} {f n k : Nat} {room : Int} {b : List UInt8} (h : Td s f n room b) (hk : k ≤ b.length) : (cut s nf k).2 = 0 ∧ Td (cut s nf k).1 f n room (b.take k) := by
  have hi := inv_cut h.inv nf k
  have hc : cutE s nf k = 0 := by
    unfold cutE; rw [h.find]
    simp only
    rw [h.at_]
    simp only
    rw [if_neg (by omega)]
  have e : cut s nf k = (setF s f ⟨b.take k, min (fileAt s f).sure k⟩, 0) := by
    unfold cut
    rw [hc]
    simp only [can_freeT h.gone h.burn, if_true, h.find, Option.getD_some, Int.toNat_natCast]
    have hb : (fileAt s f).b = b := by rw [h.at_]
    rw [hb]
  rw [e] at hi ⊢
  exact ⟨rfl, h.set hi⟩
theorem td_append {s : Dk} {f n : Nat} {room : Int} {c : List UInt8} (h : Td s f n room []) (hr : (c.length : Int) ≤ room) : (append s nf c).2 = 0 ∧ Td (append s nf c).1 f n room c := by
  have hi := inv_append h.inv nf c
  have hb : (fileAt s f).b = [] := by rw [h.at_]
  have hh : held s ≤ 0 := held_one_le (f := f) fun g hg => by
    rw [isHeld_iff, h.dirs] at hg
    obtain ⟨k, hk, x, hx, rfl⟩ := hg
    simp at hk; subst hk
    simp at hx; subst hx
    simp [hb]
  have hc : appendE s nf c.length = 0 := by
    unfold appendE; rw [h.find, h.room_]
    simp only [Option.isSome_some, if_true]
    rw [if_neg (by omega)]
  have e : append s nf c = (setF s f ⟨c, (fileAt s f).sure⟩, 0) := by
    unfold append
    rw [hc]
    simp only [can_freeT h.gone h.burn, if_true, h.find, Option.getD_some]
    rw [hb]; simp
  rw [e] at hi ⊢
  exact ⟨rfl, h.set hi⟩
theorem td_read {s : Dk} {f n : Nat} {room : Int} {b : List UInt8} (h : Td s f n room b) : readT s = fromB b := by unfold readT; rw [h.read]; simp
theorem td_of {s : Dk} {r : Rt} (h : StT s (some r)) : ∃ f, Td s f s.files.length s.room (bytesT r) := by
  obtain ⟨hi, hg, hb, hr, f, h1, h2⟩ := h
  refine ⟨f, hi, h1, rfl, hg, hb, rfl, ?_⟩
  unfold fileAt; rw [List.getD_eq_getElem?_getD, h2]; rfl
end Go.Root
