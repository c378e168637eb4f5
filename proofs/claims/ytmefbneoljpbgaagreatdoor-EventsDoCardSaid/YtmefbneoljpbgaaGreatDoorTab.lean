
/- The table of the powers of ten, as a row lays it, and as a walk reads it. No condition. -/
import Derived.Test.YtmefbneoljpbgaaGreatDoorFns
import Derived.Test.YtmefbneoljpbgaaGreatDoorGb
import Derived.Lib.LaidTab
import Derived.Lib.ItoaNum
import Derived.MakeChecks
set_option linter.unusedSimpArgs false
set_option linter.unusedVariables false
namespace Go.Proofs.YtmefbneoljpbgaaGreatDoor
open Go.Den
def tabN : String := "internal/strconv.uint64pow10"
noncomputable def tabG : Nat := (PR.globalNamed tabN).getD 0
theorem tabG_named : PR.globalNamed tabN = some tabG := by
  have h : (PR.globalNamed tabN).isSome = true := by kernel_rfl
  unfold tabG
  cases e : PR.globalNamed tabN with
  | none => rw [e] at h; cases h
  | some g => rfl
def tabV : List Value := Lib.pow10Tab.map fun z => Value.int .u64 z
def Tab (w : World) : Prop := ∃ T f, blk w tabG = some (.cells tabV.toArray T f)
theorem Tab.far {w w' : World} {F : List Nat} (h : Tab w) (f : Fr F w w') (hn : tabG ∉ F) : Tab w' := by
  obtain ⟨T, g, b⟩ := h
  exact ⟨T, g, f.some hn b⟩
theorem Tab.fr {w w' : World} (h : Tab w) (f : Fr [] w w') : Tab w' := h.far f (by simp)
theorem Tab.is {w : World} (h : Tab w) : Lib.TabIs PR w "internal/strconv.uint64pow10" .u64 Lib.pow10Tab := by
  obtain ⟨T, g, b⟩ := h
  have b' : w.heap[tabG]? = some (.cells tabV.toArray T g) := b
  have hg : PR.globalNamed "internal/strconv.uint64pow10" = some tabG := tabG_named
  unfold Lib.TabIs World.var?
  rw [hg]
  simp only [Option.bind_some, b']
  rfl
/-- what a list that is laid says of each variable on it. -/
theorem laid_mem {P : Program} {w : World} : ∀ {l : List (String × DataW Unit)} {ps : List MemPlace}, DataW.LaidVars P w l ps → ∀ x ∈ l,
    ∃ g t cs fuel p, P.globalNamed x.1 = some g ∧ (P.globals[g]?).map (·.type) = some t ∧ w.var? P x.1 = some cs ∧ DataW.trod (fun _ => ()) P w 0 (fun _ => true) false fuel t cs.toList = some (x.2, p)
  | [], _, _, x, hx => by simp at hx
  | (n, d) :: r, ps, h, x, hx => by
    obtain ⟨g, t, cs, fuel, p, q, h1, h2, h3, h4, h5, _⟩ := h
    rcases List.mem_cons.1 hx with rfl | hx
    · exact ⟨g, t, cs, fuel, p, h1, h2, h3, h4⟩
    · exact laid_mem h5 x hx
theorem tab_of {l : List (String × DataW Unit)} {w : World} {t e : TypeId} (hp : (l.all fun x => x.2.handleName?.isNone) = true) (hm : (tabN, Lib.tabData .u64 Lib.pow10Tab) ∈ l)
    (hty : (PR.globals[tabG]?).map (·.type) = some t) (ht : PR.underlying t = some (.array 20 e)) (he : PR.underlying e = some (.int .u64)) (hce : PR.cellsOf e = 1) (hct : PR.cellsOf t = 20) (h : laidMetH PR l w) : Tab w := by
  rw [MakeChecks.laidMetH_plain _ _ _ hp] at h
  obtain ⟨ps, hl, _⟩ := h
  obtain ⟨g, t', cs, fuel, p, h1, h2, h3, h4⟩ := laid_mem hl _ hm
  obtain rfl := Option.some.inj (tabG_named.symm.trans h1)
  obtain rfl := Option.some.inj (hty.symm.trans h2)
  have hc := Lib.cells_of_tab ht he hce hct h4
  unfold World.var? at h3
  rw [tabG_named] at h3
  simp only [Option.bind_some] at h3
  split at h3
  · rename_i cs' T f hb
    cases h3
    refine ⟨T, f, ?_⟩
    show w.heap[tabG]? = _
    rw [hb]
    have e : cs = tabV.toArray := by
      rw [show tabV = cs.toList from hc.symm]
    rw [e]
  · cases h3
end Go.Proofs.YtmefbneoljpbgaaGreatDoor
