
/- The law of events that are sure, at a number as it comes in. Conditions: as that law's. -/
import Derived.Test.YtmefbneoljpbgaaGreatDoorEvSure
import Derived.Test.YtmefbneoljpbgaaGreatDoorEvRowK
namespace Go.Proofs.YtmefbneoljpbgaaGreatDoor
open Go.Den Go.Disk Go.Ev
theorem encIz_len (x : Int) : (encI x).length = 1 := rfl
section
variable {H : Type} {enc : TypeId × Value → H} {w : World}
theorem int_dec (fuel : Nat) (cs : List Value) (y : DataW H × List MemPlace) (h : DataW.trod enc Tryz.prog w 0 (fun _ => true) true fuel 3 cs = some y) : ∃ x : Int, cs = encI x ∧ True := by
  obtain ⟨a, e, _, q⟩ := DataW.trod_int Tryz.underlying3 h
  exact ⟨a, e, trivial⟩
end
theorem ev_SureZ {w : World} {R : Value → World → Prop} (hT : Tab w) (z : Int) (hz : (Lit.int .u64 z).wf = true) {av bv cv tv : Value} {xa xb xc : List Ax} {tails : List Int} (ha : Arr encAx 8 w av xa) (hb : Arr encAx 8 w bv xb) (hc : Arr encAx 8 w cv xc) (ht : Arr encI 1 w tv tails)
    (ka : ∀ a ∈ xa, OkA a) (kb : ∀ a ∈ xb, OkA a) (kc : ∀ a ∈ xc, OkA a) (ma : xa.length * 72 ≤ reachBytes) (mb : xb.length * 72 ≤ reachBytes) (mc : xc.length * 72 ≤ reachBytes) (hR : ∀ w', Fr [] w w' → R (.bool true) w') :
    CALL PR F_tumbrellaw17_EventsSure [.int .u64 z, av, bv, cv, tv] w R := by
  obtain ⟨g, rfl, hg⟩ := u64_nat hz
  have e : reachBytes = 140737488351232 := rfl
  exact ev_Sure hT g hg ha hb hc ht ka kb kc (by omega) (by omega) (by omega) hR
end Go.Proofs.YtmefbneoljpbgaaGreatDoor
