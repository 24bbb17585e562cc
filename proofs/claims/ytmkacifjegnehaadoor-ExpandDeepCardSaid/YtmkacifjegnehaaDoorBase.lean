/-
  FROM THE ABSTRACT CONTRACT OF A LAW TO THE CARD's WALK: the table that the row's condition lays, and what the call leaves as it was.
-/
import Derived.Test.YtmkacifjegnehaaDoorM17
import Derived.Test.YtmkacifjegnehaaDoorTie
import Derived.ProofKit
import Derived.LaidMore
import Derived.OpenShut
import Derived.Stop.Joined
import Derived.Stop.LaidErr
namespace Go.Proofs.YtmkacifjegnehaaDoor
open Go Go.Proofs Go.Proofs.YtmkacifjegnehaaDoor.Ab
abbrev laid3 : List (String × DataW Unit) := [("math/bits.deBruijn32tab", Rows.laid_math_bits_deBruijn32tab), ("math/bits.deBruijn64tab", Rows.laid_math_bits_deBruijn64tab), ("internal/strconv.uint64pow10", Rows.laid_internal_strconv_uint64pow10)]
theorem own : ownKnob Tryd.prog.godebug = none := by kernel_rfl
theorem gT : Tryd.prog.globalNamed "internal/strconv.uint64pow10" = some G0 := laysItoa.m17
theorem gTType : (Tryd.prog.globals[G0]?).map (·.type) = some 144 := by kernel_rfl
theorem door_met (os : Os) (args : Array Value) : laidMetH Tryd.prog laid3 ((World.doorLaid Tryd.prog 400 os).forCall (fun _ _ => 0) ⟨#[], args, []⟩).memory :=
  laidMetH_of_parts3 (fuel := 8) (laidMet_of_run' 8 (by kernel_rfl) (by kernel_rfl)) (by kernel_rfl) (by kernel_rfl)
theorem pows_eq : (Rows.laid_internal_strconv_uint64pow10 : DataW Unit) = Lib.tabData .u64 Lib.pow10Tab := rfl
theorem tab_of_laid {W : World} (h : laidMetH Tryd.prog laid3 W) : ∃ t fr, W.heap[G0]? = some (.cells pow10s t fr) := by
  rw [MakeChecks.laidMetH_plain _ _ _ (by kernel_rfl)] at h
  have h3 : Lib.TabIs Tryd.prog W "internal/strconv.uint64pow10" .u64 Lib.pow10Tab := Lib.tabIs_of_head (rest := []) gT gTType Tryd.underlying144 Tryd.underlying137 (by kernel_rfl) (by kernel_rfl) h.tail.tail
  unfold Lib.TabIs World.var? at h3
  rw [gT] at h3
  simp only [Option.bind_some] at h3
  split at h3
  · rename_i cs t fr hb
    injection h3 with h3
    exact ⟨t, fr, by rw [hb, h3]; rfl⟩
  · cases h3
/-- The world of a call is what the abstract contracts ask for. -/
theorem zok_of {W : World} (h : ∃ t fr, W.heap[G0]? = some (.cells pow10s t fr)) : Zok ZG W := by
  refine ⟨Zle.refl _, h, fun b o v hv => ?_, fun b es hv => by cases hv⟩
  have hv : (if b = G0 then pow10s[o]? else none) = some v := hv
  split at hv
  · rename_i e; subst e
    obtain ⟨t, fr, ht⟩ := h
    simp only [World.cell?, ht]
    exact hv
  · cases hv
def Left0 (W W' : World) : Prop := W'.os = W.os ∧ W'.output = W.output ∧ W.heap.size ≤ W'.heap.size ∧ ∀ i, i < W.heap.size → W'.heap[i]? = W.heap[i]?
theorem Left0.kept {W W' : World} (h : Left0 W W') (may : MemPlace → Prop) : W.keptBut W' may := by
  refine ⟨h.1, h.2.1, fun i hi => ?_⟩
  rw [h.2.2.2 i hi]
  cases W.heap[i]? with
  | none => rfl
  | some o => cases o <;> first | exact ⟨rfl, rfl, rfl, fun _ _ => rfl⟩ | exact .inr ⟨rfl, rfl⟩ | rfl
theorem walk_of {f : Nat} {vs : List V} {args : Array Value} (h : callW ip2 f vs [] = some (.ret [bI true], [])) (ha : All2 (VRel ZG []) vs args.toList) {W : World} (hW : ∃ t fr, W.heap[G0]? = some (.cells pow10s t fr)) :
    Calls Tryd.prog f args W fun e W' => e = .returned (.bool true) ∧ Left0 W W' := by
  refine ((sound2 f vs [] _ _ h).2 ZG [] W args ⟨rfl, fun r o v h => by simp at h, fun r r' o o' v v' b _ h => by simp at h, fun r o v b h => by simp at h⟩ (zok_of hW) ha).mono ?_
  rintro e W' ⟨Z', σ', r, H', _, _, _, hr, ⟨rfl, rfl⟩, _, h1, _, h2, h3, h4, _⟩
  refine ⟨?_, h1, h2, h3, fun i hi => h4 i hi fun i v hv => by simp at hv⟩
  cases hr with | ret hr => cases hr with | c hr => cases hr with | d hr => cases hr; rfl
end Go.Proofs.YtmkacifjegnehaaDoor
