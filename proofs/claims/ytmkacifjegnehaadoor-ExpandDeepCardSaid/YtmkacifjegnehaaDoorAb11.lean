/-
  A PROGRAM's TYPES, HELD BY ONE COMPUTED CHECK. No program is named.
-/
import Derived.Test.YtmkacifjegnehaaDoorAb10
namespace Go.Proofs.YtmkacifjegnehaaDoor.Ab
open Go
def zeroIs : C → Value → Bool
  | .d (.int k n), .int k' n' => k == k' && n == n'
  | .d (.bo b), .bool b' => b == b'
  | .d (.str l), .string s => l == s.data.toList
  | .nilS, .slice none 0 0 => true
  | .d (.fm []), .map none => true
  | .dead, v => v.oneCell'
  | _, _ => false
theorem zeroIs_ok {c : C} {v : Value} (h : zeroIs c v = true) : CRel noZ [] c v := by
  unfold zeroIs at h
  split at h
  · simp only [Bool.and_eq_true, beq_iff_eq] at h; obtain ⟨rfl, rfl⟩ := h; exact .d (.int _ _)
  · simp only [beq_iff_eq] at h; subst h; exact .d (.bo _)
  · rename_i l s
    simp only [beq_iff_eq] at h; subst h
    have e : Value.string s = Sv s.data.toList := by unfold Sv; congr 1
    rw [e]; exact .d (.str _)
  · exact .nilS
  · exact .d .fm0
  · exact .dead h
  · cases h
def zerosAre : List C → List Value → Bool
  | [], [] => true
  | c :: cs, v :: vs => zeroIs c v && zerosAre cs vs
  | _, _ => false
theorem zerosAre_ok : ∀ {cs : List C} {vs : List Value}, zerosAre cs vs = true → All2 (CRel noZ []) cs vs
  | [], [], _ => .nil
  | [], _ :: _, h => by cases h
  | _ :: _, [], h => by cases h
  | c :: cs, v :: vs, h => by
    simp only [zerosAre, Bool.and_eq_true] at h
    exact .cons (zeroIs_ok h.1) (zerosAre_ok h.2)
def fieldsAre (P : Program) : List (Nat × Nat) → List Field → Bool
  | [], [] => true
  | p :: ps, f :: fs => f.offset == p.1 && (match P.info? f.type with | some i => i.size == p.2 | none => false) && fieldsAre P ps fs
  | _, _ => false
theorem fieldsAre_ok {P : Program} : ∀ {ps : List (Nat × Nat)} {fs : List Field}, fieldsAre P ps fs = true → All2 (fun (p : Nat × Nat) (f : Field) => f.offset = p.1 ∧ ∃ i, P.info? f.type = some i ∧ i.size = p.2) ps fs
  | [], [], _ => .nil
  | [], _ :: _, h => by cases h
  | _ :: _, [], h => by cases h
  | p :: ps, f :: fs, h => by
    simp only [fieldsAre, Bool.and_eq_true, beq_iff_eq] at h
    obtain ⟨⟨h1, h2⟩, h3⟩ := h
    refine .cons ⟨h1, ?_⟩ (fieldsAre_ok h3)
    split at h2
    · rename_i i hi; exact ⟨i, hi, by simpa using h2⟩
    · cases h2
def kdIs (P : Program) : Kd → TypeDesc → Bool
  | .int k, .int k' => k == k'
  | .bool, .bool => true
  | .str, .string => true
  | .slice e, .slice e' => e == e'
  | .struct fs, .struct arr => fieldsAre P fs arr.toList
  | .map k e, .map k' e' => k == k' && e == e'
  | _, _ => false
def zeroAgg (ag : Bool) : Value → Bool
  | .agg _ => ag
  | v => !ag && v.oneCell'
def chk (P : Program) (t : TypeId) (i : TI) : Bool :=
  (match P.underlying t with | some d => kdIs P i.kd d | none => false) &&
  (match P.info? t with
   | some inf => inf.size == i.size && inf.bytes == i.bytes && (match inf.zero with
     | some z => zerosAre i.zero z.cells.toList && z.cells.size == i.size && zeroAgg i.kd.agg z
     | none => false)
   | none => false)
theorem chk_ok {P : Program} {t : TypeId} {i : TI} (h : chk P t i = true) (he : pairKd i = true → EqFact P t) : TIok P t i := by
  simp only [chk, Bool.and_eq_true] at h
  obtain ⟨h1, h2⟩ := h
  refine ⟨?_, ?_, he⟩
  · split at h1
    · rename_i d hd
      cases hk : i.kd <;> rw [hk] at h1 <;> cases d <;> simp only [kdIs] at h1 <;> first | (cases h1; done) | skip
      · simp only [beq_iff_eq] at h1; subst h1; exact hd
      · exact hd
      · exact hd
      · simp only [beq_iff_eq] at h1; subst h1; exact hd
      · exact ⟨_, hd, fieldsAre_ok h1⟩
      · simp only [Bool.and_eq_true, beq_iff_eq] at h1; obtain ⟨rfl, rfl⟩ := h1; exact hd
    · cases h1
  · split at h2
    · rename_i inf hinf
      simp only [Bool.and_eq_true, beq_iff_eq] at h2
      obtain ⟨⟨h3, h4⟩, h5⟩ := h2
      split at h5
      · rename_i z hz
        simp only [Bool.and_eq_true, beq_iff_eq] at h5
        obtain ⟨⟨h6, h7⟩, h8⟩ := h5
        refine ⟨inf, z, hinf, h3, h4, hz, zerosAre_ok h6, h7, ?_⟩
        unfold zeroAgg at h8
        split at h8
        · rename_i cs; rw [h8]; exact ⟨cs, rfl⟩
        · simp only [Bool.and_eq_true, Bool.not_eq_true'] at h8
          rw [h8.1]; exact h8.2
      · cases h5
    · cases h2
end Go.Proofs.YtmkacifjegnehaaDoor.Ab
