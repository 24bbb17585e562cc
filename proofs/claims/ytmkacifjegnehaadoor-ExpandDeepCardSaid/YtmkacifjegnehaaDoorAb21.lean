/-
  THE INTERPRETER WITHOUT A BOUND ON ITS CALLS: more depth takes nothing back; the limit, and its equation. No program is named.
-/
import Derived.Test.YtmkacifjegnehaaDoorAb20
namespace Go.Proofs.YtmkacifjegnehaaDoor.Ab
open Go

/-- From some depth on they say what the limit says. -/
def Tends (cs : Nat → CallF) (cw : CallF) : Prop := ∀ g a H x, cw g a H = some x → ∃ N, ∀ M, N ≤ M → cs M g a H = some x
def Soon {α : Type} (f : Nat → Option α) (x : α) : Prop := ∃ N, ∀ M, N ≤ M → f M = some x
theorem Soon.now {α : Type} {f : Nat → Option α} {x : α} (h : ∀ M, f M = some x) : Soon f x := ⟨0, fun M _ => h M⟩
section
variable {cs : Nat → CallF} {cw : CallF} (ht : Tends cs cw) {F : Fp} {keepA : Nat → Bool}
include ht

theorem callO_soon {e : List (Nat × V)} {H : List O} {o : Oper} {args : List Operand} {g : Nat} {caps : List Nat} {out : Out} (h : callO cw F keepA e H o args g caps = some out) : Soon (fun M => callO (cs M) F keepA e H o args g caps) out := by
  unfold callO at h ⊢
  generalize (match keepA g with
    | true => (e, H)
    | false => sealAll F.n0 (args.flatMap fun x => rowRefs (evO e x)) e H) = p at h ⊢
  obtain ⟨e, H⟩ := p
  simp only [] at h ⊢
  split at h
  · cases h
  · rename_i Hc hc
    split at h
    · cases h
    · rename_i rs H' hcl
      obtain ⟨N, hN⟩ := ht _ _ _ _ hcl
      exact ⟨N, fun M hM => by simp only [hN M hM]; exact h⟩
    · rename_i t cs' H' hcl
      obtain ⟨N, hN⟩ := ht _ _ _ _ hcl
      exact ⟨N, fun M hM => by simp only [hN M hM]; exact h⟩
theorem opX_soon {e : List (Nat × V)} {H : List O} {o : Oper} {out : Out} (h : opX cw F keepA e H o = some out) : Soon (fun M => opX (cs M) F keepA e H o) out := by
  unfold opX at h ⊢
  split at h
  · rename_i c hop
    split at h
    · rename_i f hf
      split at h
      · rename_i g caps hg
        obtain ⟨N, hN⟩ := callO_soon ht h
        exact ⟨N, hN⟩
      · cases h
    · exact .now fun M => h
    · exact .now fun M => h
  · exact .now fun M => h
  · exact .now fun M => h
  · exact .now fun M => h
theorem stepX_soon {ops : List Oper} {e : List (Nat × V)} {H : List O} {o : Oper} {out : Out} (h : stepX cw F keepA ops e H o = some out) : Soon (fun M => stepX (cs M) F keepA ops e H o) out := by
  unfold stepX at h ⊢
  split at h
  · cases h
  · exact .now fun M => h
  · exact opX_soon ht h
theorem runX_soon {ops : List Oper} : ∀ {l : List Oper} {e : List (Nat × V)} {H : List O} {out : Out}, runX cw F keepA ops l e H = some out → Soon (fun M => runX (cs M) F keepA ops l e H) out
  | [], e, H, out, h => .now fun M => by simpa only [runX] using h
  | o :: l, e, H, out, h => by
    simp only [runX] at h
    cases hx : stepX cw F keepA ops e H o with
    | none => rw [hx] at h; cases h
    | some out1 =>
      obtain ⟨N, hN⟩ := stepX_soon ht hx
      rw [hx] at h
      cases out1 with
      | go rs e' H' =>
        simp only [fE_eq, fOs_eq] at h
        have h' : runX cw F keepA ops l e' H' = some out := by split at h <;> exact h
        obtain ⟨N2, hN2⟩ := runX_soon h'
        refine ⟨max N N2, fun M hM => ?_⟩
        simp only [runX, hN M (by omega), fE_eq, fOs_eq]
        split <;> exact hN2 M (by omega)
      | pan t cs' e' H' => exact ⟨N, fun M hM => by simp only [runX, hN M hM]; exact h⟩
theorem runF_soon {ops : List Oper} {bl Xs keys : List Nat} : ∀ {l : List Nat} {e : List (Nat × V)} {H : List O} {x : List (Nat × V) × List O}, runF cw F keepA ops bl Xs keys l e H = some x → Soon (fun M => runF (cs M) F keepA ops bl Xs keys l e H) x
  | [], e, H, x, h => .now fun M => h
  | i :: l, e, H, x, h => by
    simp only [runF] at h
    split at h
    · cases h
    · rename_i o ho
      split at h
      · cases h
      · rename_i hb
        cases hx : stepX cw F keepA ops e H o with
        | none => rw [hx] at h; cases h
        | some out1 =>
          obtain ⟨N, hN⟩ := stepX_soon ht hx
          rw [hx] at h
          cases out1 with
          | go rs e' H' =>
            simp only [] at h
            split at h
            · rename_i hc
              obtain ⟨N2, hN2⟩ := runF_soon h
              exact ⟨max N N2, fun M hM => by simp only [runF, ho, hb, hN M (by omega), hc]; exact hN2 M (by omega)⟩
            · cases h
          | pan t cs' e' H' => cases h
theorem runFork_soon {ops : List Oper} {bl Xs keys : List Nat} {e : List (Nat × V)} {H : List O} {x : List (Nat × V) × List O} : ∀ {l : List (List Nat)}, runFork cw F keepA ops bl Xs keys e H l = some x → Soon (fun M => runFork (cs M) F keepA ops bl Xs keys e H l) x
  | [], h => by cases h
  | [o], h => by
    obtain ⟨N, hN⟩ := runF_soon ht (show runF cw F keepA ops bl Xs keys o e H = some x from h)
    exact ⟨N, fun M hM => hN M hM⟩
  | o :: p :: l, h => by
    simp only [runFork] at h
    split at h
    · cases h
    · rename_i y hy
      split at h
      · rename_i hr
        injection h with h; subst h
        obtain ⟨N, hN⟩ := runF_soon ht hy
        obtain ⟨N2, hN2⟩ := runFork_soon hr
        exact ⟨max N N2, fun M hM => by simp only [runFork, hN M (by omega), hN2 M (by omega), if_true]⟩
      · cases h
theorem runD_soon {ops : List Oper} {bl : List Nat} : ∀ {segs : List Seg} {m : Option (List Nat)} {e : List (Nat × V)} {H : List O} {out : Out}, runD cw F keepA ops bl m segs e H = some out → Soon (fun M => runD (cs M) F keepA ops bl m segs e H) out
  | [], m, e, H, out, h => .now fun M => by simpa only [runD] using h
  | .take is :: l, m, e, H, out, h => by
    simp only [runD] at h
    split at h
    · cases h
    · split at h
      · cases h
      · rename_i os hos
        split at h
        · cases h
        · rename_i hl
          split at h
          · cases h
          · rename_i e' H' hev
            obtain ⟨N, hN⟩ := runD_soon h
            exact ⟨N, fun M hM => by simp only [runD, hos, hl, hev]; exact hN M hM⟩
  | .pur is :: l, m, e, H, out, h => by
    simp only [runD] at h
    split at h
    · cases h
    · rename_i os hos
      split at h
      · cases h
      · rename_i hl
        split at h
        · cases h
        · rename_i e' H' hev
          obtain ⟨N, hN⟩ := runD_soon h
          exact ⟨N, fun M hM => by simp only [runD, hos, hl, hev]; exact hN M hM⟩
  | .next i :: l, m, e, H, out, h => by
    simp only [runD] at h
    split at h
    · cases h
    · rename_i o ho
      split at h
      · cases h
      · rename_i hb
        cases hx : stepX cw F keepA ops e H o with
        | none => rw [hx] at h; cases h
        | some out1 =>
          obtain ⟨N, hN⟩ := stepX_soon ht hx
          rw [hx] at h
          cases out1 with
          | go rs e' H' =>
            obtain ⟨N2, hN2⟩ := runD_soon h
            exact ⟨max N N2, fun M hM => by simp only [runD, ho, hb, hN M (by omega)]; exact hN2 M (by omega)⟩
          | pan t cs' e' H' => exact ⟨N, fun M hM => by simp only [runD, ho, hb, hN M hM]; exact h⟩
  | .inn i :: l, m, e, H, out, h => by
    simp only [runD] at h
    split at h
    · cases h
    · rename_i o ho
      split at h
      · cases h
      · rename_i hb
        cases hx : stepX cw F keepA ops e H o with
        | none => rw [hx] at h; cases h
        | some out1 =>
          obtain ⟨N, hN⟩ := stepX_soon ht hx
          rw [hx] at h
          cases out1 with
          | go rs e' H' =>
            simp only [] at h
            split at h
            · rename_i hc
              obtain ⟨N2, hN2⟩ := runD_soon h
              exact ⟨max N N2, fun M hM => by simp only [runD, ho, hb, hN M (by omega), hc]; exact hN2 M (by omega)⟩
            · cases h
          | pan t cs' e' H' => exact ⟨N, fun M hM => by simp only [runD, ho, hb, hN M hM]; exact h⟩
  | .fork keys n orders :: l, m, e, H, out, h => by
    simp only [runD] at h
    split at h
    · rename_i e' H' hr
      obtain ⟨N, hN⟩ := runFork_soon ht hr
      exact ⟨N, fun M hM => by simp only [runD, hN M hM]; exact h⟩
    · cases h
theorem execX_soon {L : Nat → Lv} {pl : Plans} : ∀ {n : Nat} {c : Code} {e : List (Nat × V)} {H : List O} {x : Ex × List (Nat × V) × List O}, execX cw F keepA L pl n c e H = some x → Soon (fun M => execX (cs M) F keepA L pl n c e H) x
  | 0, c, e, H, x, h => by cases h
  | n + 1, c, e, H, x, h => by
    cases c <;> simp only [execX] at h <;> try (first | (exact .now fun M => by simp only [execX]; exact h) | (cases h; done))
    case seq c d =>
      cases hx : execX cw F keepA L pl n c e H with
      | none => rw [hx] at h; cases h
      | some y =>
        obtain ⟨y, e', H'⟩ := y
        obtain ⟨N, hN⟩ := execX_soon hx
        rw [hx] at h
        cases y with
        | normal =>
          obtain ⟨N2, hN2⟩ := execX_soon (n := n) h
          exact ⟨max N N2, fun M hM => by simp only [execX, hN M (by omega)]; exact hN2 M (by omega)⟩
        | exit id => exact ⟨N, fun M hM => by simp only [execX, hN M hM]; exact h⟩
        | ret => exact ⟨N, fun M hM => by simp only [execX, hN M hM]; exact h⟩
        | panic t cs' => exact ⟨N, fun M hM => by simp only [execX, hN M hM]; exact h⟩
    case region id ops dr =>
      cases dr with
      | false =>
        simp only [] at h
        cases hx : runX cw F keepA ops.toList ops.toList e H with
        | none => rw [hx] at h; cases h
        | some out =>
          obtain ⟨N, hN⟩ := runX_soon ht hx
          rw [hx] at h
          exact ⟨N, fun M hM => by simp only [execX, hN M hM]; exact h⟩
      | true =>
        simp only [] at h
        split at h
        · cases h
        · rename_i bl nm segs hpl
          cases hx : runD cw F keepA ops.toList bl none segs e H with
          | none => rw [hx] at h; cases h
          | some out =>
            obtain ⟨N, hN⟩ := runD_soon ht hx
            rw [hx] at h
            exact ⟨N, fun M hM => by simp only [execX, hpl, hN M hM]; exact h⟩
    case cond t c d =>
      cases t with
      | tmp t =>
        simp only [] at h
        split at h
        · rename_i hb
          obtain ⟨N, hN⟩ := execX_soon (n := n) h
          exact ⟨N, fun M hM => by simp only [execX, hb]; exact hN M hM⟩
        · rename_i hb
          obtain ⟨N, hN⟩ := execX_soon (n := n) h
          exact ⟨N, fun M hM => by simp only [execX, hb]; exact hN M hM⟩
        · cases h
      | const v => cases h
      | global g => cases h
      | func g => cases h
    case block id c =>
      cases hx : execX cw F keepA L pl n c e H with
      | none => rw [hx] at h; cases h
      | some y =>
        obtain ⟨y, e', H'⟩ := y
        obtain ⟨N, hN⟩ := execX_soon hx
        rw [hx] at h
        exact ⟨N, fun M hM => by simp only [execX, hN M hM]; exact h⟩
    case loop c =>
      cases hx : execX cw F keepA L pl n c e H with
      | none => rw [hx] at h; cases h
      | some y =>
        obtain ⟨y, e', H'⟩ := y
        obtain ⟨N, hN⟩ := execX_soon hx
        rw [hx] at h
        cases y with
        | normal =>
          obtain ⟨N2, hN2⟩ := execX_soon (n := n) h
          exact ⟨max N N2, fun M hM => by simp only [execX, hN M (by omega)]; exact hN2 M (by omega)⟩
        | exit id => exact ⟨N, fun M hM => by simp only [execX, hN M hM]; exact h⟩
        | ret => exact ⟨N, fun M hM => by simp only [execX, hN M hM]; exact h⟩
        | panic t cs' => exact ⟨N, fun M hM => by simp only [execX, hN M hM]; exact h⟩
theorem bodyX_soon {I : Ip} {n g : Nat} {args : List V} {H : List O} {x : Res × List O} (h : bodyX I cw n g args H = some x) : Soon (fun M => bodyX I (cs M) n g args H) x := by
  unfold bodyX at h ⊢
  split at h
  · cases h
  · rename_i fn hfn
    split at h
    · cases h
    · rename_i c hc
      split at h
      · cases h
      · rename_i hb
        cases hx : execX cw ⟨I.T, I.rw g, fn.ntmps, H.length⟩ I.keepA (I.long g) (I.plan g) n c (args0 0 args) H with
        | none => rw [hx] at h; cases h
        | some y =>
          obtain ⟨N, hN⟩ := execX_soon ht hx
          rw [hx] at h
          exact ⟨N, fun M hM => by simp only [hN M hM]; exact h⟩
end

theorem execX_more {call : CallF} {F : Fp} {keepA : Nat → Bool} {L : Nat → Lv} {pl : Plans} : ∀ {n : Nat} {c : Code} {e : List (Nat × V)} {H : List O} {x : Ex × List (Nat × V) × List O}, execX call F keepA L pl n c e H = some x → ∀ m, n ≤ m → execX call F keepA L pl m c e H = some x
  | 0, c, e, H, x, h, m, _ => by cases h
  | n + 1, c, e, H, x, h, m, hm => by
    obtain ⟨m, rfl⟩ : ∃ m', m = m' + 1 := ⟨m - 1, by omega⟩
    have hm : n ≤ m := by omega
    cases c <;> simp only [execX] at h ⊢ <;> try (first | exact h | (cases h; done))
    case region id ops dr =>
      cases dr
      · exact h
      · simp only [] at h ⊢
        split at h
        · cases h
        · exact h
    case seq c d =>
      cases hx : execX call F keepA L pl n c e H with
      | none => rw [hx] at h; cases h
      | some y =>
        obtain ⟨y, e', H'⟩ := y
        rw [hx] at h
        rw [execX_more hx m hm]
        cases y with
        | normal => exact execX_more (n := n) h m hm
        | exit id => exact h
        | ret => exact h
        | panic t cs' => exact h
    case cond t c d =>
      cases t with
      | tmp t =>
        simp only [] at h ⊢
        split at h
        · exact execX_more (n := n) h m hm
        · exact execX_more (n := n) h m hm
        · cases h
      | const v => cases h
      | global g => cases h
      | func g => cases h
    case block id c =>
      cases hx : execX call F keepA L pl n c e H with
      | none => rw [hx] at h; cases h
      | some y => rw [hx] at h; rw [execX_more hx m hm]; exact h
    case loop c =>
      cases hx : execX call F keepA L pl n c e H with
      | none => rw [hx] at h; cases h
      | some y =>
        obtain ⟨y, e', H'⟩ := y
        rw [hx] at h
        rw [execX_more hx m hm]
        cases y with
        | normal => exact execX_more (n := n) h m hm
        | exit id => exact h
        | ret => exact h
        | panic t cs' => exact h
theorem bodyX_more {I : Ip} {call : CallF} {n g : Nat} {args : List V} {H : List O} {x : Res × List O} (h : bodyX I call n g args H = some x) {m : Nat} (hm : n ≤ m) : bodyX I call m g args H = some x := by
  unfold bodyX at h ⊢
  split at h
  · cases h
  · rename_i fn hfn
    split at h
    · cases h
    · rename_i c hc
      split at h
      · cases h
      · rename_i hb
        cases hx : execX call ⟨I.T, I.rw g, fn.ntmps, H.length⟩ I.keepA (I.long g) (I.plan g) n c (args0 0 args) H with
        | none => rw [hx] at h; cases h
        | some y => rw [hx] at h; simp only [execX_more hx m hm]; exact h
theorem callX_mono (I : Ip) : ∀ (N : Nat) {g : Nat} {a : List V} {H : List O} {x : Res × List O}, callX I N g a H = some x → ∀ M, N ≤ M → callX I M g a H = some x
  | 0, g, a, H, x, h, _, _ => by cases h
  | N + 1, g, a, H, x, h, M, hM => by
    obtain ⟨M, rfl⟩ : ∃ M', M = M' + 1 := ⟨M - 1, by omega⟩
    simp only [callX] at h ⊢
    split at h
    · exact h
    · have ht : Tends (fun _ => callX I M) (callX I N) := fun g a H x h => ⟨0, fun _ _ => callX_mono I N h M (by omega)⟩
      obtain ⟨K, hK⟩ := bodyX_soon ht h
      exact bodyX_more (hK K (Nat.le_refl _)) (by omega)
open Classical in
/-- The limit. -/
noncomputable def callW (I : Ip) : CallF := fun g a H => if h : ∃ x N, callX I N g a H = some x then some (Classical.choose h) else none
theorem callW_of {I : Ip} {N g : Nat} {a : List V} {H : List O} {x : Res × List O} (h : callX I N g a H = some x) : callW I g a H = some x := by
  have hex : ∃ x N, callX I N g a H = some x := ⟨x, N, h⟩
  unfold callW
  rw [dif_pos hex]
  obtain ⟨M, hM⟩ := Classical.choose_spec hex
  have h1 := callX_mono I N h (max N M) (by omega)
  have h2 := callX_mono I M hM (max N M) (by omega)
  rw [h1] at h2; exact h2.symm
theorem callW_tends (I : Ip) : Tends (callX I) (callW I) := by
  intro g a H x h
  unfold callW at h
  split at h
  · rename_i hex
    injection h with h
    obtain ⟨M, hM⟩ := Classical.choose_spec hex
    rw [h] at hM
    exact ⟨M, fun K hK => callX_mono I M hM K hK⟩
  · cases h
theorem callW_body {I : Ip} {n g : Nat} {a : List V} {H : List O} {x : Res × List O} (hp : I.prim g a H = none) (h : bodyX I (callW I) n g a H = some x) : callW I g a H = some x := by
  obtain ⟨N, hN⟩ := bodyX_soon (callW_tends I) h
  refine callW_of (N := max N n + 1) ?_
  simp only [callX, hp]
  exact bodyX_more (hN (max N n) (by omega)) (by omega)
theorem callW_prim {I : Ip} {g : Nat} {a : List V} {H : List O} {x : Res × List O} (hp : I.prim g a H = some x) : callW I g a H = some x := callW_of (N := 1) (by simp only [callX, hp])
theorem callW_ok {P : Program} {I : Ip} (hI : IpOk P I) : SoundCall P (callW I) := by
  intro g a H r H' h
  obtain ⟨N, hN⟩ := callW_tends I g a H _ h
  exact callX_ok hI N g a H r H' (hN N (Nat.le_refl _))
end Go.Proofs.YtmkacifjegnehaaDoor.Ab
