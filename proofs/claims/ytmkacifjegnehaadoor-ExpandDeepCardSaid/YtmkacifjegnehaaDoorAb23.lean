/-
  ROWS OF OPERATIONS IN PIECES; what simp is told. No program is named.
-/
import Derived.Test.YtmkacifjegnehaaDoorAb22
namespace Go.Proofs.YtmkacifjegnehaaDoor.Ab
open Go

/-- So many operations of the row. -/
def runN (call : CallF) (F : Fp) (kA : Nat → Bool) (ops : List Oper) : Nat → List Oper → List (Nat × V) → List O → Option (List Oper × List (Nat × V) × List O)
  | 0, l, e, H => some (l, e, H)
  | _ + 1, [], e, H => some ([], e, H)
  | n + 1, o :: l, e, H => match stepX call F kA ops e H o with
    | some (.go _ e' H') => runN call F kA ops n l e' H'
    | _ => none
/-- What is left of a region's row comes to this. -/
def Row (call : CallF) (F : Fp) (kA : Nat → Bool) (L : Lv) (ops : List Oper) (l : List Oper) (e : List (Nat × V)) (H : List O) (K : Ex → List (Nat × V) → List O → Prop) : Prop :=
  ∃ out, runX call F kA ops l e H = some out ∧ match out with
    | .go _ e' H' => K .normal (endE F.n0 e' H' L).1 (endE F.n0 e' H' L).2
    | .pan t cs e' H' => K (.panic t cs) e' H'
section
variable {call : CallF} {F : Fp} {kA : Nat → Bool} {L : Lv} {LL : Nat → Lv} {pl : Plans} {ops l : List Oper} {e e' : List (Nat × V)} {H H' : List O} {K : Ex → List (Nat × V) → List O → Prop}
theorem Runs.row {id : Nat} {ops : Array Oper} (h : Row call F kA (LL id) ops.toList ops.toList e H K) : Runs call F kA LL pl (.region id ops false) e H K := by
  obtain ⟨out, h1, h2⟩ := h
  cases out with
  | go rs e' H' => exact Runs.region h1 h2
  | pan t cs e' H' => exact Runs.region_pan h1 h2
theorem Row.done (h : K .normal (endE F.n0 e H L).1 (endE F.n0 e H L).2) : Row call F kA L ops [] e H K := ⟨.go [] e H, rfl, h⟩
theorem Row.run (n : Nat) {l' : List Oper} (h : runN call F kA ops n l e H = some (l', e', H')) (k : Row call F kA L ops l' e' H' K) : Row call F kA L ops l e H K := by
  induction n generalizing l e H with
  | zero => injection h with h; injection h with h1 h; injection h with h2 h3; subst h1 h2 h3; exact k
  | succ n ih =>
    cases l with
    | nil => injection h with h; injection h with h1 h; injection h with h2 h3; subst h1 h2 h3; exact k
    | cons o l =>
      simp only [runN] at h
      split at h
      · rename_i rs e1 H1 hx
        obtain ⟨out, h1, h2⟩ := ih h
        exact ⟨out, by simp only [runX, hx, fE_eq, fOs_eq]; split <;> exact h1, h2⟩
      · cases h
theorem Row.end_ {e2 : List (Nat × V)} {H2 : List O} (hm : endE F.n0 e H L = (e2, H2)) (h : K .normal e2 H2) : Row call F kA L ops [] e H K := ⟨.go [] e H, rfl, by show K .normal (endE F.n0 e H L).1 (endE F.n0 e H L).2; rw [hm]; exact h⟩
theorem Runs.reg {id : Nat} {ops : Array Oper} {rs : List Nat} {e2 : List (Nat × V)} {H2 : List O} (h : runX call F kA ops.toList ops.toList e H = some (.go rs e' H')) (hm : endE F.n0 e' H' (LL id) = (e2, H2)) (k : K .normal e2 H2) : Runs call F kA LL pl (.region id ops false) e H K := Runs.region h (by rw [hm]; exact k)
theorem Runs.drw {id : Nat} {ops : Array Oper} {bl nm : List Nat} {segs : List Seg} (hp : pl id = some (bl, nm, segs)) {rs : List Nat} {e2 : List (Nat × V)} {H2 : List O} (h : runD call F kA ops.toList bl none segs e H = some (.go rs e' H')) (hm : endE F.n0 e' H' (LL id) = (e2, H2)) (k : K .normal e2 H2) : Runs call F kA LL pl (.region id ops true) e H K := Runs.draw hp h (by rw [hm]; exact k)
theorem Row.pan {o : Oper} {t : Nat} {cs : List D} (h : stepX call F kA ops e H o = some (.pan t cs e' H')) (k : K (.panic t cs) e' H') : Row call F kA L ops (o :: l) e H K := ⟨.pan t cs e' H', by simp only [runX, h], k⟩
/-- Before a guard: both ways. -/
theorem Row.guard {t : Nat} {b : Bool} (_ : Env.get e t = .c (.d (.bo b))) (h1 : b = true → Row call F kA L ops l e H K) (h2 : b = false → Row call F kA L ops l e H K) : Row call F kA L ops l e H K := by
  cases b with
  | true => exact h1 rfl
  | false => exact h2 rfl
end
theorem beq_t (b : Bool) : (b == true) = b := by cases b <;> rfl
theorem beq_f (b : Bool) : (b == false) = !b := by cases b <;> rfl
attribute [go_sem] pairKd runX runN stepX wantedX opX evV evO evK Env.get Env.put fE_eq fOs_eq writesH mergeE endE rowE boxRows runF setE C.norm args0 evBin evInt evStr evBo evAt evIdx evField evLoad evStore evUn evConv evLen evSlice evLo evHi evBuild fillC evBuildSlice evLookup evUpdate evAppend evSrc idxOk partsC partsD V.cells? evBytes callO ptrs refsVs refsCs V.refs C.refs O.refs reach inL subO O.live O.into V.into C.into idxIn capsIn retV V.out C.out subs' after updO O.out rowRefs sealAll sealD toD toDs lookE updE mapOf evCut runD opsOf guardsOf looksAt allLive evPlan calmStep calm evStep gtmp pureOp touched normK blockK tidy gcSub refsE intoE keysE List.getElem?_cons_zero List.getElem?_cons_succ Option.map_some Option.map_none List.length_cons List.length_nil List.map_cons List.map_nil List.append_nil List.nil_append List.cons_append beq_t beq_f Bool.not_true Bool.not_false Bool.false_eq_true Option.getD_some Option.getD_none List.all_cons List.all_nil List.contains_cons List.contains_nil List.flatMap_cons List.flatMap_nil beq_self_eq_true Bool.true_or Bool.or_false Bool.or_true Bool.and_true Bool.true_and Bool.false_and Bool.and_false Bool.false_or List.length_append List.drop_zero List.drop_succ_cons List.take_succ_cons List.take_zero List.set_cons_zero List.set_cons_succ List.range'_zero List.range'_succ Nat.sub_self Nat.lt_irrefl splice Kd.agg
end Go.Proofs.YtmkacifjegnehaaDoor.Ab
