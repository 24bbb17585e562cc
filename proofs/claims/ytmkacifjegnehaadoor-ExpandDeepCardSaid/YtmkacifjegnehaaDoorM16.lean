import Derived.Test.YtmkacifjegnehaaDoorUp
namespace Go.Proofs.YtmkacifjegnehaaDoor
open Go Go.Proofs Go.Proofs.YtmkacifjegnehaaDoor.Ab
set_option linter.unusedSimpArgs false
set_option linter.unusedVariables false
set_option maxRecDepth 10000
set_option maxHeartbeats 8000000
def awakeT : Bytes := [98, 121, 116, 101, 32, 120, 59, 32, 105, 110, 108, 105, 110, 101, 32, 97, 100, 100, 40, 97, 44, 32, 110, 41, 32, 123, 32, 98, 121, 116, 101, 32, 116, 59, 32, 116, 32, 61, 32, 110, 59, 32, 97, 32, 61, 32, 97, 32, 43, 32, 116, 32, 125, 32, 105, 110, 105, 116, 32, 123, 32, 97, 100, 100, 40, 120, 44, 32, 51, 41, 32, 125]

theorem W5 {n : Nat} {l : List Uni} {m : MS} {u0 u1 : Uni} {s0 s1 s2 s3 : Stmt} {v : DVar} (h6 : parseP n awakeT = some (l, 0, 0)) (h7 : inlX 200 l = some (.ok [u0, u1] m)) (h1 : u1.body = [s0]) (h2 : s0.kind = 14) (h3 : s0.body = [s1, s2, s3]) (h4 : s1.decl.vars = [v]) (h5 : v.name = [116, 35, 49]) : callW ip2 5 [] [] = some (.ret [bI true], []) := by
 have w6 := V6 h6
 have w7 := V7 h7
 try dsimp only [res7] at w7
 simp only [awakeT] at w6
 simp only [slV] at w7
 refine callW_runs (fn := Tryd.f5) (L := long5) (nt := 88) (n0 := 0) (T := tab) (rw' := []) (kA := keepA) Tryd.func5 rfl rfl rfl rfl rfl rfl rfl rfl rfl ?_
 refine Runs.seq ?_
 refine Runs.reg (by simp only [go_sem, seval, List.append_eq, List.cons_append, List.nil_append, h1, h2, h3, h4, h5, List.length_map]; rfl) (by simp only [long5, go_sem, seval]; rfl) ?_
 refine Runs.seq ?_
 refine Runs.reg (by simp only [go_sem, seval, List.append_eq, List.cons_append, List.nil_append, h1, h2, h3, h4, h5, List.length_map, w6]; rfl) (by simp only [long5, go_sem, seval]; rfl) ?_
 refine Runs.seq ?_
 refine Runs.reg (by simp only [go_sem, seval, List.append_eq, List.cons_append, List.nil_append, h1, h2, h3, h4, h5, List.length_map, w7]; rfl) (by simp only [long5, go_sem, seval]; rfl) ?_
 refine Runs.seq ?_
 refine Runs.row ?_
 refine Row.run 75 (by simp only [go_sem, seval, List.append_eq, List.cons_append, List.nil_append, h1, h2, h3, h4, h5, List.length_map]; rfl) ?_
 refine Row.end_ (by simp only [long5, go_sem, seval]; rfl) ?_
 refine Runs.ret ?_
 first
 | rfl
 | (exact fk (res := [.tmp 0]) rfl rfl rfl (by simp only [fin1, go_sem, seval, List.append_eq, List.cons_append, List.nil_append, h1, h2, h3, h4, h5, List.length_map]; try rfl))
def awakeCk : Bool := match parseP 200 awakeT with
  | some (l, 0, 0) => match inlX 200 l with
    | some (.ok [_, u1] _) => match u1.body with
      | [s0] => match s0.body with
        | [s1, _, _] => match s1.decl.vars with
          | [v] => s0.kind == 14 && v.name == [116, 35, 49]
          | _ => false
        | _ => false
      | _ => false
    | _ => false
  | _ => false
theorem awake_ck : awakeCk = true := by decide +kernel
theorem W5T : callW ip2 5 [] [] = some (.ret [bI true], []) := by
 have h := awake_ck
 unfold awakeCk at h
 split at h
 ·
  rename_i l h6
  split at h
  ·
   rename_i u0 u1 m h7
   split at h
   ·
    rename_i s0 h1
    split at h
    ·
     rename_i s1 s2 s3 h3
     split at h
     ·
      rename_i v h4
      simp only [Bool.and_eq_true, beq_iff_eq] at h
      exact W5 h6 h7 h1 h.1 h3 h4 h.2
     · cases h
    · cases h
   · cases h
  · cases h
 · cases h
end Go.Proofs.YtmkacifjegnehaaDoor
