import Derived.Test.YtpbomaelkpjbbaaC1
import Derived.Test.YtpbomaelkpjbbaaFwArr
namespace Go.Proofs.Ytpbomaelkpjbbaa
open Go.Fw
attribute [local irreducible] T TL TG Thn ThnI Blk Rnd RndI RetQ OpV OpE OpU OpK Ctr row cel ep
def within (x lo hi : Int) : Int := if lo ≤ x ∧ x ≤ hi then x else lo + (x.tmod (hi - lo + 1) + if x.tmod (hi - lo + 1) < 0 then hi - lo + 1 else 0)
theorem book_Within (x lo hi : Int) (h : 0 ≤ lo ∧ lo ≤ hi ∧ hi ≤ 1000000000000) (hx : -9223372036854775808 ≤ x ∧ x ≤ 9223372036854775807) : Ctr Try.prog 55 #[.int .i64 x, .int .i64 lo, .int .i64 hi] [] fun v L => v = .int .i64 (within x lo hi) ∧ L = [] := by
  have hne : ¬ (hi - lo + 1 = 0) := by omega
  have hm1 : -(hi - lo + 1) < x.tmod (hi - lo + 1) := by have := Int.lt_tmod_of_pos x (show 0 < hi - lo + 1 by omega); omega
  have hm2 : x.tmod (hi - lo + 1) < hi - lo + 1 := Int.tmod_lt_of_pos x (by omega)
  refine Ctr.of (n := 33) (args := [_, _, _]) Try.func55 rfl rfl rfl fun F => ?_
  simp only [List.zipIdx_cons, List.zipIdx_nil, List.map_cons, List.map_nil, Nat.zero_add, Nat.reduceAdd, List.cons_append, List.nil_append]
  repeat' (first
    | with_reducible apply T.seq
    | with_reducible apply T.region
    | with_reducible apply TL.nil
    | with_reducible apply Thn.normal
    | with_reducible apply Thn.ret
    | with_reducible apply Thn.exit
    | with_reducible apply Blk.normal
    | with_reducible apply Blk.ret
    | ((with_reducible refine Blk.exitE ?_ ?_); · rfl)
    | ((with_reducible refine Blk.exitN ?_ ?_); · rfl)
    | with_reducible apply Rnd.ret
    | with_reducible apply Rnd.exit
    | with_reducible apply RndI.ret
    | with_reducible apply RndI.exit
    | with_reducible apply ThnI.ret
    | with_reducible apply ThnI.exit
    | with_reducible apply T.skip
    | with_reducible apply T.block
    | with_reducible apply T.ret
    | with_reducible apply T.exit
    | refine T.condT (h := ?_)
    | refine T.condF (h := ?_)
    | refine TL.pass (k := ?_)
    | refine TL.passN (k := ?_)
    | refine TL.take (k := ?_)
    | refine TL.q (h := .assign) (k := ?_)
    | refine TL.q (h := .move) (k := ?_)
    | refine TL.q (h := .pickT) (k := ?_)
    | refine TL.q (h := .pickF) (k := ?_)
    | refine TL.q (h := .sub) (k := ?_)
    | refine TL.q (h := .add) (k := ?_)
    | refine TL.q (h := .catS) (k := ?_)
    | refine TL.q (h := .rem) (k := ?_)
    | refine TL.q (h := .binI) (k := ?_)
    | refine TL.q (h := .binS) (k := ?_)
    | refine TL.q (h := .pickB) (k := ?_)
    | refine TL.gT (k := ?_)
    | refine TL.gF (k := ?_)
    | refine T.cT (h := ?_)
    | refine T.cF (h := ?_)
    | (refine TL.gcase (ht := fun _ => ?_) (hf := fun _ => ?_))
    | refine T.cond (by (simp only [St.ev, slk, Nat.reduceBEq, cond_true, cond_false]; first | done | rfl)) (fun _ => ?_) (fun _ => ?_))
  all_goals ((first | refine RetQ.retI (L := []) (ResIs.r1 Try.results55 (RV.tmp)) (by (repeat (first | exact Picks.nil | (apply Picks.cons; (repeat (first | exact Pick.here | apply Pick.there)))))) ?_ | refine RetQ.norI (L := []) (ResIs.r1 Try.results55 (RV.tmp)) (by (repeat (first | exact Picks.nil | (apply Picks.cons; (repeat (first | exact Pick.here | apply Pick.there)))))) ?_)
             refine ⟨?_, rfl⟩
             simp only [decide_eq_true_eq, decide_eq_false_iff_not, within] at *
             generalize x.tmod (hi - lo + 1) = r at *
             congr 1
             split <;> (try split) <;> omega)
theorem within_ge {v lo hi : Int} (h : lo ≤ hi) : lo ≤ within v lo hi := by
  have h1 : -(hi - lo + 1) < v.tmod (hi - lo + 1) := by have := Int.lt_tmod_of_pos v (show 0 < hi - lo + 1 by omega); omega
  unfold within
  generalize v.tmod (hi - lo + 1) = r at *
  split <;> (try split) <;> omega
end Go.Proofs.Ytpbomaelkpjbbaa

