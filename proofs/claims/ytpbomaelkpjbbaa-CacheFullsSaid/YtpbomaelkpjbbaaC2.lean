import Derived.Test.YtpbomaelkpjbbaaC1
namespace Go.Proofs.Ytpbomaelkpjbbaa
open Go.Fw
attribute [local irreducible] T TL TG Thn Blk Rnd RndI RetQ OpV OpE OpU OpK Ctr row cel ep
theorem cmpOr3 (m : Bool) (v : Value) (x y z : Int) : Ctr Try.prog 134 #[v] [row m 3 1 v [[.int .i64 x], [.int .i64 y], [.int .i64 z]]] fun u L => u = .int .i64 (orI [x, y, z]) ∧ L = [row m 3 1 v [[.int .i64 x], [.int .i64 y], [.int .i64 z]]] :=
  cmpOr m v [x, y, z] (by simp)
theorem cmpOr2 (m : Bool) (v : Value) (x y : Int) : Ctr Try.prog 134 #[v] [row m 3 1 v [[.int .i64 x], [.int .i64 y]]] fun u L => u = .int .i64 (orI [x, y]) ∧ L = [row m 3 1 v [[.int .i64 x], [.int .i64 y]]] :=
  cmpOr m v [x, y] (by simp)
structure MStamp where
  t : Int
  node : Int
  n : Int
  deriving DecidableEq
def MStamp.C (s : MStamp) : List Value := [.int .i64 s.t, .int .i64 s.node, .int .i64 s.n]
def MStamp.V (s : MStamp) : Value := .agg s.C.toArray
def sLess (a b : MStamp) : Bool := decide (orI [cmpI a.t b.t, cmpI a.n b.n, cmpI a.node b.node] < 0)
theorem stamp_Less (a b : MStamp) : Ctr Try.prog 79 #[a.V, b.V] [] fun v L => v = .bool (sLess a b) ∧ L = [] := by
  simp only [MStamp.V, MStamp.C]
  refine Ctr.of (n := 23) (args := [_, _]) Try.func79 rfl rfl rfl fun F => ?_
  simp only [List.zipIdx_cons, List.zipIdx_nil, List.map_cons, List.map_nil, Nat.zero_add, Nat.reduceAdd, List.cons_append, List.nil_append]
  repeat (first
    | with_reducible apply T.seq
    | with_reducible apply T.region
    | with_reducible apply TL.nil
    | with_reducible apply Thn.normal
    | with_reducible apply Thn.ret
    | with_reducible apply Thn.exit
    | with_reducible apply Blk.normal
    | with_reducible apply Blk.ret
    | ((with_reducible refine Blk.exitE ?_ ?_); · rfl)
    | ((with_reducible refine Blk.exitN ?_ ?_); · rfl)
    | with_reducible apply Rnd.ret
    | with_reducible apply Rnd.exit
    | with_reducible apply RndI.ret
    | with_reducible apply RndI.exit
    | with_reducible apply ThnI.ret
    | with_reducible apply ThnI.exit
    | with_reducible apply T.skip
    | with_reducible apply T.block
    | with_reducible apply T.ret
    | with_reducible apply T.exit
    | refine T.condT (h := ?_)
    | refine T.condF (h := ?_)
    | refine TL.pass (k := ?_)
    | refine TL.passN (k := ?_)
    | refine TL.take (k := ?_)
    | (refine TL.e (h := .bx) (k := ?_); rintro _ _ ⟨_, rfl, rfl⟩)
    | refine TL.q (h := .assign) (k := ?_))
  all_goals refine TG.start (i := 1) mixed rfl ?_
  all_goals (first
    | refine TG.q0 0 (ho := rfl) (hv := .yes (h := .fieldAddr)) (k := ?_)
    | refine TG.qFieldEp 0 (ho := rfl) (h := ?_)
    | refine TG.lv 0 (ho := rfl) (hv := .fieldAddr) (k := ?_)
    | refine TG.lv 0 (ho := rfl) (hv := .fieldEp) (k := ?_))
  all_goals (first
    | refine TG.qLoad 1 (ho := rfl) (k := ?_)
    | refine TG.qLoadEp 1 (ho := rfl) (h := ?_)
    | refine TG.lv 1 (ho := rfl) (hv := .load) (k := ?_)
    | refine TG.lv 1 (ho := rfl) (hv := .loadEp) (k := ?_))
  all_goals (first
    | refine TG.q0 2 (ho := rfl) (hv := .yes (h := .fieldAddr)) (k := ?_)
    | refine TG.qFieldEp 2 (ho := rfl) (h := ?_)
    | refine TG.lv 2 (ho := rfl) (hv := .fieldAddr) (k := ?_)
    | refine TG.lv 2 (ho := rfl) (hv := .fieldEp) (k := ?_))
  all_goals (first
    | refine TG.qLoad 3 (ho := rfl) (k := ?_)
    | refine TG.qLoadEp 3 (ho := rfl) (h := ?_)
    | refine TG.lv 3 (ho := rfl) (hv := .load) (k := ?_)
    | refine TG.lv 3 (ho := rfl) (hv := .loadEp) (k := ?_))
  all_goals (first
    | refine TG.q0 5 (ho := rfl) (hv := .yes (h := .fieldAddr)) (k := ?_)
    | refine TG.qFieldEp 5 (ho := rfl) (h := ?_)
    | refine TG.lv 5 (ho := rfl) (hv := .fieldAddr) (k := ?_)
    | refine TG.lv 5 (ho := rfl) (hv := .fieldEp) (k := ?_))
  all_goals (first
    | refine TG.qLoad 6 (ho := rfl) (k := ?_)
    | refine TG.qLoadEp 6 (ho := rfl) (h := ?_)
    | refine TG.lv 6 (ho := rfl) (hv := .load) (k := ?_)
    | refine TG.lv 6 (ho := rfl) (hv := .loadEp) (k := ?_))
  all_goals (first
    | refine TG.q0 7 (ho := rfl) (hv := .yes (h := .fieldAddr)) (k := ?_)
    | refine TG.qFieldEp 7 (ho := rfl) (h := ?_)
    | refine TG.lv 7 (ho := rfl) (hv := .fieldAddr) (k := ?_)
    | refine TG.lv 7 (ho := rfl) (hv := .fieldEp) (k := ?_))
  all_goals (first
    | refine TG.qLoad 8 (ho := rfl) (k := ?_)
    | refine TG.qLoadEp 8 (ho := rfl) (h := ?_)
    | refine TG.lv 8 (ho := rfl) (hv := .load) (k := ?_)
    | refine TG.lv 8 (ho := rfl) (hv := .loadEp) (k := ?_))
  all_goals (first
    | refine TG.q0 10 (ho := rfl) (hv := .yes (h := .fieldAddr)) (k := ?_)
    | refine TG.qFieldEp 10 (ho := rfl) (h := ?_)
    | refine TG.lv 10 (ho := rfl) (hv := .fieldAddr) (k := ?_)
    | refine TG.lv 10 (ho := rfl) (hv := .fieldEp) (k := ?_))
  all_goals (first
    | refine TG.qLoad 11 (ho := rfl) (k := ?_)
    | refine TG.qLoadEp 11 (ho := rfl) (h := ?_)
    | refine TG.lv 11 (ho := rfl) (hv := .load) (k := ?_)
    | refine TG.lv 11 (ho := rfl) (hv := .loadEp) (k := ?_))
  all_goals (first
    | refine TG.q0 12 (ho := rfl) (hv := .yes (h := .fieldAddr)) (k := ?_)
    | refine TG.qFieldEp 12 (ho := rfl) (h := ?_)
    | refine TG.lv 12 (ho := rfl) (hv := .fieldAddr) (k := ?_)
    | refine TG.lv 12 (ho := rfl) (hv := .fieldEp) (k := ?_))
  all_goals (first
    | refine TG.qLoad 13 (ho := rfl) (k := ?_)
    | refine TG.qLoadEp 13 (ho := rfl) (h := ?_)
    | refine TG.lv 13 (ho := rfl) (hv := .load) (k := ?_)
    | refine TG.lv 13 (ho := rfl) (hv := .loadEp) (k := ?_))
  all_goals (first
    | (refine TG.ld 4 (ho := rfl) (hK := .callF (h := compare_int64 _ _)) (k := ?_); rintro _ _ ⟨_, rfl, rfl, rfl⟩; refine ⟨by (repeat (first | exact Held.nil | apply Held.zero | (apply Held.one; (repeat (first | exact Pick.here | apply Pick.there))))), ?_⟩))
  all_goals (first
    | (refine TG.ld 9 (ho := rfl) (hK := .callF (h := compare_int64 _ _)) (k := ?_); rintro _ _ ⟨_, rfl, rfl, rfl⟩; refine ⟨by (repeat (first | exact Held.nil | apply Held.zero | (apply Held.one; (repeat (first | exact Pick.here | apply Pick.there))))), ?_⟩))
  all_goals (first
    | (refine TG.ld 14 (ho := rfl) (hK := .callF (h := compare_int _ _)) (k := ?_); rintro _ _ ⟨_, rfl, rfl, rfl⟩; refine ⟨by (repeat (first | exact Held.nil | apply Held.zero | (apply Held.one; (repeat (first | exact Pick.here | apply Pick.there))))), ?_⟩))
  all_goals (first
    | (refine TG.ld 15 (ho := rfl) (hK := .ofE (h := .bs)) (k := ?_); rintro _ _ ⟨_, rfl, rfl⟩; refine ⟨by (repeat (first | exact Held.nil | apply Held.zero | (apply Held.one; (repeat (first | exact Pick.here | apply Pick.there))))), ?_⟩))
  all_goals (first
    | (refine TG.ld 16 (ho := rfl) (hK := .callF (h := cmpOr2 _ _ _ _)) (k := ?_); rintro _ _ ⟨_, rfl, rfl, rfl⟩; refine ⟨by (repeat (first | exact Held.nil | apply Held.zero | (apply Held.one; (repeat (first | exact Pick.here | apply Pick.there))))), ?_⟩)
    | (refine TG.ld 16 (ho := rfl) (hK := .callF (h := cmpOr3 _ _ _ _ _)) (k := ?_); rintro _ _ ⟨_, rfl, rfl, rfl⟩; refine ⟨by (repeat (first | exact Held.nil | apply Held.zero | (apply Held.one; (repeat (first | exact Pick.here | apply Pick.there))))), ?_⟩))
  all_goals (first
    | refine TG.q0 17 (ho := rfl) (hv := .yes (h := .binI)) (k := ?_)
    | refine TG.q0 17 (ho := rfl) (hv := .yes (h := .binS)) (k := ?_)
    | refine TG.lv 17 (ho := rfl) (hv := .binI) (k := ?_)
    | refine TG.lv 17 (ho := rfl) (hv := .binS) (k := ?_))
  all_goals (first
    | refine TG.q0 18 (ho := rfl) (hv := .yes (h := .assign)) (k := ?_)
    | refine TG.lv 18 (ho := rfl) (hv := .assign) (k := ?_))
  all_goals apply TG.fin rfl
  repeat (first
    | with_reducible apply T.seq
    | with_reducible apply T.region
    | with_reducible apply TL.nil
    | with_reducible apply Thn.normal
    | with_reducible apply Thn.ret
    | with_reducible apply Thn.exit
    | with_reducible apply Blk.normal
    | with_reducible apply Blk.ret
    | ((with_reducible refine Blk.exitE ?_ ?_); · rfl)
    | ((with_reducible refine Blk.exitN ?_ ?_); · rfl)
    | with_reducible apply Rnd.ret
    | with_reducible apply Rnd.exit
    | with_reducible apply RndI.ret
    | with_reducible apply RndI.exit
    | with_reducible apply ThnI.ret
    | with_reducible apply ThnI.exit
    | with_reducible apply T.skip
    | with_reducible apply T.block
    | with_reducible apply T.ret
    | with_reducible apply T.exit
    | refine T.condT (h := ?_)
    | refine T.condF (h := ?_)
    | refine TL.pass (k := ?_)
    | refine TL.passN (k := ?_)
    | refine TL.take (k := ?_)
    | (refine TL.e (h := .bx) (k := ?_); rintro _ _ ⟨_, rfl, rfl⟩)
    | refine TL.q (h := .assign) (k := ?_))
  first | refine RetQ.retI (L := []) (ResIs.r1 Try.results79 (RV.tmp)) (by (repeat (first | exact Picks.nil | (apply Picks.cons; (repeat (first | exact Pick.here | apply Pick.there)))))) ⟨rfl, rfl⟩ | refine RetQ.norI (L := []) (ResIs.r1 Try.results79 (RV.tmp)) (by (repeat (first | exact Picks.nil | (apply Picks.cons; (repeat (first | exact Pick.here | apply Pick.there)))))) ⟨rfl, rfl⟩
end Go.Proofs.Ytpbomaelkpjbbaa

