import Derived.Test.YtpbomaelkpjbbaaC0
import Derived.Test.YtpbomaelkpjbbaaFwMore
import Derived.Test.YtpbomaelkpjbbaaFwTys
namespace Go.Proofs.Ytpbomaelkpjbbaa
open Go.Fw
attribute [local irreducible] T TL TG Thn Blk Rnd RetQ OpV OpE OpU OpK Ctr row cel ep
theorem isNaN_int (x : Int) : Ctr Try.prog 158 #[.int .i64 x] [] fun v L => v = .bool false ∧ L = [] := by
  refine Ctr.of (n := 6) (args := [.int .i64 x]) Try.func158 rfl rfl rfl fun F => ?_
  simp only [List.zipIdx_cons, List.zipIdx_nil, List.map_cons, List.map_nil, Nat.zero_add, Nat.reduceAdd, List.cons_append, List.nil_append]
  repeat (first
    | with_reducible apply T.seq
    | with_reducible apply T.region
    | with_reducible apply TL.nil
    | with_reducible apply Thn.normal
    | with_reducible apply Thn.ret
    | with_reducible apply Thn.exit
    | with_reducible apply Blk.normal
    | with_reducible apply Blk.ret
    | ((with_reducible refine Blk.exitE ?_ ?_); · rfl)
    | ((with_reducible refine Blk.exitN ?_ ?_); · rfl)
    | with_reducible apply Rnd.ret
    | with_reducible apply Rnd.exit
    | with_reducible apply RndI.ret
    | with_reducible apply RndI.exit
    | with_reducible apply ThnI.ret
    | with_reducible apply ThnI.exit
    | with_reducible apply T.skip
    | with_reducible apply T.block
    | with_reducible apply T.ret
    | with_reducible apply T.exit
    | refine T.condT (h := ?_)
    | refine T.condF (h := ?_)
    | refine TL.pass (k := ?_)
    | refine TL.passN (k := ?_)
    | refine TL.take (k := ?_)
    | refine TL.q (h := .assign) (k := ?_)
    | refine TL.q (h := .move) (k := ?_)
    | refine TL.q (h := .binI) (k := ?_))
  first | refine RetQ.retI (L := []) (ResIs.r1 Try.results158 (RV.tmp)) (by (repeat (first | exact Picks.nil | (apply Picks.cons; (repeat (first | exact Pick.here | apply Pick.there)))))) ⟨by simp, rfl⟩ | refine RetQ.norI (L := []) (ResIs.r1 Try.results158 (RV.tmp)) (by (repeat (first | exact Picks.nil | (apply Picks.cons; (repeat (first | exact Pick.here | apply Pick.there)))))) ⟨by simp, rfl⟩
def cmpI (x y : Int) : Int := if x < y then -1 else if x > y then 1 else 0
theorem compare_int (x y : Int) : Ctr Try.prog 136 #[.int .i64 x, .int .i64 y] [] fun v L => v = .int .i64 (cmpI x y) ∧ L = [] := by
  refine Ctr.of (n := 20) (args := [.int .i64 x, .int .i64 y]) Try.func136 rfl rfl rfl fun F => ?_
  simp only [List.zipIdx_cons, List.zipIdx_nil, List.map_cons, List.map_nil, Nat.zero_add, Nat.reduceAdd, List.cons_append, List.nil_append]
  repeat (first
    | with_reducible apply T.seq
    | with_reducible apply T.region
    | with_reducible apply TL.nil
    | with_reducible apply Thn.normal
    | with_reducible apply Thn.ret
    | with_reducible apply Thn.exit
    | with_reducible apply Blk.normal
    | with_reducible apply Blk.ret
    | ((with_reducible refine Blk.exitE ?_ ?_); · rfl)
    | ((with_reducible refine Blk.exitN ?_ ?_); · rfl)
    | with_reducible apply Rnd.ret
    | with_reducible apply Rnd.exit
    | with_reducible apply RndI.ret
    | with_reducible apply RndI.exit
    | with_reducible apply ThnI.ret
    | with_reducible apply ThnI.exit
    | with_reducible apply T.skip
    | with_reducible apply T.block
    | with_reducible apply T.ret
    | with_reducible apply T.exit
    | refine T.condT (h := ?_)
    | refine T.condF (h := ?_)
    | refine TL.pass (k := ?_)
    | refine TL.passN (k := ?_)
    | refine TL.take (k := ?_)
    | refine TL.q (h := .assign) (k := ?_)
    | refine TL.q (h := .move) (k := ?_)
    | refine TL.q (h := .binI) (k := ?_)
    | refine TL.q (h := .binS) (k := ?_))
  refine TL.callF (h := isNaN_int x) (k := ?_)
  rintro v L ⟨rfl, rfl⟩
  repeat (first
    | with_reducible apply T.seq
    | with_reducible apply T.region
    | with_reducible apply TL.nil
    | with_reducible apply Thn.normal
    | with_reducible apply Thn.ret
    | with_reducible apply Thn.exit
    | with_reducible apply Blk.normal
    | with_reducible apply Blk.ret
    | ((with_reducible refine Blk.exitE ?_ ?_); · rfl)
    | ((with_reducible refine Blk.exitN ?_ ?_); · rfl)
    | with_reducible apply Rnd.ret
    | with_reducible apply Rnd.exit
    | with_reducible apply RndI.ret
    | with_reducible apply RndI.exit
    | with_reducible apply ThnI.ret
    | with_reducible apply ThnI.exit
    | with_reducible apply T.skip
    | with_reducible apply T.block
    | with_reducible apply T.ret
    | with_reducible apply T.exit
    | refine T.condT (h := ?_)
    | refine T.condF (h := ?_)
    | refine TL.pass (k := ?_)
    | refine TL.passN (k := ?_)
    | refine TL.take (k := ?_)
    | refine TL.q (h := .assign) (k := ?_)
    | refine TL.q (h := .move) (k := ?_)
    | refine TL.q (h := .binI) (k := ?_)
    | refine TL.q (h := .binS) (k := ?_))
  refine TL.callF (h := isNaN_int y) (k := ?_)
  rintro v L ⟨rfl, rfl⟩
  repeat (first
    | with_reducible apply T.seq
    | with_reducible apply T.region
    | with_reducible apply TL.nil
    | with_reducible apply Thn.normal
    | with_reducible apply Thn.ret
    | with_reducible apply Thn.exit
    | with_reducible apply Blk.normal
    | with_reducible apply Blk.ret
    | ((with_reducible refine Blk.exitE ?_ ?_); · rfl)
    | ((with_reducible refine Blk.exitN ?_ ?_); · rfl)
    | with_reducible apply Rnd.ret
    | with_reducible apply Rnd.exit
    | with_reducible apply RndI.ret
    | with_reducible apply RndI.exit
    | with_reducible apply ThnI.ret
    | with_reducible apply ThnI.exit
    | with_reducible apply T.skip
    | with_reducible apply T.block
    | with_reducible apply T.ret
    | with_reducible apply T.exit
    | refine T.condT (h := ?_)
    | refine T.condF (h := ?_)
    | refine TL.pass (k := ?_)
    | refine TL.passN (k := ?_)
    | refine TL.take (k := ?_)
    | refine TL.q (h := .assign) (k := ?_)
    | refine TL.q (h := .move) (k := ?_)
    | refine TL.q (h := .binI) (k := ?_)
    | refine TL.q (h := .binS) (k := ?_))
  refine T.condD (by (simp only [St.ev, slk, Nat.reduceBEq, cond_true, cond_false]; first | done | rfl)) (fun h => ?_) (fun h => ?_)
  · skip
    repeat (first
      | with_reducible apply T.seq
      | with_reducible apply T.region
      | with_reducible apply TL.nil
      | with_reducible apply Thn.normal
      | with_reducible apply Thn.ret
      | with_reducible apply Thn.exit
      | with_reducible apply Blk.normal
      | with_reducible apply Blk.ret
      | ((with_reducible refine Blk.exitE ?_ ?_); · rfl)
      | ((with_reducible refine Blk.exitN ?_ ?_); · rfl)
      | with_reducible apply Rnd.ret
      | with_reducible apply Rnd.exit
      | with_reducible apply RndI.ret
      | with_reducible apply RndI.exit
      | with_reducible apply ThnI.ret
      | with_reducible apply ThnI.exit
      | with_reducible apply T.skip
      | with_reducible apply T.block
      | with_reducible apply T.ret
      | with_reducible apply T.exit
      | refine T.condT (h := ?_)
      | refine T.condF (h := ?_)
      | refine TL.pass (k := ?_)
      | refine TL.passN (k := ?_)
      | refine TL.take (k := ?_)
      | refine TL.q (h := .assign) (k := ?_)
      | refine TL.q (h := .move) (k := ?_)
      | refine TL.q (h := .binI) (k := ?_)
      | refine TL.q (h := .binS) (k := ?_))
    first | refine RetQ.retI (L := []) (ResIs.r1 Try.results136 (RV.tmp)) (by (repeat (first | exact Picks.nil | (apply Picks.cons; (repeat (first | exact Pick.here | apply Pick.there)))))) ⟨by simp [cmpI, h], rfl⟩ | refine RetQ.norI (L := []) (ResIs.r1 Try.results136 (RV.tmp)) (by (repeat (first | exact Picks.nil | (apply Picks.cons; (repeat (first | exact Pick.here | apply Pick.there)))))) ⟨by simp [cmpI, h], rfl⟩
  · skip
    repeat (first
      | with_reducible apply T.seq
      | with_reducible apply T.region
      | with_reducible apply TL.nil
      | with_reducible apply Thn.normal
      | with_reducible apply Thn.ret
      | with_reducible apply Thn.exit
      | with_reducible apply Blk.normal
      | with_reducible apply Blk.ret
      | ((with_reducible refine Blk.exitE ?_ ?_); · rfl)
      | ((with_reducible refine Blk.exitN ?_ ?_); · rfl)
      | with_reducible apply Rnd.ret
      | with_reducible apply Rnd.exit
      | with_reducible apply RndI.ret
      | with_reducible apply RndI.exit
      | with_reducible apply ThnI.ret
      | with_reducible apply ThnI.exit
      | with_reducible apply T.skip
      | with_reducible apply T.block
      | with_reducible apply T.ret
      | with_reducible apply T.exit
      | refine T.condT (h := ?_)
      | refine T.condF (h := ?_)
      | refine TL.pass (k := ?_)
      | refine TL.passN (k := ?_)
      | refine TL.take (k := ?_)
      | refine TL.q (h := .assign) (k := ?_)
      | refine TL.q (h := .move) (k := ?_)
      | refine TL.q (h := .binI) (k := ?_)
      | refine TL.q (h := .binS) (k := ?_))
    refine T.condD (by (simp only [St.ev, slk, Nat.reduceBEq, cond_true, cond_false]; first | done | rfl)) (fun h' => ?_) (fun h' => ?_)
    · skip
      repeat (first
        | with_reducible apply T.seq
        | with_reducible apply T.region
        | with_reducible apply TL.nil
        | with_reducible apply Thn.normal
        | with_reducible apply Thn.ret
        | with_reducible apply Thn.exit
        | with_reducible apply Blk.normal
        | with_reducible apply Blk.ret
        | ((with_reducible refine Blk.exitE ?_ ?_); · rfl)
        | ((with_reducible refine Blk.exitN ?_ ?_); · rfl)
        | with_reducible apply Rnd.ret
        | with_reducible apply Rnd.exit
        | with_reducible apply RndI.ret
        | with_reducible apply RndI.exit
        | with_reducible apply ThnI.ret
        | with_reducible apply ThnI.exit
        | with_reducible apply T.skip
        | with_reducible apply T.block
        | with_reducible apply T.ret
        | with_reducible apply T.exit
        | refine T.condT (h := ?_)
        | refine T.condF (h := ?_)
        | refine TL.pass (k := ?_)
        | refine TL.passN (k := ?_)
        | refine TL.take (k := ?_)
        | refine TL.q (h := .assign) (k := ?_)
        | refine TL.q (h := .move) (k := ?_)
        | refine TL.q (h := .binI) (k := ?_)
        | refine TL.q (h := .binS) (k := ?_))
      first | refine RetQ.retI (L := []) (ResIs.r1 Try.results136 (RV.tmp)) (by (repeat (first | exact Picks.nil | (apply Picks.cons; (repeat (first | exact Pick.here | apply Pick.there)))))) ⟨by simp [cmpI, h, h'], rfl⟩ | refine RetQ.norI (L := []) (ResIs.r1 Try.results136 (RV.tmp)) (by (repeat (first | exact Picks.nil | (apply Picks.cons; (repeat (first | exact Pick.here | apply Pick.there)))))) ⟨by simp [cmpI, h, h'], rfl⟩
    · skip
      repeat (first
        | with_reducible apply T.seq
        | with_reducible apply T.region
        | with_reducible apply TL.nil
        | with_reducible apply Thn.normal
        | with_reducible apply Thn.ret
        | with_reducible apply Thn.exit
        | with_reducible apply Blk.normal
        | with_reducible apply Blk.ret
        | ((with_reducible refine Blk.exitE ?_ ?_); · rfl)
        | ((with_reducible refine Blk.exitN ?_ ?_); · rfl)
        | with_reducible apply Rnd.ret
        | with_reducible apply Rnd.exit
        | with_reducible apply RndI.ret
        | with_reducible apply RndI.exit
        | with_reducible apply ThnI.ret
        | with_reducible apply ThnI.exit
        | with_reducible apply T.skip
        | with_reducible apply T.block
        | with_reducible apply T.ret
        | with_reducible apply T.exit
        | refine T.condT (h := ?_)
        | refine T.condF (h := ?_)
        | refine TL.pass (k := ?_)
        | refine TL.passN (k := ?_)
        | refine TL.take (k := ?_)
        | refine TL.q (h := .assign) (k := ?_)
        | refine TL.q (h := .move) (k := ?_)
        | refine TL.q (h := .binI) (k := ?_)
        | refine TL.q (h := .binS) (k := ?_))
      first | refine RetQ.retI (L := []) (ResIs.r1 Try.results136 (RV.tmp)) (by (repeat (first | exact Picks.nil | (apply Picks.cons; (repeat (first | exact Pick.here | apply Pick.there)))))) ⟨by simp [cmpI, h, h'], rfl⟩ | refine RetQ.norI (L := []) (ResIs.r1 Try.results136 (RV.tmp)) (by (repeat (first | exact Picks.nil | (apply Picks.cons; (repeat (first | exact Pick.here | apply Pick.there)))))) ⟨by simp [cmpI, h, h'], rfl⟩
theorem isNaN_int64 (x : Int) : Ctr Try.prog 157 #[.int .i64 x] [] fun v L => v = .bool false ∧ L = [] := by
  refine Ctr.of (n := 6) (args := [.int .i64 x]) Try.func157 rfl rfl rfl fun F => ?_
  simp only [List.zipIdx_cons, List.zipIdx_nil, List.map_cons, List.map_nil, Nat.zero_add, Nat.reduceAdd, List.cons_append, List.nil_append]
  repeat (first
    | with_reducible apply T.seq
    | with_reducible apply T.region
    | with_reducible apply TL.nil
    | with_reducible apply Thn.normal
    | with_reducible apply Thn.ret
    | with_reducible apply Thn.exit
    | with_reducible apply Blk.normal
    | with_reducible apply Blk.ret
    | ((with_reducible refine Blk.exitE ?_ ?_); · rfl)
    | ((with_reducible refine Blk.exitN ?_ ?_); · rfl)
    | with_reducible apply Rnd.ret
    | with_reducible apply Rnd.exit
    | with_reducible apply RndI.ret
    | with_reducible apply RndI.exit
    | with_reducible apply ThnI.ret
    | with_reducible apply ThnI.exit
    | with_reducible apply T.skip
    | with_reducible apply T.block
    | with_reducible apply T.ret
    | with_reducible apply T.exit
    | refine T.condT (h := ?_)
    | refine T.condF (h := ?_)
    | refine TL.pass (k := ?_)
    | refine TL.passN (k := ?_)
    | refine TL.take (k := ?_)
    | refine TL.q (h := .assign) (k := ?_)
    | refine TL.q (h := .move) (k := ?_)
    | refine TL.q (h := .binI) (k := ?_))
  first | refine RetQ.retI (L := []) (ResIs.r1 Try.results157 (RV.tmp)) (by (repeat (first | exact Picks.nil | (apply Picks.cons; (repeat (first | exact Pick.here | apply Pick.there)))))) ⟨by simp, rfl⟩ | refine RetQ.norI (L := []) (ResIs.r1 Try.results157 (RV.tmp)) (by (repeat (first | exact Picks.nil | (apply Picks.cons; (repeat (first | exact Pick.here | apply Pick.there)))))) ⟨by simp, rfl⟩
theorem compare_int64 (x y : Int) : Ctr Try.prog 135 #[.int .i64 x, .int .i64 y] [] fun v L => v = .int .i64 (cmpI x y) ∧ L = [] := by
  refine Ctr.of (n := 20) (args := [.int .i64 x, .int .i64 y]) Try.func135 rfl rfl rfl fun F => ?_
  simp only [List.zipIdx_cons, List.zipIdx_nil, List.map_cons, List.map_nil, Nat.zero_add, Nat.reduceAdd, List.cons_append, List.nil_append]
  repeat (first
    | with_reducible apply T.seq
    | with_reducible apply T.region
    | with_reducible apply TL.nil
    | with_reducible apply Thn.normal
    | with_reducible apply Thn.ret
    | with_reducible apply Thn.exit
    | with_reducible apply Blk.normal
    | with_reducible apply Blk.ret
    | ((with_reducible refine Blk.exitE ?_ ?_); · rfl)
    | ((with_reducible refine Blk.exitN ?_ ?_); · rfl)
    | with_reducible apply Rnd.ret
    | with_reducible apply Rnd.exit
    | with_reducible apply RndI.ret
    | with_reducible apply RndI.exit
    | with_reducible apply ThnI.ret
    | with_reducible apply ThnI.exit
    | with_reducible apply T.skip
    | with_reducible apply T.block
    | with_reducible apply T.ret
    | with_reducible apply T.exit
    | refine T.condT (h := ?_)
    | refine T.condF (h := ?_)
    | refine TL.pass (k := ?_)
    | refine TL.passN (k := ?_)
    | refine TL.take (k := ?_)
    | refine TL.q (h := .assign) (k := ?_)
    | refine TL.q (h := .move) (k := ?_)
    | refine TL.q (h := .binI) (k := ?_)
    | refine TL.q (h := .binS) (k := ?_))
  refine TL.callF (h := isNaN_int64 x) (k := ?_)
  rintro v L ⟨rfl, rfl⟩
  repeat (first
    | with_reducible apply T.seq
    | with_reducible apply T.region
    | with_reducible apply TL.nil
    | with_reducible apply Thn.normal
    | with_reducible apply Thn.ret
    | with_reducible apply Thn.exit
    | with_reducible apply Blk.normal
    | with_reducible apply Blk.ret
    | ((with_reducible refine Blk.exitE ?_ ?_); · rfl)
    | ((with_reducible refine Blk.exitN ?_ ?_); · rfl)
    | with_reducible apply Rnd.ret
    | with_reducible apply Rnd.exit
    | with_reducible apply RndI.ret
    | with_reducible apply RndI.exit
    | with_reducible apply ThnI.ret
    | with_reducible apply ThnI.exit
    | with_reducible apply T.skip
    | with_reducible apply T.block
    | with_reducible apply T.ret
    | with_reducible apply T.exit
    | refine T.condT (h := ?_)
    | refine T.condF (h := ?_)
    | refine TL.pass (k := ?_)
    | refine TL.passN (k := ?_)
    | refine TL.take (k := ?_)
    | refine TL.q (h := .assign) (k := ?_)
    | refine TL.q (h := .move) (k := ?_)
    | refine TL.q (h := .binI) (k := ?_)
    | refine TL.q (h := .binS) (k := ?_))
  refine TL.callF (h := isNaN_int64 y) (k := ?_)
  rintro v L ⟨rfl, rfl⟩
  repeat (first
    | with_reducible apply T.seq
    | with_reducible apply T.region
    | with_reducible apply TL.nil
    | with_reducible apply Thn.normal
    | with_reducible apply Thn.ret
    | with_reducible apply Thn.exit
    | with_reducible apply Blk.normal
    | with_reducible apply Blk.ret
    | ((with_reducible refine Blk.exitE ?_ ?_); · rfl)
    | ((with_reducible refine Blk.exitN ?_ ?_); · rfl)
    | with_reducible apply Rnd.ret
    | with_reducible apply Rnd.exit
    | with_reducible apply RndI.ret
    | with_reducible apply RndI.exit
    | with_reducible apply ThnI.ret
    | with_reducible apply ThnI.exit
    | with_reducible apply T.skip
    | with_reducible apply T.block
    | with_reducible apply T.ret
    | with_reducible apply T.exit
    | refine T.condT (h := ?_)
    | refine T.condF (h := ?_)
    | refine TL.pass (k := ?_)
    | refine TL.passN (k := ?_)
    | refine TL.take (k := ?_)
    | refine TL.q (h := .assign) (k := ?_)
    | refine TL.q (h := .move) (k := ?_)
    | refine TL.q (h := .binI) (k := ?_)
    | refine TL.q (h := .binS) (k := ?_))
  refine T.condD (by (simp only [St.ev, slk, Nat.reduceBEq, cond_true, cond_false]; first | done | rfl)) (fun h => ?_) (fun h => ?_)
  · skip
    repeat (first
      | with_reducible apply T.seq
      | with_reducible apply T.region
      | with_reducible apply TL.nil
      | with_reducible apply Thn.normal
      | with_reducible apply Thn.ret
      | with_reducible apply Thn.exit
      | with_reducible apply Blk.normal
      | with_reducible apply Blk.ret
      | ((with_reducible refine Blk.exitE ?_ ?_); · rfl)
      | ((with_reducible refine Blk.exitN ?_ ?_); · rfl)
      | with_reducible apply Rnd.ret
      | with_reducible apply Rnd.exit
      | with_reducible apply RndI.ret
      | with_reducible apply RndI.exit
      | with_reducible apply ThnI.ret
      | with_reducible apply ThnI.exit
      | with_reducible apply T.skip
      | with_reducible apply T.block
      | with_reducible apply T.ret
      | with_reducible apply T.exit
      | refine T.condT (h := ?_)
      | refine T.condF (h := ?_)
      | refine TL.pass (k := ?_)
      | refine TL.passN (k := ?_)
      | refine TL.take (k := ?_)
      | refine TL.q (h := .assign) (k := ?_)
      | refine TL.q (h := .move) (k := ?_)
      | refine TL.q (h := .binI) (k := ?_)
      | refine TL.q (h := .binS) (k := ?_))
    first | refine RetQ.retI (L := []) (ResIs.r1 Try.results135 (RV.tmp)) (by (repeat (first | exact Picks.nil | (apply Picks.cons; (repeat (first | exact Pick.here | apply Pick.there)))))) ⟨by simp [cmpI, h], rfl⟩ | refine RetQ.norI (L := []) (ResIs.r1 Try.results135 (RV.tmp)) (by (repeat (first | exact Picks.nil | (apply Picks.cons; (repeat (first | exact Pick.here | apply Pick.there)))))) ⟨by simp [cmpI, h], rfl⟩
  · skip
    repeat (first
      | with_reducible apply T.seq
      | with_reducible apply T.region
      | with_reducible apply TL.nil
      | with_reducible apply Thn.normal
      | with_reducible apply Thn.ret
      | with_reducible apply Thn.exit
      | with_reducible apply Blk.normal
      | with_reducible apply Blk.ret
      | ((with_reducible refine Blk.exitE ?_ ?_); · rfl)
      | ((with_reducible refine Blk.exitN ?_ ?_); · rfl)
      | with_reducible apply Rnd.ret
      | with_reducible apply Rnd.exit
      | with_reducible apply RndI.ret
      | with_reducible apply RndI.exit
      | with_reducible apply ThnI.ret
      | with_reducible apply ThnI.exit
      | with_reducible apply T.skip
      | with_reducible apply T.block
      | with_reducible apply T.ret
      | with_reducible apply T.exit
      | refine T.condT (h := ?_)
      | refine T.condF (h := ?_)
      | refine TL.pass (k := ?_)
      | refine TL.passN (k := ?_)
      | refine TL.take (k := ?_)
      | refine TL.q (h := .assign) (k := ?_)
      | refine TL.q (h := .move) (k := ?_)
      | refine TL.q (h := .binI) (k := ?_)
      | refine TL.q (h := .binS) (k := ?_))
    refine T.condD (by (simp only [St.ev, slk, Nat.reduceBEq, cond_true, cond_false]; first | done | rfl)) (fun h' => ?_) (fun h' => ?_)
    · skip
      repeat (first
        | with_reducible apply T.seq
        | with_reducible apply T.region
        | with_reducible apply TL.nil
        | with_reducible apply Thn.normal
        | with_reducible apply Thn.ret
        | with_reducible apply Thn.exit
        | with_reducible apply Blk.normal
        | with_reducible apply Blk.ret
        | ((with_reducible refine Blk.exitE ?_ ?_); · rfl)
        | ((with_reducible refine Blk.exitN ?_ ?_); · rfl)
        | with_reducible apply Rnd.ret
        | with_reducible apply Rnd.exit
        | with_reducible apply RndI.ret
        | with_reducible apply RndI.exit
        | with_reducible apply ThnI.ret
        | with_reducible apply ThnI.exit
        | with_reducible apply T.skip
        | with_reducible apply T.block
        | with_reducible apply T.ret
        | with_reducible apply T.exit
        | refine T.condT (h := ?_)
        | refine T.condF (h := ?_)
        | refine TL.pass (k := ?_)
        | refine TL.passN (k := ?_)
        | refine TL.take (k := ?_)
        | refine TL.q (h := .assign) (k := ?_)
        | refine TL.q (h := .move) (k := ?_)
        | refine TL.q (h := .binI) (k := ?_)
        | refine TL.q (h := .binS) (k := ?_))
      first | refine RetQ.retI (L := []) (ResIs.r1 Try.results135 (RV.tmp)) (by (repeat (first | exact Picks.nil | (apply Picks.cons; (repeat (first | exact Pick.here | apply Pick.there)))))) ⟨by simp [cmpI, h, h'], rfl⟩ | refine RetQ.norI (L := []) (ResIs.r1 Try.results135 (RV.tmp)) (by (repeat (first | exact Picks.nil | (apply Picks.cons; (repeat (first | exact Pick.here | apply Pick.there)))))) ⟨by simp [cmpI, h, h'], rfl⟩
    · skip
      repeat (first
        | with_reducible apply T.seq
        | with_reducible apply T.region
        | with_reducible apply TL.nil
        | with_reducible apply Thn.normal
        | with_reducible apply Thn.ret
        | with_reducible apply Thn.exit
        | with_reducible apply Blk.normal
        | with_reducible apply Blk.ret
        | ((with_reducible refine Blk.exitE ?_ ?_); · rfl)
        | ((with_reducible refine Blk.exitN ?_ ?_); · rfl)
        | with_reducible apply Rnd.ret
        | with_reducible apply Rnd.exit
        | with_reducible apply RndI.ret
        | with_reducible apply RndI.exit
        | with_reducible apply ThnI.ret
        | with_reducible apply ThnI.exit
        | with_reducible apply T.skip
        | with_reducible apply T.block
        | with_reducible apply T.ret
        | with_reducible apply T.exit
        | refine T.condT (h := ?_)
        | refine T.condF (h := ?_)
        | refine TL.pass (k := ?_)
        | refine TL.passN (k := ?_)
        | refine TL.take (k := ?_)
        | refine TL.q (h := .assign) (k := ?_)
        | refine TL.q (h := .move) (k := ?_)
        | refine TL.q (h := .binI) (k := ?_)
        | refine TL.q (h := .binS) (k := ?_))
      first | refine RetQ.retI (L := []) (ResIs.r1 Try.results135 (RV.tmp)) (by (repeat (first | exact Picks.nil | (apply Picks.cons; (repeat (first | exact Pick.here | apply Pick.there)))))) ⟨by simp [cmpI, h, h'], rfl⟩ | refine RetQ.norI (L := []) (ResIs.r1 Try.results135 (RV.tmp)) (by (repeat (first | exact Picks.nil | (apply Picks.cons; (repeat (first | exact Pick.here | apply Pick.there)))))) ⟨by simp [cmpI, h, h'], rfl⟩
theorem isNaN_string (x : ByteArray) : Ctr Try.prog 167 #[.string x] [] fun v L => v = .bool false ∧ L = [] := by
  refine Ctr.of (n := 6) (args := [.string x]) Try.func167 rfl rfl rfl fun F => ?_
  simp only [List.zipIdx_cons, List.zipIdx_nil, List.map_cons, List.map_nil, Nat.zero_add, Nat.reduceAdd, List.cons_append, List.nil_append]
  repeat (first
    | with_reducible apply T.seq
    | with_reducible apply T.region
    | with_reducible apply TL.nil
    | with_reducible apply Thn.normal
    | with_reducible apply Thn.ret
    | with_reducible apply Thn.exit
    | with_reducible apply Blk.normal
    | with_reducible apply Blk.ret
    | ((with_reducible refine Blk.exitE ?_ ?_); · rfl)
    | ((with_reducible refine Blk.exitN ?_ ?_); · rfl)
    | with_reducible apply Rnd.ret
    | with_reducible apply Rnd.exit
    | with_reducible apply RndI.ret
    | with_reducible apply RndI.exit
    | with_reducible apply ThnI.ret
    | with_reducible apply ThnI.exit
    | with_reducible apply T.skip
    | with_reducible apply T.block
    | with_reducible apply T.ret
    | with_reducible apply T.exit
    | refine T.condT (h := ?_)
    | refine T.condF (h := ?_)
    | refine TL.pass (k := ?_)
    | refine TL.passN (k := ?_)
    | refine TL.take (k := ?_)
    | refine TL.q (h := .assign) (k := ?_)
    | refine TL.q (h := .move) (k := ?_)
    | refine TL.q (h := .binS) (k := ?_))
  first | refine RetQ.retI (L := []) (ResIs.r1 Try.results167 (RV.tmp)) (by (repeat (first | exact Picks.nil | (apply Picks.cons; (repeat (first | exact Pick.here | apply Pick.there)))))) ⟨by simp [bne, beq_toListBytes], rfl⟩ | refine RetQ.norI (L := []) (ResIs.r1 Try.results167 (RV.tmp)) (by (repeat (first | exact Picks.nil | (apply Picks.cons; (repeat (first | exact Pick.here | apply Pick.there)))))) ⟨by simp [bne, beq_toListBytes], rfl⟩
def ltS (x y : ByteArray) : Bool := Op.bytesLess x.toList y.toList
def cmpS (x y : ByteArray) : Int := if ltS x y = true then -1 else if (ltS x y || x == y) = false then 1 else 0
theorem compare_string (x y : ByteArray) : Ctr Try.prog 154 #[.string x, .string y] [] fun v L => v = .int .i64 (cmpS x y) ∧ L = [] := by
  refine Ctr.of (n := 20) (args := [.string x, .string y]) Try.func154 rfl rfl rfl fun F => ?_
  simp only [List.zipIdx_cons, List.zipIdx_nil, List.map_cons, List.map_nil, Nat.zero_add, Nat.reduceAdd, List.cons_append, List.nil_append]
  repeat (first
    | with_reducible apply T.seq
    | with_reducible apply T.region
    | with_reducible apply TL.nil
    | with_reducible apply Thn.normal
    | with_reducible apply Thn.ret
    | with_reducible apply Thn.exit
    | with_reducible apply Blk.normal
    | with_reducible apply Blk.ret
    | ((with_reducible refine Blk.exitE ?_ ?_); · rfl)
    | ((with_reducible refine Blk.exitN ?_ ?_); · rfl)
    | with_reducible apply Rnd.ret
    | with_reducible apply Rnd.exit
    | with_reducible apply RndI.ret
    | with_reducible apply RndI.exit
    | with_reducible apply ThnI.ret
    | with_reducible apply ThnI.exit
    | with_reducible apply T.skip
    | with_reducible apply T.block
    | with_reducible apply T.ret
    | with_reducible apply T.exit
    | refine T.condT (h := ?_)
    | refine T.condF (h := ?_)
    | refine TL.pass (k := ?_)
    | refine TL.passN (k := ?_)
    | refine TL.take (k := ?_)
    | refine TL.q (h := .assign) (k := ?_)
    | refine TL.q (h := .move) (k := ?_)
    | refine TL.q (h := .binI) (k := ?_)
    | refine TL.q (h := .binS) (k := ?_))
  refine TL.callF (h := isNaN_string x) (k := ?_)
  rintro v L ⟨rfl, rfl⟩
  repeat (first
    | with_reducible apply T.seq
    | with_reducible apply T.region
    | with_reducible apply TL.nil
    | with_reducible apply Thn.normal
    | with_reducible apply Thn.ret
    | with_reducible apply Thn.exit
    | with_reducible apply Blk.normal
    | with_reducible apply Blk.ret
    | ((with_reducible refine Blk.exitE ?_ ?_); · rfl)
    | ((with_reducible refine Blk.exitN ?_ ?_); · rfl)
    | with_reducible apply Rnd.ret
    | with_reducible apply Rnd.exit
    | with_reducible apply RndI.ret
    | with_reducible apply RndI.exit
    | with_reducible apply ThnI.ret
    | with_reducible apply ThnI.exit
    | with_reducible apply T.skip
    | with_reducible apply T.block
    | with_reducible apply T.ret
    | with_reducible apply T.exit
    | refine T.condT (h := ?_)
    | refine T.condF (h := ?_)
    | refine TL.pass (k := ?_)
    | refine TL.passN (k := ?_)
    | refine TL.take (k := ?_)
    | refine TL.q (h := .assign) (k := ?_)
    | refine TL.q (h := .move) (k := ?_)
    | refine TL.q (h := .binI) (k := ?_)
    | refine TL.q (h := .binS) (k := ?_))
  refine TL.callF (h := isNaN_string y) (k := ?_)
  rintro v L ⟨rfl, rfl⟩
  repeat (first
    | with_reducible apply T.seq
    | with_reducible apply T.region
    | with_reducible apply TL.nil
    | with_reducible apply Thn.normal
    | with_reducible apply Thn.ret
    | with_reducible apply Thn.exit
    | with_reducible apply Blk.normal
    | with_reducible apply Blk.ret
    | ((with_reducible refine Blk.exitE ?_ ?_); · rfl)
    | ((with_reducible refine Blk.exitN ?_ ?_); · rfl)
    | with_reducible apply Rnd.ret
    | with_reducible apply Rnd.exit
    | with_reducible apply RndI.ret
    | with_reducible apply RndI.exit
    | with_reducible apply ThnI.ret
    | with_reducible apply ThnI.exit
    | with_reducible apply T.skip
    | with_reducible apply T.block
    | with_reducible apply T.ret
    | with_reducible apply T.exit
    | refine T.condT (h := ?_)
    | refine T.condF (h := ?_)
    | refine TL.pass (k := ?_)
    | refine TL.passN (k := ?_)
    | refine TL.take (k := ?_)
    | refine TL.q (h := .assign) (k := ?_)
    | refine TL.q (h := .move) (k := ?_)
    | refine TL.q (h := .binI) (k := ?_)
    | refine TL.q (h := .binS) (k := ?_))
  refine T.cond (by (simp only [St.ev, slk, Nat.reduceBEq, cond_true, cond_false]; first | done | rfl)) (fun h => ?_) (fun h => ?_)
  · skip
    repeat (first
      | with_reducible apply T.seq
      | with_reducible apply T.region
      | with_reducible apply TL.nil
      | with_reducible apply Thn.normal
      | with_reducible apply Thn.ret
      | with_reducible apply Thn.exit
      | with_reducible apply Blk.normal
      | with_reducible apply Blk.ret
      | ((with_reducible refine Blk.exitE ?_ ?_); · rfl)
      | ((with_reducible refine Blk.exitN ?_ ?_); · rfl)
      | with_reducible apply Rnd.ret
      | with_reducible apply Rnd.exit
      | with_reducible apply RndI.ret
      | with_reducible apply RndI.exit
      | with_reducible apply ThnI.ret
      | with_reducible apply ThnI.exit
      | with_reducible apply T.skip
      | with_reducible apply T.block
      | with_reducible apply T.ret
      | with_reducible apply T.exit
      | refine T.condT (h := ?_)
      | refine T.condF (h := ?_)
      | refine TL.pass (k := ?_)
      | refine TL.passN (k := ?_)
      | refine TL.take (k := ?_)
      | refine TL.q (h := .assign) (k := ?_)
      | refine TL.q (h := .move) (k := ?_)
      | refine TL.q (h := .binI) (k := ?_)
      | refine TL.q (h := .binS) (k := ?_))
    first | refine RetQ.retI (L := []) (ResIs.r1 Try.results154 (RV.tmp)) (by (repeat (first | exact Picks.nil | (apply Picks.cons; (repeat (first | exact Pick.here | apply Pick.there)))))) ⟨by simp [cmpS, ltS, h], rfl⟩ | refine RetQ.norI (L := []) (ResIs.r1 Try.results154 (RV.tmp)) (by (repeat (first | exact Picks.nil | (apply Picks.cons; (repeat (first | exact Pick.here | apply Pick.there)))))) ⟨by simp [cmpS, ltS, h], rfl⟩
  · skip
    repeat (first
      | with_reducible apply T.seq
      | with_reducible apply T.region
      | with_reducible apply TL.nil
      | with_reducible apply Thn.normal
      | with_reducible apply Thn.ret
      | with_reducible apply Thn.exit
      | with_reducible apply Blk.normal
      | with_reducible apply Blk.ret
      | ((with_reducible refine Blk.exitE ?_ ?_); · rfl)
      | ((with_reducible refine Blk.exitN ?_ ?_); · rfl)
      | with_reducible apply Rnd.ret
      | with_reducible apply Rnd.exit
      | with_reducible apply RndI.ret
      | with_reducible apply RndI.exit
      | with_reducible apply ThnI.ret
      | with_reducible apply ThnI.exit
      | with_reducible apply T.skip
      | with_reducible apply T.block
      | with_reducible apply T.ret
      | with_reducible apply T.exit
      | refine T.condT (h := ?_)
      | refine T.condF (h := ?_)
      | refine TL.pass (k := ?_)
      | refine TL.passN (k := ?_)
      | refine TL.take (k := ?_)
      | refine TL.q (h := .assign) (k := ?_)
      | refine TL.q (h := .move) (k := ?_)
      | refine TL.q (h := .binI) (k := ?_)
      | refine TL.q (h := .binS) (k := ?_))
    refine T.cond (by (simp only [St.ev, slk, Nat.reduceBEq, cond_true, cond_false]; first | done | rfl)) (fun h' => ?_) (fun h' => ?_)
    · skip
      repeat (first
        | with_reducible apply T.seq
        | with_reducible apply T.region
        | with_reducible apply TL.nil
        | with_reducible apply Thn.normal
        | with_reducible apply Thn.ret
        | with_reducible apply Thn.exit
        | with_reducible apply Blk.normal
        | with_reducible apply Blk.ret
        | ((with_reducible refine Blk.exitE ?_ ?_); · rfl)
        | ((with_reducible refine Blk.exitN ?_ ?_); · rfl)
        | with_reducible apply Rnd.ret
        | with_reducible apply Rnd.exit
        | with_reducible apply RndI.ret
        | with_reducible apply RndI.exit
        | with_reducible apply ThnI.ret
        | with_reducible apply ThnI.exit
        | with_reducible apply T.skip
        | with_reducible apply T.block
        | with_reducible apply T.ret
        | with_reducible apply T.exit
        | refine T.condT (h := ?_)
        | refine T.condF (h := ?_)
        | refine TL.pass (k := ?_)
        | refine TL.passN (k := ?_)
        | refine TL.take (k := ?_)
        | refine TL.q (h := .assign) (k := ?_)
        | refine TL.q (h := .move) (k := ?_)
        | refine TL.q (h := .binI) (k := ?_)
        | refine TL.q (h := .binS) (k := ?_))
      first | refine RetQ.retI (L := []) (ResIs.r1 Try.results154 (RV.tmp)) (by (repeat (first | exact Picks.nil | (apply Picks.cons; (repeat (first | exact Pick.here | apply Pick.there)))))) ⟨by simp [cmpS, ltS, h] at h' ⊢; simp [h'], rfl⟩ | refine RetQ.norI (L := []) (ResIs.r1 Try.results154 (RV.tmp)) (by (repeat (first | exact Picks.nil | (apply Picks.cons; (repeat (first | exact Pick.here | apply Pick.there)))))) ⟨by simp [cmpS, ltS, h] at h' ⊢; simp [h'], rfl⟩
    · skip
      repeat (first
        | with_reducible apply T.seq
        | with_reducible apply T.region
        | with_reducible apply TL.nil
        | with_reducible apply Thn.normal
        | with_reducible apply Thn.ret
        | with_reducible apply Thn.exit
        | with_reducible apply Blk.normal
        | with_reducible apply Blk.ret
        | ((with_reducible refine Blk.exitE ?_ ?_); · rfl)
        | ((with_reducible refine Blk.exitN ?_ ?_); · rfl)
        | with_reducible apply Rnd.ret
        | with_reducible apply Rnd.exit
        | with_reducible apply RndI.ret
        | with_reducible apply RndI.exit
        | with_reducible apply ThnI.ret
        | with_reducible apply ThnI.exit
        | with_reducible apply T.skip
        | with_reducible apply T.block
        | with_reducible apply T.ret
        | with_reducible apply T.exit
        | refine T.condT (h := ?_)
        | refine T.condF (h := ?_)
        | refine TL.pass (k := ?_)
        | refine TL.passN (k := ?_)
        | refine TL.take (k := ?_)
        | refine TL.q (h := .assign) (k := ?_)
        | refine TL.q (h := .move) (k := ?_)
        | refine TL.q (h := .binI) (k := ?_)
        | refine TL.q (h := .binS) (k := ?_))
      first | refine RetQ.retI (L := []) (ResIs.r1 Try.results154 (RV.tmp)) (by (repeat (first | exact Picks.nil | (apply Picks.cons; (repeat (first | exact Pick.here | apply Pick.there)))))) ⟨by simp [cmpS, ltS, h] at h' ⊢; simp [h'], rfl⟩ | refine RetQ.norI (L := []) (ResIs.r1 Try.results154 (RV.tmp)) (by (repeat (first | exact Picks.nil | (apply Picks.cons; (repeat (first | exact Pick.here | apply Pick.there)))))) ⟨by simp [cmpS, ltS, h] at h' ⊢; simp [h'], rfl⟩

def intC (x : Int) : List Value := [.int .i64 x]
def orI : List Int → Int
  | [] => 0
  | x :: l => if x ≠ 0 then x else orI l
theorem orI_drop {xs : List Int} {i : Nat} (h : ∀ k x, k < i → xs[k]? = some x → x = 0) : orI (xs.drop i) = orI xs := by
  induction xs generalizing i with
  | nil => simp
  | cons y l ih =>
    cases i with
    | zero => rfl
    | succ i =>
      have h0 := h 0 y (by omega) rfl
      subst h0
      simp only [List.drop_succ_cons, orI, ne_eq, not_true_eq_false, if_false]
      exact ih fun k x hk hx => h (k + 1) x (by omega) hx
theorem orI_at {xs : List Int} {i : Nat} {x : Int} (h : ∀ k y, k < i → xs[k]? = some y → y = 0) (hx : xs[i]? = some x) (h0 : x ≠ 0) : orI xs = x := by
  rw [← orI_drop h]
  obtain ⟨hi, rfl⟩ := List.getElem?_eq_some_iff.1 hx
  rw [List.drop_eq_getElem_cons hi, orI, if_pos h0]
theorem cmpOr (m : Bool) (v : Value) (xs : List Int) (hl : xs.length ≤ 1000000000) : Ctr Try.prog 134 #[v] [row m 3 1 v (xs.map intC)] fun u L => u = .int .i64 (orI xs) ∧ L = [row m 3 1 v (xs.map intC)] := by
  refine Ctr.of (n := 18) (args := [v]) Try.func134 rfl rfl rfl fun F => ?_
  simp only [List.zipIdx_cons, List.zipIdx_nil, List.map_cons, List.map_nil, Nat.zero_add, Nat.reduceAdd, List.cons_append, List.nil_append]
  repeat (first
    | with_reducible apply T.seq
    | with_reducible apply T.region
    | with_reducible apply TL.nil
    | with_reducible apply Thn.normal
    | with_reducible apply Thn.ret
    | with_reducible apply Thn.exit
    | with_reducible apply Blk.normal
    | with_reducible apply Blk.ret
    | ((with_reducible refine Blk.exitE ?_ ?_); · rfl)
    | ((with_reducible refine Blk.exitN ?_ ?_); · rfl)
    | with_reducible apply Rnd.ret
    | with_reducible apply Rnd.exit
    | with_reducible apply RndI.ret
    | with_reducible apply RndI.exit
    | with_reducible apply ThnI.ret
    | with_reducible apply ThnI.exit
    | with_reducible apply T.skip
    | with_reducible apply T.block
    | with_reducible apply T.ret
    | with_reducible apply T.exit
    | refine T.condT (h := ?_)
    | refine T.condF (h := ?_)
    | refine TL.pass (k := ?_)
    | refine TL.passN (k := ?_)
    | refine TL.take (k := ?_)
    | refine TL.q (h := .assign) (k := ?_)
    | refine TL.q (h := .move) (k := ?_)
    | refine TL.q (h := .lenR) (k := ?_)
    | refine TL.q (h := .lenS) (k := ?_)
    | refine TL.q (h := .indexR) (k := ?_)
    | refine TL.q (h := .load) (k := ?_)
    | refine TL.q (h := .loadEp) (k := ?_)
    | refine TL.q (h := .add) (k := ?_)
    | refine TL.q (h := .catS) (k := ?_)
    | refine TL.q (h := .binI) (k := ?_)
    | refine TL.q (h := .binS) (k := ?_))
  refine T.loopI (fun q l A => ∃ i : Nat, q = xs.length - i ∧ i ≤ xs.length ∧ (∀ k x, k < i → xs[k]? = some x → x = 0) ∧
    l = [(8, .int .i64 i), (7, .int .i64 (xs.map intC).length), (6, v), (3, .int .i64 0)] ∧ A = [row m 3 1 v (xs.map intC), F]) ⟨0, rfl, by omega, by omega, rfl, rfl⟩ (by (repeat (first | exact AllIs.nil | refine AllIs.cons (by (simp only [St.ev, slk, Nat.reduceBEq, cond_true, cond_false]; first | done | rfl)) ?_))) (by (repeat (first | exact Picks.nil | (apply Picks.cons; (repeat (first | exact Pick.here | apply Pick.there)))))) ?_
  rintro q l A j ⟨i, rfl, hi, h0, rfl, rfl⟩
  have hlen : (xs.map intC).length = xs.length := by simp
  repeat (first
    | with_reducible apply T.seq
    | with_reducible apply T.region
    | with_reducible apply TL.nil
    | with_reducible apply Thn.normal
    | with_reducible apply Thn.ret
    | with_reducible apply Thn.exit
    | with_reducible apply Blk.normal
    | with_reducible apply Blk.ret
    | ((with_reducible refine Blk.exitE ?_ ?_); · rfl)
    | ((with_reducible refine Blk.exitN ?_ ?_); · rfl)
    | with_reducible apply Rnd.ret
    | with_reducible apply Rnd.exit
    | with_reducible apply RndI.ret
    | with_reducible apply RndI.exit
    | with_reducible apply ThnI.ret
    | with_reducible apply ThnI.exit
    | with_reducible apply T.skip
    | with_reducible apply T.block
    | with_reducible apply T.ret
    | with_reducible apply T.exit
    | refine T.condT (h := ?_)
    | refine T.condF (h := ?_)
    | refine TL.pass (k := ?_)
    | refine TL.passN (k := ?_)
    | refine TL.take (k := ?_)
    | refine TL.q (h := .assign) (k := ?_)
    | refine TL.q (h := .move) (k := ?_)
    | refine TL.q (h := .lenR) (k := ?_)
    | refine TL.q (h := .lenS) (k := ?_)
    | refine TL.q (h := .indexR) (k := ?_)
    | refine TL.q (h := .load) (k := ?_)
    | refine TL.q (h := .loadEp) (k := ?_)
    | refine TL.q (h := .add) (k := ?_)
    | refine TL.q (h := .catS) (k := ?_)
    | refine TL.q (h := .binI) (k := ?_)
    | refine TL.q (h := .binS) (k := ?_))
  refine T.condD (by (simp only [St.ev, slk, Nat.reduceBEq, cond_true, cond_false]; first | done | rfl)) (fun hlt => ?_) (fun hge => ?_)
  · have hlt' : i < xs.length := by omega
    obtain ⟨x, hx⟩ : ∃ x, xs[i]? = some x := ⟨_, List.getElem?_eq_getElem hlt'⟩
    have hc : (xs.map intC)[i]? = some (intC x) := by simp [hx]
    repeat (first
      | with_reducible apply T.seq
      | with_reducible apply T.region
      | with_reducible apply TL.nil
      | with_reducible apply Thn.normal
      | with_reducible apply Thn.ret
      | with_reducible apply Thn.exit
      | with_reducible apply Blk.normal
      | with_reducible apply Blk.ret
      | ((with_reducible refine Blk.exitE ?_ ?_); · rfl)
      | ((with_reducible refine Blk.exitN ?_ ?_); · rfl)
      | with_reducible apply Rnd.ret
      | with_reducible apply Rnd.exit
      | with_reducible apply RndI.ret
      | with_reducible apply RndI.exit
      | with_reducible apply ThnI.ret
      | with_reducible apply ThnI.exit
      | with_reducible apply T.skip
      | with_reducible apply T.block
      | with_reducible apply T.ret
      | with_reducible apply T.exit
      | refine T.condT (h := ?_)
      | refine T.condF (h := ?_)
      | refine TL.pass (k := ?_)
      | refine TL.passN (k := ?_)
      | refine TL.take (k := ?_)
      | refine TL.q (h := .assign) (k := ?_)
      | refine TL.q (h := .move) (k := ?_)
      | refine TL.q (h := .lenR) (k := ?_)
      | refine TL.q (h := .lenS) (k := ?_)
      | refine TL.q (h := .indexR) (k := ?_)
      | refine TL.q (h := .load) (k := ?_)
      | refine TL.q (h := .loadEp) (k := ?_)
      | refine TL.q (h := .add) (k := ?_)
      | refine TL.q (h := .catS) (k := ?_)
      | refine TL.q (h := .binI) (k := ?_)
      | refine TL.q (h := .binS) (k := ?_))
    refine T.cond (by (simp only [St.ev, slk, Nat.reduceBEq, cond_true, cond_false]; first | done | rfl)) (fun hx0 => ?_) (fun hx0 => ?_)
    · skip
      repeat (first
        | with_reducible apply T.seq
        | with_reducible apply T.region
        | with_reducible apply TL.nil
        | with_reducible apply Thn.normal
        | with_reducible apply Thn.ret
        | with_reducible apply Thn.exit
        | with_reducible apply Blk.normal
        | with_reducible apply Blk.ret
        | ((with_reducible refine Blk.exitE ?_ ?_); · rfl)
        | ((with_reducible refine Blk.exitN ?_ ?_); · rfl)
        | with_reducible apply Rnd.ret
        | with_reducible apply Rnd.exit
        | with_reducible apply RndI.ret
        | with_reducible apply RndI.exit
        | with_reducible apply ThnI.ret
        | with_reducible apply ThnI.exit
        | with_reducible apply T.skip
        | with_reducible apply T.block
        | with_reducible apply T.ret
        | with_reducible apply T.exit
        | refine T.condT (h := ?_)
        | refine T.condF (h := ?_)
        | refine TL.pass (k := ?_)
        | refine TL.passN (k := ?_)
        | refine TL.take (k := ?_)
        | refine TL.q (h := .assign) (k := ?_)
        | refine TL.q (h := .move) (k := ?_)
        | refine TL.q (h := .lenR) (k := ?_)
        | refine TL.q (h := .lenS) (k := ?_)
        | refine TL.q (h := .indexR) (k := ?_)
        | refine TL.q (h := .load) (k := ?_)
        | refine TL.q (h := .loadEp) (k := ?_)
        | refine TL.q (h := .add) (k := ?_)
        | refine TL.q (h := .catS) (k := ?_)
        | refine TL.q (h := .binI) (k := ?_)
        | refine TL.q (h := .binS) (k := ?_))
      first | refine RetQ.retI (L := [row m 3 1 v (xs.map intC)]) (ResIs.r1 Try.results134 (RV.tmp)) (by (repeat (first | exact Picks.nil | (apply Picks.cons; (repeat (first | exact Pick.here | apply Pick.there)))))) ⟨?_, rfl⟩ | refine RetQ.norI (L := [row m 3 1 v (xs.map intC)]) (ResIs.r1 Try.results134 (RV.tmp)) (by (repeat (first | exact Picks.nil | (apply Picks.cons; (repeat (first | exact Pick.here | apply Pick.there)))))) ⟨?_, rfl⟩
      rw [orI_at h0 hx (by simpa using hx0)]
    · skip
      repeat (first
        | with_reducible apply T.seq
        | with_reducible apply T.region
        | with_reducible apply TL.nil
        | with_reducible apply Thn.normal
        | with_reducible apply Thn.ret
        | with_reducible apply Thn.exit
        | with_reducible apply Blk.normal
        | with_reducible apply Blk.ret
        | ((with_reducible refine Blk.exitE ?_ ?_); · rfl)
        | ((with_reducible refine Blk.exitN ?_ ?_); · rfl)
        | with_reducible apply Rnd.ret
        | with_reducible apply Rnd.exit
        | with_reducible apply RndI.ret
        | with_reducible apply RndI.exit
        | with_reducible apply ThnI.ret
        | with_reducible apply ThnI.exit
        | with_reducible apply T.skip
        | with_reducible apply T.block
        | with_reducible apply T.ret
        | with_reducible apply T.exit
        | refine T.condT (h := ?_)
        | refine T.condF (h := ?_)
        | refine TL.pass (k := ?_)
        | refine TL.passN (k := ?_)
        | refine TL.take (k := ?_)
        | refine TL.q (h := .assign) (k := ?_)
        | refine TL.q (h := .move) (k := ?_)
        | refine TL.q (h := .lenR) (k := ?_)
        | refine TL.q (h := .lenS) (k := ?_)
        | refine TL.q (h := .indexR) (k := ?_)
        | refine TL.q (h := .load) (k := ?_)
        | refine TL.q (h := .loadEp) (k := ?_)
        | refine TL.q (h := .add) (k := ?_)
        | refine TL.q (h := .catS) (k := ?_)
        | refine TL.q (h := .binI) (k := ?_)
        | refine TL.q (h := .binS) (k := ?_))
      refine RndI.next (m' := xs.length - (i + 1)) (by omega) ⟨i + 1, rfl, by omega, ?_, rfl, rfl⟩ (by (repeat (first | exact AllIs.nil | refine AllIs.cons (by (simp only [St.ev, slk, Nat.reduceBEq, cond_true, cond_false]; first | done | rfl)) ?_))) (by (repeat (first | exact Picks.nil | (apply Picks.cons; (repeat (first | exact Pick.here | apply Pick.there))))))
      intro k y hk hy
      rcases Nat.lt_succ_iff_lt_or_eq.1 hk with h | rfl
      · exact h0 k y h hy
      · rw [hx] at hy; cases hy; simpa using hx0
  · skip
    repeat (first
      | with_reducible apply T.seq
      | with_reducible apply T.region
      | with_reducible apply TL.nil
      | with_reducible apply Thn.normal
      | with_reducible apply Thn.ret
      | with_reducible apply Thn.exit
      | with_reducible apply Blk.normal
      | with_reducible apply Blk.ret
      | ((with_reducible refine Blk.exitE ?_ ?_); · rfl)
      | ((with_reducible refine Blk.exitN ?_ ?_); · rfl)
      | with_reducible apply Rnd.ret
      | with_reducible apply Rnd.exit
      | with_reducible apply RndI.ret
      | with_reducible apply RndI.exit
      | with_reducible apply ThnI.ret
      | with_reducible apply ThnI.exit
      | with_reducible apply T.skip
      | with_reducible apply T.block
      | with_reducible apply T.ret
      | with_reducible apply T.exit
      | refine T.condT (h := ?_)
      | refine T.condF (h := ?_)
      | refine TL.pass (k := ?_)
      | refine TL.passN (k := ?_)
      | refine TL.take (k := ?_)
      | refine TL.q (h := .assign) (k := ?_)
      | refine TL.q (h := .move) (k := ?_)
      | refine TL.q (h := .lenR) (k := ?_)
      | refine TL.q (h := .lenS) (k := ?_)
      | refine TL.q (h := .indexR) (k := ?_)
      | refine TL.q (h := .load) (k := ?_)
      | refine TL.q (h := .loadEp) (k := ?_)
      | refine TL.q (h := .add) (k := ?_)
      | refine TL.q (h := .catS) (k := ?_)
      | refine TL.q (h := .binI) (k := ?_)
      | refine TL.q (h := .binS) (k := ?_))
    have hi' : i = xs.length := by omega
    first | refine RetQ.retI (L := [row m 3 1 v (xs.map intC)]) (ResIs.r1 Try.results134 (RV.tmp)) (by (repeat (first | exact Picks.nil | (apply Picks.cons; (repeat (first | exact Pick.here | apply Pick.there)))))) ⟨?_, rfl⟩ | refine RetQ.norI (L := [row m 3 1 v (xs.map intC)]) (ResIs.r1 Try.results134 (RV.tmp)) (by (repeat (first | exact Picks.nil | (apply Picks.cons; (repeat (first | exact Pick.here | apply Pick.there)))))) ⟨?_, rfl⟩
    rw [← orI_drop h0, hi', List.drop_length]
    rfl
end Go.Proofs.Ytpbomaelkpjbbaa

