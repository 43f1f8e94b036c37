import Derived.Test.YtpbomaelkpjbbaaB0
namespace Go.Proofs.Ytpbomaelkpjbbaa
open Go.Fw
attribute [local irreducible] T TL TG Thn ThnI Blk Rnd RndI RetQ OpV OpE OpU OpK Ctr row cel ep
def tNext (xs : List Int) (at_ : Nat) (n : Int) : Int × Nat := match xs[at_]? with
  | some v => if n < 1 then (0, at_) else ((within v 0 1073741824).tmod n, at_ + 1)
  | none => (0, at_)
theorem tNext_range (xs : List Int) (at_ : Nat) {n : Int} (h : 1 ≤ n) : 0 ≤ (tNext xs at_ n).1 ∧ (tNext xs at_ n).1 < n := by
  unfold tNext
  cases xs[at_]? with
  | none => exact ⟨by simp, by simp; omega⟩
  | some v =>
    have h0 : ¬ n < 1 := by omega
    simp only [h0, if_false]
    exact ⟨Int.tmod_nonneg n (within_ge (by omega)), Int.tmod_lt_of_pos _ (by omega)⟩
def TOk (xs : List Int) : Prop := xs.length ≤ 9223372036854775807 ∧ ∀ v ∈ xs, -9223372036854775808 ≤ v ∧ v ≤ 9223372036854775807
set_option maxHeartbeats 1000000 in
theorem tape_Next (b : Nat) (m : Bool) (x : Sl) (xs : List Int) (at_ : Nat) (n : Int) (hx : TOk xs) : Ctr Try.prog 41 #[.pointer (some ⟨b, 0, none⟩), .int .i64 n]
    [cel true b 29 [x.v, .int .i64 at_], row m 3 1 x.v (xs.map intC)] fun v L => v = .int .i64 (tNext xs at_ n).1 ∧ L = [cel true b 29 [x.v, .int .i64 (tNext xs at_ n).2], row m 3 1 x.v (xs.map intC)] := by
  have hlm : (xs.map intC).length = xs.length := by simp
  have hl63 := hx.1
  refine Ctr.of (n := 40) (args := [_, _]) Try.func41 rfl rfl rfl fun F => ?_
  simp only [List.zipIdx_cons, List.zipIdx_nil, List.map_cons, List.map_nil, Nat.zero_add, Nat.reduceAdd, List.cons_append, List.nil_append]
  repeat (first
    | with_reducible apply T.seq
    | with_reducible apply T.region
    | with_reducible apply TL.nil
    | with_reducible apply Thn.normal
    | with_reducible apply Thn.ret
    | with_reducible apply Thn.exit
    | with_reducible apply Blk.normal
    | with_reducible apply Blk.ret
    | ((with_reducible refine Blk.exitE ?_ ?_); · rfl)
    | ((with_reducible refine Blk.exitN ?_ ?_); · rfl)
    | with_reducible apply Rnd.ret
    | with_reducible apply Rnd.exit
    | with_reducible apply RndI.ret
    | with_reducible apply RndI.exit
    | with_reducible apply ThnI.ret
    | with_reducible apply ThnI.exit
    | with_reducible apply T.skip
    | with_reducible apply T.block
    | with_reducible apply T.ret
    | with_reducible apply T.exit
    | refine T.condT (h := ?_)
    | refine T.condF (h := ?_)
    | refine TL.pass (k := ?_)
    | refine TL.passN (k := ?_)
    | refine TL.take (k := ?_)
    | refine TL.q (h := .assign) (k := ?_)
    | refine TL.q (h := .move) (k := ?_)
    | refine TL.q (h := .nilCheck) (k := ?_)
    | refine TL.q (h := .fieldAddr) (k := ?_)
    | refine TL.q (h := .fieldEp) (k := ?_)
    | refine TL.q (h := .load) (k := ?_)
    | refine TL.q (h := .loadEp) (k := ?_)
    | refine TL.q (h := .add) (k := ?_)
    | refine TL.q (h := .catS) (k := ?_)
    | refine TL.u (h := .st) (k := ?_)
    | refine TL.u (h := .stA) (k := ?_)
    | refine TL.u (h := .stEp) (k := ?_)
    | refine TL.u (h := .stEpA) (k := ?_)
    | refine TL.q (h := .binI) (k := ?_))
  by_cases h1 : at_ < xs.length
  · have hg1 : decide ((at_ : Int) ≥ ((xs.map intC).length : Int)) = false := decide_eq_false (by omega)
    obtain ⟨v, hv⟩ : ∃ v, xs[at_]? = some v := ⟨_, List.getElem?_eq_getElem h1⟩
    have hvx := hx.2 v (List.mem_of_getElem? hv)
    have hc : (xs.map intC)[at_]? = some [.int .i64 v] := by simp [hv, intC]
    by_cases h2 : n < 1
    · have hg2 : decide (n < 1) = true := decide_eq_true h2
      have e : tNext xs at_ n = (0, at_) := by simp only [tNext, hv, h2, if_true]
      rw [e]
      all_goals refine TG.start (i := 1) mixed rfl ?_
      all_goals (first
        | refine TG.q0 0 (ho := rfl) (hv := .yes (h := .move)) (k := ?_)
        | refine TG.lv 0 (ho := rfl) (hv := .move) (k := ?_))
      all_goals (first
        | refine TG.q0 1 (ho := rfl) (hv := .yes (h := .nilCheck)) (k := ?_)
        | refine TG.lv 1 (ho := rfl) (hv := .nilCheck) (k := ?_))
      all_goals (first
        | refine TG.q0 2 (ho := rfl) (hv := .yes (h := .fieldAddr)) (k := ?_)
        | refine TG.qFieldEp 2 (ho := rfl) (h := ?_)
        | refine TG.lv 2 (ho := rfl) (hv := .fieldAddr) (k := ?_)
        | refine TG.lv 2 (ho := rfl) (hv := .fieldEp) (k := ?_))
      all_goals (first
        | refine TG.qLoad 3 (ho := rfl) (k := ?_)
        | refine TG.qLoadEp 3 (ho := rfl) (h := ?_)
        | refine TG.lv 3 (ho := rfl) (hv := .load) (k := ?_)
        | refine TG.lv 3 (ho := rfl) (hv := .loadEp) (k := ?_))
      all_goals (first
        | refine TG.q0 4 (ho := rfl) (hv := .yes (h := .move)) (k := ?_)
        | refine TG.lv 4 (ho := rfl) (hv := .move) (k := ?_))
      all_goals (first
        | refine TG.q0 5 (ho := rfl) (hv := .yes (h := .nilCheck)) (k := ?_)
        | refine TG.lv 5 (ho := rfl) (hv := .nilCheck) (k := ?_))
      all_goals (first
        | refine TG.q0 6 (ho := rfl) (hv := .yes (h := .fieldAddr)) (k := ?_)
        | refine TG.qFieldEp 6 (ho := rfl) (h := ?_)
        | refine TG.lv 6 (ho := rfl) (hv := .fieldAddr) (k := ?_)
        | refine TG.lv 6 (ho := rfl) (hv := .fieldEp) (k := ?_))
      all_goals (first
        | refine TG.qLoad 7 (ho := rfl) (k := ?_)
        | refine TG.qLoadEp 7 (ho := rfl) (h := ?_)
        | refine TG.lv 7 (ho := rfl) (hv := .load) (k := ?_)
        | refine TG.lv 7 (ho := rfl) (hv := .loadEp) (k := ?_))
      all_goals (first
        | refine TG.qLenR 8 (ho := rfl) (k := ?_)
        | refine TG.q0 8 (ho := rfl) (hv := .yes (h := .lenS)) (k := ?_)
        | refine TG.lv 8 (ho := rfl) (hv := .lenR) (k := ?_)
        | refine TG.lv 8 (ho := rfl) (hv := .lenS) (k := ?_))
      all_goals (first
        | refine TG.q0 9 (ho := rfl) (hv := .yes (h := .binI)) (k := ?_)
        | refine TG.q0 9 (ho := rfl) (hv := .yes (h := .binS)) (k := ?_)
        | refine TG.lv 9 (ho := rfl) (hv := .binI) (k := ?_)
        | refine TG.lv 9 (ho := rfl) (hv := .binS) (k := ?_))
      all_goals (first
        | refine TG.q0 10 (ho := rfl) (hv := .yes (h := .move)) (k := ?_)
        | refine TG.lv 10 (ho := rfl) (hv := .move) (k := ?_))
      all_goals try (first | refine TG.litT 15 (k := ?_) | refine TG.litF 15 (k := ?_) | refine TG.lit 15 (fun _ => ?_) (fun _ => ?_))
      all_goals (first
        | refine TG.q0 11 (ho := rfl) (hv := .no) (k := ?_)
        | refine TG.q0 11 (ho := rfl) (hv := .yes (h := .move)) (k := ?_)
        | refine TG.lv 11 (ho := rfl) (hv := .move) (k := ?_))
      all_goals (first
        | refine TG.q0 12 (ho := rfl) (hv := .no) (k := ?_)
        | refine TG.q0 12 (ho := rfl) (hv := .yes (h := .binI)) (k := ?_)
        | refine TG.q0 12 (ho := rfl) (hv := .yes (h := .binS)) (k := ?_)
        | refine TG.lv 12 (ho := rfl) (hv := .binI) (k := ?_)
        | refine TG.lv 12 (ho := rfl) (hv := .binS) (k := ?_))
      all_goals (first
        | refine TG.q0 13 (ho := rfl) (hv := .yes (h := .pickT)) (k := ?_)
        | refine TG.q0 13 (ho := rfl) (hv := .yes (h := .pickF)) (k := ?_)
        | refine TG.q0 13 (ho := rfl) (hv := .yes (h := .pickB)) (k := ?_)
        | refine TG.lv 13 (ho := rfl) (hv := .pickT) (k := ?_)
        | refine TG.lv 13 (ho := rfl) (hv := .pickF) (k := ?_)
        | refine TG.lv 13 (ho := rfl) (hv := .pickB) (k := ?_))
      all_goals apply TG.fin rfl
      repeat (first
        | with_reducible apply T.seq
        | with_reducible apply T.region
        | with_reducible apply TL.nil
        | with_reducible apply Thn.normal
        | with_reducible apply Thn.ret
        | with_reducible apply Thn.exit
        | with_reducible apply Blk.normal
        | with_reducible apply Blk.ret
        | ((with_reducible refine Blk.exitE ?_ ?_); · rfl)
        | ((with_reducible refine Blk.exitN ?_ ?_); · rfl)
        | with_reducible apply Rnd.ret
        | with_reducible apply Rnd.exit
        | with_reducible apply RndI.ret
        | with_reducible apply RndI.exit
        | with_reducible apply ThnI.ret
        | with_reducible apply ThnI.exit
        | with_reducible apply T.skip
        | with_reducible apply T.block
        | with_reducible apply T.ret
        | with_reducible apply T.exit
        | refine T.condT (h := ?_)
        | refine T.condF (h := ?_)
        | refine TL.pass (k := ?_)
        | refine TL.passN (k := ?_)
        | refine TL.take (k := ?_)
        | refine TL.q (h := .assign) (k := ?_)
        | refine TL.q (h := .move) (k := ?_)
        | refine TL.q (h := .nilCheck) (k := ?_)
        | refine TL.q (h := .fieldAddr) (k := ?_)
        | refine TL.q (h := .fieldEp) (k := ?_)
        | refine TL.q (h := .load) (k := ?_)
        | refine TL.q (h := .loadEp) (k := ?_)
        | refine TL.q (h := .add) (k := ?_)
        | refine TL.q (h := .catS) (k := ?_)
        | refine TL.u (h := .st) (k := ?_)
        | refine TL.u (h := .stA) (k := ?_)
        | refine TL.u (h := .stEp) (k := ?_)
        | refine TL.u (h := .stEpA) (k := ?_)
        | refine TL.q (h := .binI) (k := ?_))
      refine T.cT (h := ?_)
      repeat (first
        | with_reducible apply T.seq
        | with_reducible apply T.region
        | with_reducible apply TL.nil
        | with_reducible apply Thn.normal
        | with_reducible apply Thn.ret
        | with_reducible apply Thn.exit
        | with_reducible apply Blk.normal
        | with_reducible apply Blk.ret
        | ((with_reducible refine Blk.exitE ?_ ?_); · rfl)
        | ((with_reducible refine Blk.exitN ?_ ?_); · rfl)
        | with_reducible apply Rnd.ret
        | with_reducible apply Rnd.exit
        | with_reducible apply RndI.ret
        | with_reducible apply RndI.exit
        | with_reducible apply ThnI.ret
        | with_reducible apply ThnI.exit
        | with_reducible apply T.skip
        | with_reducible apply T.block
        | with_reducible apply T.ret
        | with_reducible apply T.exit
        | refine T.condT (h := ?_)
        | refine T.condF (h := ?_)
        | refine TL.pass (k := ?_)
        | refine TL.passN (k := ?_)
        | refine TL.take (k := ?_)
        | refine TL.q (h := .assign) (k := ?_)
        | refine TL.q (h := .move) (k := ?_)
        | refine TL.q (h := .nilCheck) (k := ?_)
        | refine TL.q (h := .fieldAddr) (k := ?_)
        | refine TL.q (h := .fieldEp) (k := ?_)
        | refine TL.q (h := .load) (k := ?_)
        | refine TL.q (h := .loadEp) (k := ?_)
        | refine TL.q (h := .add) (k := ?_)
        | refine TL.q (h := .catS) (k := ?_)
        | refine TL.u (h := .st) (k := ?_)
        | refine TL.u (h := .stA) (k := ?_)
        | refine TL.u (h := .stEp) (k := ?_)
        | refine TL.u (h := .stEpA) (k := ?_)
        | refine TL.q (h := .binI) (k := ?_))
      (first | refine RetQ.retI (L := [cel true b 29 [x.v, .int .i64 at_], row m 3 1 x.v (xs.map intC)]) (ResIs.r1 Try.results41 (RV.tmp)) (by (repeat (first | exact Picks.nil | (apply Picks.cons; (repeat (first | exact Pick.here | apply Pick.there)))))) ?_ | refine RetQ.norI (L := [cel true b 29 [x.v, .int .i64 at_], row m 3 1 x.v (xs.map intC)]) (ResIs.r1 Try.results41 (RV.tmp)) (by (repeat (first | exact Picks.nil | (apply Picks.cons; (repeat (first | exact Pick.here | apply Pick.there)))))) ?_)
      exact ⟨rfl, rfl⟩
    · have hg2 : decide (n < 1) = false := decide_eq_false h2
      have hn0 : ¬ n = 0 := by omega
      have e : tNext xs at_ n = ((within v 0 1073741824).tmod n, at_ + 1) := by simp only [tNext, hv, h2, if_false]
      rw [e]
      all_goals refine TG.start (i := 1) mixed rfl ?_
      all_goals (first
        | refine TG.q0 0 (ho := rfl) (hv := .yes (h := .move)) (k := ?_)
        | refine TG.lv 0 (ho := rfl) (hv := .move) (k := ?_))
      all_goals (first
        | refine TG.q0 1 (ho := rfl) (hv := .yes (h := .nilCheck)) (k := ?_)
        | refine TG.lv 1 (ho := rfl) (hv := .nilCheck) (k := ?_))
      all_goals (first
        | refine TG.q0 2 (ho := rfl) (hv := .yes (h := .fieldAddr)) (k := ?_)
        | refine TG.qFieldEp 2 (ho := rfl) (h := ?_)
        | refine TG.lv 2 (ho := rfl) (hv := .fieldAddr) (k := ?_)
        | refine TG.lv 2 (ho := rfl) (hv := .fieldEp) (k := ?_))
      all_goals (first
        | refine TG.qLoad 3 (ho := rfl) (k := ?_)
        | refine TG.qLoadEp 3 (ho := rfl) (h := ?_)
        | refine TG.lv 3 (ho := rfl) (hv := .load) (k := ?_)
        | refine TG.lv 3 (ho := rfl) (hv := .loadEp) (k := ?_))
      all_goals (first
        | refine TG.q0 4 (ho := rfl) (hv := .yes (h := .move)) (k := ?_)
        | refine TG.lv 4 (ho := rfl) (hv := .move) (k := ?_))
      all_goals (first
        | refine TG.q0 5 (ho := rfl) (hv := .yes (h := .nilCheck)) (k := ?_)
        | refine TG.lv 5 (ho := rfl) (hv := .nilCheck) (k := ?_))
      all_goals (first
        | refine TG.q0 6 (ho := rfl) (hv := .yes (h := .fieldAddr)) (k := ?_)
        | refine TG.qFieldEp 6 (ho := rfl) (h := ?_)
        | refine TG.lv 6 (ho := rfl) (hv := .fieldAddr) (k := ?_)
        | refine TG.lv 6 (ho := rfl) (hv := .fieldEp) (k := ?_))
      all_goals (first
        | refine TG.qLoad 7 (ho := rfl) (k := ?_)
        | refine TG.qLoadEp 7 (ho := rfl) (h := ?_)
        | refine TG.lv 7 (ho := rfl) (hv := .load) (k := ?_)
        | refine TG.lv 7 (ho := rfl) (hv := .loadEp) (k := ?_))
      all_goals (first
        | refine TG.qLenR 8 (ho := rfl) (k := ?_)
        | refine TG.q0 8 (ho := rfl) (hv := .yes (h := .lenS)) (k := ?_)
        | refine TG.lv 8 (ho := rfl) (hv := .lenR) (k := ?_)
        | refine TG.lv 8 (ho := rfl) (hv := .lenS) (k := ?_))
      all_goals (first
        | refine TG.q0 9 (ho := rfl) (hv := .yes (h := .binI)) (k := ?_)
        | refine TG.q0 9 (ho := rfl) (hv := .yes (h := .binS)) (k := ?_)
        | refine TG.lv 9 (ho := rfl) (hv := .binI) (k := ?_)
        | refine TG.lv 9 (ho := rfl) (hv := .binS) (k := ?_))
      all_goals (first
        | refine TG.q0 10 (ho := rfl) (hv := .yes (h := .move)) (k := ?_)
        | refine TG.lv 10 (ho := rfl) (hv := .move) (k := ?_))
      all_goals try (first | refine TG.litT 15 (k := ?_) | refine TG.litF 15 (k := ?_) | refine TG.lit 15 (fun _ => ?_) (fun _ => ?_))
      all_goals (first
        | refine TG.q0 11 (ho := rfl) (hv := .no) (k := ?_)
        | refine TG.q0 11 (ho := rfl) (hv := .yes (h := .move)) (k := ?_)
        | refine TG.lv 11 (ho := rfl) (hv := .move) (k := ?_))
      all_goals (first
        | refine TG.q0 12 (ho := rfl) (hv := .no) (k := ?_)
        | refine TG.q0 12 (ho := rfl) (hv := .yes (h := .binI)) (k := ?_)
        | refine TG.q0 12 (ho := rfl) (hv := .yes (h := .binS)) (k := ?_)
        | refine TG.lv 12 (ho := rfl) (hv := .binI) (k := ?_)
        | refine TG.lv 12 (ho := rfl) (hv := .binS) (k := ?_))
      all_goals (first
        | refine TG.q0 13 (ho := rfl) (hv := .yes (h := .pickT)) (k := ?_)
        | refine TG.q0 13 (ho := rfl) (hv := .yes (h := .pickF)) (k := ?_)
        | refine TG.q0 13 (ho := rfl) (hv := .yes (h := .pickB)) (k := ?_)
        | refine TG.lv 13 (ho := rfl) (hv := .pickT) (k := ?_)
        | refine TG.lv 13 (ho := rfl) (hv := .pickF) (k := ?_)
        | refine TG.lv 13 (ho := rfl) (hv := .pickB) (k := ?_))
      all_goals apply TG.fin rfl
      repeat (first
        | with_reducible apply T.seq
        | with_reducible apply T.region
        | with_reducible apply TL.nil
        | with_reducible apply Thn.normal
        | with_reducible apply Thn.ret
        | with_reducible apply Thn.exit
        | with_reducible apply Blk.normal
        | with_reducible apply Blk.ret
        | ((with_reducible refine Blk.exitE ?_ ?_); · rfl)
        | ((with_reducible refine Blk.exitN ?_ ?_); · rfl)
        | with_reducible apply Rnd.ret
        | with_reducible apply Rnd.exit
        | with_reducible apply RndI.ret
        | with_reducible apply RndI.exit
        | with_reducible apply ThnI.ret
        | with_reducible apply ThnI.exit
        | with_reducible apply T.skip
        | with_reducible apply T.block
        | with_reducible apply T.ret
        | with_reducible apply T.exit
        | refine T.condT (h := ?_)
        | refine T.condF (h := ?_)
        | refine TL.pass (k := ?_)
        | refine TL.passN (k := ?_)
        | refine TL.take (k := ?_)
        | refine TL.q (h := .assign) (k := ?_)
        | refine TL.q (h := .move) (k := ?_)
        | refine TL.q (h := .nilCheck) (k := ?_)
        | refine TL.q (h := .fieldAddr) (k := ?_)
        | refine TL.q (h := .fieldEp) (k := ?_)
        | refine TL.q (h := .load) (k := ?_)
        | refine TL.q (h := .loadEp) (k := ?_)
        | refine TL.q (h := .add) (k := ?_)
        | refine TL.q (h := .catS) (k := ?_)
        | refine TL.u (h := .st) (k := ?_)
        | refine TL.u (h := .stA) (k := ?_)
        | refine TL.u (h := .stEp) (k := ?_)
        | refine TL.u (h := .stEpA) (k := ?_)
        | refine TL.q (h := .binI) (k := ?_))
      refine T.cF (h := ?_)
      repeat (first
        | with_reducible apply T.seq
        | with_reducible apply T.region
        | with_reducible apply TL.nil
        | with_reducible apply Thn.normal
        | with_reducible apply Thn.ret
        | with_reducible apply Thn.exit
        | with_reducible apply Blk.normal
        | with_reducible apply Blk.ret
        | ((with_reducible refine Blk.exitE ?_ ?_); · rfl)
        | ((with_reducible refine Blk.exitN ?_ ?_); · rfl)
        | with_reducible apply Rnd.ret
        | with_reducible apply Rnd.exit
        | with_reducible apply RndI.ret
        | with_reducible apply RndI.exit
        | with_reducible apply ThnI.ret
        | with_reducible apply ThnI.exit
        | with_reducible apply T.skip
        | with_reducible apply T.block
        | with_reducible apply T.ret
        | with_reducible apply T.exit
        | refine T.condT (h := ?_)
        | refine T.condF (h := ?_)
        | refine TL.pass (k := ?_)
        | refine TL.passN (k := ?_)
        | refine TL.take (k := ?_)
        | refine TL.q (h := .assign) (k := ?_)
        | refine TL.q (h := .move) (k := ?_)
        | refine TL.q (h := .nilCheck) (k := ?_)
        | refine TL.q (h := .fieldAddr) (k := ?_)
        | refine TL.q (h := .fieldEp) (k := ?_)
        | refine TL.q (h := .load) (k := ?_)
        | refine TL.q (h := .loadEp) (k := ?_)
        | refine TL.q (h := .add) (k := ?_)
        | refine TL.q (h := .catS) (k := ?_)
        | refine TL.u (h := .st) (k := ?_)
        | refine TL.u (h := .stA) (k := ?_)
        | refine TL.u (h := .stEp) (k := ?_)
        | refine TL.u (h := .stEpA) (k := ?_)
        | refine TL.q (h := .binI) (k := ?_))
      rw [show (at_ : Int) + 1 = ((at_ + 1 : Nat) : Int) from rfl]
      all_goals refine TG.start (i := 4) mixed rfl ?_
      all_goals (first
        | refine TG.q0 0 (ho := rfl) (hv := .yes (h := .move)) (k := ?_)
        | refine TG.lv 0 (ho := rfl) (hv := .move) (k := ?_))
      all_goals (first
        | refine TG.q0 1 (ho := rfl) (hv := .yes (h := .nilCheck)) (k := ?_)
        | refine TG.lv 1 (ho := rfl) (hv := .nilCheck) (k := ?_))
      all_goals (first
        | refine TG.q0 2 (ho := rfl) (hv := .yes (h := .fieldAddr)) (k := ?_)
        | refine TG.qFieldEp 2 (ho := rfl) (h := ?_)
        | refine TG.lv 2 (ho := rfl) (hv := .fieldAddr) (k := ?_)
        | refine TG.lv 2 (ho := rfl) (hv := .fieldEp) (k := ?_))
      all_goals (first
        | refine TG.qLoad 3 (ho := rfl) (k := ?_)
        | refine TG.qLoadEp 3 (ho := rfl) (h := ?_)
        | refine TG.lv 3 (ho := rfl) (hv := .load) (k := ?_)
        | refine TG.lv 3 (ho := rfl) (hv := .loadEp) (k := ?_))
      all_goals (first
        | refine TG.q0 4 (ho := rfl) (hv := .yes (h := .move)) (k := ?_)
        | refine TG.lv 4 (ho := rfl) (hv := .move) (k := ?_))
      all_goals (first
        | refine TG.q0 5 (ho := rfl) (hv := .yes (h := .nilCheck)) (k := ?_)
        | refine TG.lv 5 (ho := rfl) (hv := .nilCheck) (k := ?_))
      all_goals (first
        | refine TG.q0 6 (ho := rfl) (hv := .yes (h := .fieldAddr)) (k := ?_)
        | refine TG.qFieldEp 6 (ho := rfl) (h := ?_)
        | refine TG.lv 6 (ho := rfl) (hv := .fieldAddr) (k := ?_)
        | refine TG.lv 6 (ho := rfl) (hv := .fieldEp) (k := ?_))
      all_goals (first
        | refine TG.qLoad 7 (ho := rfl) (k := ?_)
        | refine TG.qLoadEp 7 (ho := rfl) (h := ?_)
        | refine TG.lv 7 (ho := rfl) (hv := .load) (k := ?_)
        | refine TG.lv 7 (ho := rfl) (hv := .loadEp) (k := ?_))
      all_goals (first
        | refine TG.q0 8 (ho := rfl) (hv := .yes (h := .sub)) (k := ?_)
        | refine TG.q0 8 (ho := rfl) (hv := .yes (h := .binI)) (k := ?_)
        | refine TG.lv 8 (ho := rfl) (hv := .sub) (k := ?_)
        | refine TG.lv 8 (ho := rfl) (hv := .binI) (k := ?_))
      all_goals (first
        | refine TG.qIndexR 9 (ho := rfl) (h := ?_)
        | refine TG.lv 9 (ho := rfl) (hv := .indexR) (k := ?_))
      all_goals (first
        | refine TG.qLoad 10 (ho := rfl) (k := ?_)
        | refine TG.qLoadEp 10 (ho := rfl) (h := ?_)
        | refine TG.lv 10 (ho := rfl) (hv := .load) (k := ?_)
        | refine TG.lv 10 (ho := rfl) (hv := .loadEp) (k := ?_))
      all_goals (first
        | refine TG.q0 12 (ho := rfl) (hv := .yes (h := .move)) (k := ?_)
        | refine TG.lv 12 (ho := rfl) (hv := .move) (k := ?_))
      all_goals (first
        | (refine TG.ld 11 (ho := rfl) (hK := .callF (h := book_Within _ _ _ (by omega) (by first | assumption | rfl | omega | (simp at *; omega)))) (k := ?_); rintro _ _ ⟨_, rfl, rfl, rfl⟩; refine ⟨by (repeat (first | exact Held.nil | apply Held.zero | (apply Held.one; (repeat (first | exact Pick.here | apply Pick.there))))), ?_⟩))
      all_goals (first
        | refine TG.q0 13 (ho := rfl) (hv := .yes (h := .rem)) (k := ?_)
        | refine TG.lv 13 (ho := rfl) (hv := .rem) (k := ?_))
      all_goals (first
        | refine TG.q0 14 (ho := rfl) (hv := .yes (h := .assign)) (k := ?_)
        | refine TG.lv 14 (ho := rfl) (hv := .assign) (k := ?_))
      all_goals apply TG.fin rfl
      repeat (first
        | with_reducible apply T.seq
        | with_reducible apply T.region
        | with_reducible apply TL.nil
        | with_reducible apply Thn.normal
        | with_reducible apply Thn.ret
        | with_reducible apply Thn.exit
        | with_reducible apply Blk.normal
        | with_reducible apply Blk.ret
        | ((with_reducible refine Blk.exitE ?_ ?_); · rfl)
        | ((with_reducible refine Blk.exitN ?_ ?_); · rfl)
        | with_reducible apply Rnd.ret
        | with_reducible apply Rnd.exit
        | with_reducible apply RndI.ret
        | with_reducible apply RndI.exit
        | with_reducible apply ThnI.ret
        | with_reducible apply ThnI.exit
        | with_reducible apply T.skip
        | with_reducible apply T.block
        | with_reducible apply T.ret
        | with_reducible apply T.exit
        | refine T.condT (h := ?_)
        | refine T.condF (h := ?_)
        | refine TL.pass (k := ?_)
        | refine TL.passN (k := ?_)
        | refine TL.take (k := ?_)
        | refine TL.q (h := .assign) (k := ?_)
        | refine TL.q (h := .move) (k := ?_)
        | refine TL.q (h := .nilCheck) (k := ?_)
        | refine TL.q (h := .fieldAddr) (k := ?_)
        | refine TL.q (h := .fieldEp) (k := ?_)
        | refine TL.q (h := .load) (k := ?_)
        | refine TL.q (h := .loadEp) (k := ?_)
        | refine TL.q (h := .add) (k := ?_)
        | refine TL.q (h := .catS) (k := ?_)
        | refine TL.u (h := .st) (k := ?_)
        | refine TL.u (h := .stA) (k := ?_)
        | refine TL.u (h := .stEp) (k := ?_)
        | refine TL.u (h := .stEpA) (k := ?_)
        | refine TL.q (h := .binI) (k := ?_))
      (first | refine RetQ.retI (L := [cel true b 29 [x.v, .int .i64 ((at_ + 1 : Nat) : Int)], row m 3 1 x.v (xs.map intC)]) (ResIs.r1 Try.results41 (RV.tmp)) (by (repeat (first | exact Picks.nil | (apply Picks.cons; (repeat (first | exact Pick.here | apply Pick.there)))))) ?_ | refine RetQ.norI (L := [cel true b 29 [x.v, .int .i64 ((at_ + 1 : Nat) : Int)], row m 3 1 x.v (xs.map intC)]) (ResIs.r1 Try.results41 (RV.tmp)) (by (repeat (first | exact Picks.nil | (apply Picks.cons; (repeat (first | exact Pick.here | apply Pick.there)))))) ?_)
      exact ⟨rfl, rfl⟩
  · have hg1 : decide ((at_ : Int) ≥ ((xs.map intC).length : Int)) = true := decide_eq_true (by omega)
    have e : tNext xs at_ n = (0, at_) := by simp only [tNext, List.getElem?_eq_none (Nat.le_of_not_lt h1)]
    rw [e]
    all_goals refine TG.start (i := 1) mixed rfl ?_
    all_goals (first
      | refine TG.q0 0 (ho := rfl) (hv := .yes (h := .move)) (k := ?_)
      | refine TG.lv 0 (ho := rfl) (hv := .move) (k := ?_))
    all_goals (first
      | refine TG.q0 1 (ho := rfl) (hv := .yes (h := .nilCheck)) (k := ?_)
      | refine TG.lv 1 (ho := rfl) (hv := .nilCheck) (k := ?_))
    all_goals (first
      | refine TG.q0 2 (ho := rfl) (hv := .yes (h := .fieldAddr)) (k := ?_)
      | refine TG.qFieldEp 2 (ho := rfl) (h := ?_)
      | refine TG.lv 2 (ho := rfl) (hv := .fieldAddr) (k := ?_)
      | refine TG.lv 2 (ho := rfl) (hv := .fieldEp) (k := ?_))
    all_goals (first
      | refine TG.qLoad 3 (ho := rfl) (k := ?_)
      | refine TG.qLoadEp 3 (ho := rfl) (h := ?_)
      | refine TG.lv 3 (ho := rfl) (hv := .load) (k := ?_)
      | refine TG.lv 3 (ho := rfl) (hv := .loadEp) (k := ?_))
    all_goals (first
      | refine TG.q0 4 (ho := rfl) (hv := .yes (h := .move)) (k := ?_)
      | refine TG.lv 4 (ho := rfl) (hv := .move) (k := ?_))
    all_goals (first
      | refine TG.q0 5 (ho := rfl) (hv := .yes (h := .nilCheck)) (k := ?_)
      | refine TG.lv 5 (ho := rfl) (hv := .nilCheck) (k := ?_))
    all_goals (first
      | refine TG.q0 6 (ho := rfl) (hv := .yes (h := .fieldAddr)) (k := ?_)
      | refine TG.qFieldEp 6 (ho := rfl) (h := ?_)
      | refine TG.lv 6 (ho := rfl) (hv := .fieldAddr) (k := ?_)
      | refine TG.lv 6 (ho := rfl) (hv := .fieldEp) (k := ?_))
    all_goals (first
      | refine TG.qLoad 7 (ho := rfl) (k := ?_)
      | refine TG.qLoadEp 7 (ho := rfl) (h := ?_)
      | refine TG.lv 7 (ho := rfl) (hv := .load) (k := ?_)
      | refine TG.lv 7 (ho := rfl) (hv := .loadEp) (k := ?_))
    all_goals (first
      | refine TG.qLenR 8 (ho := rfl) (k := ?_)
      | refine TG.q0 8 (ho := rfl) (hv := .yes (h := .lenS)) (k := ?_)
      | refine TG.lv 8 (ho := rfl) (hv := .lenR) (k := ?_)
      | refine TG.lv 8 (ho := rfl) (hv := .lenS) (k := ?_))
    all_goals (first
      | refine TG.q0 9 (ho := rfl) (hv := .yes (h := .binI)) (k := ?_)
      | refine TG.q0 9 (ho := rfl) (hv := .yes (h := .binS)) (k := ?_)
      | refine TG.lv 9 (ho := rfl) (hv := .binI) (k := ?_)
      | refine TG.lv 9 (ho := rfl) (hv := .binS) (k := ?_))
    all_goals (first
      | refine TG.q0 10 (ho := rfl) (hv := .yes (h := .move)) (k := ?_)
      | refine TG.lv 10 (ho := rfl) (hv := .move) (k := ?_))
    all_goals try (first | refine TG.litT 15 (k := ?_) | refine TG.litF 15 (k := ?_) | refine TG.lit 15 (fun _ => ?_) (fun _ => ?_))
    all_goals (first
      | refine TG.q0 11 (ho := rfl) (hv := .no) (k := ?_)
      | refine TG.q0 11 (ho := rfl) (hv := .yes (h := .move)) (k := ?_)
      | refine TG.lv 11 (ho := rfl) (hv := .move) (k := ?_))
    all_goals (first
      | refine TG.q0 12 (ho := rfl) (hv := .no) (k := ?_)
      | refine TG.q0 12 (ho := rfl) (hv := .yes (h := .binI)) (k := ?_)
      | refine TG.q0 12 (ho := rfl) (hv := .yes (h := .binS)) (k := ?_)
      | refine TG.lv 12 (ho := rfl) (hv := .binI) (k := ?_)
      | refine TG.lv 12 (ho := rfl) (hv := .binS) (k := ?_))
    all_goals (first
      | refine TG.q0 13 (ho := rfl) (hv := .yes (h := .pickT)) (k := ?_)
      | refine TG.q0 13 (ho := rfl) (hv := .yes (h := .pickF)) (k := ?_)
      | refine TG.q0 13 (ho := rfl) (hv := .yes (h := .pickB)) (k := ?_)
      | refine TG.lv 13 (ho := rfl) (hv := .pickT) (k := ?_)
      | refine TG.lv 13 (ho := rfl) (hv := .pickF) (k := ?_)
      | refine TG.lv 13 (ho := rfl) (hv := .pickB) (k := ?_))
    all_goals apply TG.fin rfl
    repeat (first
      | with_reducible apply T.seq
      | with_reducible apply T.region
      | with_reducible apply TL.nil
      | with_reducible apply Thn.normal
      | with_reducible apply Thn.ret
      | with_reducible apply Thn.exit
      | with_reducible apply Blk.normal
      | with_reducible apply Blk.ret
      | ((with_reducible refine Blk.exitE ?_ ?_); · rfl)
      | ((with_reducible refine Blk.exitN ?_ ?_); · rfl)
      | with_reducible apply Rnd.ret
      | with_reducible apply Rnd.exit
      | with_reducible apply RndI.ret
      | with_reducible apply RndI.exit
      | with_reducible apply ThnI.ret
      | with_reducible apply ThnI.exit
      | with_reducible apply T.skip
      | with_reducible apply T.block
      | with_reducible apply T.ret
      | with_reducible apply T.exit
      | refine T.condT (h := ?_)
      | refine T.condF (h := ?_)
      | refine TL.pass (k := ?_)
      | refine TL.passN (k := ?_)
      | refine TL.take (k := ?_)
      | refine TL.q (h := .assign) (k := ?_)
      | refine TL.q (h := .move) (k := ?_)
      | refine TL.q (h := .nilCheck) (k := ?_)
      | refine TL.q (h := .fieldAddr) (k := ?_)
      | refine TL.q (h := .fieldEp) (k := ?_)
      | refine TL.q (h := .load) (k := ?_)
      | refine TL.q (h := .loadEp) (k := ?_)
      | refine TL.q (h := .add) (k := ?_)
      | refine TL.q (h := .catS) (k := ?_)
      | refine TL.u (h := .st) (k := ?_)
      | refine TL.u (h := .stA) (k := ?_)
      | refine TL.u (h := .stEp) (k := ?_)
      | refine TL.u (h := .stEpA) (k := ?_)
      | refine TL.q (h := .binI) (k := ?_))
    (first | refine RetQ.retI (L := [cel true b 29 [x.v, .int .i64 at_], row m 3 1 x.v (xs.map intC)]) (ResIs.r1 Try.results41 (RV.tmp)) (by (repeat (first | exact Picks.nil | (apply Picks.cons; (repeat (first | exact Pick.here | apply Pick.there)))))) ?_ | refine RetQ.norI (L := [cel true b 29 [x.v, .int .i64 at_], row m 3 1 x.v (xs.map intC)]) (ResIs.r1 Try.results41 (RV.tmp)) (by (repeat (first | exact Picks.nil | (apply Picks.cons; (repeat (first | exact Pick.here | apply Pick.there)))))) ?_)
    exact ⟨rfl, rfl⟩
end Go.Proofs.Ytpbomaelkpjbbaa

