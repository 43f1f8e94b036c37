import Derived.Test.YtpbomaelkpjbbaaC6
namespace Go.Proofs.Ytpbomaelkpjbbaa
open Go.Fw
attribute [local irreducible] T TL TG Thn Blk Rnd RndI RetQ OpV OpE OpU OpK Ctr row cel ep
def MAgent.new (app id : ByteArray) (xs : List Int) : MAgent := { app := app, id := id, servers := xs, server := 0, now := 0, since := -1, wants := [], wishes := false, card := ⟨0, 0, 0⟩, known := false, waits := false, ask := {}, asked := 0, beat := ⟨false, 0⟩, fetch := ⟨false, 0⟩ }
def newOk (app id : ByteArray) (xs : List Int) : Bool := nameOk app && nameOk id && decide (1 ≤ xs.length) && decide (xs.length ≤ 6)
set_option maxHeartbeats 2000000 in
theorem agent_New (app id : ByteArray) (m : Bool) (x : Sl) (xs : List Int) : Ctr Try.prog 49 #[.agg #[.string app, .string id], x.v] [row m 3 1 x.v (xs.map intC)]
    fun v L => (newOk app id xs = true ∧ ∃ b cb sv, v = .pointer (some ⟨b, 0, none⟩) ∧ L = agL b (MAgent.new app id xs) sv cb Sl.nil true ++ [row m 3 1 x.v (xs.map intC)]) ∨ (newOk app id xs = false ∧ v = .pointer none ∧ L = [row m 3 1 x.v (xs.map intC)]) := by
  have hl : (xs.map intC).length = xs.length := by simp
  refine Ctr.of (n := 31) (args := [_, _]) Try.func49 rfl rfl rfl fun F => ?_
  simp only [List.zipIdx_cons, List.zipIdx_nil, List.map_cons, List.map_nil, Nat.zero_add, Nat.reduceAdd, List.cons_append, List.nil_append]
  refine T.parts (add_nil true 156 3) ?_
  repeat' (first
    | with_reducible apply T.seq
    | with_reducible apply T.region
    | with_reducible apply TL.nil
    | with_reducible apply Thn.normal
    | with_reducible apply Thn.ret
    | with_reducible apply Thn.exit
    | with_reducible apply Blk.normal
    | with_reducible apply Blk.ret
    | ((with_reducible refine Blk.exitE ?_ ?_); · rfl)
    | ((with_reducible refine Blk.exitN ?_ ?_); · rfl)
    | with_reducible apply Rnd.ret
    | with_reducible apply Rnd.exit
    | with_reducible apply RndI.ret
    | with_reducible apply RndI.exit
    | with_reducible apply ThnI.ret
    | with_reducible apply ThnI.exit
    | with_reducible apply T.skip
    | with_reducible apply T.block
    | with_reducible apply T.ret
    | with_reducible apply T.exit
    | refine T.condT (h := ?_)
    | refine T.condF (h := ?_)
    | refine TL.pass (k := ?_)
    | refine TL.passN (k := ?_)
    | refine TL.take (k := ?_)
    | (refine TL.e (h := .bx) (k := ?_); rintro _ _ ⟨_, rfl, rfl⟩)
    | refine TL.q (h := .assign) (k := ?_)
    | refine TL.q (h := .fieldAddr) (k := ?_)
    | refine TL.q (h := .fieldEp) (k := ?_)
    | refine TL.q (h := .load) (k := ?_)
    | refine TL.q (h := .loadEp) (k := ?_)
    | (refine TL.callF (h := card_Name _) (k := ?_); rintro _ _ ⟨rfl, rfl⟩)
    | refine TL.q (h := .not) (k := ?_)
    | refine TL.q (h := .move) (k := ?_)
    | refine TL.q (h := .pickT) (k := ?_)
    | refine TL.q (h := .pickF) (k := ?_)
    | refine TL.q (h := .lenR) (k := ?_)
    | refine TL.q (h := .lenS) (k := ?_)
    | refine TL.q (h := .pickB) (k := ?_)
    | refine TL.q (h := .binI) (k := ?_)
    | refine TL.q (h := .binS) (k := ?_)
    | (skip
       all_goals refine TG.start (i := 3) mixed rfl ?_
       all_goals (first
         | refine TG.qLoadA 0 (ho := rfl) (k := ?_)
         | refine TG.qLoadEpA 0 (ho := rfl) (h := ?_)
         | refine TG.lv 0 (ho := rfl) (hv := .loadA) (k := ?_)
         | refine TG.lv 0 (ho := rfl) (hv := .loadEpA) (k := ?_))
       all_goals (first
         | refine TG.q0 1 (ho := rfl) (hv := .yes (h := .move)) (k := ?_)
         | refine TG.lv 1 (ho := rfl) (hv := .move) (k := ?_))
       all_goals (first
         | (refine TG.ld 2 (ho := rfl) (hK := .callF (h := clone_int _ _ _ (by first | assumption | rfl | omega | (simp at *; omega)))) (k := ?_); rintro _ _ ⟨_, rfl, _, rfl, rfl⟩; refine ⟨by (repeat (first | exact Held.nil | apply Held.zero | (apply Held.one; (repeat (first | exact Pick.here | apply Pick.there))))), ?_⟩))
       all_goals (first
         | (refine TG.ld 3 (ho := rfl) (hK := .callF (h := cache_New)) (k := ?_); rintro _ _ ⟨_, rfl, _, rfl, rfl⟩; refine ⟨by (repeat (first | exact Held.nil | apply Held.zero | (apply Held.one; (repeat (first | exact Pick.here | apply Pick.there))))), ?_⟩))
       all_goals (first
         | refine TG.q0 4 (ho := rfl) (hv := .yes (h := .build)) (k := ?_)
         | refine TG.lv 4 (ho := rfl) (hv := .build) (k := ?_))
       all_goals (first
         | (refine TG.ld 5 (ho := rfl) (hK := .ofE (h := .bx)) (k := ?_); rintro _ _ ⟨_, rfl, rfl⟩; refine ⟨by (repeat (first | exact Held.nil | apply Held.zero | (apply Held.one; (repeat (first | exact Pick.here | apply Pick.there))))), ?_⟩))
       all_goals (first
         | refine TG.q0 6 (ho := rfl) (hv := .yes (h := .assign)) (k := ?_)
         | refine TG.lv 6 (ho := rfl) (hv := .assign) (k := ?_))
       all_goals apply TG.fin rfl)
    | refine TL.gT (k := ?_)
    | refine TL.gF (k := ?_)
    | refine T.cT (h := ?_)
    | refine T.cF (h := ?_)
    | (refine TL.gcase (ht := fun _ => ?_) (hf := fun _ => ?_))
    | refine T.cond (by (simp only [St.ev, slk, Nat.reduceBEq, cond_true, cond_false]; first | done | rfl)) (fun _ => ?_) (fun _ => ?_))
  all_goals first
    | ((first | refine RetQ.retI (L := [row m 3 1 x.v (xs.map intC)]) (ResIs.r1 Try.results49 (RV.tmp)) (by (repeat (first | exact Picks.nil | (apply Picks.cons; (repeat (first | exact Pick.here | apply Pick.there)))))) ?_ | refine RetQ.norI (L := [row m 3 1 x.v (xs.map intC)]) (ResIs.r1 Try.results49 (RV.tmp)) (by (repeat (first | exact Picks.nil | (apply Picks.cons; (repeat (first | exact Pick.here | apply Pick.there)))))) ?_)
       refine .inr ⟨?_, rfl, rfl⟩
       simp only [newOk]
       simp only [hl, Bool.not_eq_true', Bool.not_eq_false', decide_eq_true_eq, decide_eq_false_iff_not] at *
       first
         | (simp only [*, Bool.false_and, Bool.and_false]; done)
         | (have e : ¬ 1 ≤ xs.length := by omega
            simp only [e, decide_false, Bool.false_and, Bool.and_false]; done)
         | (have e : ¬ xs.length ≤ 6 := by omega
            simp only [e, decide_false, Bool.false_and, Bool.and_false]; done))
    | (rename_i sv cb b
       (first | refine RetQ.retI (L := agL b (MAgent.new app id xs) sv cb Sl.nil true ++ [row m 3 1 x.v (xs.map intC)]) (ResIs.r1 Try.results49 (RV.tmp)) (by (repeat (first | exact Picks.nil | (apply Picks.cons; (repeat (first | exact Pick.here | apply Pick.there)))))) ?_ | refine RetQ.norI (L := agL b (MAgent.new app id xs) sv cb Sl.nil true ++ [row m 3 1 x.v (xs.map intC)]) (ResIs.r1 Try.results49 (RV.tmp)) (by (repeat (first | exact Picks.nil | (apply Picks.cons; (repeat (first | exact Pick.here | apply Pick.there)))))) ?_)
       refine .inl ⟨?_, b, cb, sv, rfl, rfl⟩
       simp only [newOk]
       simp only [hl, Bool.not_eq_true', Bool.not_eq_false', decide_eq_true_eq, decide_eq_false_iff_not] at *
       have e : 1 ≤ xs.length := by omega
       have e2 : xs.length ≤ 6 := by omega
       simp only [*, decide_true, Bool.and_self, Bool.and_true])
def wantE (st : MAgent) (op n status : Int) : Int := bif !mayW op n status then 1 else bif decide ((st.wants.length : Int) ≥ 8) then 24 else 0
def MAgent.want (st : MAgent) (op n status : Int) : MAgent := bif wantE st op n status == 0 then { st with wants := st.wants ++ [⟨op, n, status⟩] } else st
set_option maxHeartbeats 1000000 in
theorem agent_Want (b : Nat) (st : MAgent) (sv : Sl) (cb : Nat) (wv : Sl) (m' : Bool) (op n status : Int) : Ctr Try.prog 50 #[.pointer (some ⟨b, 0, none⟩), .int .i64 op, .int .i64 n, .int .i64 status] (agL b st sv cb wv m')
    fun v L => v = .int .i64 (wantE st op n status) ∧ ∃ wv', L = agL b (st.want op n status) sv cb wv' m' := by
  simp only [agL, agC]
  have hl : (st.wants.map MWant.C).length = st.wants.length := by simp
  refine Ctr.of (n := 35) (args := [_, _, _, _]) Try.func50 rfl rfl rfl fun F => ?_
  simp only [List.zipIdx_cons, List.zipIdx_nil, List.map_cons, List.map_nil, Nat.zero_add, Nat.reduceAdd, List.cons_append, List.nil_append]
  repeat' (first
    | with_reducible apply T.seq
    | with_reducible apply T.region
    | with_reducible apply TL.nil
    | with_reducible apply Thn.normal
    | with_reducible apply Thn.ret
    | with_reducible apply Thn.exit
    | with_reducible apply Blk.normal
    | with_reducible apply Blk.ret
    | ((with_reducible refine Blk.exitE ?_ ?_); · rfl)
    | ((with_reducible refine Blk.exitN ?_ ?_); · rfl)
    | with_reducible apply Rnd.ret
    | with_reducible apply Rnd.exit
    | with_reducible apply RndI.ret
    | with_reducible apply RndI.exit
    | with_reducible apply ThnI.ret
    | with_reducible apply ThnI.exit
    | with_reducible apply T.skip
    | with_reducible apply T.block
    | with_reducible apply T.ret
    | with_reducible apply T.exit
    | refine T.condT (h := ?_)
    | refine T.condF (h := ?_)
    | refine TL.pass (k := ?_)
    | refine TL.passN (k := ?_)
    | refine TL.take (k := ?_)
    | refine TL.q (h := .assign) (k := ?_)
    | refine TL.q (h := .move) (k := ?_)
    | (refine TL.callF (h := may_w _ _ _) (k := ?_); rintro _ _ ⟨rfl, rfl⟩)
    | refine TL.q (h := .not) (k := ?_)
    | refine TL.q (h := .nilCheck) (k := ?_)
    | refine TL.q (h := .fieldAddr) (k := ?_)
    | refine TL.q (h := .fieldEp) (k := ?_)
    | refine TL.q (h := .load) (k := ?_)
    | refine TL.q (h := .loadEp) (k := ?_)
    | refine TL.q (h := .lenR) (k := ?_)
    | refine TL.q (h := .lenS) (k := ?_)
    | refine TL.q (h := .build) (k := ?_)
    | (refine TL.e (h := .bs) (k := ?_); rintro _ _ ⟨_, rfl, rfl⟩)
    | (refine TL.e (h := .app) (k := ?_); rintro _ _ ⟨_, rfl, rfl⟩)
    | (refine TL.e (h := .appS) (k := ?_); rintro _ _ ⟨_, rfl, rfl⟩)
    | refine TL.u (h := .st) (k := ?_)
    | refine TL.u (h := .stA) (k := ?_)
    | refine TL.u (h := .stEp) (k := ?_)
    | refine TL.u (h := .stEpA) (k := ?_)
    | refine TL.q (h := .binI) (k := ?_)
    | refine TL.q (h := .binS) (k := ?_)
    | refine TL.gT (k := ?_)
    | refine TL.gF (k := ?_)
    | refine T.cT (h := ?_)
    | refine T.cF (h := ?_)
    | (refine TL.gcase (ht := fun _ => ?_) (hf := fun _ => ?_))
    | refine T.cond (by (simp only [St.ev, slk, Nat.reduceBEq, cond_true, cond_false]; first | done | rfl)) (fun _ => ?_) (fun _ => ?_))
  all_goals first
    | (have e : st.want op n status = st := by
         simp only [MAgent.want, wantE, hl, *] at *
         simp [*]
       rw [e]
       (first | refine RetQ.retI (L := agL b st sv cb wv m') (ResIs.r1 Try.results50 (RV.tmp)) (by (repeat (first | exact Picks.nil | (apply Picks.cons; (repeat (first | exact Pick.here | apply Pick.there)))))) ?_ | refine RetQ.norI (L := agL b st sv cb wv m') (ResIs.r1 Try.results50 (RV.tmp)) (by (repeat (first | exact Picks.nil | (apply Picks.cons; (repeat (first | exact Pick.here | apply Pick.there)))))) ?_)
       refine ⟨?_, wv, rfl⟩
       simp only [wantE, hl, *] at *
       simp [*]; done)
    | (rename_i q1 q2
       have e0 : wantE st op n status = 0 := by
         simp only [wantE, hl, *] at *
         simp [*]
       have e : st.want op n status = { st with wants := st.wants ++ [⟨op, n, status⟩] } := by simp only [MAgent.want, e0]; rfl
       have hm : st.wants.map MWant.C ++ [[.int .i64 op, .int .i64 n, .int .i64 status]] = (st.wants ++ [(⟨op, n, status⟩ : MWant)]).map MWant.C := by rw [List.map_append]; rfl
       rw [e, e0, hm]
       (first | refine RetQ.retI (L := agL b { st with wants := st.wants ++ [⟨op, n, status⟩] } sv cb q2 m') (ResIs.r1 Try.results50 (RV.tmp)) (by (repeat (first | exact Picks.nil | (apply Picks.cons; (repeat (first | exact Pick.here | apply Pick.there)))))) ?_ | refine RetQ.norI (L := agL b { st with wants := st.wants ++ [⟨op, n, status⟩] } sv cb q2 m') (ResIs.r1 Try.results50 (RV.tmp)) (by (repeat (first | exact Picks.nil | (apply Picks.cons; (repeat (first | exact Pick.here | apply Pick.there)))))) ?_)
       exact ⟨rfl, q2, rfl⟩)
end Go.Proofs.Ytpbomaelkpjbbaa

