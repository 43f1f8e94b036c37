import Derived.Test.YtpbomaelkpjbbaaC9
namespace Go.Proofs.Ytpbomaelkpjbbaa
open Go.Fw
attribute [local irreducible] T TL TG Thn Blk Rnd RndI RetQ OpV OpE OpU OpK Ctr row cel ep
def MAgent.recv (st : MAgent) (m : MMsg) : MAgent :=
  bif m.op == 1 && m.code == 0 then { st with waits := false, known := true }
  else bif m.op == 2 && m.code == 22 then { st with waits := false, known := false, beat := ⟨false, 0⟩ }
  else bif m.op == 3 && (m.code == 0 || m.code == 22) then { st with waits := false, known := false }
  else { st with waits := false }
def recvOk (st : MAgent) (from_ x : Int) (m : MMsg) : Bool := rightA m && from_ == x && st.waits && m.tag == st.ask.tag && m.op == st.ask.op
set_option maxHeartbeats 4000000 in
theorem agent_Receive (b : Nat) (st : MAgent) (sv : Sl) (cb : Nat) (wv : Sl) (m' : Bool) (from_ : Int) (m : MMsg) (x : Int) (hx : st.servers[st.server]? = some x) (hk : m.kind = 2) (h5 : (m.op == 5) = false) :
    Ctr Try.prog 52 #[.pointer (some ⟨b, 0, none⟩), .int .i64 from_, m.V] (agL b st sv cb wv m')
      fun v L => (recvOk st from_ x m = true ∧ v = .int .i64 m.code ∧ L = agL b (st.recv m) sv cb wv m') ∨ (recvOk st from_ x m = false ∧ v = .int .i64 (-1) ∧ L = agL b st sv cb wv m') := by
  have hr := mail_Right m hk
  simp only [MMsg.V, MMsg.C, hk, agL, agC] at hr ⊢
  refine Ctr.of (n := 116) (args := [_, _, _]) Try.func52 rfl rfl rfl fun F => ?_
  simp only [List.zipIdx_cons, List.zipIdx_nil, List.map_cons, List.map_nil, Nat.zero_add, Nat.reduceAdd, List.cons_append, List.nil_append]
  repeat' (first
    | with_reducible apply T.seq
    | with_reducible apply T.region
    | with_reducible apply TL.nil
    | with_reducible apply Thn.normal
    | with_reducible apply Thn.ret
    | with_reducible apply Thn.exit
    | with_reducible apply Blk.normal
    | with_reducible apply Blk.ret
    | ((with_reducible refine Blk.exitE ?_ ?_); · rfl)
    | ((with_reducible refine Blk.exitN ?_ ?_); · rfl)
    | with_reducible apply Rnd.ret
    | with_reducible apply Rnd.exit
    | with_reducible apply RndI.ret
    | with_reducible apply RndI.exit
    | with_reducible apply ThnI.ret
    | with_reducible apply ThnI.exit
    | with_reducible apply T.skip
    | with_reducible apply T.block
    | with_reducible apply T.ret
    | with_reducible apply T.exit
    | refine T.condT (h := ?_)
    | refine T.condF (h := ?_)
    | refine TL.pass (k := ?_)
    | refine TL.passN (k := ?_)
    | refine TL.take (k := ?_)
    | (refine TL.e (h := .bx) (k := ?_); rintro _ _ ⟨_, rfl, rfl⟩)
    | refine TL.q (h := .assign) (k := ?_)
    | refine TL.q (h := .move) (k := ?_)
    | refine TL.q (h := .nilCheck) (k := ?_)
    | refine TL.q (h := .fieldAddr) (k := ?_)
    | refine TL.q (h := .fieldEp) (k := ?_)
    | refine TL.u (h := .st) (k := ?_)
    | refine TL.u (h := .stA) (k := ?_)
    | refine TL.u (h := .stEp) (k := ?_)
    | refine TL.u (h := .stEpA) (k := ?_)
    | refine TL.q (h := .load) (k := ?_)
    | refine TL.q (h := .loadEp) (k := ?_)
    | refine TL.q (h := .pickT) (k := ?_)
    | refine TL.q (h := .pickF) (k := ?_)
    | refine TL.q (h := .build) (k := ?_)
    | refine TL.q (h := .binI) (k := ?_)
    | refine TL.q (h := .pickB) (k := ?_)
    | (skip
       all_goals refine TG.start (i := 1) mixed rfl ?_
       all_goals (first
         | refine TG.q0 0 (ho := rfl) (hv := .yes (h := .fieldAddr)) (k := ?_)
         | refine TG.qFieldEp 0 (ho := rfl) (h := ?_)
         | refine TG.lv 0 (ho := rfl) (hv := .fieldAddr) (k := ?_)
         | refine TG.lv 0 (ho := rfl) (hv := .fieldEp) (k := ?_))
       all_goals (first
         | refine TG.qLoad 1 (ho := rfl) (k := ?_)
         | refine TG.qLoadEp 1 (ho := rfl) (h := ?_)
         | refine TG.lv 1 (ho := rfl) (hv := .load) (k := ?_)
         | refine TG.lv 1 (ho := rfl) (hv := .loadEp) (k := ?_))
       all_goals (first
         | refine TG.q0 2 (ho := rfl) (hv := .yes (h := .binI)) (k := ?_)
         | refine TG.lv 2 (ho := rfl) (hv := .binI) (k := ?_))
       all_goals (first
         | refine TG.q0 3 (ho := rfl) (hv := .yes (h := .move)) (k := ?_)
         | refine TG.lv 3 (ho := rfl) (hv := .move) (k := ?_))
       all_goals try (first | refine TG.litT 11 (k := ?_) | refine TG.litF 11 (k := ?_) | refine TG.lit 11 (fun _ => ?_) (fun _ => ?_))
       all_goals (first
         | refine TG.q0 4 (ho := rfl) (hv := .no) (k := ?_)
         | refine TG.qLoadA 4 (ho := rfl) (k := ?_)
         | refine TG.qLoadEpA 4 (ho := rfl) (h := ?_)
         | refine TG.lv 4 (ho := rfl) (hv := .loadA) (k := ?_)
         | refine TG.lv 4 (ho := rfl) (hv := .loadEpA) (k := ?_))
       all_goals (first
         | refine TG.q0 5 (ho := rfl) (hv := .no) (k := ?_)
         | (refine TG.ld 5 (ho := rfl) (hK := .callF (h := hr)) (k := ?_); rintro _ _ ⟨_, rfl, ⟨hI, hN⟩, rfl⟩; refine ⟨by (repeat (first | exact Held.nil | apply Held.zero | (apply Held.one; (repeat (first | exact Pick.here | apply Pick.there))))), ?_⟩))
       all_goals (first
         | refine TG.q0 6 (ho := rfl) (hv := .no) (k := ?_)
         | refine TG.q0 6 (ho := rfl) (hv := .yes (h := .neNilI)) (k := ?_)
         | refine TG.lv 6 (ho := rfl) (hv := .neNilI) (k := ?_))
       all_goals (first
         | refine TG.q0 7 (ho := rfl) (hv := .yes (h := .pickT)) (k := ?_)
         | refine TG.q0 7 (ho := rfl) (hv := .yes (h := .pickF)) (k := ?_)
         | refine TG.q0 7 (ho := rfl) (hv := .yes (h := .pickB)) (k := ?_)
         | refine TG.lv 7 (ho := rfl) (hv := .pickT) (k := ?_)
         | refine TG.lv 7 (ho := rfl) (hv := .pickF) (k := ?_)
         | refine TG.lv 7 (ho := rfl) (hv := .pickB) (k := ?_))
       all_goals (first
         | refine TG.q0 8 (ho := rfl) (hv := .yes (h := .move)) (k := ?_)
         | refine TG.lv 8 (ho := rfl) (hv := .move) (k := ?_))
       all_goals try (first | refine TG.litT 16 (k := ?_) | refine TG.litF 16 (k := ?_) | refine TG.lit 16 (fun _ => ?_) (fun _ => ?_))
       all_goals (first
         | refine TG.q0 9 (ho := rfl) (hv := .no) (k := ?_)
         | refine TG.q0 9 (ho := rfl) (hv := .yes (h := .move)) (k := ?_)
         | refine TG.lv 9 (ho := rfl) (hv := .move) (k := ?_))
       all_goals (first
         | refine TG.q0 10 (ho := rfl) (hv := .no) (k := ?_)
         | refine TG.q0 10 (ho := rfl) (hv := .yes (h := .move)) (k := ?_)
         | refine TG.lv 10 (ho := rfl) (hv := .move) (k := ?_))
       all_goals (first
         | refine TG.q0 11 (ho := rfl) (hv := .no) (k := ?_)
         | (refine TG.ld 11 (ho := rfl) (hK := .callF (h := agent_Server _ _ _ _ _ _ _ _ (by first | assumption | rfl | omega | (simp at *; omega)) (by first | assumption | rfl | omega | (simp at *; omega)) (by first | assumption | rfl | omega | (simp at *; omega)))) (k := ?_); rintro _ _ ⟨_, rfl, rfl, rfl⟩; refine ⟨by (repeat (first | exact Held.nil | apply Held.zero | (apply Held.one; (repeat (first | exact Pick.here | apply Pick.there))))), ?_⟩))
       all_goals (first
         | refine TG.q0 12 (ho := rfl) (hv := .no) (k := ?_)
         | refine TG.q0 12 (ho := rfl) (hv := .yes (h := .binI)) (k := ?_)
         | refine TG.lv 12 (ho := rfl) (hv := .binI) (k := ?_))
       all_goals (first
         | refine TG.q0 13 (ho := rfl) (hv := .yes (h := .pickT)) (k := ?_)
         | refine TG.q0 13 (ho := rfl) (hv := .yes (h := .pickF)) (k := ?_)
         | refine TG.q0 13 (ho := rfl) (hv := .yes (h := .pickB)) (k := ?_)
         | refine TG.lv 13 (ho := rfl) (hv := .pickT) (k := ?_)
         | refine TG.lv 13 (ho := rfl) (hv := .pickF) (k := ?_)
         | refine TG.lv 13 (ho := rfl) (hv := .pickB) (k := ?_))
       all_goals (first
         | refine TG.q0 14 (ho := rfl) (hv := .yes (h := .move)) (k := ?_)
         | refine TG.lv 14 (ho := rfl) (hv := .move) (k := ?_))
       all_goals try (first | refine TG.litT 22 (k := ?_) | refine TG.litF 22 (k := ?_) | refine TG.lit 22 (fun _ => ?_) (fun _ => ?_))
       all_goals (first
         | refine TG.q0 15 (ho := rfl) (hv := .no) (k := ?_)
         | refine TG.q0 15 (ho := rfl) (hv := .yes (h := .move)) (k := ?_)
         | refine TG.lv 15 (ho := rfl) (hv := .move) (k := ?_))
       all_goals (first
         | refine TG.q0 16 (ho := rfl) (hv := .no) (k := ?_)
         | refine TG.q0 16 (ho := rfl) (hv := .yes (h := .nilCheck)) (k := ?_)
         | refine TG.lv 16 (ho := rfl) (hv := .nilCheck) (k := ?_))
       all_goals (first
         | refine TG.q0 17 (ho := rfl) (hv := .no) (k := ?_)
         | refine TG.q0 17 (ho := rfl) (hv := .yes (h := .fieldAddr)) (k := ?_)
         | refine TG.qFieldEp 17 (ho := rfl) (h := ?_)
         | refine TG.lv 17 (ho := rfl) (hv := .fieldAddr) (k := ?_)
         | refine TG.lv 17 (ho := rfl) (hv := .fieldEp) (k := ?_))
       all_goals (first
         | refine TG.q0 18 (ho := rfl) (hv := .no) (k := ?_)
         | refine TG.qLoad 18 (ho := rfl) (k := ?_)
         | refine TG.qLoadEp 18 (ho := rfl) (h := ?_)
         | refine TG.lv 18 (ho := rfl) (hv := .load) (k := ?_)
         | refine TG.lv 18 (ho := rfl) (hv := .loadEp) (k := ?_))
       all_goals (first
         | refine TG.q0 19 (ho := rfl) (hv := .no) (k := ?_)
         | refine TG.q0 19 (ho := rfl) (hv := .yes (h := .not)) (k := ?_)
         | refine TG.lv 19 (ho := rfl) (hv := .not) (k := ?_))
       all_goals (first
         | refine TG.q0 20 (ho := rfl) (hv := .yes (h := .pickT)) (k := ?_)
         | refine TG.q0 20 (ho := rfl) (hv := .yes (h := .pickF)) (k := ?_)
         | refine TG.q0 20 (ho := rfl) (hv := .yes (h := .pickB)) (k := ?_)
         | refine TG.lv 20 (ho := rfl) (hv := .pickT) (k := ?_)
         | refine TG.lv 20 (ho := rfl) (hv := .pickF) (k := ?_)
         | refine TG.lv 20 (ho := rfl) (hv := .pickB) (k := ?_))
       all_goals (first
         | refine TG.q0 21 (ho := rfl) (hv := .yes (h := .move)) (k := ?_)
         | refine TG.lv 21 (ho := rfl) (hv := .move) (k := ?_))
       all_goals try (first | refine TG.litT 29 (k := ?_) | refine TG.litF 29 (k := ?_) | refine TG.lit 29 (fun _ => ?_) (fun _ => ?_))
       all_goals (first
         | refine TG.q0 22 (ho := rfl) (hv := .no) (k := ?_)
         | refine TG.q0 22 (ho := rfl) (hv := .yes (h := .fieldAddr)) (k := ?_)
         | refine TG.qFieldEp 22 (ho := rfl) (h := ?_)
         | refine TG.lv 22 (ho := rfl) (hv := .fieldAddr) (k := ?_)
         | refine TG.lv 22 (ho := rfl) (hv := .fieldEp) (k := ?_))
       all_goals (first
         | refine TG.q0 23 (ho := rfl) (hv := .no) (k := ?_)
         | refine TG.qLoad 23 (ho := rfl) (k := ?_)
         | refine TG.qLoadEp 23 (ho := rfl) (h := ?_)
         | refine TG.lv 23 (ho := rfl) (hv := .load) (k := ?_)
         | refine TG.lv 23 (ho := rfl) (hv := .loadEp) (k := ?_))
       all_goals (first
         | refine TG.q0 24 (ho := rfl) (hv := .no) (k := ?_)
         | refine TG.q0 24 (ho := rfl) (hv := .yes (h := .move)) (k := ?_)
         | refine TG.lv 24 (ho := rfl) (hv := .move) (k := ?_))
       all_goals (first
         | refine TG.q0 25 (ho := rfl) (hv := .no) (k := ?_)
         | refine TG.q0 25 (ho := rfl) (hv := .yes (h := .nilCheck)) (k := ?_)
         | refine TG.lv 25 (ho := rfl) (hv := .nilCheck) (k := ?_))
       all_goals (first
         | refine TG.q0 26 (ho := rfl) (hv := .no) (k := ?_)
         | refine TG.q0 26 (ho := rfl) (hv := .yes (h := .fieldAddr)) (k := ?_)
         | refine TG.qFieldEp 26 (ho := rfl) (h := ?_)
         | refine TG.lv 26 (ho := rfl) (hv := .fieldAddr) (k := ?_)
         | refine TG.lv 26 (ho := rfl) (hv := .fieldEp) (k := ?_))
       all_goals (first
         | refine TG.q0 27 (ho := rfl) (hv := .no) (k := ?_)
         | refine TG.q0 27 (ho := rfl) (hv := .yes (h := .fieldAddr)) (k := ?_)
         | refine TG.qFieldEp 27 (ho := rfl) (h := ?_)
         | refine TG.lv 27 (ho := rfl) (hv := .fieldAddr) (k := ?_)
         | refine TG.lv 27 (ho := rfl) (hv := .fieldEp) (k := ?_))
       all_goals (first
         | refine TG.q0 28 (ho := rfl) (hv := .no) (k := ?_)
         | refine TG.qLoad 28 (ho := rfl) (k := ?_)
         | refine TG.qLoadEp 28 (ho := rfl) (h := ?_)
         | refine TG.lv 28 (ho := rfl) (hv := .load) (k := ?_)
         | refine TG.lv 28 (ho := rfl) (hv := .loadEp) (k := ?_))
       all_goals (first
         | refine TG.q0 29 (ho := rfl) (hv := .no) (k := ?_)
         | refine TG.q0 29 (ho := rfl) (hv := .yes (h := .binI)) (k := ?_)
         | refine TG.lv 29 (ho := rfl) (hv := .binI) (k := ?_))
       all_goals (first
         | refine TG.q0 30 (ho := rfl) (hv := .yes (h := .pickT)) (k := ?_)
         | refine TG.q0 30 (ho := rfl) (hv := .yes (h := .pickF)) (k := ?_)
         | refine TG.q0 30 (ho := rfl) (hv := .yes (h := .pickB)) (k := ?_)
         | refine TG.lv 30 (ho := rfl) (hv := .pickT) (k := ?_)
         | refine TG.lv 30 (ho := rfl) (hv := .pickF) (k := ?_)
         | refine TG.lv 30 (ho := rfl) (hv := .pickB) (k := ?_))
       all_goals (first
         | refine TG.q0 31 (ho := rfl) (hv := .yes (h := .move)) (k := ?_)
         | refine TG.lv 31 (ho := rfl) (hv := .move) (k := ?_))
       all_goals try (first | refine TG.litT 39 (k := ?_) | refine TG.litF 39 (k := ?_) | refine TG.lit 39 (fun _ => ?_) (fun _ => ?_))
       all_goals (first
         | refine TG.q0 32 (ho := rfl) (hv := .no) (k := ?_)
         | refine TG.q0 32 (ho := rfl) (hv := .yes (h := .fieldAddr)) (k := ?_)
         | refine TG.qFieldEp 32 (ho := rfl) (h := ?_)
         | refine TG.lv 32 (ho := rfl) (hv := .fieldAddr) (k := ?_)
         | refine TG.lv 32 (ho := rfl) (hv := .fieldEp) (k := ?_))
       all_goals (first
         | refine TG.q0 33 (ho := rfl) (hv := .no) (k := ?_)
         | refine TG.qLoad 33 (ho := rfl) (k := ?_)
         | refine TG.qLoadEp 33 (ho := rfl) (h := ?_)
         | refine TG.lv 33 (ho := rfl) (hv := .load) (k := ?_)
         | refine TG.lv 33 (ho := rfl) (hv := .loadEp) (k := ?_))
       all_goals (first
         | refine TG.q0 34 (ho := rfl) (hv := .no) (k := ?_)
         | refine TG.q0 34 (ho := rfl) (hv := .yes (h := .move)) (k := ?_)
         | refine TG.lv 34 (ho := rfl) (hv := .move) (k := ?_))
       all_goals (first
         | refine TG.q0 35 (ho := rfl) (hv := .no) (k := ?_)
         | refine TG.q0 35 (ho := rfl) (hv := .yes (h := .nilCheck)) (k := ?_)
         | refine TG.lv 35 (ho := rfl) (hv := .nilCheck) (k := ?_))
       all_goals (first
         | refine TG.q0 36 (ho := rfl) (hv := .no) (k := ?_)
         | refine TG.q0 36 (ho := rfl) (hv := .yes (h := .fieldAddr)) (k := ?_)
         | refine TG.qFieldEp 36 (ho := rfl) (h := ?_)
         | refine TG.lv 36 (ho := rfl) (hv := .fieldAddr) (k := ?_)
         | refine TG.lv 36 (ho := rfl) (hv := .fieldEp) (k := ?_))
       all_goals (first
         | refine TG.q0 37 (ho := rfl) (hv := .no) (k := ?_)
         | refine TG.q0 37 (ho := rfl) (hv := .yes (h := .fieldAddr)) (k := ?_)
         | refine TG.qFieldEp 37 (ho := rfl) (h := ?_)
         | refine TG.lv 37 (ho := rfl) (hv := .fieldAddr) (k := ?_)
         | refine TG.lv 37 (ho := rfl) (hv := .fieldEp) (k := ?_))
       all_goals (first
         | refine TG.q0 38 (ho := rfl) (hv := .no) (k := ?_)
         | refine TG.qLoad 38 (ho := rfl) (k := ?_)
         | refine TG.qLoadEp 38 (ho := rfl) (h := ?_)
         | refine TG.lv 38 (ho := rfl) (hv := .load) (k := ?_)
         | refine TG.lv 38 (ho := rfl) (hv := .loadEp) (k := ?_))
       all_goals (first
         | refine TG.q0 39 (ho := rfl) (hv := .no) (k := ?_)
         | refine TG.q0 39 (ho := rfl) (hv := .yes (h := .binI)) (k := ?_)
         | refine TG.lv 39 (ho := rfl) (hv := .binI) (k := ?_))
       all_goals (first
         | refine TG.q0 40 (ho := rfl) (hv := .yes (h := .pickT)) (k := ?_)
         | refine TG.q0 40 (ho := rfl) (hv := .yes (h := .pickF)) (k := ?_)
         | refine TG.q0 40 (ho := rfl) (hv := .yes (h := .pickB)) (k := ?_)
         | refine TG.lv 40 (ho := rfl) (hv := .pickT) (k := ?_)
         | refine TG.lv 40 (ho := rfl) (hv := .pickF) (k := ?_)
         | refine TG.lv 40 (ho := rfl) (hv := .pickB) (k := ?_))
       all_goals apply TG.fin rfl)
    | refine TL.gT (k := ?_)
    | refine TL.gF (k := ?_)
    | refine T.cT (h := ?_)
    | refine T.cF (h := ?_)
    | (refine TL.gcase (ht := fun _ => ?_) (hf := fun _ => ?_))
    | refine T.cond (by (simp only [St.ev, slk, Nat.reduceBEq, cond_true, cond_false]; first | done | rfl)) (fun _ => ?_) (fun _ => ?_))
  all_goals first
    | ((first | refine RetQ.retI (L := agL b st sv cb wv m') (ResIs.r1 Try.results52 (RV.tmp)) (by (repeat (first | exact Picks.nil | (apply Picks.cons; (repeat (first | exact Pick.here | apply Pick.there)))))) ?_ | refine RetQ.norI (L := agL b st sv cb wv m') (ResIs.r1 Try.results52 (RV.tmp)) (by (repeat (first | exact Picks.nil | (apply Picks.cons; (repeat (first | exact Pick.here | apply Pick.there)))))) ?_)
       refine .inr ⟨?_, rfl, rfl⟩
       simp_all [recvOk]; done)
    | (have hrec : st.recv m = { st with waits := false, known := true } := by simp [MAgent.recv, *]
       rw [hrec]
       (first | refine RetQ.retI (L := agL b { st with waits := false, known := true } sv cb wv m') (ResIs.r1 Try.results52 (RV.tmp)) (by (repeat (first | exact Picks.nil | (apply Picks.cons; (repeat (first | exact Pick.here | apply Pick.there)))))) ?_ | refine RetQ.norI (L := agL b { st with waits := false, known := true } sv cb wv m') (ResIs.r1 Try.results52 (RV.tmp)) (by (repeat (first | exact Picks.nil | (apply Picks.cons; (repeat (first | exact Pick.here | apply Pick.there)))))) ?_)
       refine .inl ⟨?_, rfl, rfl⟩
       simp_all [recvOk]; done)
    | (have hrec : st.recv m = { st with waits := false, known := false, beat := ⟨false, 0⟩ } := by simp [MAgent.recv, *]
       rw [hrec]
       (first | refine RetQ.retI (L := agL b { st with waits := false, known := false, beat := ⟨false, 0⟩ } sv cb wv m') (ResIs.r1 Try.results52 (RV.tmp)) (by (repeat (first | exact Picks.nil | (apply Picks.cons; (repeat (first | exact Pick.here | apply Pick.there)))))) ?_ | refine RetQ.norI (L := agL b { st with waits := false, known := false, beat := ⟨false, 0⟩ } sv cb wv m') (ResIs.r1 Try.results52 (RV.tmp)) (by (repeat (first | exact Picks.nil | (apply Picks.cons; (repeat (first | exact Pick.here | apply Pick.there)))))) ?_)
       refine .inl ⟨?_, rfl, rfl⟩
       simp_all [recvOk]; done)
    | (have hrec : st.recv m = { st with waits := false, known := false } := by simp [MAgent.recv, *]
       rw [hrec]
       (first | refine RetQ.retI (L := agL b { st with waits := false, known := false } sv cb wv m') (ResIs.r1 Try.results52 (RV.tmp)) (by (repeat (first | exact Picks.nil | (apply Picks.cons; (repeat (first | exact Pick.here | apply Pick.there)))))) ?_ | refine RetQ.norI (L := agL b { st with waits := false, known := false } sv cb wv m') (ResIs.r1 Try.results52 (RV.tmp)) (by (repeat (first | exact Picks.nil | (apply Picks.cons; (repeat (first | exact Pick.here | apply Pick.there)))))) ?_)
       refine .inl ⟨?_, rfl, rfl⟩
       simp_all [recvOk]; done)
    | (have hrec : st.recv m = { st with waits := false } := by simp [MAgent.recv, *]
       rw [hrec]
       (first | refine RetQ.retI (L := agL b { st with waits := false } sv cb wv m') (ResIs.r1 Try.results52 (RV.tmp)) (by (repeat (first | exact Picks.nil | (apply Picks.cons; (repeat (first | exact Pick.here | apply Pick.there)))))) ?_ | refine RetQ.norI (L := agL b { st with waits := false } sv cb wv m') (ResIs.r1 Try.results52 (RV.tmp)) (by (repeat (first | exact Picks.nil | (apply Picks.cons; (repeat (first | exact Pick.here | apply Pick.there)))))) ?_)
       refine .inl ⟨?_, rfl, rfl⟩
       simp_all [recvOk]; done)
end Go.Proofs.Ytpbomaelkpjbbaa

