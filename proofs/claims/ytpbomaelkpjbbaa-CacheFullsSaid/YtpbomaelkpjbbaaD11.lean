import Derived.Test.YtpbomaelkpjbbaaD10
namespace Go.Proofs.Ytpbomaelkpjbbaa
open Go.Fw
attribute [local irreducible] T TL TG Thn ThnI Blk Rnd RndI RetQ OpV OpE OpU OpK Ctr row cel ep
/-- The cards behind a feed. -/
def fedL (l : List MCard) (full : Bool) (cs : List MCard) : List MCard := cs.foldl cPut (bif full then [] else l)
theorem fedL_snoc (l : List MCard) (full : Bool) (cs : List MCard) (c : MCard) : fedL l full (cs ++ [c]) = cPut (fedL l full cs) c := by simp [fedL]
theorem cPut_len (l : List MCard) (c : MCard) : (cPut l c).length ≤ l.length + 1 := by
  have := others_len c l
  unfold cPut
  split <;> simp <;> omega
theorem fedL_len (l : List MCard) (full : Bool) (cs : List MCard) : (fedL l full cs).length ≤ l.length + cs.length := by
  have gen : ∀ n (cs : List MCard), cs.length = n → (fedL l full cs).length ≤ l.length + cs.length := by
    intro n
    induction n with
    | zero => intro cs hl; rw [List.eq_nil_of_length_eq_zero hl]; cases full <;> simp [fedL]
    | succ n ih =>
      intro cs hl
      rcases snoc_cases cs with rfl | ⟨k, c, rfl⟩
      · cases full <;> simp [fedL]
      · rw [fedL_snoc]
        have h1 := ih k (by simpa using hl)
        have h2 := cPut_len (fedL l full k) c
        simp only [List.length_append, List.length_cons, List.length_nil]
        omega
  exact gen _ cs rfl
/-- What a cache has, behind a message. -/
structure MCache where
  l : List MCard
  since : Int
def MCache.apply (s : MCache) (m : MMsg) (cs : List MCard) : Int × MCache :=
  bif m.kind != 2 || m.op != 5 || m.code != 0 || !rightC m cs then (1, s)
  else bif !m.full && s.since == -1 then (25, s)
  else bif sumB (sealB (sortK (fedL s.l m.full cs))) != m.sum then (25, ⟨sortK (fedL s.l m.full cs), -1⟩)
  else (0, ⟨sortK (fedL s.l m.full cs), m.seq⟩)
set_option maxHeartbeats 4000000 in
theorem cache_Apply (cb : Nat) (s : MCache) (q : Sl) (m : MMsg) (mc : Bool) (cv : Sl) (cs : List MCard) (hq : s.l.length ≤ 40000) (hc : cs.length ≤ 40000)
    (hf : m.kind = 2 → m.op = 5 → m.code = 0 → rightC m cs = true → ¬ (m.full = false ∧ s.since = -1) → (fedL s.l m.full cs).length ≤ 20 ∧ Short (fedL s.l m.full cs)) :
    Ctr Try.prog 22 #[.pointer (some ⟨cb, 0, none⟩), .agg (m.CK cv.v (.slice none 0 0)).toArray] [cel true cb 106 [q.v, .int .i64 s.since], row true 58 9 q.v (s.l.map MCard.C), row mc 58 9 cv.v (cs.map MCard.C)]
      fun v L => v = .int .i64 (s.apply m cs).1 ∧ ∃ q2 : Sl, L = [cel true cb 106 [q2.v, .int .i64 (s.apply m cs).2.since], row true 58 9 q2.v ((s.apply m cs).2.l.map MCard.C), row mc 58 9 cv.v (cs.map MCard.C)] := by
  have hlm : (cs.map MCard.C).length = cs.length := by simp
  by_cases hk : m.kind = 2
  · by_cases ho : m.op = 5
    · by_cases hcd : m.code = 0
      · have hr := mail_RightC m mc cv cs hk (by omega)
        simp only [MMsg.CK, hk, ho, hcd] at hr ⊢
        cases hR : rightC m cs with
        | false =>
          have hap : s.apply m cs = (1, s) := by simp [MCache.apply, hR]
          rw [hR] at hr
          rw [hap]
          refine Ctr.of (n := 74) (args := [_, _]) Try.func22 rfl rfl rfl fun F => ?_
          simp only [List.zipIdx_cons, List.zipIdx_nil, List.map_cons, List.map_nil, Nat.zero_add, Nat.reduceAdd, List.cons_append, List.nil_append]
          repeat (first
            | with_reducible apply T.seq
            | with_reducible apply T.region
            | with_reducible apply TL.nil
            | with_reducible apply Thn.normal
            | with_reducible apply Thn.ret
            | with_reducible apply Thn.exit
            | with_reducible apply Blk.normal
            | with_reducible apply Blk.ret
            | ((with_reducible refine Blk.exitE ?_ ?_); · rfl)
            | ((with_reducible refine Blk.exitN ?_ ?_); · rfl)
            | with_reducible apply Rnd.ret
            | with_reducible apply Rnd.exit
            | with_reducible apply RndI.ret
            | with_reducible apply RndI.exit
            | with_reducible apply ThnI.ret
            | with_reducible apply ThnI.exit
            | with_reducible apply T.skip
            | with_reducible apply T.block
            | with_reducible apply T.ret
            | with_reducible apply T.exit
            | refine T.condT (h := ?_)
            | refine T.condF (h := ?_)
            | refine TL.pass (k := ?_)
            | refine TL.passN (k := ?_)
            | refine TL.take (k := ?_)
            | (refine TL.e (h := .bx) (k := ?_); rintro _ _ ⟨_, rfl, rfl⟩)
            | refine TL.q (h := .assign) (k := ?_)
            | refine TL.q (h := .fieldAddr) (k := ?_)
            | refine TL.q (h := .fieldEp) (k := ?_)
            | refine TL.q (h := .load) (k := ?_)
            | refine TL.q (h := .loadEp) (k := ?_)
            | refine TL.q (h := .move) (k := ?_)
            | refine TL.q (h := .pickT) (k := ?_)
            | refine TL.q (h := .pickF) (k := ?_)
            | refine TL.q (h := .loadA) (k := ?_)
            | refine TL.q (h := .loadEpA) (k := ?_)
            | (refine TL.callF (h := hr) (k := ?_); rintro _ _ ⟨⟨hI, hN⟩, rfl⟩)
            | refine TL.q (h := .neNilI) (k := ?_)
            | refine TL.q (h := .not) (k := ?_)
            | refine TL.q (h := .nilCheck) (k := ?_)
            | refine TL.q (h := .lenR) (k := ?_)
            | refine TL.q (h := .lenS) (k := ?_)
            | refine TL.q (h := .indexR) (k := ?_)
            | (refine TL.e (h := .al) (k := ?_); rintro _ _ ⟨_, rfl, rfl⟩)
            | refine TL.u (h := .stA0) (k := ?_)
            | refine TL.u (h := .st) (k := ?_)
            | refine TL.u (h := .stA) (k := ?_)
            | refine TL.u (h := .stEp) (k := ?_)
            | refine TL.u (h := .stEpA) (k := ?_)
            | (refine TL.callF (h := cache_put _ _ _ _ (by first | assumption | rfl | omega | (simp at *; omega))) (k := ?_); rintro _ _ ⟨_, rfl, rfl⟩)
            | refine TL.q (h := .add) (k := ?_)
            | refine TL.q (h := .catS) (k := ?_)
            | (refine TL.callF (h := card_Sort _ _ _ (by first | assumption | rfl | omega | (simp at *; omega))) (k := ?_); rintro _ _ ⟨_, rfl, rfl⟩)
            | (refine TL.callF (h := sort_nil) (k := ?_); rintro _ _ ⟨rfl, rfl⟩)
            | refine TL.q (h := .binI) (k := ?_)
            | refine TL.q (h := .pickB) (k := ?_)
            | refine TL.q (h := .binS) (k := ?_))
          rename_i bm vr
          have f1 : (!isNilI vr) = true := by rw [hN]; rfl
          refine T.cT (h := ?_)
          repeat (first
            | with_reducible apply T.seq
            | with_reducible apply T.region
            | with_reducible apply TL.nil
            | with_reducible apply Thn.normal
            | with_reducible apply Thn.ret
            | with_reducible apply Thn.exit
            | with_reducible apply Blk.normal
            | with_reducible apply Blk.ret
            | ((with_reducible refine Blk.exitE ?_ ?_); · rfl)
            | ((with_reducible refine Blk.exitN ?_ ?_); · rfl)
            | with_reducible apply Rnd.ret
            | with_reducible apply Rnd.exit
            | with_reducible apply RndI.ret
            | with_reducible apply RndI.exit
            | with_reducible apply ThnI.ret
            | with_reducible apply ThnI.exit
            | with_reducible apply T.skip
            | with_reducible apply T.block
            | with_reducible apply T.ret
            | with_reducible apply T.exit
            | refine T.condT (h := ?_)
            | refine T.condF (h := ?_)
            | refine TL.pass (k := ?_)
            | refine TL.passN (k := ?_)
            | refine TL.take (k := ?_)
            | (refine TL.e (h := .bx) (k := ?_); rintro _ _ ⟨_, rfl, rfl⟩)
            | refine TL.q (h := .assign) (k := ?_)
            | refine TL.q (h := .fieldAddr) (k := ?_)
            | refine TL.q (h := .fieldEp) (k := ?_)
            | refine TL.q (h := .load) (k := ?_)
            | refine TL.q (h := .loadEp) (k := ?_)
            | refine TL.q (h := .move) (k := ?_)
            | refine TL.q (h := .pickT) (k := ?_)
            | refine TL.q (h := .pickF) (k := ?_)
            | refine TL.q (h := .loadA) (k := ?_)
            | refine TL.q (h := .loadEpA) (k := ?_)
            | (refine TL.callF (h := hr) (k := ?_); rintro _ _ ⟨⟨hI, hN⟩, rfl⟩)
            | refine TL.q (h := .neNilI) (k := ?_)
            | refine TL.q (h := .not) (k := ?_)
            | refine TL.q (h := .nilCheck) (k := ?_)
            | refine TL.q (h := .lenR) (k := ?_)
            | refine TL.q (h := .lenS) (k := ?_)
            | refine TL.q (h := .indexR) (k := ?_)
            | (refine TL.e (h := .al) (k := ?_); rintro _ _ ⟨_, rfl, rfl⟩)
            | refine TL.u (h := .stA0) (k := ?_)
            | refine TL.u (h := .st) (k := ?_)
            | refine TL.u (h := .stA) (k := ?_)
            | refine TL.u (h := .stEp) (k := ?_)
            | refine TL.u (h := .stEpA) (k := ?_)
            | (refine TL.callF (h := cache_put _ _ _ _ (by first | assumption | rfl | omega | (simp at *; omega))) (k := ?_); rintro _ _ ⟨_, rfl, rfl⟩)
            | refine TL.q (h := .add) (k := ?_)
            | refine TL.q (h := .catS) (k := ?_)
            | (refine TL.callF (h := card_Sort _ _ _ (by first | assumption | rfl | omega | (simp at *; omega))) (k := ?_); rintro _ _ ⟨_, rfl, rfl⟩)
            | (refine TL.callF (h := sort_nil) (k := ?_); rintro _ _ ⟨rfl, rfl⟩)
            | refine TL.q (h := .binI) (k := ?_)
            | refine TL.q (h := .pickB) (k := ?_)
            | refine TL.q (h := .binS) (k := ?_))
          (first | refine RetQ.retI (L := [cel true cb 106 [q.v, .int .i64 s.since], row true 58 9 q.v (s.l.map MCard.C), row mc 58 9 cv.v (cs.map MCard.C)]) (ResIs.r1 Try.results22 (RV.tmp)) (by (repeat (first | exact Picks.nil | (apply Picks.cons; (repeat (first | exact Pick.here | apply Pick.there)))))) ?_ | refine RetQ.norI (L := [cel true cb 106 [q.v, .int .i64 s.since], row true 58 9 q.v (s.l.map MCard.C), row mc 58 9 cv.v (cs.map MCard.C)]) (ResIs.r1 Try.results22 (RV.tmp)) (by (repeat (first | exact Picks.nil | (apply Picks.cons; (repeat (first | exact Pick.here | apply Pick.there)))))) ?_)
          exact ⟨rfl, q, rfl⟩
        | true =>
          rw [hR] at hr
          by_cases hst : m.full = false ∧ s.since = -1
          · have hap : s.apply m cs = (25, s) := by simp [MCache.apply, hR, hk, ho, hcd, hst.1, hst.2]
            rw [hap]
            have e1 : (!m.full) = true := by rw [hst.1]; rfl
            have e2 : (s.since == -1) = true := by rw [hst.2]; rfl
            refine Ctr.of (n := 74) (args := [_, _]) Try.func22 rfl rfl rfl fun F => ?_
            simp only [List.zipIdx_cons, List.zipIdx_nil, List.map_cons, List.map_nil, Nat.zero_add, Nat.reduceAdd, List.cons_append, List.nil_append]
            repeat (first
              | with_reducible apply T.seq
              | with_reducible apply T.region
              | with_reducible apply TL.nil
              | with_reducible apply Thn.normal
              | with_reducible apply Thn.ret
              | with_reducible apply Thn.exit
              | with_reducible apply Blk.normal
              | with_reducible apply Blk.ret
              | ((with_reducible refine Blk.exitE ?_ ?_); · rfl)
              | ((with_reducible refine Blk.exitN ?_ ?_); · rfl)
              | with_reducible apply Rnd.ret
              | with_reducible apply Rnd.exit
              | with_reducible apply RndI.ret
              | with_reducible apply RndI.exit
              | with_reducible apply ThnI.ret
              | with_reducible apply ThnI.exit
              | with_reducible apply T.skip
              | with_reducible apply T.block
              | with_reducible apply T.ret
              | with_reducible apply T.exit
              | refine T.condT (h := ?_)
              | refine T.condF (h := ?_)
              | refine TL.pass (k := ?_)
              | refine TL.passN (k := ?_)
              | refine TL.take (k := ?_)
              | (refine TL.e (h := .bx) (k := ?_); rintro _ _ ⟨_, rfl, rfl⟩)
              | refine TL.q (h := .assign) (k := ?_)
              | refine TL.q (h := .fieldAddr) (k := ?_)
              | refine TL.q (h := .fieldEp) (k := ?_)
              | refine TL.q (h := .load) (k := ?_)
              | refine TL.q (h := .loadEp) (k := ?_)
              | refine TL.q (h := .move) (k := ?_)
              | refine TL.q (h := .pickT) (k := ?_)
              | refine TL.q (h := .pickF) (k := ?_)
              | refine TL.q (h := .loadA) (k := ?_)
              | refine TL.q (h := .loadEpA) (k := ?_)
              | (refine TL.callF (h := hr) (k := ?_); rintro _ _ ⟨⟨hI, hN⟩, rfl⟩)
              | refine TL.q (h := .neNilI) (k := ?_)
              | refine TL.q (h := .not) (k := ?_)
              | refine TL.q (h := .nilCheck) (k := ?_)
              | refine TL.q (h := .lenR) (k := ?_)
              | refine TL.q (h := .lenS) (k := ?_)
              | refine TL.q (h := .indexR) (k := ?_)
              | (refine TL.e (h := .al) (k := ?_); rintro _ _ ⟨_, rfl, rfl⟩)
              | refine TL.u (h := .stA0) (k := ?_)
              | refine TL.u (h := .st) (k := ?_)
              | refine TL.u (h := .stA) (k := ?_)
              | refine TL.u (h := .stEp) (k := ?_)
              | refine TL.u (h := .stEpA) (k := ?_)
              | (refine TL.callF (h := cache_put _ _ _ _ (by first | assumption | rfl | omega | (simp at *; omega))) (k := ?_); rintro _ _ ⟨_, rfl, rfl⟩)
              | refine TL.q (h := .add) (k := ?_)
              | refine TL.q (h := .catS) (k := ?_)
              | (refine TL.callF (h := card_Sort _ _ _ (by first | assumption | rfl | omega | (simp at *; omega))) (k := ?_); rintro _ _ ⟨_, rfl, rfl⟩)
              | (refine TL.callF (h := sort_nil) (k := ?_); rintro _ _ ⟨rfl, rfl⟩)
              | refine TL.q (h := .binI) (k := ?_)
              | refine TL.q (h := .pickB) (k := ?_)
              | refine TL.q (h := .binS) (k := ?_))
            rename_i bm vr
            have f1 : (!isNilI vr) = false := by rw [hN]; rfl
            refine T.cF (h := ?_)
            repeat' (first
              | with_reducible apply T.seq
              | with_reducible apply T.region
              | with_reducible apply TL.nil
              | with_reducible apply Thn.normal
              | with_reducible apply Thn.ret
              | with_reducible apply Thn.exit
              | with_reducible apply Blk.normal
              | with_reducible apply Blk.ret
              | ((with_reducible refine Blk.exitE ?_ ?_); · rfl)
              | ((with_reducible refine Blk.exitN ?_ ?_); · rfl)
              | with_reducible apply Rnd.ret
              | with_reducible apply Rnd.exit
              | with_reducible apply RndI.ret
              | with_reducible apply RndI.exit
              | with_reducible apply ThnI.ret
              | with_reducible apply ThnI.exit
              | with_reducible apply T.skip
              | with_reducible apply T.block
              | with_reducible apply T.ret
              | with_reducible apply T.exit
              | refine T.condT (h := ?_)
              | refine T.condF (h := ?_)
              | refine TL.pass (k := ?_)
              | refine TL.passN (k := ?_)
              | refine TL.take (k := ?_)
              | (refine TL.e (h := .bx) (k := ?_); rintro _ _ ⟨_, rfl, rfl⟩)
              | refine TL.q (h := .assign) (k := ?_)
              | refine TL.q (h := .fieldAddr) (k := ?_)
              | refine TL.q (h := .fieldEp) (k := ?_)
              | refine TL.q (h := .load) (k := ?_)
              | refine TL.q (h := .loadEp) (k := ?_)
              | refine TL.q (h := .move) (k := ?_)
              | refine TL.q (h := .pickT) (k := ?_)
              | refine TL.q (h := .pickF) (k := ?_)
              | refine TL.q (h := .loadA) (k := ?_)
              | refine TL.q (h := .loadEpA) (k := ?_)
              | (refine TL.callF (h := hr) (k := ?_); rintro _ _ ⟨⟨hI, hN⟩, rfl⟩)
              | refine TL.q (h := .neNilI) (k := ?_)
              | refine TL.q (h := .not) (k := ?_)
              | refine TL.q (h := .nilCheck) (k := ?_)
              | refine TL.q (h := .lenR) (k := ?_)
              | refine TL.q (h := .lenS) (k := ?_)
              | refine TL.q (h := .indexR) (k := ?_)
              | (refine TL.e (h := .al) (k := ?_); rintro _ _ ⟨_, rfl, rfl⟩)
              | refine TL.u (h := .stA0) (k := ?_)
              | refine TL.u (h := .st) (k := ?_)
              | refine TL.u (h := .stA) (k := ?_)
              | refine TL.u (h := .stEp) (k := ?_)
              | refine TL.u (h := .stEpA) (k := ?_)
              | (refine TL.callF (h := cache_put _ _ _ _ (by first | assumption | rfl | omega | (simp at *; omega))) (k := ?_); rintro _ _ ⟨_, rfl, rfl⟩)
              | refine TL.q (h := .add) (k := ?_)
              | refine TL.q (h := .catS) (k := ?_)
              | (refine TL.callF (h := card_Sort _ _ _ (by first | assumption | rfl | omega | (simp at *; omega))) (k := ?_); rintro _ _ ⟨_, rfl, rfl⟩)
              | (refine TL.callF (h := sort_nil) (k := ?_); rintro _ _ ⟨rfl, rfl⟩)
              | refine TL.q (h := .binI) (k := ?_)
              | refine TL.q (h := .pickB) (k := ?_)
              | refine TL.q (h := .binS) (k := ?_)
              | (skip
                 all_goals refine TG.start (i := 14) mixed rfl ?_
                 all_goals (first
                   | refine TG.q0 0 (ho := rfl) (hv := .yes (h := .move)) (k := ?_)
                   | refine TG.lv 0 (ho := rfl) (hv := .move) (k := ?_))
                 all_goals (first
                   | refine TG.q0 1 (ho := rfl) (hv := .yes (h := .nilCheck)) (k := ?_)
                   | refine TG.lv 1 (ho := rfl) (hv := .nilCheck) (k := ?_))
                 all_goals (first
                   | refine TG.q0 2 (ho := rfl) (hv := .yes (h := .fieldAddr)) (k := ?_)
                   | refine TG.qFieldEp 2 (ho := rfl) (h := ?_)
                   | refine TG.lv 2 (ho := rfl) (hv := .fieldAddr) (k := ?_)
                   | refine TG.lv 2 (ho := rfl) (hv := .fieldEp) (k := ?_))
                 all_goals (first
                   | refine TG.qLoad 3 (ho := rfl) (k := ?_)
                   | refine TG.qLoadEp 3 (ho := rfl) (h := ?_)
                   | refine TG.lv 3 (ho := rfl) (hv := .load) (k := ?_)
                   | refine TG.lv 3 (ho := rfl) (hv := .loadEp) (k := ?_))
                 all_goals (first
                   | refine TG.q0 5 (ho := rfl) (hv := .yes (h := .fieldAddr)) (k := ?_)
                   | refine TG.qFieldEp 5 (ho := rfl) (h := ?_)
                   | refine TG.lv 5 (ho := rfl) (hv := .fieldAddr) (k := ?_)
                   | refine TG.lv 5 (ho := rfl) (hv := .fieldEp) (k := ?_))
                 all_goals (first
                   | refine TG.qLoad 6 (ho := rfl) (k := ?_)
                   | refine TG.qLoadEp 6 (ho := rfl) (h := ?_)
                   | refine TG.lv 6 (ho := rfl) (hv := .load) (k := ?_)
                   | refine TG.lv 6 (ho := rfl) (hv := .loadEp) (k := ?_))
                 all_goals (first
                   | (refine TG.ld 4 (ho := rfl) (hK := .callF (h := seal_Of _ _ _ (by first | assumption | rfl | omega | (simp at *; omega)) (by first | assumption | rfl | omega | (simp at *; omega)))) (k := ?_); rintro _ _ ⟨_, rfl, rfl, rfl⟩; refine ⟨by (repeat (first | exact Held.nil | apply Held.zero | (apply Held.one; (repeat (first | exact Pick.here | apply Pick.there))))), ?_⟩)
                   | (refine TG.ld 4 (ho := rfl) (hK := .callF (h := of_nil)) (k := ?_); rintro _ _ ⟨_, rfl, rfl, rfl⟩; refine ⟨by (repeat (first | exact Held.nil | apply Held.zero | (apply Held.one; (repeat (first | exact Pick.here | apply Pick.there))))), ?_⟩))
                 all_goals (first
                   | refine TG.q0 7 (ho := rfl) (hv := .yes (h := .binI)) (k := ?_)
                   | refine TG.lv 7 (ho := rfl) (hv := .binI) (k := ?_))
                 all_goals apply TG.fin rfl)
              | refine TL.gT (k := ?_)
              | refine TL.gF (k := ?_)
              | refine T.cT (h := ?_)
              | refine T.cF (h := ?_)
              | (refine TL.gcase (ht := fun _ => ?_) (hf := fun _ => ?_))
              | refine T.cond (by (simp only [St.ev, slk, Nat.reduceBEq, cond_true, cond_false]; first | done | rfl)) (fun _ => ?_) (fun _ => ?_))
            (first | refine RetQ.retI (L := [cel true cb 106 [q.v, .int .i64 s.since], row true 58 9 q.v (s.l.map MCard.C), row mc 58 9 cv.v (cs.map MCard.C)]) (ResIs.r1 Try.results22 (RV.tmp)) (by (repeat (first | exact Picks.nil | (apply Picks.cons; (repeat (first | exact Pick.here | apply Pick.there)))))) ?_ | refine RetQ.norI (L := [cel true cb 106 [q.v, .int .i64 s.since], row true 58 9 q.v (s.l.map MCard.C), row mc 58 9 cv.v (cs.map MCard.C)]) (ResIs.r1 Try.results22 (RV.tmp)) (by (repeat (first | exact Picks.nil | (apply Picks.cons; (repeat (first | exact Pick.here | apply Pick.there)))))) ?_)
            exact ⟨rfl, q, rfl⟩
          · obtain ⟨h20, hsh⟩ := hf hk ho hcd hR hst
            cases hfl : m.full with
            | true =>
              rw [hfl] at hr h20 hsh
              have hfl2 := hfl
              have hX := fedL_len s.l true cs
              have hs20 : (sortK (fedL s.l true cs)).length ≤ 20 := by rw [sortK_len]; exact h20
              have hsS : Short (sortK (fedL s.l true cs)) := fun c hc => hsh c (sortK_mem.1 hc)
              refine Ctr.of (n := 74) (args := [_, _]) Try.func22 rfl rfl rfl fun F => ?_
              simp only [List.zipIdx_cons, List.zipIdx_nil, List.map_cons, List.map_nil, Nat.zero_add, Nat.reduceAdd, List.cons_append, List.nil_append]
              refine T.parts (add_nil true 58 9) ?_
              repeat (first
                | with_reducible apply T.seq
                | with_reducible apply T.region
                | with_reducible apply TL.nil
                | with_reducible apply Thn.normal
                | with_reducible apply Thn.ret
                | with_reducible apply Thn.exit
                | with_reducible apply Blk.normal
                | with_reducible apply Blk.ret
                | ((with_reducible refine Blk.exitE ?_ ?_); · rfl)
                | ((with_reducible refine Blk.exitN ?_ ?_); · rfl)
                | with_reducible apply Rnd.ret
                | with_reducible apply Rnd.exit
                | with_reducible apply RndI.ret
                | with_reducible apply RndI.exit
                | with_reducible apply ThnI.ret
                | with_reducible apply ThnI.exit
                | with_reducible apply T.skip
                | with_reducible apply T.block
                | with_reducible apply T.ret
                | with_reducible apply T.exit
                | refine T.condT (h := ?_)
                | refine T.condF (h := ?_)
                | refine TL.pass (k := ?_)
                | refine TL.passN (k := ?_)
                | refine TL.take (k := ?_)
                | (refine TL.e (h := .bx) (k := ?_); rintro _ _ ⟨_, rfl, rfl⟩)
                | refine TL.q (h := .assign) (k := ?_)
                | refine TL.q (h := .fieldAddr) (k := ?_)
                | refine TL.q (h := .fieldEp) (k := ?_)
                | refine TL.q (h := .load) (k := ?_)
                | refine TL.q (h := .loadEp) (k := ?_)
                | refine TL.q (h := .move) (k := ?_)
                | refine TL.q (h := .pickT) (k := ?_)
                | refine TL.q (h := .pickF) (k := ?_)
                | refine TL.q (h := .loadA) (k := ?_)
                | refine TL.q (h := .loadEpA) (k := ?_)
                | (refine TL.callF (h := hr) (k := ?_); rintro _ _ ⟨⟨hI, hN⟩, rfl⟩)
                | refine TL.q (h := .neNilI) (k := ?_)
                | refine TL.q (h := .not) (k := ?_)
                | refine TL.q (h := .nilCheck) (k := ?_)
                | refine TL.q (h := .lenR) (k := ?_)
                | refine TL.q (h := .lenS) (k := ?_)
                | refine TL.q (h := .indexR) (k := ?_)
                | (refine TL.e (h := .al) (k := ?_); rintro _ _ ⟨_, rfl, rfl⟩)
                | refine TL.u (h := .stA0) (k := ?_)
                | refine TL.u (h := .st) (k := ?_)
                | refine TL.u (h := .stA) (k := ?_)
                | refine TL.u (h := .stEp) (k := ?_)
                | refine TL.u (h := .stEpA) (k := ?_)
                | (refine TL.callF (h := cache_put _ _ _ _ (by first | assumption | rfl | omega | (simp at *; omega))) (k := ?_); rintro _ _ ⟨_, rfl, rfl⟩)
                | refine TL.q (h := .add) (k := ?_)
                | refine TL.q (h := .catS) (k := ?_)
                | (refine TL.callF (h := card_Sort _ _ _ (by first | assumption | rfl | omega | (simp at *; omega))) (k := ?_); rintro _ _ ⟨_, rfl, rfl⟩)
                | (refine TL.callF (h := sort_nil) (k := ?_); rintro _ _ ⟨rfl, rfl⟩)
                | refine TL.q (h := .binI) (k := ?_)
                | refine TL.q (h := .pickB) (k := ?_)
                | refine TL.q (h := .binS) (k := ?_))
              rename_i bm vr
              have f1 : (!isNilI vr) = false := by rw [hN]; rfl
              refine T.cF (h := ?_)
              repeat (first
                | with_reducible apply T.seq
                | with_reducible apply T.region
                | with_reducible apply TL.nil
                | with_reducible apply Thn.normal
                | with_reducible apply Thn.ret
                | with_reducible apply Thn.exit
                | with_reducible apply Blk.normal
                | with_reducible apply Blk.ret
                | ((with_reducible refine Blk.exitE ?_ ?_); · rfl)
                | ((with_reducible refine Blk.exitN ?_ ?_); · rfl)
                | with_reducible apply Rnd.ret
                | with_reducible apply Rnd.exit
                | with_reducible apply RndI.ret
                | with_reducible apply RndI.exit
                | with_reducible apply ThnI.ret
                | with_reducible apply ThnI.exit
                | with_reducible apply T.skip
                | with_reducible apply T.block
                | with_reducible apply T.ret
                | with_reducible apply T.exit
                | refine T.condT (h := ?_)
                | refine T.condF (h := ?_)
                | refine TL.pass (k := ?_)
                | refine TL.passN (k := ?_)
                | refine TL.take (k := ?_)
                | (refine TL.e (h := .bx) (k := ?_); rintro _ _ ⟨_, rfl, rfl⟩)
                | refine TL.q (h := .assign) (k := ?_)
                | refine TL.q (h := .fieldAddr) (k := ?_)
                | refine TL.q (h := .fieldEp) (k := ?_)
                | refine TL.q (h := .load) (k := ?_)
                | refine TL.q (h := .loadEp) (k := ?_)
                | refine TL.q (h := .move) (k := ?_)
                | refine TL.q (h := .pickT) (k := ?_)
                | refine TL.q (h := .pickF) (k := ?_)
                | refine TL.q (h := .loadA) (k := ?_)
                | refine TL.q (h := .loadEpA) (k := ?_)
                | (refine TL.callF (h := hr) (k := ?_); rintro _ _ ⟨⟨hI, hN⟩, rfl⟩)
                | refine TL.q (h := .neNilI) (k := ?_)
                | refine TL.q (h := .not) (k := ?_)
                | refine TL.q (h := .nilCheck) (k := ?_)
                | refine TL.q (h := .lenR) (k := ?_)
                | refine TL.q (h := .lenS) (k := ?_)
                | refine TL.q (h := .indexR) (k := ?_)
                | (refine TL.e (h := .al) (k := ?_); rintro _ _ ⟨_, rfl, rfl⟩)
                | refine TL.u (h := .stA0) (k := ?_)
                | refine TL.u (h := .st) (k := ?_)
                | refine TL.u (h := .stA) (k := ?_)
                | refine TL.u (h := .stEp) (k := ?_)
                | refine TL.u (h := .stEpA) (k := ?_)
                | (refine TL.callF (h := cache_put _ _ _ _ (by first | assumption | rfl | omega | (simp at *; omega))) (k := ?_); rintro _ _ ⟨_, rfl, rfl⟩)
                | refine TL.q (h := .add) (k := ?_)
                | refine TL.q (h := .catS) (k := ?_)
                | (refine TL.callF (h := card_Sort _ _ _ (by first | assumption | rfl | omega | (simp at *; omega))) (k := ?_); rintro _ _ ⟨_, rfl, rfl⟩)
                | (refine TL.callF (h := sort_nil) (k := ?_); rintro _ _ ⟨rfl, rfl⟩)
                | refine TL.q (h := .binI) (k := ?_)
                | refine TL.q (h := .pickB) (k := ?_)
                | refine TL.q (h := .binS) (k := ?_)
                | refine TL.gT (k := ?_)
                | refine TL.gF (k := ?_)
                | refine T.cT (h := ?_)
                | refine T.cF (h := ?_))
              refine T.blkW (fun l' A => ∃ q5 : Sl, l' = [(5, q5.v), (0, .pointer (some ⟨cb, 0, none⟩)), (3, .pointer (some ⟨bm, 0, none⟩))] ∧
                A = [cel true bm 36 [.int .i64 2, .int .i64 5, .int .i64 m.status, .int .i64 0, .int .i64 m.tag, .int .i64 m.n, .int .i64 m.seq, .string m.app, .string m.id, .bool true, .int .u32 m.sum, cv.v, .slice none 0 0], cel true cb 106 [q.v, .int .i64 s.since], row mc 58 9 cv.v (cs.map MCard.C), row true 58 9 q5.v ((fedL s.l true cs).map MCard.C), F]) ?_ ?_
              · refine T.loopI (fun q' l' A => ∃ (i : Nat) (q5 : Sl), q' = cs.length - i ∧ i ≤ cs.length ∧ l' = [(45, .int .i64 (i : Int)), (44, .int .i64 ((cs.map MCard.C).length : Int)), (43, cv.v), (5, q5.v), (0, .pointer (some ⟨cb, 0, none⟩)), (3, .pointer (some ⟨bm, 0, none⟩))] ∧
                  A = [cel true bm 36 [.int .i64 2, .int .i64 5, .int .i64 m.status, .int .i64 0, .int .i64 m.tag, .int .i64 m.n, .int .i64 m.seq, .string m.app, .string m.id, .bool true, .int .u32 m.sum, cv.v, .slice none 0 0], cel true cb 106 [q.v, .int .i64 s.since], row mc 58 9 cv.v (cs.map MCard.C), row true 58 9 q5.v ((fedL s.l true (cs.take i)).map MCard.C), F]) ⟨0, Sl.nil, rfl, by omega, rfl, rfl⟩ (by (repeat (first | exact AllIs.nil | refine AllIs.cons (by (simp only [St.ev, slk, Nat.reduceBEq, cond_true, cond_false]; first | done | rfl)) ?_))) (by (repeat (first | exact Picks.nil | (apply Picks.cons; (repeat (first | exact Pick.here | apply Pick.there)))))) ?_
                rintro q' l' A j ⟨i, q5, rfl, hi, rfl, rfl⟩
                have hXi := fedL_len s.l true (cs.take i)
                have htk : (cs.take i).length ≤ cs.length := by simp; omega
                repeat (first
                  | with_reducible apply T.seq
                  | with_reducible apply T.region
                  | with_reducible apply TL.nil
                  | with_reducible apply Thn.normal
                  | with_reducible apply Thn.ret
                  | with_reducible apply Thn.exit
                  | with_reducible apply Blk.normal
                  | with_reducible apply Blk.ret
                  | ((with_reducible refine Blk.exitE ?_ ?_); · rfl)
                  | ((with_reducible refine Blk.exitN ?_ ?_); · rfl)
                  | with_reducible apply Rnd.ret
                  | with_reducible apply Rnd.exit
                  | with_reducible apply RndI.ret
                  | with_reducible apply RndI.exit
                  | with_reducible apply ThnI.ret
                  | with_reducible apply ThnI.exit
                  | with_reducible apply T.skip
                  | with_reducible apply T.block
                  | with_reducible apply T.ret
                  | with_reducible apply T.exit
                  | refine T.condT (h := ?_)
                  | refine T.condF (h := ?_)
                  | refine TL.pass (k := ?_)
                  | refine TL.passN (k := ?_)
                  | refine TL.take (k := ?_)
                  | (refine TL.e (h := .bx) (k := ?_); rintro _ _ ⟨_, rfl, rfl⟩)
                  | refine TL.q (h := .assign) (k := ?_)
                  | refine TL.q (h := .fieldAddr) (k := ?_)
                  | refine TL.q (h := .fieldEp) (k := ?_)
                  | refine TL.q (h := .load) (k := ?_)
                  | refine TL.q (h := .loadEp) (k := ?_)
                  | refine TL.q (h := .move) (k := ?_)
                  | refine TL.q (h := .pickT) (k := ?_)
                  | refine TL.q (h := .pickF) (k := ?_)
                  | refine TL.q (h := .loadA) (k := ?_)
                  | refine TL.q (h := .loadEpA) (k := ?_)
                  | (refine TL.callF (h := hr) (k := ?_); rintro _ _ ⟨⟨hI, hN⟩, rfl⟩)
                  | refine TL.q (h := .neNilI) (k := ?_)
                  | refine TL.q (h := .not) (k := ?_)
                  | refine TL.q (h := .nilCheck) (k := ?_)
                  | refine TL.q (h := .lenR) (k := ?_)
                  | refine TL.q (h := .lenS) (k := ?_)
                  | refine TL.q (h := .indexR) (k := ?_)
                  | (refine TL.e (h := .al) (k := ?_); rintro _ _ ⟨_, rfl, rfl⟩)
                  | refine TL.u (h := .stA0) (k := ?_)
                  | refine TL.u (h := .st) (k := ?_)
                  | refine TL.u (h := .stA) (k := ?_)
                  | refine TL.u (h := .stEp) (k := ?_)
                  | refine TL.u (h := .stEpA) (k := ?_)
                  | (refine TL.callF (h := cache_put _ _ _ _ (by first | assumption | rfl | omega | (simp at *; omega))) (k := ?_); rintro _ _ ⟨_, rfl, rfl⟩)
                  | refine TL.q (h := .add) (k := ?_)
                  | refine TL.q (h := .catS) (k := ?_)
                  | (refine TL.callF (h := card_Sort _ _ _ (by first | assumption | rfl | omega | (simp at *; omega))) (k := ?_); rintro _ _ ⟨_, rfl, rfl⟩)
                  | (refine TL.callF (h := sort_nil) (k := ?_); rintro _ _ ⟨rfl, rfl⟩)
                  | refine TL.q (h := .binI) (k := ?_)
                  | refine TL.q (h := .pickB) (k := ?_)
                  | refine TL.q (h := .binS) (k := ?_))
                refine T.condD (ht := fun hlt => ?_) (hf := fun hlt => ?_)
                · obtain ⟨c, hcc, hcd2, ht, _⟩ := card_at (l := cs) (i := i) (by omega)
                  have hsn := fedL_snoc s.l true (cs.take i) c
                  repeat (first
                    | with_reducible apply T.seq
                    | with_reducible apply T.region
                    | with_reducible apply TL.nil
                    | with_reducible apply Thn.normal
                    | with_reducible apply Thn.ret
                    | with_reducible apply Thn.exit
                    | with_reducible apply Blk.normal
                    | with_reducible apply Blk.ret
                    | ((with_reducible refine Blk.exitE ?_ ?_); · rfl)
                    | ((with_reducible refine Blk.exitN ?_ ?_); · rfl)
                    | with_reducible apply Rnd.ret
                    | with_reducible apply Rnd.exit
                    | with_reducible apply RndI.ret
                    | with_reducible apply RndI.exit
                    | with_reducible apply ThnI.ret
                    | with_reducible apply ThnI.exit
                    | with_reducible apply T.skip
                    | with_reducible apply T.block
                    | with_reducible apply T.ret
                    | with_reducible apply T.exit
                    | refine T.condT (h := ?_)
                    | refine T.condF (h := ?_)
                    | refine TL.pass (k := ?_)
                    | refine TL.passN (k := ?_)
                    | refine TL.take (k := ?_)
                    | (refine TL.e (h := .bx) (k := ?_); rintro _ _ ⟨_, rfl, rfl⟩)
                    | refine TL.q (h := .assign) (k := ?_)
                    | refine TL.q (h := .fieldAddr) (k := ?_)
                    | refine TL.q (h := .fieldEp) (k := ?_)
                    | refine TL.q (h := .load) (k := ?_)
                    | refine TL.q (h := .loadEp) (k := ?_)
                    | refine TL.q (h := .move) (k := ?_)
                    | refine TL.q (h := .pickT) (k := ?_)
                    | refine TL.q (h := .pickF) (k := ?_)
                    | refine TL.q (h := .loadA) (k := ?_)
                    | refine TL.q (h := .loadEpA) (k := ?_)
                    | (refine TL.callF (h := hr) (k := ?_); rintro _ _ ⟨⟨hI, hN⟩, rfl⟩)
                    | refine TL.q (h := .neNilI) (k := ?_)
                    | refine TL.q (h := .not) (k := ?_)
                    | refine TL.q (h := .nilCheck) (k := ?_)
                    | refine TL.q (h := .lenR) (k := ?_)
                    | refine TL.q (h := .lenS) (k := ?_)
                    | refine TL.q (h := .indexR) (k := ?_)
                    | (refine TL.e (h := .al) (k := ?_); rintro _ _ ⟨_, rfl, rfl⟩)
                    | refine TL.u (h := .stA0) (k := ?_)
                    | refine TL.u (h := .st) (k := ?_)
                    | refine TL.u (h := .stA) (k := ?_)
                    | refine TL.u (h := .stEp) (k := ?_)
                    | refine TL.u (h := .stEpA) (k := ?_)
                    | (refine TL.callF (h := cache_put _ _ _ _ (by first | assumption | rfl | omega | (simp at *; omega))) (k := ?_); rintro _ _ ⟨_, rfl, rfl⟩)
                    | refine TL.q (h := .add) (k := ?_)
                    | refine TL.q (h := .catS) (k := ?_)
                    | (refine TL.callF (h := card_Sort _ _ _ (by first | assumption | rfl | omega | (simp at *; omega))) (k := ?_); rintro _ _ ⟨_, rfl, rfl⟩)
                    | (refine TL.callF (h := sort_nil) (k := ?_); rintro _ _ ⟨rfl, rfl⟩)
                    | refine TL.q (h := .binI) (k := ?_)
                    | refine TL.q (h := .pickB) (k := ?_)
                    | refine TL.q (h := .binS) (k := ?_))
                  rename_i q6
                  refine RndI.next (m' := cs.length - (i + 1)) (by omega) ⟨i + 1, q6, rfl, by omega, rfl, by rw [ht, hsn]⟩ (by (repeat (first | exact AllIs.nil | refine AllIs.cons (by (simp only [St.ev, slk, Nat.reduceBEq, cond_true, cond_false]; first | done | rfl)) ?_))) (by (repeat (first | exact Picks.nil | (apply Picks.cons; (repeat (first | exact Pick.here | apply Pick.there))))))
                · have e : cs.take i = cs := List.take_of_length_le (by omega)
                  rw [e]
                  repeat (first
                    | with_reducible apply T.seq
                    | with_reducible apply T.region
                    | with_reducible apply TL.nil
                    | with_reducible apply Thn.normal
                    | with_reducible apply Thn.ret
                    | with_reducible apply Thn.exit
                    | with_reducible apply Blk.normal
                    | with_reducible apply Blk.ret
                    | ((with_reducible refine Blk.exitE ?_ ?_); · rfl)
                    | ((with_reducible refine Blk.exitN ?_ ?_); · rfl)
                    | with_reducible apply Rnd.ret
                    | with_reducible apply Rnd.exit
                    | with_reducible apply RndI.ret
                    | with_reducible apply RndI.exit
                    | with_reducible apply ThnI.ret
                    | with_reducible apply ThnI.exit
                    | with_reducible apply T.skip
                    | with_reducible apply T.block
                    | with_reducible apply T.ret
                    | with_reducible apply T.exit
                    | refine T.condT (h := ?_)
                    | refine T.condF (h := ?_)
                    | refine TL.pass (k := ?_)
                    | refine TL.passN (k := ?_)
                    | refine TL.take (k := ?_)
                    | (refine TL.e (h := .bx) (k := ?_); rintro _ _ ⟨_, rfl, rfl⟩)
                    | refine TL.q (h := .assign) (k := ?_)
                    | refine TL.q (h := .fieldAddr) (k := ?_)
                    | refine TL.q (h := .fieldEp) (k := ?_)
                    | refine TL.q (h := .load) (k := ?_)
                    | refine TL.q (h := .loadEp) (k := ?_)
                    | refine TL.q (h := .move) (k := ?_)
                    | refine TL.q (h := .pickT) (k := ?_)
                    | refine TL.q (h := .pickF) (k := ?_)
                    | refine TL.q (h := .loadA) (k := ?_)
                    | refine TL.q (h := .loadEpA) (k := ?_)
                    | (refine TL.callF (h := hr) (k := ?_); rintro _ _ ⟨⟨hI, hN⟩, rfl⟩)
                    | refine TL.q (h := .neNilI) (k := ?_)
                    | refine TL.q (h := .not) (k := ?_)
                    | refine TL.q (h := .nilCheck) (k := ?_)
                    | refine TL.q (h := .lenR) (k := ?_)
                    | refine TL.q (h := .lenS) (k := ?_)
                    | refine TL.q (h := .indexR) (k := ?_)
                    | (refine TL.e (h := .al) (k := ?_); rintro _ _ ⟨_, rfl, rfl⟩)
                    | refine TL.u (h := .stA0) (k := ?_)
                    | refine TL.u (h := .st) (k := ?_)
                    | refine TL.u (h := .stA) (k := ?_)
                    | refine TL.u (h := .stEp) (k := ?_)
                    | refine TL.u (h := .stEpA) (k := ?_)
                    | (refine TL.callF (h := cache_put _ _ _ _ (by first | assumption | rfl | omega | (simp at *; omega))) (k := ?_); rintro _ _ ⟨_, rfl, rfl⟩)
                    | refine TL.q (h := .add) (k := ?_)
                    | refine TL.q (h := .catS) (k := ?_)
                    | (refine TL.callF (h := card_Sort _ _ _ (by first | assumption | rfl | omega | (simp at *; omega))) (k := ?_); rintro _ _ ⟨_, rfl, rfl⟩)
                    | (refine TL.callF (h := sort_nil) (k := ?_); rintro _ _ ⟨rfl, rfl⟩)
                    | refine TL.q (h := .binI) (k := ?_)
                    | refine TL.q (h := .pickB) (k := ?_)
                    | refine TL.q (h := .binS) (k := ?_))
                  refine ThnI.done ⟨q5, rfl, rfl⟩ (by (repeat (first | exact AllIs.nil | refine AllIs.cons (by (simp only [St.ev, slk, Nat.reduceBEq, cond_true, cond_false]; first | done | rfl)) ?_))) (by (repeat (first | exact Picks.nil | (apply Picks.cons; (repeat (first | exact Pick.here | apply Pick.there))))))
              · rintro l' A j ⟨q5, rfl, rfl⟩
                repeat (first
                  | with_reducible apply T.seq
                  | with_reducible apply T.region
                  | with_reducible apply TL.nil
                  | with_reducible apply Thn.normal
                  | with_reducible apply Thn.ret
                  | with_reducible apply Thn.exit
                  | with_reducible apply Blk.normal
                  | with_reducible apply Blk.ret
                  | ((with_reducible refine Blk.exitE ?_ ?_); · rfl)
                  | ((with_reducible refine Blk.exitN ?_ ?_); · rfl)
                  | with_reducible apply Rnd.ret
                  | with_reducible apply Rnd.exit
                  | with_reducible apply RndI.ret
                  | with_reducible apply RndI.exit
                  | with_reducible apply ThnI.ret
                  | with_reducible apply ThnI.exit
                  | with_reducible apply T.skip
                  | with_reducible apply T.block
                  | with_reducible apply T.ret
                  | with_reducible apply T.exit
                  | refine T.condT (h := ?_)
                  | refine T.condF (h := ?_)
                  | refine TL.pass (k := ?_)
                  | refine TL.passN (k := ?_)
                  | refine TL.take (k := ?_)
                  | (refine TL.e (h := .bx) (k := ?_); rintro _ _ ⟨_, rfl, rfl⟩)
                  | refine TL.q (h := .assign) (k := ?_)
                  | refine TL.q (h := .fieldAddr) (k := ?_)
                  | refine TL.q (h := .fieldEp) (k := ?_)
                  | refine TL.q (h := .load) (k := ?_)
                  | refine TL.q (h := .loadEp) (k := ?_)
                  | refine TL.q (h := .move) (k := ?_)
                  | refine TL.q (h := .pickT) (k := ?_)
                  | refine TL.q (h := .pickF) (k := ?_)
                  | refine TL.q (h := .loadA) (k := ?_)
                  | refine TL.q (h := .loadEpA) (k := ?_)
                  | (refine TL.callF (h := hr) (k := ?_); rintro _ _ ⟨⟨hI, hN⟩, rfl⟩)
                  | refine TL.q (h := .neNilI) (k := ?_)
                  | refine TL.q (h := .not) (k := ?_)
                  | refine TL.q (h := .nilCheck) (k := ?_)
                  | refine TL.q (h := .lenR) (k := ?_)
                  | refine TL.q (h := .lenS) (k := ?_)
                  | refine TL.q (h := .indexR) (k := ?_)
                  | (refine TL.e (h := .al) (k := ?_); rintro _ _ ⟨_, rfl, rfl⟩)
                  | refine TL.u (h := .stA0) (k := ?_)
                  | refine TL.u (h := .st) (k := ?_)
                  | refine TL.u (h := .stA) (k := ?_)
                  | refine TL.u (h := .stEp) (k := ?_)
                  | refine TL.u (h := .stEpA) (k := ?_)
                  | (refine TL.callF (h := cache_put _ _ _ _ (by first | assumption | rfl | omega | (simp at *; omega))) (k := ?_); rintro _ _ ⟨_, rfl, rfl⟩)
                  | refine TL.q (h := .add) (k := ?_)
                  | refine TL.q (h := .catS) (k := ?_)
                  | (refine TL.callF (h := card_Sort _ _ _ (by first | assumption | rfl | omega | (simp at *; omega))) (k := ?_); rintro _ _ ⟨_, rfl, rfl⟩)
                  | (refine TL.callF (h := sort_nil) (k := ?_); rintro _ _ ⟨rfl, rfl⟩)
                  | refine TL.q (h := .binI) (k := ?_)
                  | refine TL.q (h := .pickB) (k := ?_)
                  | refine TL.q (h := .binS) (k := ?_))
                rename_i qn
                all_goals refine TG.start (i := 14) mixed rfl ?_
                all_goals (first
                  | refine TG.q0 0 (ho := rfl) (hv := .yes (h := .move)) (k := ?_)
                  | refine TG.lv 0 (ho := rfl) (hv := .move) (k := ?_))
                all_goals (first
                  | refine TG.q0 1 (ho := rfl) (hv := .yes (h := .nilCheck)) (k := ?_)
                  | refine TG.lv 1 (ho := rfl) (hv := .nilCheck) (k := ?_))
                all_goals (first
                  | refine TG.q0 2 (ho := rfl) (hv := .yes (h := .fieldAddr)) (k := ?_)
                  | refine TG.qFieldEp 2 (ho := rfl) (h := ?_)
                  | refine TG.lv 2 (ho := rfl) (hv := .fieldAddr) (k := ?_)
                  | refine TG.lv 2 (ho := rfl) (hv := .fieldEp) (k := ?_))
                all_goals (first
                  | refine TG.qLoad 3 (ho := rfl) (k := ?_)
                  | refine TG.qLoadEp 3 (ho := rfl) (h := ?_)
                  | refine TG.lv 3 (ho := rfl) (hv := .load) (k := ?_)
                  | refine TG.lv 3 (ho := rfl) (hv := .loadEp) (k := ?_))
                all_goals (first
                  | refine TG.q0 5 (ho := rfl) (hv := .yes (h := .fieldAddr)) (k := ?_)
                  | refine TG.qFieldEp 5 (ho := rfl) (h := ?_)
                  | refine TG.lv 5 (ho := rfl) (hv := .fieldAddr) (k := ?_)
                  | refine TG.lv 5 (ho := rfl) (hv := .fieldEp) (k := ?_))
                all_goals (first
                  | refine TG.qLoad 6 (ho := rfl) (k := ?_)
                  | refine TG.qLoadEp 6 (ho := rfl) (h := ?_)
                  | refine TG.lv 6 (ho := rfl) (hv := .load) (k := ?_)
                  | refine TG.lv 6 (ho := rfl) (hv := .loadEp) (k := ?_))
                all_goals (first
                  | (refine TG.ld 4 (ho := rfl) (hK := .callF (h := seal_Of _ _ _ (by first | assumption | rfl | omega | (simp at *; omega)) (by first | assumption | rfl | omega | (simp at *; omega)))) (k := ?_); rintro _ _ ⟨_, rfl, rfl, rfl⟩; refine ⟨by (repeat (first | exact Held.nil | apply Held.zero | (apply Held.one; (repeat (first | exact Pick.here | apply Pick.there))))), ?_⟩)
                  | (refine TG.ld 4 (ho := rfl) (hK := .callF (h := of_nil)) (k := ?_); rintro _ _ ⟨_, rfl, rfl, rfl⟩; refine ⟨by (repeat (first | exact Held.nil | apply Held.zero | (apply Held.one; (repeat (first | exact Pick.here | apply Pick.there))))), ?_⟩))
                all_goals (first
                  | refine TG.q0 7 (ho := rfl) (hv := .yes (h := .binI)) (k := ?_)
                  | refine TG.lv 7 (ho := rfl) (hv := .binI) (k := ?_))
                all_goals apply TG.fin rfl
                repeat (first
                  | with_reducible apply T.seq
                  | with_reducible apply T.region
                  | with_reducible apply TL.nil
                  | with_reducible apply Thn.normal
                  | with_reducible apply Thn.ret
                  | with_reducible apply Thn.exit
                  | with_reducible apply Blk.normal
                  | with_reducible apply Blk.ret
                  | ((with_reducible refine Blk.exitE ?_ ?_); · rfl)
                  | ((with_reducible refine Blk.exitN ?_ ?_); · rfl)
                  | with_reducible apply Rnd.ret
                  | with_reducible apply Rnd.exit
                  | with_reducible apply RndI.ret
                  | with_reducible apply RndI.exit
                  | with_reducible apply ThnI.ret
                  | with_reducible apply ThnI.exit
                  | with_reducible apply T.skip
                  | with_reducible apply T.block
                  | with_reducible apply T.ret
                  | with_reducible apply T.exit
                  | refine T.condT (h := ?_)
                  | refine T.condF (h := ?_)
                  | refine TL.pass (k := ?_)
                  | refine TL.passN (k := ?_)
                  | refine TL.take (k := ?_)
                  | (refine TL.e (h := .bx) (k := ?_); rintro _ _ ⟨_, rfl, rfl⟩)
                  | refine TL.q (h := .assign) (k := ?_)
                  | refine TL.q (h := .fieldAddr) (k := ?_)
                  | refine TL.q (h := .fieldEp) (k := ?_)
                  | refine TL.q (h := .load) (k := ?_)
                  | refine TL.q (h := .loadEp) (k := ?_)
                  | refine TL.q (h := .move) (k := ?_)
                  | refine TL.q (h := .pickT) (k := ?_)
                  | refine TL.q (h := .pickF) (k := ?_)
                  | refine TL.q (h := .loadA) (k := ?_)
                  | refine TL.q (h := .loadEpA) (k := ?_)
                  | (refine TL.callF (h := hr) (k := ?_); rintro _ _ ⟨⟨hI, hN⟩, rfl⟩)
                  | refine TL.q (h := .neNilI) (k := ?_)
                  | refine TL.q (h := .not) (k := ?_)
                  | refine TL.q (h := .nilCheck) (k := ?_)
                  | refine TL.q (h := .lenR) (k := ?_)
                  | refine TL.q (h := .lenS) (k := ?_)
                  | refine TL.q (h := .indexR) (k := ?_)
                  | (refine TL.e (h := .al) (k := ?_); rintro _ _ ⟨_, rfl, rfl⟩)
                  | refine TL.u (h := .stA0) (k := ?_)
                  | refine TL.u (h := .st) (k := ?_)
                  | refine TL.u (h := .stA) (k := ?_)
                  | refine TL.u (h := .stEp) (k := ?_)
                  | refine TL.u (h := .stEpA) (k := ?_)
                  | (refine TL.callF (h := cache_put _ _ _ _ (by first | assumption | rfl | omega | (simp at *; omega))) (k := ?_); rintro _ _ ⟨_, rfl, rfl⟩)
                  | refine TL.q (h := .add) (k := ?_)
                  | refine TL.q (h := .catS) (k := ?_)
                  | (refine TL.callF (h := card_Sort _ _ _ (by first | assumption | rfl | omega | (simp at *; omega))) (k := ?_); rintro _ _ ⟨_, rfl, rfl⟩)
                  | (refine TL.callF (h := sort_nil) (k := ?_); rintro _ _ ⟨rfl, rfl⟩)
                  | refine TL.q (h := .binI) (k := ?_)
                  | refine TL.q (h := .pickB) (k := ?_)
                  | refine TL.q (h := .binS) (k := ?_))
                refine T.cond (by (simp only [St.ev, slk, Nat.reduceBEq, cond_true, cond_false]; first | done | rfl)) (fun hsum => ?_) (fun hsum => ?_)
                · have hap : s.apply m cs = (25, ⟨sortK (fedL s.l true cs), -1⟩) := by
                    simp only [MCache.apply, hk, ho, hcd, hR, hfl, hsum]
                    rfl
                  rw [hap]
                  repeat (first
                    | with_reducible apply T.seq
                    | with_reducible apply T.region
                    | with_reducible apply TL.nil
                    | with_reducible apply Thn.normal
                    | with_reducible apply Thn.ret
                    | with_reducible apply Thn.exit
                    | with_reducible apply Blk.normal
                    | with_reducible apply Blk.ret
                    | ((with_reducible refine Blk.exitE ?_ ?_); · rfl)
                    | ((with_reducible refine Blk.exitN ?_ ?_); · rfl)
                    | with_reducible apply Rnd.ret
                    | with_reducible apply Rnd.exit
                    | with_reducible apply RndI.ret
                    | with_reducible apply RndI.exit
                    | with_reducible apply ThnI.ret
                    | with_reducible apply ThnI.exit
                    | with_reducible apply T.skip
                    | with_reducible apply T.block
                    | with_reducible apply T.ret
                    | with_reducible apply T.exit
                    | refine T.condT (h := ?_)
                    | refine T.condF (h := ?_)
                    | refine TL.pass (k := ?_)
                    | refine TL.passN (k := ?_)
                    | refine TL.take (k := ?_)
                    | (refine TL.e (h := .bx) (k := ?_); rintro _ _ ⟨_, rfl, rfl⟩)
                    | refine TL.q (h := .assign) (k := ?_)
                    | refine TL.q (h := .fieldAddr) (k := ?_)
                    | refine TL.q (h := .fieldEp) (k := ?_)
                    | refine TL.q (h := .load) (k := ?_)
                    | refine TL.q (h := .loadEp) (k := ?_)
                    | refine TL.q (h := .move) (k := ?_)
                    | refine TL.q (h := .pickT) (k := ?_)
                    | refine TL.q (h := .pickF) (k := ?_)
                    | refine TL.q (h := .loadA) (k := ?_)
                    | refine TL.q (h := .loadEpA) (k := ?_)
                    | (refine TL.callF (h := hr) (k := ?_); rintro _ _ ⟨⟨hI, hN⟩, rfl⟩)
                    | refine TL.q (h := .neNilI) (k := ?_)
                    | refine TL.q (h := .not) (k := ?_)
                    | refine TL.q (h := .nilCheck) (k := ?_)
                    | refine TL.q (h := .lenR) (k := ?_)
                    | refine TL.q (h := .lenS) (k := ?_)
                    | refine TL.q (h := .indexR) (k := ?_)
                    | (refine TL.e (h := .al) (k := ?_); rintro _ _ ⟨_, rfl, rfl⟩)
                    | refine TL.u (h := .stA0) (k := ?_)
                    | refine TL.u (h := .st) (k := ?_)
                    | refine TL.u (h := .stA) (k := ?_)
                    | refine TL.u (h := .stEp) (k := ?_)
                    | refine TL.u (h := .stEpA) (k := ?_)
                    | (refine TL.callF (h := cache_put _ _ _ _ (by first | assumption | rfl | omega | (simp at *; omega))) (k := ?_); rintro _ _ ⟨_, rfl, rfl⟩)
                    | refine TL.q (h := .add) (k := ?_)
                    | refine TL.q (h := .catS) (k := ?_)
                    | (refine TL.callF (h := card_Sort _ _ _ (by first | assumption | rfl | omega | (simp at *; omega))) (k := ?_); rintro _ _ ⟨_, rfl, rfl⟩)
                    | (refine TL.callF (h := sort_nil) (k := ?_); rintro _ _ ⟨rfl, rfl⟩)
                    | refine TL.q (h := .binI) (k := ?_)
                    | refine TL.q (h := .pickB) (k := ?_)
                    | refine TL.q (h := .binS) (k := ?_))
                  (first | refine RetQ.retI (L := [cel true cb 106 [qn.v, .int .i64 (-1)], row true 58 9 qn.v ((sortK (fedL s.l true cs)).map MCard.C), row mc 58 9 cv.v (cs.map MCard.C)]) (ResIs.r1 Try.results22 (RV.tmp)) (by (repeat (first | exact Picks.nil | (apply Picks.cons; (repeat (first | exact Pick.here | apply Pick.there)))))) ?_ | refine RetQ.norI (L := [cel true cb 106 [qn.v, .int .i64 (-1)], row true 58 9 qn.v ((sortK (fedL s.l true cs)).map MCard.C), row mc 58 9 cv.v (cs.map MCard.C)]) (ResIs.r1 Try.results22 (RV.tmp)) (by (repeat (first | exact Picks.nil | (apply Picks.cons; (repeat (first | exact Pick.here | apply Pick.there)))))) ?_)
                  exact ⟨rfl, qn, rfl⟩
                · have hap : s.apply m cs = (0, ⟨sortK (fedL s.l true cs), m.seq⟩) := by
                    simp only [MCache.apply, hk, ho, hcd, hR, hfl, hsum]
                    rfl
                  rw [hap]
                  repeat (first
                    | with_reducible apply T.seq
                    | with_reducible apply T.region
                    | with_reducible apply TL.nil
                    | with_reducible apply Thn.normal
                    | with_reducible apply Thn.ret
                    | with_reducible apply Thn.exit
                    | with_reducible apply Blk.normal
                    | with_reducible apply Blk.ret
                    | ((with_reducible refine Blk.exitE ?_ ?_); · rfl)
                    | ((with_reducible refine Blk.exitN ?_ ?_); · rfl)
                    | with_reducible apply Rnd.ret
                    | with_reducible apply Rnd.exit
                    | with_reducible apply RndI.ret
                    | with_reducible apply RndI.exit
                    | with_reducible apply ThnI.ret
                    | with_reducible apply ThnI.exit
                    | with_reducible apply T.skip
                    | with_reducible apply T.block
                    | with_reducible apply T.ret
                    | with_reducible apply T.exit
                    | refine T.condT (h := ?_)
                    | refine T.condF (h := ?_)
                    | refine TL.pass (k := ?_)
                    | refine TL.passN (k := ?_)
                    | refine TL.take (k := ?_)
                    | (refine TL.e (h := .bx) (k := ?_); rintro _ _ ⟨_, rfl, rfl⟩)
                    | refine TL.q (h := .assign) (k := ?_)
                    | refine TL.q (h := .fieldAddr) (k := ?_)
                    | refine TL.q (h := .fieldEp) (k := ?_)
                    | refine TL.q (h := .load) (k := ?_)
                    | refine TL.q (h := .loadEp) (k := ?_)
                    | refine TL.q (h := .move) (k := ?_)
                    | refine TL.q (h := .pickT) (k := ?_)
                    | refine TL.q (h := .pickF) (k := ?_)
                    | refine TL.q (h := .loadA) (k := ?_)
                    | refine TL.q (h := .loadEpA) (k := ?_)
                    | (refine TL.callF (h := hr) (k := ?_); rintro _ _ ⟨⟨hI, hN⟩, rfl⟩)
                    | refine TL.q (h := .neNilI) (k := ?_)
                    | refine TL.q (h := .not) (k := ?_)
                    | refine TL.q (h := .nilCheck) (k := ?_)
                    | refine TL.q (h := .lenR) (k := ?_)
                    | refine TL.q (h := .lenS) (k := ?_)
                    | refine TL.q (h := .indexR) (k := ?_)
                    | (refine TL.e (h := .al) (k := ?_); rintro _ _ ⟨_, rfl, rfl⟩)
                    | refine TL.u (h := .stA0) (k := ?_)
                    | refine TL.u (h := .st) (k := ?_)
                    | refine TL.u (h := .stA) (k := ?_)
                    | refine TL.u (h := .stEp) (k := ?_)
                    | refine TL.u (h := .stEpA) (k := ?_)
                    | (refine TL.callF (h := cache_put _ _ _ _ (by first | assumption | rfl | omega | (simp at *; omega))) (k := ?_); rintro _ _ ⟨_, rfl, rfl⟩)
                    | refine TL.q (h := .add) (k := ?_)
                    | refine TL.q (h := .catS) (k := ?_)
                    | (refine TL.callF (h := card_Sort _ _ _ (by first | assumption | rfl | omega | (simp at *; omega))) (k := ?_); rintro _ _ ⟨_, rfl, rfl⟩)
                    | (refine TL.callF (h := sort_nil) (k := ?_); rintro _ _ ⟨rfl, rfl⟩)
                    | refine TL.q (h := .binI) (k := ?_)
                    | refine TL.q (h := .pickB) (k := ?_)
                    | refine TL.q (h := .binS) (k := ?_))
                  (first | refine RetQ.retI (L := [cel true cb 106 [qn.v, .int .i64 m.seq], row true 58 9 qn.v ((sortK (fedL s.l true cs)).map MCard.C), row mc 58 9 cv.v (cs.map MCard.C)]) (ResIs.r1 Try.results22 (RV.tmp)) (by (repeat (first | exact Picks.nil | (apply Picks.cons; (repeat (first | exact Pick.here | apply Pick.there)))))) ?_ | refine RetQ.norI (L := [cel true cb 106 [qn.v, .int .i64 m.seq], row true 58 9 qn.v ((sortK (fedL s.l true cs)).map MCard.C), row mc 58 9 cv.v (cs.map MCard.C)]) (ResIs.r1 Try.results22 (RV.tmp)) (by (repeat (first | exact Picks.nil | (apply Picks.cons; (repeat (first | exact Pick.here | apply Pick.there)))))) ?_)
                  exact ⟨rfl, qn, rfl⟩
            | false =>
              rw [hfl] at hr h20 hsh hst
              have hfl2 := hfl
              have e2 : (s.since == -1) = false := by simpa using fun h => hst ⟨rfl, h⟩
              have hX := fedL_len s.l false cs
              have hs20 : (sortK (fedL s.l false cs)).length ≤ 20 := by rw [sortK_len]; exact h20
              have hsS : Short (sortK (fedL s.l false cs)) := fun c hc => hsh c (sortK_mem.1 hc)
              refine Ctr.of (n := 74) (args := [_, _]) Try.func22 rfl rfl rfl fun F => ?_
              simp only [List.zipIdx_cons, List.zipIdx_nil, List.map_cons, List.map_nil, Nat.zero_add, Nat.reduceAdd, List.cons_append, List.nil_append]
              refine T.parts (add_nil true 58 9) ?_
              repeat (first
                | with_reducible apply T.seq
                | with_reducible apply T.region
                | with_reducible apply TL.nil
                | with_reducible apply Thn.normal
                | with_reducible apply Thn.ret
                | with_reducible apply Thn.exit
                | with_reducible apply Blk.normal
                | with_reducible apply Blk.ret
                | ((with_reducible refine Blk.exitE ?_ ?_); · rfl)
                | ((with_reducible refine Blk.exitN ?_ ?_); · rfl)
                | with_reducible apply Rnd.ret
                | with_reducible apply Rnd.exit
                | with_reducible apply RndI.ret
                | with_reducible apply RndI.exit
                | with_reducible apply ThnI.ret
                | with_reducible apply ThnI.exit
                | with_reducible apply T.skip
                | with_reducible apply T.block
                | with_reducible apply T.ret
                | with_reducible apply T.exit
                | refine T.condT (h := ?_)
                | refine T.condF (h := ?_)
                | refine TL.pass (k := ?_)
                | refine TL.passN (k := ?_)
                | refine TL.take (k := ?_)
                | (refine TL.e (h := .bx) (k := ?_); rintro _ _ ⟨_, rfl, rfl⟩)
                | refine TL.q (h := .assign) (k := ?_)
                | refine TL.q (h := .fieldAddr) (k := ?_)
                | refine TL.q (h := .fieldEp) (k := ?_)
                | refine TL.q (h := .load) (k := ?_)
                | refine TL.q (h := .loadEp) (k := ?_)
                | refine TL.q (h := .move) (k := ?_)
                | refine TL.q (h := .pickT) (k := ?_)
                | refine TL.q (h := .pickF) (k := ?_)
                | refine TL.q (h := .loadA) (k := ?_)
                | refine TL.q (h := .loadEpA) (k := ?_)
                | (refine TL.callF (h := hr) (k := ?_); rintro _ _ ⟨⟨hI, hN⟩, rfl⟩)
                | refine TL.q (h := .neNilI) (k := ?_)
                | refine TL.q (h := .not) (k := ?_)
                | refine TL.q (h := .nilCheck) (k := ?_)
                | refine TL.q (h := .lenR) (k := ?_)
                | refine TL.q (h := .lenS) (k := ?_)
                | refine TL.q (h := .indexR) (k := ?_)
                | (refine TL.e (h := .al) (k := ?_); rintro _ _ ⟨_, rfl, rfl⟩)
                | refine TL.u (h := .stA0) (k := ?_)
                | refine TL.u (h := .st) (k := ?_)
                | refine TL.u (h := .stA) (k := ?_)
                | refine TL.u (h := .stEp) (k := ?_)
                | refine TL.u (h := .stEpA) (k := ?_)
                | (refine TL.callF (h := cache_put _ _ _ _ (by first | assumption | rfl | omega | (simp at *; omega))) (k := ?_); rintro _ _ ⟨_, rfl, rfl⟩)
                | refine TL.q (h := .add) (k := ?_)
                | refine TL.q (h := .catS) (k := ?_)
                | (refine TL.callF (h := card_Sort _ _ _ (by first | assumption | rfl | omega | (simp at *; omega))) (k := ?_); rintro _ _ ⟨_, rfl, rfl⟩)
                | (refine TL.callF (h := sort_nil) (k := ?_); rintro _ _ ⟨rfl, rfl⟩)
                | refine TL.q (h := .binI) (k := ?_)
                | refine TL.q (h := .pickB) (k := ?_)
                | refine TL.q (h := .binS) (k := ?_))
              rename_i bm vr
              have f1 : (!isNilI vr) = false := by rw [hN]; rfl
              refine T.cF (h := ?_)
              repeat (first
                | with_reducible apply T.seq
                | with_reducible apply T.region
                | with_reducible apply TL.nil
                | with_reducible apply Thn.normal
                | with_reducible apply Thn.ret
                | with_reducible apply Thn.exit
                | with_reducible apply Blk.normal
                | with_reducible apply Blk.ret
                | ((with_reducible refine Blk.exitE ?_ ?_); · rfl)
                | ((with_reducible refine Blk.exitN ?_ ?_); · rfl)
                | with_reducible apply Rnd.ret
                | with_reducible apply Rnd.exit
                | with_reducible apply RndI.ret
                | with_reducible apply RndI.exit
                | with_reducible apply ThnI.ret
                | with_reducible apply ThnI.exit
                | with_reducible apply T.skip
                | with_reducible apply T.block
                | with_reducible apply T.ret
                | with_reducible apply T.exit
                | refine T.condT (h := ?_)
                | refine T.condF (h := ?_)
                | refine TL.pass (k := ?_)
                | refine TL.passN (k := ?_)
                | refine TL.take (k := ?_)
                | (refine TL.e (h := .bx) (k := ?_); rintro _ _ ⟨_, rfl, rfl⟩)
                | refine TL.q (h := .assign) (k := ?_)
                | refine TL.q (h := .fieldAddr) (k := ?_)
                | refine TL.q (h := .fieldEp) (k := ?_)
                | refine TL.q (h := .load) (k := ?_)
                | refine TL.q (h := .loadEp) (k := ?_)
                | refine TL.q (h := .move) (k := ?_)
                | refine TL.q (h := .pickT) (k := ?_)
                | refine TL.q (h := .pickF) (k := ?_)
                | refine TL.q (h := .loadA) (k := ?_)
                | refine TL.q (h := .loadEpA) (k := ?_)
                | (refine TL.callF (h := hr) (k := ?_); rintro _ _ ⟨⟨hI, hN⟩, rfl⟩)
                | refine TL.q (h := .neNilI) (k := ?_)
                | refine TL.q (h := .not) (k := ?_)
                | refine TL.q (h := .nilCheck) (k := ?_)
                | refine TL.q (h := .lenR) (k := ?_)
                | refine TL.q (h := .lenS) (k := ?_)
                | refine TL.q (h := .indexR) (k := ?_)
                | (refine TL.e (h := .al) (k := ?_); rintro _ _ ⟨_, rfl, rfl⟩)
                | refine TL.u (h := .stA0) (k := ?_)
                | refine TL.u (h := .st) (k := ?_)
                | refine TL.u (h := .stA) (k := ?_)
                | refine TL.u (h := .stEp) (k := ?_)
                | refine TL.u (h := .stEpA) (k := ?_)
                | (refine TL.callF (h := cache_put _ _ _ _ (by first | assumption | rfl | omega | (simp at *; omega))) (k := ?_); rintro _ _ ⟨_, rfl, rfl⟩)
                | refine TL.q (h := .add) (k := ?_)
                | refine TL.q (h := .catS) (k := ?_)
                | (refine TL.callF (h := card_Sort _ _ _ (by first | assumption | rfl | omega | (simp at *; omega))) (k := ?_); rintro _ _ ⟨_, rfl, rfl⟩)
                | (refine TL.callF (h := sort_nil) (k := ?_); rintro _ _ ⟨rfl, rfl⟩)
                | refine TL.q (h := .binI) (k := ?_)
                | refine TL.q (h := .pickB) (k := ?_)
                | refine TL.q (h := .binS) (k := ?_)
                | refine TL.gT (k := ?_)
                | refine TL.gF (k := ?_)
                | refine T.cT (h := ?_)
                | refine T.cF (h := ?_))
              refine T.blkW (fun l' A => ∃ q5 : Sl, l' = [(5, q5.v), (0, .pointer (some ⟨cb, 0, none⟩)), (3, .pointer (some ⟨bm, 0, none⟩))] ∧
                A = [cel true bm 36 [.int .i64 2, .int .i64 5, .int .i64 m.status, .int .i64 0, .int .i64 m.tag, .int .i64 m.n, .int .i64 m.seq, .string m.app, .string m.id, .bool false, .int .u32 m.sum, cv.v, .slice none 0 0], cel true cb 106 [q.v, .int .i64 s.since], row mc 58 9 cv.v (cs.map MCard.C), row true 58 9 q5.v ((fedL s.l false cs).map MCard.C), F]) ?_ ?_
              · refine T.loopI (fun q' l' A => ∃ (i : Nat) (q5 : Sl), q' = cs.length - i ∧ i ≤ cs.length ∧ l' = [(45, .int .i64 (i : Int)), (44, .int .i64 ((cs.map MCard.C).length : Int)), (43, cv.v), (5, q5.v), (0, .pointer (some ⟨cb, 0, none⟩)), (3, .pointer (some ⟨bm, 0, none⟩))] ∧
                  A = [cel true bm 36 [.int .i64 2, .int .i64 5, .int .i64 m.status, .int .i64 0, .int .i64 m.tag, .int .i64 m.n, .int .i64 m.seq, .string m.app, .string m.id, .bool false, .int .u32 m.sum, cv.v, .slice none 0 0], cel true cb 106 [q.v, .int .i64 s.since], row mc 58 9 cv.v (cs.map MCard.C), row true 58 9 q5.v ((fedL s.l false (cs.take i)).map MCard.C), F]) ⟨0, q, rfl, by omega, rfl, rfl⟩ (by (repeat (first | exact AllIs.nil | refine AllIs.cons (by (simp only [St.ev, slk, Nat.reduceBEq, cond_true, cond_false]; first | done | rfl)) ?_))) (by (repeat (first | exact Picks.nil | (apply Picks.cons; (repeat (first | exact Pick.here | apply Pick.there)))))) ?_
                rintro q' l' A j ⟨i, q5, rfl, hi, rfl, rfl⟩
                have hXi := fedL_len s.l false (cs.take i)
                have htk : (cs.take i).length ≤ cs.length := by simp; omega
                repeat (first
                  | with_reducible apply T.seq
                  | with_reducible apply T.region
                  | with_reducible apply TL.nil
                  | with_reducible apply Thn.normal
                  | with_reducible apply Thn.ret
                  | with_reducible apply Thn.exit
                  | with_reducible apply Blk.normal
                  | with_reducible apply Blk.ret
                  | ((with_reducible refine Blk.exitE ?_ ?_); · rfl)
                  | ((with_reducible refine Blk.exitN ?_ ?_); · rfl)
                  | with_reducible apply Rnd.ret
                  | with_reducible apply Rnd.exit
                  | with_reducible apply RndI.ret
                  | with_reducible apply RndI.exit
                  | with_reducible apply ThnI.ret
                  | with_reducible apply ThnI.exit
                  | with_reducible apply T.skip
                  | with_reducible apply T.block
                  | with_reducible apply T.ret
                  | with_reducible apply T.exit
                  | refine T.condT (h := ?_)
                  | refine T.condF (h := ?_)
                  | refine TL.pass (k := ?_)
                  | refine TL.passN (k := ?_)
                  | refine TL.take (k := ?_)
                  | (refine TL.e (h := .bx) (k := ?_); rintro _ _ ⟨_, rfl, rfl⟩)
                  | refine TL.q (h := .assign) (k := ?_)
                  | refine TL.q (h := .fieldAddr) (k := ?_)
                  | refine TL.q (h := .fieldEp) (k := ?_)
                  | refine TL.q (h := .load) (k := ?_)
                  | refine TL.q (h := .loadEp) (k := ?_)
                  | refine TL.q (h := .move) (k := ?_)
                  | refine TL.q (h := .pickT) (k := ?_)
                  | refine TL.q (h := .pickF) (k := ?_)
                  | refine TL.q (h := .loadA) (k := ?_)
                  | refine TL.q (h := .loadEpA) (k := ?_)
                  | (refine TL.callF (h := hr) (k := ?_); rintro _ _ ⟨⟨hI, hN⟩, rfl⟩)
                  | refine TL.q (h := .neNilI) (k := ?_)
                  | refine TL.q (h := .not) (k := ?_)
                  | refine TL.q (h := .nilCheck) (k := ?_)
                  | refine TL.q (h := .lenR) (k := ?_)
                  | refine TL.q (h := .lenS) (k := ?_)
                  | refine TL.q (h := .indexR) (k := ?_)
                  | (refine TL.e (h := .al) (k := ?_); rintro _ _ ⟨_, rfl, rfl⟩)
                  | refine TL.u (h := .stA0) (k := ?_)
                  | refine TL.u (h := .st) (k := ?_)
                  | refine TL.u (h := .stA) (k := ?_)
                  | refine TL.u (h := .stEp) (k := ?_)
                  | refine TL.u (h := .stEpA) (k := ?_)
                  | (refine TL.callF (h := cache_put _ _ _ _ (by first | assumption | rfl | omega | (simp at *; omega))) (k := ?_); rintro _ _ ⟨_, rfl, rfl⟩)
                  | refine TL.q (h := .add) (k := ?_)
                  | refine TL.q (h := .catS) (k := ?_)
                  | (refine TL.callF (h := card_Sort _ _ _ (by first | assumption | rfl | omega | (simp at *; omega))) (k := ?_); rintro _ _ ⟨_, rfl, rfl⟩)
                  | (refine TL.callF (h := sort_nil) (k := ?_); rintro _ _ ⟨rfl, rfl⟩)
                  | refine TL.q (h := .binI) (k := ?_)
                  | refine TL.q (h := .pickB) (k := ?_)
                  | refine TL.q (h := .binS) (k := ?_))
                refine T.condD (ht := fun hlt => ?_) (hf := fun hlt => ?_)
                · obtain ⟨c, hcc, hcd2, ht, _⟩ := card_at (l := cs) (i := i) (by omega)
                  have hsn := fedL_snoc s.l false (cs.take i) c
                  repeat (first
                    | with_reducible apply T.seq
                    | with_reducible apply T.region
                    | with_reducible apply TL.nil
                    | with_reducible apply Thn.normal
                    | with_reducible apply Thn.ret
                    | with_reducible apply Thn.exit
                    | with_reducible apply Blk.normal
                    | with_reducible apply Blk.ret
                    | ((with_reducible refine Blk.exitE ?_ ?_); · rfl)
                    | ((with_reducible refine Blk.exitN ?_ ?_); · rfl)
                    | with_reducible apply Rnd.ret
                    | with_reducible apply Rnd.exit
                    | with_reducible apply RndI.ret
                    | with_reducible apply RndI.exit
                    | with_reducible apply ThnI.ret
                    | with_reducible apply ThnI.exit
                    | with_reducible apply T.skip
                    | with_reducible apply T.block
                    | with_reducible apply T.ret
                    | with_reducible apply T.exit
                    | refine T.condT (h := ?_)
                    | refine T.condF (h := ?_)
                    | refine TL.pass (k := ?_)
                    | refine TL.passN (k := ?_)
                    | refine TL.take (k := ?_)
                    | (refine TL.e (h := .bx) (k := ?_); rintro _ _ ⟨_, rfl, rfl⟩)
                    | refine TL.q (h := .assign) (k := ?_)
                    | refine TL.q (h := .fieldAddr) (k := ?_)
                    | refine TL.q (h := .fieldEp) (k := ?_)
                    | refine TL.q (h := .load) (k := ?_)
                    | refine TL.q (h := .loadEp) (k := ?_)
                    | refine TL.q (h := .move) (k := ?_)
                    | refine TL.q (h := .pickT) (k := ?_)
                    | refine TL.q (h := .pickF) (k := ?_)
                    | refine TL.q (h := .loadA) (k := ?_)
                    | refine TL.q (h := .loadEpA) (k := ?_)
                    | (refine TL.callF (h := hr) (k := ?_); rintro _ _ ⟨⟨hI, hN⟩, rfl⟩)
                    | refine TL.q (h := .neNilI) (k := ?_)
                    | refine TL.q (h := .not) (k := ?_)
                    | refine TL.q (h := .nilCheck) (k := ?_)
                    | refine TL.q (h := .lenR) (k := ?_)
                    | refine TL.q (h := .lenS) (k := ?_)
                    | refine TL.q (h := .indexR) (k := ?_)
                    | (refine TL.e (h := .al) (k := ?_); rintro _ _ ⟨_, rfl, rfl⟩)
                    | refine TL.u (h := .stA0) (k := ?_)
                    | refine TL.u (h := .st) (k := ?_)
                    | refine TL.u (h := .stA) (k := ?_)
                    | refine TL.u (h := .stEp) (k := ?_)
                    | refine TL.u (h := .stEpA) (k := ?_)
                    | (refine TL.callF (h := cache_put _ _ _ _ (by first | assumption | rfl | omega | (simp at *; omega))) (k := ?_); rintro _ _ ⟨_, rfl, rfl⟩)
                    | refine TL.q (h := .add) (k := ?_)
                    | refine TL.q (h := .catS) (k := ?_)
                    | (refine TL.callF (h := card_Sort _ _ _ (by first | assumption | rfl | omega | (simp at *; omega))) (k := ?_); rintro _ _ ⟨_, rfl, rfl⟩)
                    | (refine TL.callF (h := sort_nil) (k := ?_); rintro _ _ ⟨rfl, rfl⟩)
                    | refine TL.q (h := .binI) (k := ?_)
                    | refine TL.q (h := .pickB) (k := ?_)
                    | refine TL.q (h := .binS) (k := ?_))
                  rename_i q6
                  refine RndI.next (m' := cs.length - (i + 1)) (by omega) ⟨i + 1, q6, rfl, by omega, rfl, by rw [ht, hsn]⟩ (by (repeat (first | exact AllIs.nil | refine AllIs.cons (by (simp only [St.ev, slk, Nat.reduceBEq, cond_true, cond_false]; first | done | rfl)) ?_))) (by (repeat (first | exact Picks.nil | (apply Picks.cons; (repeat (first | exact Pick.here | apply Pick.there))))))
                · have e : cs.take i = cs := List.take_of_length_le (by omega)
                  rw [e]
                  repeat (first
                    | with_reducible apply T.seq
                    | with_reducible apply T.region
                    | with_reducible apply TL.nil
                    | with_reducible apply Thn.normal
                    | with_reducible apply Thn.ret
                    | with_reducible apply Thn.exit
                    | with_reducible apply Blk.normal
                    | with_reducible apply Blk.ret
                    | ((with_reducible refine Blk.exitE ?_ ?_); · rfl)
                    | ((with_reducible refine Blk.exitN ?_ ?_); · rfl)
                    | with_reducible apply Rnd.ret
                    | with_reducible apply Rnd.exit
                    | with_reducible apply RndI.ret
                    | with_reducible apply RndI.exit
                    | with_reducible apply ThnI.ret
                    | with_reducible apply ThnI.exit
                    | with_reducible apply T.skip
                    | with_reducible apply T.block
                    | with_reducible apply T.ret
                    | with_reducible apply T.exit
                    | refine T.condT (h := ?_)
                    | refine T.condF (h := ?_)
                    | refine TL.pass (k := ?_)
                    | refine TL.passN (k := ?_)
                    | refine TL.take (k := ?_)
                    | (refine TL.e (h := .bx) (k := ?_); rintro _ _ ⟨_, rfl, rfl⟩)
                    | refine TL.q (h := .assign) (k := ?_)
                    | refine TL.q (h := .fieldAddr) (k := ?_)
                    | refine TL.q (h := .fieldEp) (k := ?_)
                    | refine TL.q (h := .load) (k := ?_)
                    | refine TL.q (h := .loadEp) (k := ?_)
                    | refine TL.q (h := .move) (k := ?_)
                    | refine TL.q (h := .pickT) (k := ?_)
                    | refine TL.q (h := .pickF) (k := ?_)
                    | refine TL.q (h := .loadA) (k := ?_)
                    | refine TL.q (h := .loadEpA) (k := ?_)
                    | (refine TL.callF (h := hr) (k := ?_); rintro _ _ ⟨⟨hI, hN⟩, rfl⟩)
                    | refine TL.q (h := .neNilI) (k := ?_)
                    | refine TL.q (h := .not) (k := ?_)
                    | refine TL.q (h := .nilCheck) (k := ?_)
                    | refine TL.q (h := .lenR) (k := ?_)
                    | refine TL.q (h := .lenS) (k := ?_)
                    | refine TL.q (h := .indexR) (k := ?_)
                    | (refine TL.e (h := .al) (k := ?_); rintro _ _ ⟨_, rfl, rfl⟩)
                    | refine TL.u (h := .stA0) (k := ?_)
                    | refine TL.u (h := .st) (k := ?_)
                    | refine TL.u (h := .stA) (k := ?_)
                    | refine TL.u (h := .stEp) (k := ?_)
                    | refine TL.u (h := .stEpA) (k := ?_)
                    | (refine TL.callF (h := cache_put _ _ _ _ (by first | assumption | rfl | omega | (simp at *; omega))) (k := ?_); rintro _ _ ⟨_, rfl, rfl⟩)
                    | refine TL.q (h := .add) (k := ?_)
                    | refine TL.q (h := .catS) (k := ?_)
                    | (refine TL.callF (h := card_Sort _ _ _ (by first | assumption | rfl | omega | (simp at *; omega))) (k := ?_); rintro _ _ ⟨_, rfl, rfl⟩)
                    | (refine TL.callF (h := sort_nil) (k := ?_); rintro _ _ ⟨rfl, rfl⟩)
                    | refine TL.q (h := .binI) (k := ?_)
                    | refine TL.q (h := .pickB) (k := ?_)
                    | refine TL.q (h := .binS) (k := ?_))
                  refine ThnI.done ⟨q5, rfl, rfl⟩ (by (repeat (first | exact AllIs.nil | refine AllIs.cons (by (simp only [St.ev, slk, Nat.reduceBEq, cond_true, cond_false]; first | done | rfl)) ?_))) (by (repeat (first | exact Picks.nil | (apply Picks.cons; (repeat (first | exact Pick.here | apply Pick.there))))))
              · rintro l' A j ⟨q5, rfl, rfl⟩
                repeat (first
                  | with_reducible apply T.seq
                  | with_reducible apply T.region
                  | with_reducible apply TL.nil
                  | with_reducible apply Thn.normal
                  | with_reducible apply Thn.ret
                  | with_reducible apply Thn.exit
                  | with_reducible apply Blk.normal
                  | with_reducible apply Blk.ret
                  | ((with_reducible refine Blk.exitE ?_ ?_); · rfl)
                  | ((with_reducible refine Blk.exitN ?_ ?_); · rfl)
                  | with_reducible apply Rnd.ret
                  | with_reducible apply Rnd.exit
                  | with_reducible apply RndI.ret
                  | with_reducible apply RndI.exit
                  | with_reducible apply ThnI.ret
                  | with_reducible apply ThnI.exit
                  | with_reducible apply T.skip
                  | with_reducible apply T.block
                  | with_reducible apply T.ret
                  | with_reducible apply T.exit
                  | refine T.condT (h := ?_)
                  | refine T.condF (h := ?_)
                  | refine TL.pass (k := ?_)
                  | refine TL.passN (k := ?_)
                  | refine TL.take (k := ?_)
                  | (refine TL.e (h := .bx) (k := ?_); rintro _ _ ⟨_, rfl, rfl⟩)
                  | refine TL.q (h := .assign) (k := ?_)
                  | refine TL.q (h := .fieldAddr) (k := ?_)
                  | refine TL.q (h := .fieldEp) (k := ?_)
                  | refine TL.q (h := .load) (k := ?_)
                  | refine TL.q (h := .loadEp) (k := ?_)
                  | refine TL.q (h := .move) (k := ?_)
                  | refine TL.q (h := .pickT) (k := ?_)
                  | refine TL.q (h := .pickF) (k := ?_)
                  | refine TL.q (h := .loadA) (k := ?_)
                  | refine TL.q (h := .loadEpA) (k := ?_)
                  | (refine TL.callF (h := hr) (k := ?_); rintro _ _ ⟨⟨hI, hN⟩, rfl⟩)
                  | refine TL.q (h := .neNilI) (k := ?_)
                  | refine TL.q (h := .not) (k := ?_)
                  | refine TL.q (h := .nilCheck) (k := ?_)
                  | refine TL.q (h := .lenR) (k := ?_)
                  | refine TL.q (h := .lenS) (k := ?_)
                  | refine TL.q (h := .indexR) (k := ?_)
                  | (refine TL.e (h := .al) (k := ?_); rintro _ _ ⟨_, rfl, rfl⟩)
                  | refine TL.u (h := .stA0) (k := ?_)
                  | refine TL.u (h := .st) (k := ?_)
                  | refine TL.u (h := .stA) (k := ?_)
                  | refine TL.u (h := .stEp) (k := ?_)
                  | refine TL.u (h := .stEpA) (k := ?_)
                  | (refine TL.callF (h := cache_put _ _ _ _ (by first | assumption | rfl | omega | (simp at *; omega))) (k := ?_); rintro _ _ ⟨_, rfl, rfl⟩)
                  | refine TL.q (h := .add) (k := ?_)
                  | refine TL.q (h := .catS) (k := ?_)
                  | (refine TL.callF (h := card_Sort _ _ _ (by first | assumption | rfl | omega | (simp at *; omega))) (k := ?_); rintro _ _ ⟨_, rfl, rfl⟩)
                  | (refine TL.callF (h := sort_nil) (k := ?_); rintro _ _ ⟨rfl, rfl⟩)
                  | refine TL.q (h := .binI) (k := ?_)
                  | refine TL.q (h := .pickB) (k := ?_)
                  | refine TL.q (h := .binS) (k := ?_))
                rename_i qn
                all_goals refine TG.start (i := 14) mixed rfl ?_
                all_goals (first
                  | refine TG.q0 0 (ho := rfl) (hv := .yes (h := .move)) (k := ?_)
                  | refine TG.lv 0 (ho := rfl) (hv := .move) (k := ?_))
                all_goals (first
                  | refine TG.q0 1 (ho := rfl) (hv := .yes (h := .nilCheck)) (k := ?_)
                  | refine TG.lv 1 (ho := rfl) (hv := .nilCheck) (k := ?_))
                all_goals (first
                  | refine TG.q0 2 (ho := rfl) (hv := .yes (h := .fieldAddr)) (k := ?_)
                  | refine TG.qFieldEp 2 (ho := rfl) (h := ?_)
                  | refine TG.lv 2 (ho := rfl) (hv := .fieldAddr) (k := ?_)
                  | refine TG.lv 2 (ho := rfl) (hv := .fieldEp) (k := ?_))
                all_goals (first
                  | refine TG.qLoad 3 (ho := rfl) (k := ?_)
                  | refine TG.qLoadEp 3 (ho := rfl) (h := ?_)
                  | refine TG.lv 3 (ho := rfl) (hv := .load) (k := ?_)
                  | refine TG.lv 3 (ho := rfl) (hv := .loadEp) (k := ?_))
                all_goals (first
                  | refine TG.q0 5 (ho := rfl) (hv := .yes (h := .fieldAddr)) (k := ?_)
                  | refine TG.qFieldEp 5 (ho := rfl) (h := ?_)
                  | refine TG.lv 5 (ho := rfl) (hv := .fieldAddr) (k := ?_)
                  | refine TG.lv 5 (ho := rfl) (hv := .fieldEp) (k := ?_))
                all_goals (first
                  | refine TG.qLoad 6 (ho := rfl) (k := ?_)
                  | refine TG.qLoadEp 6 (ho := rfl) (h := ?_)
                  | refine TG.lv 6 (ho := rfl) (hv := .load) (k := ?_)
                  | refine TG.lv 6 (ho := rfl) (hv := .loadEp) (k := ?_))
                all_goals (first
                  | (refine TG.ld 4 (ho := rfl) (hK := .callF (h := seal_Of _ _ _ (by first | assumption | rfl | omega | (simp at *; omega)) (by first | assumption | rfl | omega | (simp at *; omega)))) (k := ?_); rintro _ _ ⟨_, rfl, rfl, rfl⟩; refine ⟨by (repeat (first | exact Held.nil | apply Held.zero | (apply Held.one; (repeat (first | exact Pick.here | apply Pick.there))))), ?_⟩)
                  | (refine TG.ld 4 (ho := rfl) (hK := .callF (h := of_nil)) (k := ?_); rintro _ _ ⟨_, rfl, rfl, rfl⟩; refine ⟨by (repeat (first | exact Held.nil | apply Held.zero | (apply Held.one; (repeat (first | exact Pick.here | apply Pick.there))))), ?_⟩))
                all_goals (first
                  | refine TG.q0 7 (ho := rfl) (hv := .yes (h := .binI)) (k := ?_)
                  | refine TG.lv 7 (ho := rfl) (hv := .binI) (k := ?_))
                all_goals apply TG.fin rfl
                repeat (first
                  | with_reducible apply T.seq
                  | with_reducible apply T.region
                  | with_reducible apply TL.nil
                  | with_reducible apply Thn.normal
                  | with_reducible apply Thn.ret
                  | with_reducible apply Thn.exit
                  | with_reducible apply Blk.normal
                  | with_reducible apply Blk.ret
                  | ((with_reducible refine Blk.exitE ?_ ?_); · rfl)
                  | ((with_reducible refine Blk.exitN ?_ ?_); · rfl)
                  | with_reducible apply Rnd.ret
                  | with_reducible apply Rnd.exit
                  | with_reducible apply RndI.ret
                  | with_reducible apply RndI.exit
                  | with_reducible apply ThnI.ret
                  | with_reducible apply ThnI.exit
                  | with_reducible apply T.skip
                  | with_reducible apply T.block
                  | with_reducible apply T.ret
                  | with_reducible apply T.exit
                  | refine T.condT (h := ?_)
                  | refine T.condF (h := ?_)
                  | refine TL.pass (k := ?_)
                  | refine TL.passN (k := ?_)
                  | refine TL.take (k := ?_)
                  | (refine TL.e (h := .bx) (k := ?_); rintro _ _ ⟨_, rfl, rfl⟩)
                  | refine TL.q (h := .assign) (k := ?_)
                  | refine TL.q (h := .fieldAddr) (k := ?_)
                  | refine TL.q (h := .fieldEp) (k := ?_)
                  | refine TL.q (h := .load) (k := ?_)
                  | refine TL.q (h := .loadEp) (k := ?_)
                  | refine TL.q (h := .move) (k := ?_)
                  | refine TL.q (h := .pickT) (k := ?_)
                  | refine TL.q (h := .pickF) (k := ?_)
                  | refine TL.q (h := .loadA) (k := ?_)
                  | refine TL.q (h := .loadEpA) (k := ?_)
                  | (refine TL.callF (h := hr) (k := ?_); rintro _ _ ⟨⟨hI, hN⟩, rfl⟩)
                  | refine TL.q (h := .neNilI) (k := ?_)
                  | refine TL.q (h := .not) (k := ?_)
                  | refine TL.q (h := .nilCheck) (k := ?_)
                  | refine TL.q (h := .lenR) (k := ?_)
                  | refine TL.q (h := .lenS) (k := ?_)
                  | refine TL.q (h := .indexR) (k := ?_)
                  | (refine TL.e (h := .al) (k := ?_); rintro _ _ ⟨_, rfl, rfl⟩)
                  | refine TL.u (h := .stA0) (k := ?_)
                  | refine TL.u (h := .st) (k := ?_)
                  | refine TL.u (h := .stA) (k := ?_)
                  | refine TL.u (h := .stEp) (k := ?_)
                  | refine TL.u (h := .stEpA) (k := ?_)
                  | (refine TL.callF (h := cache_put _ _ _ _ (by first | assumption | rfl | omega | (simp at *; omega))) (k := ?_); rintro _ _ ⟨_, rfl, rfl⟩)
                  | refine TL.q (h := .add) (k := ?_)
                  | refine TL.q (h := .catS) (k := ?_)
                  | (refine TL.callF (h := card_Sort _ _ _ (by first | assumption | rfl | omega | (simp at *; omega))) (k := ?_); rintro _ _ ⟨_, rfl, rfl⟩)
                  | (refine TL.callF (h := sort_nil) (k := ?_); rintro _ _ ⟨rfl, rfl⟩)
                  | refine TL.q (h := .binI) (k := ?_)
                  | refine TL.q (h := .pickB) (k := ?_)
                  | refine TL.q (h := .binS) (k := ?_))
                refine T.cond (by (simp only [St.ev, slk, Nat.reduceBEq, cond_true, cond_false]; first | done | rfl)) (fun hsum => ?_) (fun hsum => ?_)
                · have hap : s.apply m cs = (25, ⟨sortK (fedL s.l false cs), -1⟩) := by
                    simp only [MCache.apply, hk, ho, hcd, hR, hfl, hsum]
                    simp [e2]
                  rw [hap]
                  repeat (first
                    | with_reducible apply T.seq
                    | with_reducible apply T.region
                    | with_reducible apply TL.nil
                    | with_reducible apply Thn.normal
                    | with_reducible apply Thn.ret
                    | with_reducible apply Thn.exit
                    | with_reducible apply Blk.normal
                    | with_reducible apply Blk.ret
                    | ((with_reducible refine Blk.exitE ?_ ?_); · rfl)
                    | ((with_reducible refine Blk.exitN ?_ ?_); · rfl)
                    | with_reducible apply Rnd.ret
                    | with_reducible apply Rnd.exit
                    | with_reducible apply RndI.ret
                    | with_reducible apply RndI.exit
                    | with_reducible apply ThnI.ret
                    | with_reducible apply ThnI.exit
                    | with_reducible apply T.skip
                    | with_reducible apply T.block
                    | with_reducible apply T.ret
                    | with_reducible apply T.exit
                    | refine T.condT (h := ?_)
                    | refine T.condF (h := ?_)
                    | refine TL.pass (k := ?_)
                    | refine TL.passN (k := ?_)
                    | refine TL.take (k := ?_)
                    | (refine TL.e (h := .bx) (k := ?_); rintro _ _ ⟨_, rfl, rfl⟩)
                    | refine TL.q (h := .assign) (k := ?_)
                    | refine TL.q (h := .fieldAddr) (k := ?_)
                    | refine TL.q (h := .fieldEp) (k := ?_)
                    | refine TL.q (h := .load) (k := ?_)
                    | refine TL.q (h := .loadEp) (k := ?_)
                    | refine TL.q (h := .move) (k := ?_)
                    | refine TL.q (h := .pickT) (k := ?_)
                    | refine TL.q (h := .pickF) (k := ?_)
                    | refine TL.q (h := .loadA) (k := ?_)
                    | refine TL.q (h := .loadEpA) (k := ?_)
                    | (refine TL.callF (h := hr) (k := ?_); rintro _ _ ⟨⟨hI, hN⟩, rfl⟩)
                    | refine TL.q (h := .neNilI) (k := ?_)
                    | refine TL.q (h := .not) (k := ?_)
                    | refine TL.q (h := .nilCheck) (k := ?_)
                    | refine TL.q (h := .lenR) (k := ?_)
                    | refine TL.q (h := .lenS) (k := ?_)
                    | refine TL.q (h := .indexR) (k := ?_)
                    | (refine TL.e (h := .al) (k := ?_); rintro _ _ ⟨_, rfl, rfl⟩)
                    | refine TL.u (h := .stA0) (k := ?_)
                    | refine TL.u (h := .st) (k := ?_)
                    | refine TL.u (h := .stA) (k := ?_)
                    | refine TL.u (h := .stEp) (k := ?_)
                    | refine TL.u (h := .stEpA) (k := ?_)
                    | (refine TL.callF (h := cache_put _ _ _ _ (by first | assumption | rfl | omega | (simp at *; omega))) (k := ?_); rintro _ _ ⟨_, rfl, rfl⟩)
                    | refine TL.q (h := .add) (k := ?_)
                    | refine TL.q (h := .catS) (k := ?_)
                    | (refine TL.callF (h := card_Sort _ _ _ (by first | assumption | rfl | omega | (simp at *; omega))) (k := ?_); rintro _ _ ⟨_, rfl, rfl⟩)
                    | (refine TL.callF (h := sort_nil) (k := ?_); rintro _ _ ⟨rfl, rfl⟩)
                    | refine TL.q (h := .binI) (k := ?_)
                    | refine TL.q (h := .pickB) (k := ?_)
                    | refine TL.q (h := .binS) (k := ?_))
                  (first | refine RetQ.retI (L := [cel true cb 106 [qn.v, .int .i64 (-1)], row true 58 9 qn.v ((sortK (fedL s.l false cs)).map MCard.C), row mc 58 9 cv.v (cs.map MCard.C)]) (ResIs.r1 Try.results22 (RV.tmp)) (by (repeat (first | exact Picks.nil | (apply Picks.cons; (repeat (first | exact Pick.here | apply Pick.there)))))) ?_ | refine RetQ.norI (L := [cel true cb 106 [qn.v, .int .i64 (-1)], row true 58 9 qn.v ((sortK (fedL s.l false cs)).map MCard.C), row mc 58 9 cv.v (cs.map MCard.C)]) (ResIs.r1 Try.results22 (RV.tmp)) (by (repeat (first | exact Picks.nil | (apply Picks.cons; (repeat (first | exact Pick.here | apply Pick.there)))))) ?_)
                  exact ⟨rfl, qn, rfl⟩
                · have hap : s.apply m cs = (0, ⟨sortK (fedL s.l false cs), m.seq⟩) := by
                    simp only [MCache.apply, hk, ho, hcd, hR, hfl, hsum]
                    simp [e2]
                  rw [hap]
                  repeat (first
                    | with_reducible apply T.seq
                    | with_reducible apply T.region
                    | with_reducible apply TL.nil
                    | with_reducible apply Thn.normal
                    | with_reducible apply Thn.ret
                    | with_reducible apply Thn.exit
                    | with_reducible apply Blk.normal
                    | with_reducible apply Blk.ret
                    | ((with_reducible refine Blk.exitE ?_ ?_); · rfl)
                    | ((with_reducible refine Blk.exitN ?_ ?_); · rfl)
                    | with_reducible apply Rnd.ret
                    | with_reducible apply Rnd.exit
                    | with_reducible apply RndI.ret
                    | with_reducible apply RndI.exit
                    | with_reducible apply ThnI.ret
                    | with_reducible apply ThnI.exit
                    | with_reducible apply T.skip
                    | with_reducible apply T.block
                    | with_reducible apply T.ret
                    | with_reducible apply T.exit
                    | refine T.condT (h := ?_)
                    | refine T.condF (h := ?_)
                    | refine TL.pass (k := ?_)
                    | refine TL.passN (k := ?_)
                    | refine TL.take (k := ?_)
                    | (refine TL.e (h := .bx) (k := ?_); rintro _ _ ⟨_, rfl, rfl⟩)
                    | refine TL.q (h := .assign) (k := ?_)
                    | refine TL.q (h := .fieldAddr) (k := ?_)
                    | refine TL.q (h := .fieldEp) (k := ?_)
                    | refine TL.q (h := .load) (k := ?_)
                    | refine TL.q (h := .loadEp) (k := ?_)
                    | refine TL.q (h := .move) (k := ?_)
                    | refine TL.q (h := .pickT) (k := ?_)
                    | refine TL.q (h := .pickF) (k := ?_)
                    | refine TL.q (h := .loadA) (k := ?_)
                    | refine TL.q (h := .loadEpA) (k := ?_)
                    | (refine TL.callF (h := hr) (k := ?_); rintro _ _ ⟨⟨hI, hN⟩, rfl⟩)
                    | refine TL.q (h := .neNilI) (k := ?_)
                    | refine TL.q (h := .not) (k := ?_)
                    | refine TL.q (h := .nilCheck) (k := ?_)
                    | refine TL.q (h := .lenR) (k := ?_)
                    | refine TL.q (h := .lenS) (k := ?_)
                    | refine TL.q (h := .indexR) (k := ?_)
                    | (refine TL.e (h := .al) (k := ?_); rintro _ _ ⟨_, rfl, rfl⟩)
                    | refine TL.u (h := .stA0) (k := ?_)
                    | refine TL.u (h := .st) (k := ?_)
                    | refine TL.u (h := .stA) (k := ?_)
                    | refine TL.u (h := .stEp) (k := ?_)
                    | refine TL.u (h := .stEpA) (k := ?_)
                    | (refine TL.callF (h := cache_put _ _ _ _ (by first | assumption | rfl | omega | (simp at *; omega))) (k := ?_); rintro _ _ ⟨_, rfl, rfl⟩)
                    | refine TL.q (h := .add) (k := ?_)
                    | refine TL.q (h := .catS) (k := ?_)
                    | (refine TL.callF (h := card_Sort _ _ _ (by first | assumption | rfl | omega | (simp at *; omega))) (k := ?_); rintro _ _ ⟨_, rfl, rfl⟩)
                    | (refine TL.callF (h := sort_nil) (k := ?_); rintro _ _ ⟨rfl, rfl⟩)
                    | refine TL.q (h := .binI) (k := ?_)
                    | refine TL.q (h := .pickB) (k := ?_)
                    | refine TL.q (h := .binS) (k := ?_))
                  (first | refine RetQ.retI (L := [cel true cb 106 [qn.v, .int .i64 m.seq], row true 58 9 qn.v ((sortK (fedL s.l false cs)).map MCard.C), row mc 58 9 cv.v (cs.map MCard.C)]) (ResIs.r1 Try.results22 (RV.tmp)) (by (repeat (first | exact Picks.nil | (apply Picks.cons; (repeat (first | exact Pick.here | apply Pick.there)))))) ?_ | refine RetQ.norI (L := [cel true cb 106 [qn.v, .int .i64 m.seq], row true 58 9 qn.v ((sortK (fedL s.l false cs)).map MCard.C), row mc 58 9 cv.v (cs.map MCard.C)]) (ResIs.r1 Try.results22 (RV.tmp)) (by (repeat (first | exact Picks.nil | (apply Picks.cons; (repeat (first | exact Pick.here | apply Pick.there)))))) ?_)
                  exact ⟨rfl, qn, rfl⟩
      · have hne : (m.code != 0) = true := by simpa [bne] using hcd
        have hap : s.apply m cs = (1, s) := by simp [MCache.apply, hne]
        rw [hap]
        simp only [MMsg.CK, hk, ho]
        refine Ctr.of (n := 74) (args := [_, _]) Try.func22 rfl rfl rfl fun F => ?_
        simp only [List.zipIdx_cons, List.zipIdx_nil, List.map_cons, List.map_nil, Nat.zero_add, Nat.reduceAdd, List.cons_append, List.nil_append]
        repeat' (first
          | with_reducible apply T.seq
          | with_reducible apply T.region
          | with_reducible apply TL.nil
          | with_reducible apply Thn.normal
          | with_reducible apply Thn.ret
          | with_reducible apply Thn.exit
          | with_reducible apply Blk.normal
          | with_reducible apply Blk.ret
          | ((with_reducible refine Blk.exitE ?_ ?_); · rfl)
          | ((with_reducible refine Blk.exitN ?_ ?_); · rfl)
          | with_reducible apply Rnd.ret
          | with_reducible apply Rnd.exit
          | with_reducible apply RndI.ret
          | with_reducible apply RndI.exit
          | with_reducible apply ThnI.ret
          | with_reducible apply ThnI.exit
          | with_reducible apply T.skip
          | with_reducible apply T.block
          | with_reducible apply T.ret
          | with_reducible apply T.exit
          | refine T.condT (h := ?_)
          | refine T.condF (h := ?_)
          | refine TL.pass (k := ?_)
          | refine TL.passN (k := ?_)
          | refine TL.take (k := ?_)
          | (refine TL.e (h := .bx) (k := ?_); rintro _ _ ⟨_, rfl, rfl⟩)
          | refine TL.q (h := .assign) (k := ?_)
          | refine TL.q (h := .fieldAddr) (k := ?_)
          | refine TL.q (h := .fieldEp) (k := ?_)
          | refine TL.q (h := .load) (k := ?_)
          | refine TL.q (h := .loadEp) (k := ?_)
          | refine TL.q (h := .move) (k := ?_)
          | refine TL.q (h := .pickT) (k := ?_)
          | refine TL.q (h := .pickF) (k := ?_)
          | refine TL.q (h := .loadA) (k := ?_)
          | refine TL.q (h := .loadEpA) (k := ?_)
          | (refine TL.callF (h := hr) (k := ?_); rintro _ _ ⟨⟨hI, hN⟩, rfl⟩)
          | refine TL.q (h := .neNilI) (k := ?_)
          | refine TL.q (h := .not) (k := ?_)
          | refine TL.q (h := .nilCheck) (k := ?_)
          | refine TL.q (h := .lenR) (k := ?_)
          | refine TL.q (h := .lenS) (k := ?_)
          | refine TL.q (h := .indexR) (k := ?_)
          | (refine TL.e (h := .al) (k := ?_); rintro _ _ ⟨_, rfl, rfl⟩)
          | refine TL.u (h := .stA0) (k := ?_)
          | refine TL.u (h := .st) (k := ?_)
          | refine TL.u (h := .stA) (k := ?_)
          | refine TL.u (h := .stEp) (k := ?_)
          | refine TL.u (h := .stEpA) (k := ?_)
          | (refine TL.callF (h := cache_put _ _ _ _ (by first | assumption | rfl | omega | (simp at *; omega))) (k := ?_); rintro _ _ ⟨_, rfl, rfl⟩)
          | refine TL.q (h := .add) (k := ?_)
          | refine TL.q (h := .catS) (k := ?_)
          | (refine TL.callF (h := card_Sort _ _ _ (by first | assumption | rfl | omega | (simp at *; omega))) (k := ?_); rintro _ _ ⟨_, rfl, rfl⟩)
          | (refine TL.callF (h := sort_nil) (k := ?_); rintro _ _ ⟨rfl, rfl⟩)
          | refine TL.q (h := .binI) (k := ?_)
          | refine TL.q (h := .pickB) (k := ?_)
          | refine TL.q (h := .binS) (k := ?_)
          | (skip
             all_goals refine TG.start (i := 14) mixed rfl ?_
             all_goals (first
               | refine TG.q0 0 (ho := rfl) (hv := .yes (h := .move)) (k := ?_)
               | refine TG.lv 0 (ho := rfl) (hv := .move) (k := ?_))
             all_goals (first
               | refine TG.q0 1 (ho := rfl) (hv := .yes (h := .nilCheck)) (k := ?_)
               | refine TG.lv 1 (ho := rfl) (hv := .nilCheck) (k := ?_))
             all_goals (first
               | refine TG.q0 2 (ho := rfl) (hv := .yes (h := .fieldAddr)) (k := ?_)
               | refine TG.qFieldEp 2 (ho := rfl) (h := ?_)
               | refine TG.lv 2 (ho := rfl) (hv := .fieldAddr) (k := ?_)
               | refine TG.lv 2 (ho := rfl) (hv := .fieldEp) (k := ?_))
             all_goals (first
               | refine TG.qLoad 3 (ho := rfl) (k := ?_)
               | refine TG.qLoadEp 3 (ho := rfl) (h := ?_)
               | refine TG.lv 3 (ho := rfl) (hv := .load) (k := ?_)
               | refine TG.lv 3 (ho := rfl) (hv := .loadEp) (k := ?_))
             all_goals (first
               | refine TG.q0 5 (ho := rfl) (hv := .yes (h := .fieldAddr)) (k := ?_)
               | refine TG.qFieldEp 5 (ho := rfl) (h := ?_)
               | refine TG.lv 5 (ho := rfl) (hv := .fieldAddr) (k := ?_)
               | refine TG.lv 5 (ho := rfl) (hv := .fieldEp) (k := ?_))
             all_goals (first
               | refine TG.qLoad 6 (ho := rfl) (k := ?_)
               | refine TG.qLoadEp 6 (ho := rfl) (h := ?_)
               | refine TG.lv 6 (ho := rfl) (hv := .load) (k := ?_)
               | refine TG.lv 6 (ho := rfl) (hv := .loadEp) (k := ?_))
             all_goals (first
               | (refine TG.ld 4 (ho := rfl) (hK := .callF (h := seal_Of _ _ _ (by first | assumption | rfl | omega | (simp at *; omega)) (by first | assumption | rfl | omega | (simp at *; omega)))) (k := ?_); rintro _ _ ⟨_, rfl, rfl, rfl⟩; refine ⟨by (repeat (first | exact Held.nil | apply Held.zero | (apply Held.one; (repeat (first | exact Pick.here | apply Pick.there))))), ?_⟩)
               | (refine TG.ld 4 (ho := rfl) (hK := .callF (h := of_nil)) (k := ?_); rintro _ _ ⟨_, rfl, rfl, rfl⟩; refine ⟨by (repeat (first | exact Held.nil | apply Held.zero | (apply Held.one; (repeat (first | exact Pick.here | apply Pick.there))))), ?_⟩))
             all_goals (first
               | refine TG.q0 7 (ho := rfl) (hv := .yes (h := .binI)) (k := ?_)
               | refine TG.lv 7 (ho := rfl) (hv := .binI) (k := ?_))
             all_goals apply TG.fin rfl)
          | refine TL.gT (k := ?_)
          | refine TL.gF (k := ?_)
          | refine T.cT (h := ?_)
          | refine T.cF (h := ?_)
          | (refine TL.gcase (ht := fun _ => ?_) (hf := fun _ => ?_))
          | refine T.cond (by (simp only [St.ev, slk, Nat.reduceBEq, cond_true, cond_false]; first | done | rfl)) (fun _ => ?_) (fun _ => ?_))
        all_goals first
          | ((first | refine RetQ.retI (L := [cel true cb 106 [q.v, .int .i64 s.since], row true 58 9 q.v (s.l.map MCard.C), row mc 58 9 cv.v (cs.map MCard.C)]) (ResIs.r1 Try.results22 (RV.tmp)) (by (repeat (first | exact Picks.nil | (apply Picks.cons; (repeat (first | exact Pick.here | apply Pick.there)))))) ?_ | refine RetQ.norI (L := [cel true cb 106 [q.v, .int .i64 s.since], row true 58 9 q.v (s.l.map MCard.C), row mc 58 9 cv.v (cs.map MCard.C)]) (ResIs.r1 Try.results22 (RV.tmp)) (by (repeat (first | exact Picks.nil | (apply Picks.cons; (repeat (first | exact Pick.here | apply Pick.there)))))) ?_)
             exact ⟨rfl, q, rfl⟩)
    · have hne : (m.op != 5) = true := by simpa [bne] using ho
      have hap : s.apply m cs = (1, s) := by simp [MCache.apply, hne]
      rw [hap]
      simp only [MMsg.CK, hk]
      refine Ctr.of (n := 74) (args := [_, _]) Try.func22 rfl rfl rfl fun F => ?_
      simp only [List.zipIdx_cons, List.zipIdx_nil, List.map_cons, List.map_nil, Nat.zero_add, Nat.reduceAdd, List.cons_append, List.nil_append]
      repeat' (first
        | with_reducible apply T.seq
        | with_reducible apply T.region
        | with_reducible apply TL.nil
        | with_reducible apply Thn.normal
        | with_reducible apply Thn.ret
        | with_reducible apply Thn.exit
        | with_reducible apply Blk.normal
        | with_reducible apply Blk.ret
        | ((with_reducible refine Blk.exitE ?_ ?_); · rfl)
        | ((with_reducible refine Blk.exitN ?_ ?_); · rfl)
        | with_reducible apply Rnd.ret
        | with_reducible apply Rnd.exit
        | with_reducible apply RndI.ret
        | with_reducible apply RndI.exit
        | with_reducible apply ThnI.ret
        | with_reducible apply ThnI.exit
        | with_reducible apply T.skip
        | with_reducible apply T.block
        | with_reducible apply T.ret
        | with_reducible apply T.exit
        | refine T.condT (h := ?_)
        | refine T.condF (h := ?_)
        | refine TL.pass (k := ?_)
        | refine TL.passN (k := ?_)
        | refine TL.take (k := ?_)
        | (refine TL.e (h := .bx) (k := ?_); rintro _ _ ⟨_, rfl, rfl⟩)
        | refine TL.q (h := .assign) (k := ?_)
        | refine TL.q (h := .fieldAddr) (k := ?_)
        | refine TL.q (h := .fieldEp) (k := ?_)
        | refine TL.q (h := .load) (k := ?_)
        | refine TL.q (h := .loadEp) (k := ?_)
        | refine TL.q (h := .move) (k := ?_)
        | refine TL.q (h := .pickT) (k := ?_)
        | refine TL.q (h := .pickF) (k := ?_)
        | refine TL.q (h := .loadA) (k := ?_)
        | refine TL.q (h := .loadEpA) (k := ?_)
        | (refine TL.callF (h := hr) (k := ?_); rintro _ _ ⟨⟨hI, hN⟩, rfl⟩)
        | refine TL.q (h := .neNilI) (k := ?_)
        | refine TL.q (h := .not) (k := ?_)
        | refine TL.q (h := .nilCheck) (k := ?_)
        | refine TL.q (h := .lenR) (k := ?_)
        | refine TL.q (h := .lenS) (k := ?_)
        | refine TL.q (h := .indexR) (k := ?_)
        | (refine TL.e (h := .al) (k := ?_); rintro _ _ ⟨_, rfl, rfl⟩)
        | refine TL.u (h := .stA0) (k := ?_)
        | refine TL.u (h := .st) (k := ?_)
        | refine TL.u (h := .stA) (k := ?_)
        | refine TL.u (h := .stEp) (k := ?_)
        | refine TL.u (h := .stEpA) (k := ?_)
        | (refine TL.callF (h := cache_put _ _ _ _ (by first | assumption | rfl | omega | (simp at *; omega))) (k := ?_); rintro _ _ ⟨_, rfl, rfl⟩)
        | refine TL.q (h := .add) (k := ?_)
        | refine TL.q (h := .catS) (k := ?_)
        | (refine TL.callF (h := card_Sort _ _ _ (by first | assumption | rfl | omega | (simp at *; omega))) (k := ?_); rintro _ _ ⟨_, rfl, rfl⟩)
        | (refine TL.callF (h := sort_nil) (k := ?_); rintro _ _ ⟨rfl, rfl⟩)
        | refine TL.q (h := .binI) (k := ?_)
        | refine TL.q (h := .pickB) (k := ?_)
        | refine TL.q (h := .binS) (k := ?_)
        | (skip
           all_goals refine TG.start (i := 14) mixed rfl ?_
           all_goals (first
             | refine TG.q0 0 (ho := rfl) (hv := .yes (h := .move)) (k := ?_)
             | refine TG.lv 0 (ho := rfl) (hv := .move) (k := ?_))
           all_goals (first
             | refine TG.q0 1 (ho := rfl) (hv := .yes (h := .nilCheck)) (k := ?_)
             | refine TG.lv 1 (ho := rfl) (hv := .nilCheck) (k := ?_))
           all_goals (first
             | refine TG.q0 2 (ho := rfl) (hv := .yes (h := .fieldAddr)) (k := ?_)
             | refine TG.qFieldEp 2 (ho := rfl) (h := ?_)
             | refine TG.lv 2 (ho := rfl) (hv := .fieldAddr) (k := ?_)
             | refine TG.lv 2 (ho := rfl) (hv := .fieldEp) (k := ?_))
           all_goals (first
             | refine TG.qLoad 3 (ho := rfl) (k := ?_)
             | refine TG.qLoadEp 3 (ho := rfl) (h := ?_)
             | refine TG.lv 3 (ho := rfl) (hv := .load) (k := ?_)
             | refine TG.lv 3 (ho := rfl) (hv := .loadEp) (k := ?_))
           all_goals (first
             | refine TG.q0 5 (ho := rfl) (hv := .yes (h := .fieldAddr)) (k := ?_)
             | refine TG.qFieldEp 5 (ho := rfl) (h := ?_)
             | refine TG.lv 5 (ho := rfl) (hv := .fieldAddr) (k := ?_)
             | refine TG.lv 5 (ho := rfl) (hv := .fieldEp) (k := ?_))
           all_goals (first
             | refine TG.qLoad 6 (ho := rfl) (k := ?_)
             | refine TG.qLoadEp 6 (ho := rfl) (h := ?_)
             | refine TG.lv 6 (ho := rfl) (hv := .load) (k := ?_)
             | refine TG.lv 6 (ho := rfl) (hv := .loadEp) (k := ?_))
           all_goals (first
             | (refine TG.ld 4 (ho := rfl) (hK := .callF (h := seal_Of _ _ _ (by first | assumption | rfl | omega | (simp at *; omega)) (by first | assumption | rfl | omega | (simp at *; omega)))) (k := ?_); rintro _ _ ⟨_, rfl, rfl, rfl⟩; refine ⟨by (repeat (first | exact Held.nil | apply Held.zero | (apply Held.one; (repeat (first | exact Pick.here | apply Pick.there))))), ?_⟩)
             | (refine TG.ld 4 (ho := rfl) (hK := .callF (h := of_nil)) (k := ?_); rintro _ _ ⟨_, rfl, rfl, rfl⟩; refine ⟨by (repeat (first | exact Held.nil | apply Held.zero | (apply Held.one; (repeat (first | exact Pick.here | apply Pick.there))))), ?_⟩))
           all_goals (first
             | refine TG.q0 7 (ho := rfl) (hv := .yes (h := .binI)) (k := ?_)
             | refine TG.lv 7 (ho := rfl) (hv := .binI) (k := ?_))
           all_goals apply TG.fin rfl)
        | refine TL.gT (k := ?_)
        | refine TL.gF (k := ?_)
        | refine T.cT (h := ?_)
        | refine T.cF (h := ?_)
        | (refine TL.gcase (ht := fun _ => ?_) (hf := fun _ => ?_))
        | refine T.cond (by (simp only [St.ev, slk, Nat.reduceBEq, cond_true, cond_false]; first | done | rfl)) (fun _ => ?_) (fun _ => ?_))
      all_goals first
        | ((first | refine RetQ.retI (L := [cel true cb 106 [q.v, .int .i64 s.since], row true 58 9 q.v (s.l.map MCard.C), row mc 58 9 cv.v (cs.map MCard.C)]) (ResIs.r1 Try.results22 (RV.tmp)) (by (repeat (first | exact Picks.nil | (apply Picks.cons; (repeat (first | exact Pick.here | apply Pick.there)))))) ?_ | refine RetQ.norI (L := [cel true cb 106 [q.v, .int .i64 s.since], row true 58 9 q.v (s.l.map MCard.C), row mc 58 9 cv.v (cs.map MCard.C)]) (ResIs.r1 Try.results22 (RV.tmp)) (by (repeat (first | exact Picks.nil | (apply Picks.cons; (repeat (first | exact Pick.here | apply Pick.there)))))) ?_)
           exact ⟨rfl, q, rfl⟩)
  · have hne : (m.kind != 2) = true := by simpa [bne] using hk
    have hap : s.apply m cs = (1, s) := by simp [MCache.apply, hne]
    rw [hap]
    simp only [MMsg.CK]
    refine Ctr.of (n := 74) (args := [_, _]) Try.func22 rfl rfl rfl fun F => ?_
    simp only [List.zipIdx_cons, List.zipIdx_nil, List.map_cons, List.map_nil, Nat.zero_add, Nat.reduceAdd, List.cons_append, List.nil_append]
    repeat' (first
      | with_reducible apply T.seq
      | with_reducible apply T.region
      | with_reducible apply TL.nil
      | with_reducible apply Thn.normal
      | with_reducible apply Thn.ret
      | with_reducible apply Thn.exit
      | with_reducible apply Blk.normal
      | with_reducible apply Blk.ret
      | ((with_reducible refine Blk.exitE ?_ ?_); · rfl)
      | ((with_reducible refine Blk.exitN ?_ ?_); · rfl)
      | with_reducible apply Rnd.ret
      | with_reducible apply Rnd.exit
      | with_reducible apply RndI.ret
      | with_reducible apply RndI.exit
      | with_reducible apply ThnI.ret
      | with_reducible apply ThnI.exit
      | with_reducible apply T.skip
      | with_reducible apply T.block
      | with_reducible apply T.ret
      | with_reducible apply T.exit
      | refine T.condT (h := ?_)
      | refine T.condF (h := ?_)
      | refine TL.pass (k := ?_)
      | refine TL.passN (k := ?_)
      | refine TL.take (k := ?_)
      | (refine TL.e (h := .bx) (k := ?_); rintro _ _ ⟨_, rfl, rfl⟩)
      | refine TL.q (h := .assign) (k := ?_)
      | refine TL.q (h := .fieldAddr) (k := ?_)
      | refine TL.q (h := .fieldEp) (k := ?_)
      | refine TL.q (h := .load) (k := ?_)
      | refine TL.q (h := .loadEp) (k := ?_)
      | refine TL.q (h := .move) (k := ?_)
      | refine TL.q (h := .pickT) (k := ?_)
      | refine TL.q (h := .pickF) (k := ?_)
      | refine TL.q (h := .loadA) (k := ?_)
      | refine TL.q (h := .loadEpA) (k := ?_)
      | (refine TL.callF (h := hr) (k := ?_); rintro _ _ ⟨⟨hI, hN⟩, rfl⟩)
      | refine TL.q (h := .neNilI) (k := ?_)
      | refine TL.q (h := .not) (k := ?_)
      | refine TL.q (h := .nilCheck) (k := ?_)
      | refine TL.q (h := .lenR) (k := ?_)
      | refine TL.q (h := .lenS) (k := ?_)
      | refine TL.q (h := .indexR) (k := ?_)
      | (refine TL.e (h := .al) (k := ?_); rintro _ _ ⟨_, rfl, rfl⟩)
      | refine TL.u (h := .stA0) (k := ?_)
      | refine TL.u (h := .st) (k := ?_)
      | refine TL.u (h := .stA) (k := ?_)
      | refine TL.u (h := .stEp) (k := ?_)
      | refine TL.u (h := .stEpA) (k := ?_)
      | (refine TL.callF (h := cache_put _ _ _ _ (by first | assumption | rfl | omega | (simp at *; omega))) (k := ?_); rintro _ _ ⟨_, rfl, rfl⟩)
      | refine TL.q (h := .add) (k := ?_)
      | refine TL.q (h := .catS) (k := ?_)
      | (refine TL.callF (h := card_Sort _ _ _ (by first | assumption | rfl | omega | (simp at *; omega))) (k := ?_); rintro _ _ ⟨_, rfl, rfl⟩)
      | (refine TL.callF (h := sort_nil) (k := ?_); rintro _ _ ⟨rfl, rfl⟩)
      | refine TL.q (h := .binI) (k := ?_)
      | refine TL.q (h := .pickB) (k := ?_)
      | refine TL.q (h := .binS) (k := ?_)
      | (skip
         all_goals refine TG.start (i := 14) mixed rfl ?_
         all_goals (first
           | refine TG.q0 0 (ho := rfl) (hv := .yes (h := .move)) (k := ?_)
           | refine TG.lv 0 (ho := rfl) (hv := .move) (k := ?_))
         all_goals (first
           | refine TG.q0 1 (ho := rfl) (hv := .yes (h := .nilCheck)) (k := ?_)
           | refine TG.lv 1 (ho := rfl) (hv := .nilCheck) (k := ?_))
         all_goals (first
           | refine TG.q0 2 (ho := rfl) (hv := .yes (h := .fieldAddr)) (k := ?_)
           | refine TG.qFieldEp 2 (ho := rfl) (h := ?_)
           | refine TG.lv 2 (ho := rfl) (hv := .fieldAddr) (k := ?_)
           | refine TG.lv 2 (ho := rfl) (hv := .fieldEp) (k := ?_))
         all_goals (first
           | refine TG.qLoad 3 (ho := rfl) (k := ?_)
           | refine TG.qLoadEp 3 (ho := rfl) (h := ?_)
           | refine TG.lv 3 (ho := rfl) (hv := .load) (k := ?_)
           | refine TG.lv 3 (ho := rfl) (hv := .loadEp) (k := ?_))
         all_goals (first
           | refine TG.q0 5 (ho := rfl) (hv := .yes (h := .fieldAddr)) (k := ?_)
           | refine TG.qFieldEp 5 (ho := rfl) (h := ?_)
           | refine TG.lv 5 (ho := rfl) (hv := .fieldAddr) (k := ?_)
           | refine TG.lv 5 (ho := rfl) (hv := .fieldEp) (k := ?_))
         all_goals (first
           | refine TG.qLoad 6 (ho := rfl) (k := ?_)
           | refine TG.qLoadEp 6 (ho := rfl) (h := ?_)
           | refine TG.lv 6 (ho := rfl) (hv := .load) (k := ?_)
           | refine TG.lv 6 (ho := rfl) (hv := .loadEp) (k := ?_))
         all_goals (first
           | (refine TG.ld 4 (ho := rfl) (hK := .callF (h := seal_Of _ _ _ (by first | assumption | rfl | omega | (simp at *; omega)) (by first | assumption | rfl | omega | (simp at *; omega)))) (k := ?_); rintro _ _ ⟨_, rfl, rfl, rfl⟩; refine ⟨by (repeat (first | exact Held.nil | apply Held.zero | (apply Held.one; (repeat (first | exact Pick.here | apply Pick.there))))), ?_⟩)
           | (refine TG.ld 4 (ho := rfl) (hK := .callF (h := of_nil)) (k := ?_); rintro _ _ ⟨_, rfl, rfl, rfl⟩; refine ⟨by (repeat (first | exact Held.nil | apply Held.zero | (apply Held.one; (repeat (first | exact Pick.here | apply Pick.there))))), ?_⟩))
         all_goals (first
           | refine TG.q0 7 (ho := rfl) (hv := .yes (h := .binI)) (k := ?_)
           | refine TG.lv 7 (ho := rfl) (hv := .binI) (k := ?_))
         all_goals apply TG.fin rfl)
      | refine TL.gT (k := ?_)
      | refine TL.gF (k := ?_)
      | refine T.cT (h := ?_)
      | refine T.cF (h := ?_)
      | (refine TL.gcase (ht := fun _ => ?_) (hf := fun _ => ?_))
      | refine T.cond (by (simp only [St.ev, slk, Nat.reduceBEq, cond_true, cond_false]; first | done | rfl)) (fun _ => ?_) (fun _ => ?_))
    all_goals first
      | ((first | refine RetQ.retI (L := [cel true cb 106 [q.v, .int .i64 s.since], row true 58 9 q.v (s.l.map MCard.C), row mc 58 9 cv.v (cs.map MCard.C)]) (ResIs.r1 Try.results22 (RV.tmp)) (by (repeat (first | exact Picks.nil | (apply Picks.cons; (repeat (first | exact Pick.here | apply Pick.there)))))) ?_ | refine RetQ.norI (L := [cel true cb 106 [q.v, .int .i64 s.since], row true 58 9 q.v (s.l.map MCard.C), row mc 58 9 cv.v (cs.map MCard.C)]) (ResIs.r1 Try.results22 (RV.tmp)) (by (repeat (first | exact Picks.nil | (apply Picks.cons; (repeat (first | exact Pick.here | apply Pick.there)))))) ?_)
         exact ⟨rfl, q, rfl⟩)
end Go.Proofs.Ytpbomaelkpjbbaa

