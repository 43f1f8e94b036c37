import Derived.Test.YtpbomaelkpjbbaaC4
import Derived.Test.YtpbomaelkpjbbaaFwArr
namespace Go.Proofs.Ytpbomaelkpjbbaa
open Go.Fw
attribute [local irreducible] T TL TG Thn ThnI Blk Rnd RndI RetQ OpV OpE OpU OpK Ctr row cel ep
structure MCard where
  app : ByteArray
  id : ByteArray
  status : Int
  over : Int
  lease : Int
  t : Int
  node : Int
  n : Int
  gone : Bool
  deriving DecidableEq
abbrev MCard.C (c : MCard) : List Value := [.string c.app, .string c.id, .int .i64 c.status, .int .i64 c.over, .int .i64 c.lease, .int .i64 c.t, .int .i64 c.node, .int .i64 c.n, .bool c.gone]
def keyCmp (a b : MCard) : Int := orI [cmpS a.app b.app, cmpS a.id b.id]
theorem card_compare (a1 a2 b1 b2 : ByteArray) : Ctr Try.prog 124 #[.agg #[.string a1, .string a2], .agg #[.string b1, .string b2]] [] fun v L => v = .int .i64 (orI [cmpS a1 b1, cmpS a2 b2]) ∧ L = [] := by
  refine Ctr.of (n := 17) (args := [_, _]) Try.func124 rfl rfl rfl fun F => ?_
  simp only [List.zipIdx_cons, List.zipIdx_nil, List.map_cons, List.map_nil, Nat.zero_add, Nat.reduceAdd, List.cons_append, List.nil_append]
  repeat (first
    | with_reducible apply T.seq
    | with_reducible apply T.region
    | with_reducible apply TL.nil
    | with_reducible apply Thn.normal
    | with_reducible apply Thn.ret
    | with_reducible apply Thn.exit
    | with_reducible apply Blk.normal
    | with_reducible apply Blk.ret
    | ((with_reducible refine Blk.exitE ?_ ?_); · rfl)
    | ((with_reducible refine Blk.exitN ?_ ?_); · rfl)
    | with_reducible apply Rnd.ret
    | with_reducible apply Rnd.exit
    | with_reducible apply RndI.ret
    | with_reducible apply RndI.exit
    | with_reducible apply ThnI.ret
    | with_reducible apply ThnI.exit
    | with_reducible apply T.skip
    | with_reducible apply T.block
    | with_reducible apply T.ret
    | with_reducible apply T.exit
    | refine T.condT (h := ?_)
    | refine T.condF (h := ?_)
    | refine TL.pass (k := ?_)
    | refine TL.passN (k := ?_)
    | refine TL.take (k := ?_)
    | (refine TL.e (h := .bx) (k := ?_); rintro _ _ ⟨_, rfl, rfl⟩)
    | refine TL.q (h := .assign) (k := ?_))
  all_goals refine TG.start (i := 1) mixed rfl ?_
  all_goals (first
    | refine TG.q0 0 (ho := rfl) (hv := .yes (h := .fieldAddr)) (k := ?_)
    | refine TG.qFieldEp 0 (ho := rfl) (h := ?_)
    | refine TG.lv 0 (ho := rfl) (hv := .fieldAddr) (k := ?_)
    | refine TG.lv 0 (ho := rfl) (hv := .fieldEp) (k := ?_))
  all_goals (first
    | refine TG.qLoad 1 (ho := rfl) (k := ?_)
    | refine TG.qLoadEp 1 (ho := rfl) (h := ?_)
    | refine TG.lv 1 (ho := rfl) (hv := .load) (k := ?_)
    | refine TG.lv 1 (ho := rfl) (hv := .loadEp) (k := ?_))
  all_goals (first
    | refine TG.q0 2 (ho := rfl) (hv := .yes (h := .fieldAddr)) (k := ?_)
    | refine TG.qFieldEp 2 (ho := rfl) (h := ?_)
    | refine TG.lv 2 (ho := rfl) (hv := .fieldAddr) (k := ?_)
    | refine TG.lv 2 (ho := rfl) (hv := .fieldEp) (k := ?_))
  all_goals (first
    | refine TG.qLoad 3 (ho := rfl) (k := ?_)
    | refine TG.qLoadEp 3 (ho := rfl) (h := ?_)
    | refine TG.lv 3 (ho := rfl) (hv := .load) (k := ?_)
    | refine TG.lv 3 (ho := rfl) (hv := .loadEp) (k := ?_))
  all_goals (first
    | refine TG.q0 5 (ho := rfl) (hv := .yes (h := .fieldAddr)) (k := ?_)
    | refine TG.qFieldEp 5 (ho := rfl) (h := ?_)
    | refine TG.lv 5 (ho := rfl) (hv := .fieldAddr) (k := ?_)
    | refine TG.lv 5 (ho := rfl) (hv := .fieldEp) (k := ?_))
  all_goals (first
    | refine TG.qLoad 6 (ho := rfl) (k := ?_)
    | refine TG.qLoadEp 6 (ho := rfl) (h := ?_)
    | refine TG.lv 6 (ho := rfl) (hv := .load) (k := ?_)
    | refine TG.lv 6 (ho := rfl) (hv := .loadEp) (k := ?_))
  all_goals (first
    | refine TG.q0 7 (ho := rfl) (hv := .yes (h := .fieldAddr)) (k := ?_)
    | refine TG.qFieldEp 7 (ho := rfl) (h := ?_)
    | refine TG.lv 7 (ho := rfl) (hv := .fieldAddr) (k := ?_)
    | refine TG.lv 7 (ho := rfl) (hv := .fieldEp) (k := ?_))
  all_goals (first
    | refine TG.qLoad 8 (ho := rfl) (k := ?_)
    | refine TG.qLoadEp 8 (ho := rfl) (h := ?_)
    | refine TG.lv 8 (ho := rfl) (hv := .load) (k := ?_)
    | refine TG.lv 8 (ho := rfl) (hv := .loadEp) (k := ?_))
  all_goals (first
    | (refine TG.ld 4 (ho := rfl) (hK := .callF (h := compare_string _ _)) (k := ?_); rintro _ _ ⟨_, rfl, rfl, rfl⟩; refine ⟨by (repeat (first | exact Held.nil | apply Held.zero | (apply Held.one; (repeat (first | exact Pick.here | apply Pick.there))))), ?_⟩))
  all_goals (first
    | (refine TG.ld 9 (ho := rfl) (hK := .callF (h := compare_string _ _)) (k := ?_); rintro _ _ ⟨_, rfl, rfl, rfl⟩; refine ⟨by (repeat (first | exact Held.nil | apply Held.zero | (apply Held.one; (repeat (first | exact Pick.here | apply Pick.there))))), ?_⟩))
  all_goals (first
    | (refine TG.ld 10 (ho := rfl) (hK := .ofE (h := .bs)) (k := ?_); rintro _ _ ⟨_, rfl, rfl⟩; refine ⟨by (repeat (first | exact Held.nil | apply Held.zero | (apply Held.one; (repeat (first | exact Pick.here | apply Pick.there))))), ?_⟩))
  all_goals (first
    | (refine TG.ld 11 (ho := rfl) (hK := .callF (h := cmpOr2 _ _ _ _)) (k := ?_); rintro _ _ ⟨_, rfl, rfl, rfl⟩; refine ⟨by (repeat (first | exact Held.nil | apply Held.zero | (apply Held.one; (repeat (first | exact Pick.here | apply Pick.there))))), ?_⟩)
    | (refine TG.ld 11 (ho := rfl) (hK := .callF (h := cmpOr3 _ _ _ _ _)) (k := ?_); rintro _ _ ⟨_, rfl, rfl, rfl⟩; refine ⟨by (repeat (first | exact Held.nil | apply Held.zero | (apply Held.one; (repeat (first | exact Pick.here | apply Pick.there))))), ?_⟩))
  all_goals (first
    | refine TG.q0 12 (ho := rfl) (hv := .yes (h := .assign)) (k := ?_)
    | refine TG.lv 12 (ho := rfl) (hv := .assign) (k := ?_))
  all_goals apply TG.fin rfl
  repeat (first
    | with_reducible apply T.seq
    | with_reducible apply T.region
    | with_reducible apply TL.nil
    | with_reducible apply Thn.normal
    | with_reducible apply Thn.ret
    | with_reducible apply Thn.exit
    | with_reducible apply Blk.normal
    | with_reducible apply Blk.ret
    | ((with_reducible refine Blk.exitE ?_ ?_); · rfl)
    | ((with_reducible refine Blk.exitN ?_ ?_); · rfl)
    | with_reducible apply Rnd.ret
    | with_reducible apply Rnd.exit
    | with_reducible apply RndI.ret
    | with_reducible apply RndI.exit
    | with_reducible apply ThnI.ret
    | with_reducible apply ThnI.exit
    | with_reducible apply T.skip
    | with_reducible apply T.block
    | with_reducible apply T.ret
    | with_reducible apply T.exit
    | refine T.condT (h := ?_)
    | refine T.condF (h := ?_)
    | refine TL.pass (k := ?_)
    | refine TL.passN (k := ?_)
    | refine TL.take (k := ?_)
    | (refine TL.e (h := .bx) (k := ?_); rintro _ _ ⟨_, rfl, rfl⟩)
    | refine TL.q (h := .assign) (k := ?_))
  first | refine RetQ.retI (L := []) (ResIs.r1 Try.results124 (RV.tmp)) (by (repeat (first | exact Picks.nil | (apply Picks.cons; (repeat (first | exact Pick.here | apply Pick.there)))))) ⟨rfl, rfl⟩ | refine RetQ.norI (L := []) (ResIs.r1 Try.results124 (RV.tmp)) (by (repeat (first | exact Picks.nil | (apply Picks.cons; (repeat (first | exact Pick.here | apply Pick.there)))))) ⟨rfl, rfl⟩
theorem sort_cmp (a b : MCard) : Ctr Try.prog 123 #[.agg a.C.toArray, .agg b.C.toArray] [] fun v L => v = .int .i64 (keyCmp a b) ∧ L = [] := by
  simp only [MCard.C]
  refine Ctr.of (n := 10) (args := [_, _]) Try.func123 rfl rfl rfl fun F => ?_
  simp only [List.zipIdx_cons, List.zipIdx_nil, List.map_cons, List.map_nil, Nat.zero_add, Nat.reduceAdd, List.cons_append, List.nil_append]
  repeat (first
    | with_reducible apply T.seq
    | with_reducible apply T.region
    | with_reducible apply TL.nil
    | with_reducible apply Thn.normal
    | with_reducible apply Thn.ret
    | with_reducible apply Thn.exit
    | with_reducible apply Blk.normal
    | with_reducible apply Blk.ret
    | ((with_reducible refine Blk.exitE ?_ ?_); · rfl)
    | ((with_reducible refine Blk.exitN ?_ ?_); · rfl)
    | with_reducible apply Rnd.ret
    | with_reducible apply Rnd.exit
    | with_reducible apply RndI.ret
    | with_reducible apply RndI.exit
    | with_reducible apply ThnI.ret
    | with_reducible apply ThnI.exit
    | with_reducible apply T.skip
    | with_reducible apply T.block
    | with_reducible apply T.ret
    | with_reducible apply T.exit
    | refine T.condT (h := ?_)
    | refine T.condF (h := ?_)
    | refine TL.pass (k := ?_)
    | refine TL.passN (k := ?_)
    | refine TL.take (k := ?_)
    | (refine TL.e (h := .bx) (k := ?_); rintro _ _ ⟨_, rfl, rfl⟩)
    | refine TL.q (h := .assign) (k := ?_)
    | refine TL.q (h := .fieldAddr) (k := ?_)
    | refine TL.q (h := .fieldEp) (k := ?_)
    | refine TL.q (h := .loadA) (k := ?_)
    | refine TL.q (h := .loadEpA) (k := ?_)
    | (refine TL.callF (h := card_compare _ _ _ _) (k := ?_); rintro _ _ ⟨rfl, rfl⟩))
  first | refine RetQ.retI (L := []) (ResIs.r1 Try.results123 (RV.tmp)) (by (repeat (first | exact Picks.nil | (apply Picks.cons; (repeat (first | exact Pick.here | apply Pick.there)))))) ⟨rfl, rfl⟩ | refine RetQ.norI (L := []) (ResIs.r1 Try.results123 (RV.tmp)) (by (repeat (first | exact Picks.nil | (apply Picks.cons; (repeat (first | exact Pick.here | apply Pick.there)))))) ⟨rfl, rfl⟩
/-- The card at place j goes down past those above a that lie behind it. -/
def down (a : Nat) : Nat → List MCard → List MCard
  | 0, l => l
  | j + 1, l => if a < j + 1 then (match l[j + 1]?, l[j]? with | some x, some y => if keyCmp x y < 0 then down a j ((l.set (j + 1) y).set j x) else l | _, _ => l) else l
def insTo (l : List MCard) (a : Nat) : Nat → List MCard
  | 0 => l
  | k + 1 => down a (a + 1 + k) (insTo l a k)
theorem down_len (a : Nat) : ∀ (j : Nat) (l : List MCard), (down a j l).length = l.length := by
  intro j
  induction j with
  | zero => intro l; rfl
  | succ j ih =>
    intro l
    unfold down
    split
    · cases l[j + 1]? with
      | none => rfl
      | some x =>
        cases l[j]? with
        | none => rfl
        | some y =>
          simp only
          split
          · rw [ih]; simp
          · rfl
    · rfl
theorem insTo_len (l : List MCard) (a : Nat) : ∀ k, (insTo l a k).length = l.length := by
  intro k
  induction k with
  | zero => rfl
  | succ k ih => unfold insTo; rw [down_len, ih]
set_option maxHeartbeats 1000000 in
theorem insertionSort (q : Sl) (l : List MCard) (a b : Nat) (hab : a ≤ b) (hb : b ≤ l.length) (hl : l.length ≤ 1000000) :
    Ctr Try.prog 165 #[q.v, .int .i64 a, .int .i64 b, .func (.func 123) #[] #[]] [row true 58 9 q.v (l.map MCard.C)]
      fun v L => v = .tuple #[] ∧ L = [row true 58 9 q.v ((insTo l a (b - (a + 1))).map MCard.C)] := by
  refine Ctr.of (n := 53) (args := [_, _, _, _]) Try.func165 rfl rfl rfl fun F => ?_
  simp only [List.zipIdx_cons, List.zipIdx_nil, List.map_cons, List.map_nil, Nat.zero_add, Nat.reduceAdd, List.cons_append, List.nil_append]
  repeat (first
    | with_reducible apply T.seq
    | with_reducible apply T.region
    | with_reducible apply TL.nil
    | with_reducible apply Thn.normal
    | with_reducible apply Thn.ret
    | with_reducible apply Thn.exit
    | with_reducible apply Blk.normal
    | with_reducible apply Blk.ret
    | ((with_reducible refine Blk.exitE ?_ ?_); · rfl)
    | ((with_reducible refine Blk.exitN ?_ ?_); · rfl)
    | with_reducible apply Rnd.ret
    | with_reducible apply Rnd.exit
    | with_reducible apply RndI.ret
    | with_reducible apply RndI.exit
    | with_reducible apply ThnI.ret
    | with_reducible apply ThnI.exit
    | with_reducible apply T.skip
    | with_reducible apply T.block
    | with_reducible apply T.ret
    | with_reducible apply T.exit
    | refine T.condT (h := ?_)
    | refine T.condF (h := ?_)
    | refine TL.pass (k := ?_)
    | refine TL.passN (k := ?_)
    | refine TL.take (k := ?_)
    | refine TL.q (h := .move) (k := ?_)
    | refine TL.q (h := .add) (k := ?_)
    | refine TL.q (h := .catS) (k := ?_)
    | refine TL.q (h := .assign) (k := ?_)
    | refine TL.q (h := .sub) (k := ?_)
    | refine TL.q (h := .binI) (k := ?_)
    | refine TL.q (h := .binS) (k := ?_))
  refine T.loopI (fun q' l' A => ∃ (k : Nat), q' = b - (a + 1 + k) ∧ (a + 1 + k ≤ b ∨ k = 0) ∧ l' = [(8, .int .i64 ((a + 1 + k : Nat) : Int)), (0, q.v), (1, .int .i64 a), (2, .int .i64 b), (3, .func (.func 123) #[] #[])] ∧
    A = [row true 58 9 q.v ((insTo l a k).map MCard.C), F]) ⟨0, rfl, .inr rfl, rfl, rfl⟩ (by (repeat (first | exact AllIs.nil | refine AllIs.cons (by (simp only [St.ev, slk, Nat.reduceBEq, cond_true, cond_false]; first | done | rfl)) ?_))) (by (repeat (first | exact Picks.nil | (apply Picks.cons; (repeat (first | exact Pick.here | apply Pick.there)))))) ?_
  rintro q' l' A jf ⟨k, rfl, hk, rfl, rfl⟩
  repeat (first
    | with_reducible apply T.seq
    | with_reducible apply T.region
    | with_reducible apply TL.nil
    | with_reducible apply Thn.normal
    | with_reducible apply Thn.ret
    | with_reducible apply Thn.exit
    | with_reducible apply Blk.normal
    | with_reducible apply Blk.ret
    | ((with_reducible refine Blk.exitE ?_ ?_); · rfl)
    | ((with_reducible refine Blk.exitN ?_ ?_); · rfl)
    | with_reducible apply Rnd.ret
    | with_reducible apply Rnd.exit
    | with_reducible apply RndI.ret
    | with_reducible apply RndI.exit
    | with_reducible apply ThnI.ret
    | with_reducible apply ThnI.exit
    | with_reducible apply T.skip
    | with_reducible apply T.block
    | with_reducible apply T.ret
    | with_reducible apply T.exit
    | refine T.condT (h := ?_)
    | refine T.condF (h := ?_)
    | refine TL.pass (k := ?_)
    | refine TL.passN (k := ?_)
    | refine TL.take (k := ?_)
    | refine TL.q (h := .move) (k := ?_)
    | refine TL.q (h := .add) (k := ?_)
    | refine TL.q (h := .catS) (k := ?_)
    | refine TL.q (h := .assign) (k := ?_)
    | refine TL.q (h := .sub) (k := ?_)
    | refine TL.q (h := .binI) (k := ?_)
    | refine TL.q (h := .binS) (k := ?_))
  refine T.condD (ht := fun hlt => ?_) (hf := fun hlt => ?_)
  · have hk' : a + 1 + k < b := by omega
    repeat (first
      | with_reducible apply T.seq
      | with_reducible apply T.region
      | with_reducible apply TL.nil
      | with_reducible apply Thn.normal
      | with_reducible apply Thn.ret
      | with_reducible apply Thn.exit
      | with_reducible apply Blk.normal
      | with_reducible apply Blk.ret
      | ((with_reducible refine Blk.exitE ?_ ?_); · rfl)
      | ((with_reducible refine Blk.exitN ?_ ?_); · rfl)
      | with_reducible apply Rnd.ret
      | with_reducible apply Rnd.exit
      | with_reducible apply RndI.ret
      | with_reducible apply RndI.exit
      | with_reducible apply ThnI.ret
      | with_reducible apply ThnI.exit
      | with_reducible apply T.skip
      | with_reducible apply T.block
      | with_reducible apply T.ret
      | with_reducible apply T.exit
      | refine T.condT (h := ?_)
      | refine T.condF (h := ?_)
      | refine TL.pass (k := ?_)
      | refine TL.passN (k := ?_)
      | refine TL.take (k := ?_)
      | refine TL.q (h := .move) (k := ?_)
      | refine TL.q (h := .add) (k := ?_)
      | refine TL.q (h := .catS) (k := ?_)
      | refine TL.q (h := .assign) (k := ?_)
      | refine TL.q (h := .sub) (k := ?_)
      | refine TL.q (h := .binI) (k := ?_)
      | refine TL.q (h := .binS) (k := ?_))
    refine T.blkW (fun l' A => l' = [(8, .int .i64 ((a + 1 + k : Nat) : Int)), (0, q.v), (1, .int .i64 a), (2, .int .i64 b), (3, .func (.func 123) #[] #[])] ∧
      A = [row true 58 9 q.v ((insTo l a (k + 1)).map MCard.C), F]) ?_ ?_
    · refine T.loopI (fun q' l' A => ∃ (j : Nat) (l2 : List MCard), j = q' ∧ j ≤ a + 1 + k ∧ l2.length = l.length ∧ down a j l2 = insTo l a (k + 1) ∧
        l' = [(9, .int .i64 (j : Int)), (8, .int .i64 ((a + 1 + k : Nat) : Int)), (0, q.v), (1, .int .i64 a), (2, .int .i64 b), (3, .func (.func 123) #[] #[])] ∧
        A = [row true 58 9 q.v (l2.map MCard.C), F]) ⟨a + 1 + k, insTo l a k, rfl, by omega, insTo_len l a k, rfl, rfl, rfl⟩ (by (repeat (first | exact AllIs.nil | refine AllIs.cons (by (simp only [St.ev, slk, Nat.reduceBEq, cond_true, cond_false]; first | done | rfl)) ?_))) (by (repeat (first | exact Picks.nil | (apply Picks.cons; (repeat (first | exact Pick.here | apply Pick.there)))))) ?_
      rintro q' l' A jg ⟨j, l2, hqj, hj, hl2, hd, rfl, rfl⟩
      subst hqj
      have hlm : (l2.map MCard.C).length = l2.length := by simp
      repeat (first
        | with_reducible apply T.seq
        | with_reducible apply T.region
        | with_reducible apply TL.nil
        | with_reducible apply Thn.normal
        | with_reducible apply Thn.ret
        | with_reducible apply Thn.exit
        | with_reducible apply Blk.normal
        | with_reducible apply Blk.ret
        | ((with_reducible refine Blk.exitE ?_ ?_); · rfl)
        | ((with_reducible refine Blk.exitN ?_ ?_); · rfl)
        | with_reducible apply Rnd.ret
        | with_reducible apply Rnd.exit
        | with_reducible apply RndI.ret
        | with_reducible apply RndI.exit
        | with_reducible apply ThnI.ret
        | with_reducible apply ThnI.exit
        | with_reducible apply T.skip
        | with_reducible apply T.block
        | with_reducible apply T.ret
        | with_reducible apply T.exit
        | refine T.condT (h := ?_)
        | refine T.condF (h := ?_)
        | refine TL.pass (k := ?_)
        | refine TL.passN (k := ?_)
        | refine TL.take (k := ?_)
        | refine TL.q (h := .move) (k := ?_)
        | refine TL.q (h := .add) (k := ?_)
        | refine TL.q (h := .catS) (k := ?_)
        | refine TL.q (h := .assign) (k := ?_)
        | refine TL.q (h := .sub) (k := ?_)
        | refine TL.q (h := .binI) (k := ?_)
        | refine TL.q (h := .binS) (k := ?_))
      by_cases hgt : (j : Int) > (a : Int)
      · have hgd : decide ((j : Int) > (a : Int)) = true := decide_eq_true hgt
        cases j with
        | zero => omega
        | succ j =>
        obtain ⟨x, hx⟩ : ∃ x, l2[j + 1]? = some x := ⟨_, List.getElem?_eq_getElem (by omega)⟩
        obtain ⟨y, hy⟩ : ∃ y, l2[j]? = some y := ⟨_, List.getElem?_eq_getElem (by omega)⟩
        have hcx : (l2.map MCard.C)[j + 1]? = some x.C := by simp only [List.getElem?_map, hx, Option.map_some]
        have hcy : (l2.map MCard.C)[j]? = some y.C := by simp only [List.getElem?_map, hy, Option.map_some]
        have hdn : down a (j + 1) l2 = if keyCmp x y < 0 then down a j ((l2.set (j + 1) y).set j x) else l2 := by
          have hgt' : a < j + 1 := by omega
          rw [down, if_pos hgt', hx, hy]
        all_goals refine TG.start (i := 4) mixed rfl ?_
        all_goals (first
          | refine TG.q0 0 (ho := rfl) (hv := .yes (h := .move)) (k := ?_)
          | refine TG.lv 0 (ho := rfl) (hv := .move) (k := ?_))
        all_goals (first
          | refine TG.q0 1 (ho := rfl) (hv := .yes (h := .move)) (k := ?_)
          | refine TG.lv 1 (ho := rfl) (hv := .move) (k := ?_))
        all_goals (first
          | refine TG.q0 2 (ho := rfl) (hv := .yes (h := .binI)) (k := ?_)
          | refine TG.q0 2 (ho := rfl) (hv := .yes (h := .binS)) (k := ?_)
          | refine TG.lv 2 (ho := rfl) (hv := .binI) (k := ?_)
          | refine TG.lv 2 (ho := rfl) (hv := .binS) (k := ?_))
        all_goals (first
          | refine TG.q0 3 (ho := rfl) (hv := .yes (h := .move)) (k := ?_)
          | refine TG.lv 3 (ho := rfl) (hv := .move) (k := ?_))
        all_goals try (first | refine TG.litT 21 (k := ?_) | refine TG.litF 21 (k := ?_) | refine TG.lit 21 (fun _ => ?_) (fun _ => ?_))
        all_goals (first
          | refine TG.q0 4 (ho := rfl) (hv := .no) (k := ?_)
          | refine TG.q0 4 (ho := rfl) (hv := .yes (h := .move)) (k := ?_)
          | refine TG.lv 4 (ho := rfl) (hv := .move) (k := ?_))
        all_goals (first
          | refine TG.q0 5 (ho := rfl) (hv := .no) (k := ?_)
          | refine TG.q0 5 (ho := rfl) (hv := .yes (h := .move)) (k := ?_)
          | refine TG.lv 5 (ho := rfl) (hv := .move) (k := ?_))
        all_goals (first
          | refine TG.q0 6 (ho := rfl) (hv := .no) (k := ?_)
          | refine TG.q0 6 (ho := rfl) (hv := .yes (h := .move)) (k := ?_)
          | refine TG.lv 6 (ho := rfl) (hv := .move) (k := ?_))
        all_goals (first
          | refine TG.q0 7 (ho := rfl) (hv := .no) (k := ?_)
          | refine TG.qIndexR 7 (ho := rfl) (h := ?_)
          | refine TG.lv 7 (ho := rfl) (hv := .indexR) (k := ?_))
        all_goals (first
          | refine TG.q0 8 (ho := rfl) (hv := .no) (k := ?_)
          | refine TG.qLoadA 8 (ho := rfl) (k := ?_)
          | refine TG.qLoadEpA 8 (ho := rfl) (h := ?_)
          | refine TG.lv 8 (ho := rfl) (hv := .loadA) (k := ?_)
          | refine TG.lv 8 (ho := rfl) (hv := .loadEpA) (k := ?_))
        all_goals (first
          | refine TG.q0 9 (ho := rfl) (hv := .no) (k := ?_)
          | refine TG.q0 9 (ho := rfl) (hv := .yes (h := .move)) (k := ?_)
          | refine TG.lv 9 (ho := rfl) (hv := .move) (k := ?_))
        all_goals (first
          | refine TG.q0 10 (ho := rfl) (hv := .no) (k := ?_)
          | refine TG.q0 10 (ho := rfl) (hv := .yes (h := .move)) (k := ?_)
          | refine TG.lv 10 (ho := rfl) (hv := .move) (k := ?_))
        all_goals (first
          | refine TG.q0 11 (ho := rfl) (hv := .no) (k := ?_)
          | refine TG.q0 11 (ho := rfl) (hv := .yes (h := .sub)) (k := ?_)
          | refine TG.q0 11 (ho := rfl) (hv := .yes (h := .binI)) (k := ?_)
          | refine TG.lv 11 (ho := rfl) (hv := .sub) (k := ?_)
          | refine TG.lv 11 (ho := rfl) (hv := .binI) (k := ?_))
        all_goals (first
          | refine TG.q0 12 (ho := rfl) (hv := .no) (k := ?_)
          | refine TG.qIndexR 12 (ho := rfl) (h := ?_)
          | refine TG.lv 12 (ho := rfl) (hv := .indexR) (k := ?_))
        all_goals (first
          | refine TG.q0 13 (ho := rfl) (hv := .no) (k := ?_)
          | refine TG.qLoadA 13 (ho := rfl) (k := ?_)
          | refine TG.qLoadEpA 13 (ho := rfl) (h := ?_)
          | refine TG.lv 13 (ho := rfl) (hv := .loadA) (k := ?_)
          | refine TG.lv 13 (ho := rfl) (hv := .loadEpA) (k := ?_))
        all_goals (first
          | refine TG.q0 14 (ho := rfl) (hv := .no) (k := ?_)
          | (refine TG.ld 14 (ho := rfl) (hK := .callV (h := sort_cmp x y)) (k := ?_); rintro _ _ ⟨_, rfl, rfl, rfl⟩; refine ⟨by (repeat (first | exact Held.nil | apply Held.zero | (apply Held.one; (repeat (first | exact Pick.here | apply Pick.there))))), ?_⟩))
        all_goals (first
          | refine TG.q0 15 (ho := rfl) (hv := .no) (k := ?_)
          | refine TG.q0 15 (ho := rfl) (hv := .yes (h := .binI)) (k := ?_)
          | refine TG.q0 15 (ho := rfl) (hv := .yes (h := .binS)) (k := ?_)
          | refine TG.lv 15 (ho := rfl) (hv := .binI) (k := ?_)
          | refine TG.lv 15 (ho := rfl) (hv := .binS) (k := ?_))
        all_goals (first
          | refine TG.q0 16 (ho := rfl) (hv := .yes (h := .pickT)) (k := ?_)
          | refine TG.q0 16 (ho := rfl) (hv := .yes (h := .pickF)) (k := ?_)
          | refine TG.q0 16 (ho := rfl) (hv := .yes (h := .pickB)) (k := ?_)
          | refine TG.lv 16 (ho := rfl) (hv := .pickT) (k := ?_)
          | refine TG.lv 16 (ho := rfl) (hv := .pickF) (k := ?_)
          | refine TG.lv 16 (ho := rfl) (hv := .pickB) (k := ?_))
        all_goals apply TG.fin rfl
        repeat (first
          | with_reducible apply T.seq
          | with_reducible apply T.region
          | with_reducible apply TL.nil
          | with_reducible apply Thn.normal
          | with_reducible apply Thn.ret
          | with_reducible apply Thn.exit
          | with_reducible apply Blk.normal
          | with_reducible apply Blk.ret
          | ((with_reducible refine Blk.exitE ?_ ?_); · rfl)
          | ((with_reducible refine Blk.exitN ?_ ?_); · rfl)
          | with_reducible apply Rnd.ret
          | with_reducible apply Rnd.exit
          | with_reducible apply RndI.ret
          | with_reducible apply RndI.exit
          | with_reducible apply ThnI.ret
          | with_reducible apply ThnI.exit
          | with_reducible apply T.skip
          | with_reducible apply T.block
          | with_reducible apply T.ret
          | with_reducible apply T.exit
          | refine T.condT (h := ?_)
          | refine T.condF (h := ?_)
          | refine TL.pass (k := ?_)
          | refine TL.passN (k := ?_)
          | refine TL.take (k := ?_)
          | refine TL.q (h := .move) (k := ?_)
          | refine TL.q (h := .add) (k := ?_)
          | refine TL.q (h := .catS) (k := ?_)
          | refine TL.q (h := .assign) (k := ?_)
          | refine TL.q (h := .sub) (k := ?_)
          | refine TL.q (h := .binI) (k := ?_)
          | refine TL.q (h := .binS) (k := ?_))
        refine T.condD (ht := fun hlt2 => ?_) (hf := fun hlt2 => ?_)
        · have hc1 : (l2.map MCard.C).set (j + 1) y.C = (l2.set (j + 1) y).map MCard.C := by rw [List.map_set]
          have hc2 : ((l2.set (j + 1) y).map MCard.C).set j x.C = ((l2.set (j + 1) y).set j x).map MCard.C := by simp only [List.map_set]
          have hcy2 : ((l2.set (j + 1) y).map MCard.C)[j]? = some y.C := by
            rw [List.getElem?_map, List.getElem?_set_ne (by omega), hy]; rfl
          have hlm2 : ((l2.set (j + 1) y).map MCard.C).length = l2.length := by simp
          repeat (first
            | with_reducible apply T.seq
            | with_reducible apply T.region
            | with_reducible apply TL.nil
            | with_reducible apply Thn.normal
            | with_reducible apply Thn.ret
            | with_reducible apply Thn.exit
            | with_reducible apply Blk.normal
            | with_reducible apply Blk.ret
            | ((with_reducible refine Blk.exitE ?_ ?_); · rfl)
            | ((with_reducible refine Blk.exitN ?_ ?_); · rfl)
            | with_reducible apply Rnd.ret
            | with_reducible apply Rnd.exit
            | with_reducible apply RndI.ret
            | with_reducible apply RndI.exit
            | with_reducible apply ThnI.ret
            | with_reducible apply ThnI.exit
            | with_reducible apply T.skip
            | with_reducible apply T.block
            | with_reducible apply T.ret
            | with_reducible apply T.exit
            | refine T.condT (h := ?_)
            | refine T.condF (h := ?_)
            | refine TL.pass (k := ?_)
            | refine TL.passN (k := ?_)
            | refine TL.take (k := ?_)
            | refine TL.q (h := .move) (k := ?_)
            | refine TL.q (h := .add) (k := ?_)
            | refine TL.q (h := .catS) (k := ?_)
            | refine TL.q (h := .assign) (k := ?_)
            | refine TL.q (h := .sub) (k := ?_)
            | refine TL.q (h := .binI) (k := ?_)
            | refine TL.q (h := .binS) (k := ?_))
          all_goals refine TG.start (i := 6) mixed rfl ?_
          all_goals (first
            | refine TG.q0 0 (ho := rfl) (hv := .yes (h := .move)) (k := ?_)
            | refine TG.lv 0 (ho := rfl) (hv := .move) (k := ?_))
          all_goals (first
            | refine TG.q0 1 (ho := rfl) (hv := .yes (h := .move)) (k := ?_)
            | refine TG.lv 1 (ho := rfl) (hv := .move) (k := ?_))
          all_goals (first
            | refine TG.q0 2 (ho := rfl) (hv := .yes (h := .move)) (k := ?_)
            | refine TG.lv 2 (ho := rfl) (hv := .move) (k := ?_))
          all_goals (first
            | refine TG.q0 3 (ho := rfl) (hv := .yes (h := .move)) (k := ?_)
            | refine TG.lv 3 (ho := rfl) (hv := .move) (k := ?_))
          all_goals (first
            | refine TG.q0 4 (ho := rfl) (hv := .yes (h := .sub)) (k := ?_)
            | refine TG.q0 4 (ho := rfl) (hv := .yes (h := .binI)) (k := ?_)
            | refine TG.lv 4 (ho := rfl) (hv := .sub) (k := ?_)
            | refine TG.lv 4 (ho := rfl) (hv := .binI) (k := ?_))
          all_goals (first
            | refine TG.q0 5 (ho := rfl) (hv := .yes (h := .move)) (k := ?_)
            | refine TG.lv 5 (ho := rfl) (hv := .move) (k := ?_))
          all_goals (first
            | refine TG.q0 6 (ho := rfl) (hv := .yes (h := .move)) (k := ?_)
            | refine TG.lv 6 (ho := rfl) (hv := .move) (k := ?_))
          all_goals (first
            | refine TG.q0 7 (ho := rfl) (hv := .yes (h := .sub)) (k := ?_)
            | refine TG.q0 7 (ho := rfl) (hv := .yes (h := .binI)) (k := ?_)
            | refine TG.lv 7 (ho := rfl) (hv := .sub) (k := ?_)
            | refine TG.lv 7 (ho := rfl) (hv := .binI) (k := ?_))
          all_goals (first
            | refine TG.qIndexR 8 (ho := rfl) (h := ?_)
            | refine TG.lv 8 (ho := rfl) (hv := .indexR) (k := ?_))
          all_goals (first
            | refine TG.qLoadA 9 (ho := rfl) (k := ?_)
            | refine TG.qLoadEpA 9 (ho := rfl) (h := ?_)
            | refine TG.lv 9 (ho := rfl) (hv := .loadA) (k := ?_)
            | refine TG.lv 9 (ho := rfl) (hv := .loadEpA) (k := ?_))
          all_goals (first
            | refine TG.q0 10 (ho := rfl) (hv := .yes (h := .move)) (k := ?_)
            | refine TG.lv 10 (ho := rfl) (hv := .move) (k := ?_))
          all_goals (first
            | refine TG.q0 11 (ho := rfl) (hv := .yes (h := .move)) (k := ?_)
            | refine TG.lv 11 (ho := rfl) (hv := .move) (k := ?_))
          all_goals (first
            | refine TG.qIndexR 12 (ho := rfl) (h := ?_)
            | refine TG.lv 12 (ho := rfl) (hv := .indexR) (k := ?_))
          all_goals (first
            | refine TG.qLoadA 13 (ho := rfl) (k := ?_)
            | refine TG.qLoadEpA 13 (ho := rfl) (h := ?_)
            | refine TG.lv 13 (ho := rfl) (hv := .loadA) (k := ?_)
            | refine TG.lv 13 (ho := rfl) (hv := .loadEpA) (k := ?_))
          all_goals (first
            | refine TG.qIndexR 14 (ho := rfl) (h := ?_)
            | refine TG.lv 14 (ho := rfl) (hv := .indexR) (k := ?_))
          all_goals (first
            | refine TG.lu 15 (ho := rfl) (hK := .st) (k := ?_)
            | refine TG.lu 15 (ho := rfl) (hK := .stA) (k := ?_)
            | refine TG.lu 15 (ho := rfl) (hK := .stEp) (k := ?_)
            | refine TG.lu 15 (ho := rfl) (hK := .stEpA) (k := ?_))
          all_goals (first
            | refine TG.qIndexR 16 (ho := rfl) (h := ?_)
            | refine TG.lv 16 (ho := rfl) (hv := .indexR) (k := ?_))
          all_goals (first
            | refine TG.lu 17 (ho := rfl) (hK := .st) (k := ?_)
            | refine TG.lu 17 (ho := rfl) (hK := .stA) (k := ?_)
            | refine TG.lu 17 (ho := rfl) (hK := .stEp) (k := ?_)
            | refine TG.lu 17 (ho := rfl) (hK := .stEpA) (k := ?_))
          all_goals apply TG.fin rfl
          repeat (first
            | with_reducible apply T.seq
            | with_reducible apply T.region
            | with_reducible apply TL.nil
            | with_reducible apply Thn.normal
            | with_reducible apply Thn.ret
            | with_reducible apply Thn.exit
            | with_reducible apply Blk.normal
            | with_reducible apply Blk.ret
            | ((with_reducible refine Blk.exitE ?_ ?_); · rfl)
            | ((with_reducible refine Blk.exitN ?_ ?_); · rfl)
            | with_reducible apply Rnd.ret
            | with_reducible apply Rnd.exit
            | with_reducible apply RndI.ret
            | with_reducible apply RndI.exit
            | with_reducible apply ThnI.ret
            | with_reducible apply ThnI.exit
            | with_reducible apply T.skip
            | with_reducible apply T.block
            | with_reducible apply T.ret
            | with_reducible apply T.exit
            | refine T.condT (h := ?_)
            | refine T.condF (h := ?_)
            | refine TL.pass (k := ?_)
            | refine TL.passN (k := ?_)
            | refine TL.take (k := ?_)
            | refine TL.q (h := .move) (k := ?_)
            | refine TL.q (h := .add) (k := ?_)
            | refine TL.q (h := .catS) (k := ?_)
            | refine TL.q (h := .assign) (k := ?_)
            | refine TL.q (h := .sub) (k := ?_)
            | refine TL.q (h := .binI) (k := ?_)
            | refine TL.q (h := .binS) (k := ?_))
          have e1 : (((j + 1 : Nat) : Int) - 1) = (j : Int) := by omega
          rw [e1]
          refine RndI.next (m' := j) (by omega) ⟨j, (l2.set (j + 1) y).set j x, rfl, by omega, by simp [hl2], ?_, rfl, rfl⟩ (by (repeat (first | exact AllIs.nil | refine AllIs.cons (by (simp only [St.ev, slk, Nat.reduceBEq, cond_true, cond_false]; first | done | rfl)) ?_))) (by (repeat (first | exact Picks.nil | (apply Picks.cons; (repeat (first | exact Pick.here | apply Pick.there))))))
          rw [← hd, hdn, if_pos hlt2]
        · skip
          repeat (first
            | with_reducible apply T.seq
            | with_reducible apply T.region
            | with_reducible apply TL.nil
            | with_reducible apply Thn.normal
            | with_reducible apply Thn.ret
            | with_reducible apply Thn.exit
            | with_reducible apply Blk.normal
            | with_reducible apply Blk.ret
            | ((with_reducible refine Blk.exitE ?_ ?_); · rfl)
            | ((with_reducible refine Blk.exitN ?_ ?_); · rfl)
            | with_reducible apply Rnd.ret
            | with_reducible apply Rnd.exit
            | with_reducible apply RndI.ret
            | with_reducible apply RndI.exit
            | with_reducible apply ThnI.ret
            | with_reducible apply ThnI.exit
            | with_reducible apply T.skip
            | with_reducible apply T.block
            | with_reducible apply T.ret
            | with_reducible apply T.exit
            | refine T.condT (h := ?_)
            | refine T.condF (h := ?_)
            | refine TL.pass (k := ?_)
            | refine TL.passN (k := ?_)
            | refine TL.take (k := ?_)
            | refine TL.q (h := .move) (k := ?_)
            | refine TL.q (h := .add) (k := ?_)
            | refine TL.q (h := .catS) (k := ?_)
            | refine TL.q (h := .assign) (k := ?_)
            | refine TL.q (h := .sub) (k := ?_)
            | refine TL.q (h := .binI) (k := ?_)
            | refine TL.q (h := .binS) (k := ?_))
          have e : insTo l a (k + 1) = l2 := by rw [← hd, hdn, if_neg hlt2]
          rw [e]
          refine ThnI.done ⟨rfl, rfl⟩ (by (repeat (first | exact AllIs.nil | refine AllIs.cons (by (simp only [St.ev, slk, Nat.reduceBEq, cond_true, cond_false]; first | done | rfl)) ?_))) (by (repeat (first | exact Picks.nil | (apply Picks.cons; (repeat (first | exact Pick.here | apply Pick.there))))))
      · have hgd : decide ((j : Int) > (a : Int)) = false := decide_eq_false hgt
        have hdn : down a j l2 = l2 := by
          cases j with
          | zero => rfl
          | succ j => rw [down, if_neg (by omega)]
        all_goals refine TG.start (i := 4) mixed rfl ?_
        all_goals (first
          | refine TG.q0 0 (ho := rfl) (hv := .yes (h := .move)) (k := ?_)
          | refine TG.lv 0 (ho := rfl) (hv := .move) (k := ?_))
        all_goals (first
          | refine TG.q0 1 (ho := rfl) (hv := .yes (h := .move)) (k := ?_)
          | refine TG.lv 1 (ho := rfl) (hv := .move) (k := ?_))
        all_goals (first
          | refine TG.q0 2 (ho := rfl) (hv := .yes (h := .binI)) (k := ?_)
          | refine TG.q0 2 (ho := rfl) (hv := .yes (h := .binS)) (k := ?_)
          | refine TG.lv 2 (ho := rfl) (hv := .binI) (k := ?_)
          | refine TG.lv 2 (ho := rfl) (hv := .binS) (k := ?_))
        all_goals (first
          | refine TG.q0 3 (ho := rfl) (hv := .yes (h := .move)) (k := ?_)
          | refine TG.lv 3 (ho := rfl) (hv := .move) (k := ?_))
        all_goals try (first | refine TG.litT 21 (k := ?_) | refine TG.litF 21 (k := ?_) | refine TG.lit 21 (fun _ => ?_) (fun _ => ?_))
        all_goals (first
          | refine TG.q0 4 (ho := rfl) (hv := .no) (k := ?_)
          | refine TG.q0 4 (ho := rfl) (hv := .yes (h := .move)) (k := ?_)
          | refine TG.lv 4 (ho := rfl) (hv := .move) (k := ?_))
        all_goals (first
          | refine TG.q0 5 (ho := rfl) (hv := .no) (k := ?_)
          | refine TG.q0 5 (ho := rfl) (hv := .yes (h := .move)) (k := ?_)
          | refine TG.lv 5 (ho := rfl) (hv := .move) (k := ?_))
        all_goals (first
          | refine TG.q0 6 (ho := rfl) (hv := .no) (k := ?_)
          | refine TG.q0 6 (ho := rfl) (hv := .yes (h := .move)) (k := ?_)
          | refine TG.lv 6 (ho := rfl) (hv := .move) (k := ?_))
        all_goals (first
          | refine TG.q0 7 (ho := rfl) (hv := .no) (k := ?_)
          | refine TG.qIndexR 7 (ho := rfl) (h := ?_)
          | refine TG.lv 7 (ho := rfl) (hv := .indexR) (k := ?_))
        all_goals (first
          | refine TG.q0 8 (ho := rfl) (hv := .no) (k := ?_)
          | refine TG.qLoadA 8 (ho := rfl) (k := ?_)
          | refine TG.qLoadEpA 8 (ho := rfl) (h := ?_)
          | refine TG.lv 8 (ho := rfl) (hv := .loadA) (k := ?_)
          | refine TG.lv 8 (ho := rfl) (hv := .loadEpA) (k := ?_))
        all_goals (first
          | refine TG.q0 9 (ho := rfl) (hv := .no) (k := ?_)
          | refine TG.q0 9 (ho := rfl) (hv := .yes (h := .move)) (k := ?_)
          | refine TG.lv 9 (ho := rfl) (hv := .move) (k := ?_))
        all_goals (first
          | refine TG.q0 10 (ho := rfl) (hv := .no) (k := ?_)
          | refine TG.q0 10 (ho := rfl) (hv := .yes (h := .move)) (k := ?_)
          | refine TG.lv 10 (ho := rfl) (hv := .move) (k := ?_))
        all_goals (first
          | refine TG.q0 11 (ho := rfl) (hv := .no) (k := ?_)
          | refine TG.q0 11 (ho := rfl) (hv := .yes (h := .sub)) (k := ?_)
          | refine TG.q0 11 (ho := rfl) (hv := .yes (h := .binI)) (k := ?_)
          | refine TG.lv 11 (ho := rfl) (hv := .sub) (k := ?_)
          | refine TG.lv 11 (ho := rfl) (hv := .binI) (k := ?_))
        all_goals (first
          | refine TG.q0 12 (ho := rfl) (hv := .no) (k := ?_)
          | refine TG.qIndexR 12 (ho := rfl) (h := ?_)
          | refine TG.lv 12 (ho := rfl) (hv := .indexR) (k := ?_))
        all_goals (first
          | refine TG.q0 13 (ho := rfl) (hv := .no) (k := ?_)
          | refine TG.qLoadA 13 (ho := rfl) (k := ?_)
          | refine TG.qLoadEpA 13 (ho := rfl) (h := ?_)
          | refine TG.lv 13 (ho := rfl) (hv := .loadA) (k := ?_)
          | refine TG.lv 13 (ho := rfl) (hv := .loadEpA) (k := ?_))
        all_goals (first
          | refine TG.q0 14 (ho := rfl) (hv := .no) (k := ?_)
          | (refine TG.ld 14 (ho := rfl) (hK := .callV (h := sort_cmp x y)) (k := ?_); rintro _ _ ⟨_, rfl, rfl, rfl⟩; refine ⟨by (repeat (first | exact Held.nil | apply Held.zero | (apply Held.one; (repeat (first | exact Pick.here | apply Pick.there))))), ?_⟩))
        all_goals (first
          | refine TG.q0 15 (ho := rfl) (hv := .no) (k := ?_)
          | refine TG.q0 15 (ho := rfl) (hv := .yes (h := .binI)) (k := ?_)
          | refine TG.q0 15 (ho := rfl) (hv := .yes (h := .binS)) (k := ?_)
          | refine TG.lv 15 (ho := rfl) (hv := .binI) (k := ?_)
          | refine TG.lv 15 (ho := rfl) (hv := .binS) (k := ?_))
        all_goals (first
          | refine TG.q0 16 (ho := rfl) (hv := .yes (h := .pickT)) (k := ?_)
          | refine TG.q0 16 (ho := rfl) (hv := .yes (h := .pickF)) (k := ?_)
          | refine TG.q0 16 (ho := rfl) (hv := .yes (h := .pickB)) (k := ?_)
          | refine TG.lv 16 (ho := rfl) (hv := .pickT) (k := ?_)
          | refine TG.lv 16 (ho := rfl) (hv := .pickF) (k := ?_)
          | refine TG.lv 16 (ho := rfl) (hv := .pickB) (k := ?_))
        all_goals apply TG.fin rfl
        repeat (first
          | with_reducible apply T.seq
          | with_reducible apply T.region
          | with_reducible apply TL.nil
          | with_reducible apply Thn.normal
          | with_reducible apply Thn.ret
          | with_reducible apply Thn.exit
          | with_reducible apply Blk.normal
          | with_reducible apply Blk.ret
          | ((with_reducible refine Blk.exitE ?_ ?_); · rfl)
          | ((with_reducible refine Blk.exitN ?_ ?_); · rfl)
          | with_reducible apply Rnd.ret
          | with_reducible apply Rnd.exit
          | with_reducible apply RndI.ret
          | with_reducible apply RndI.exit
          | with_reducible apply ThnI.ret
          | with_reducible apply ThnI.exit
          | with_reducible apply T.skip
          | with_reducible apply T.block
          | with_reducible apply T.ret
          | with_reducible apply T.exit
          | refine T.condT (h := ?_)
          | refine T.condF (h := ?_)
          | refine TL.pass (k := ?_)
          | refine TL.passN (k := ?_)
          | refine TL.take (k := ?_)
          | refine TL.q (h := .move) (k := ?_)
          | refine TL.q (h := .add) (k := ?_)
          | refine TL.q (h := .catS) (k := ?_)
          | refine TL.q (h := .assign) (k := ?_)
          | refine TL.q (h := .sub) (k := ?_)
          | refine TL.q (h := .binI) (k := ?_)
          | refine TL.q (h := .binS) (k := ?_))
        have e : insTo l a (k + 1) = l2 := by rw [← hd, hdn]
        rw [e]
        refine ThnI.done ⟨rfl, rfl⟩ (by (repeat (first | exact AllIs.nil | refine AllIs.cons (by (simp only [St.ev, slk, Nat.reduceBEq, cond_true, cond_false]; first | done | rfl)) ?_))) (by (repeat (first | exact Picks.nil | (apply Picks.cons; (repeat (first | exact Pick.here | apply Pick.there))))))
    · rintro l' A jh ⟨rfl, rfl⟩
      repeat (first
        | with_reducible apply T.seq
        | with_reducible apply T.region
        | with_reducible apply TL.nil
        | with_reducible apply Thn.normal
        | with_reducible apply Thn.ret
        | with_reducible apply Thn.exit
        | with_reducible apply Blk.normal
        | with_reducible apply Blk.ret
        | ((with_reducible refine Blk.exitE ?_ ?_); · rfl)
        | ((with_reducible refine Blk.exitN ?_ ?_); · rfl)
        | with_reducible apply Rnd.ret
        | with_reducible apply Rnd.exit
        | with_reducible apply RndI.ret
        | with_reducible apply RndI.exit
        | with_reducible apply ThnI.ret
        | with_reducible apply ThnI.exit
        | with_reducible apply T.skip
        | with_reducible apply T.block
        | with_reducible apply T.ret
        | with_reducible apply T.exit
        | refine T.condT (h := ?_)
        | refine T.condF (h := ?_)
        | refine TL.pass (k := ?_)
        | refine TL.passN (k := ?_)
        | refine TL.take (k := ?_)
        | refine TL.q (h := .move) (k := ?_)
        | refine TL.q (h := .add) (k := ?_)
        | refine TL.q (h := .catS) (k := ?_)
        | refine TL.q (h := .assign) (k := ?_)
        | refine TL.q (h := .sub) (k := ?_)
        | refine TL.q (h := .binI) (k := ?_)
        | refine TL.q (h := .binS) (k := ?_))
      refine RndI.next (m' := b - (a + 1 + (k + 1))) (by omega) ⟨k + 1, rfl, .inl (by omega), rfl, rfl⟩ (by (repeat (first | exact AllIs.nil | refine AllIs.cons (by (simp only [St.ev, slk, Nat.reduceBEq, cond_true, cond_false]; first | done | rfl)) ?_))) (by (repeat (first | exact Picks.nil | (apply Picks.cons; (repeat (first | exact Pick.here | apply Pick.there))))))
  · skip
    repeat (first
      | with_reducible apply T.seq
      | with_reducible apply T.region
      | with_reducible apply TL.nil
      | with_reducible apply Thn.normal
      | with_reducible apply Thn.ret
      | with_reducible apply Thn.exit
      | with_reducible apply Blk.normal
      | with_reducible apply Blk.ret
      | ((with_reducible refine Blk.exitE ?_ ?_); · rfl)
      | ((with_reducible refine Blk.exitN ?_ ?_); · rfl)
      | with_reducible apply Rnd.ret
      | with_reducible apply Rnd.exit
      | with_reducible apply RndI.ret
      | with_reducible apply RndI.exit
      | with_reducible apply ThnI.ret
      | with_reducible apply ThnI.exit
      | with_reducible apply T.skip
      | with_reducible apply T.block
      | with_reducible apply T.ret
      | with_reducible apply T.exit
      | refine T.condT (h := ?_)
      | refine T.condF (h := ?_)
      | refine TL.pass (k := ?_)
      | refine TL.passN (k := ?_)
      | refine TL.take (k := ?_)
      | refine TL.q (h := .move) (k := ?_)
      | refine TL.q (h := .add) (k := ?_)
      | refine TL.q (h := .catS) (k := ?_)
      | refine TL.q (h := .assign) (k := ?_)
      | refine TL.q (h := .sub) (k := ?_)
      | refine TL.q (h := .binI) (k := ?_)
      | refine TL.q (h := .binS) (k := ?_))
    have e : b - (a + 1) = k := by omega
    rw [e]
    (first | refine RetQ.retI (L := [row true 58 9 q.v ((insTo l a k).map MCard.C)]) (ResIs.none Try.results165) (by (repeat (first | exact Picks.nil | (apply Picks.cons; (repeat (first | exact Pick.here | apply Pick.there)))))) ?_ | refine RetQ.norI (L := [row true 58 9 q.v ((insTo l a k).map MCard.C)]) (ResIs.none Try.results165) (by (repeat (first | exact Picks.nil | (apply Picks.cons; (repeat (first | exact Pick.here | apply Pick.there)))))) ?_)
    exact ⟨rfl, rfl⟩
end Go.Proofs.Ytpbomaelkpjbbaa

