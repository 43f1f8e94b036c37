import Derived.Test.YtpbomaelkpjbbaaD2
import Derived.Test.YtpbomaelkpjbbaaB1
namespace Go.Proofs.Ytpbomaelkpjbbaa
open Go.Fw
attribute [local irreducible] T TL TG Thn ThnI Blk Rnd RndI RetQ OpV OpE OpU OpK Ctr row cel ep
def appN (i : Int) : ByteArray := if i = 0 then ⟨#[97, 112, 112]⟩ else if i = 1 then ⟨#[98]⟩ else if i = 2 then ⟨#[97, 112, 112, 49]⟩ else ⟨#[122, 57]⟩
def idN (i : Int) : ByteArray := if i = 0 then ⟨#[105, 100]⟩ else if i = 1 then ⟨#[97]⟩ else if i = 2 then ⟨#[105, 100, 50]⟩ else if i = 3 then ⟨#[120, 48]⟩ else ⟨#[109]⟩
def drawKey (xs : List Int) (a : Nat) : (ByteArray × ByteArray) × Nat := ((appN (tNext xs a 4).1, idN (tNext xs (tNext xs a 4).2 5).1), (tNext xs (tNext xs a 4).2 5).2)
set_option maxHeartbeats 1000000 in
theorem tape_Key (b : Nat) (m : Bool) (x : Sl) (xs : List Int) (a : Nat) (hx : TOk xs) : Ctr Try.prog 63 #[.pointer (some ⟨b, 0, none⟩)]
    [cel true b 29 [x.v, .int .i64 a], row m 3 1 x.v (xs.map intC)] fun v L => v = .agg #[.string (drawKey xs a).1.1, .string (drawKey xs a).1.2] ∧ L = [cel true b 29 [x.v, .int .i64 (drawKey xs a).2], row m 3 1 x.v (xs.map intC)] := by
  have r1 := tNext_range xs a (n := 4) (by omega)
  have r2 := tNext_range xs (tNext xs a 4).2 (n := 5) (by omega)
  have hc1 : [[Value.string ⟨#[97, 112, 112]⟩], [Value.string ⟨#[98]⟩], [Value.string ⟨#[97, 112, 112, 49]⟩], [Value.string ⟨#[122, 57]⟩]][((tNext xs a 4).1).toNat]? = some [.string (appN (tNext xs a 4).1)] := by
    generalize (tNext xs a 4).1 = i at r1
    have : i = 0 ∨ i = 1 ∨ i = 2 ∨ i = 3 := by omega
    rcases this with rfl | rfl | rfl | rfl <;> rfl
  have hc2 : [[Value.string ⟨#[105, 100]⟩], [Value.string ⟨#[97]⟩], [Value.string ⟨#[105, 100, 50]⟩], [Value.string ⟨#[120, 48]⟩], [Value.string ⟨#[109]⟩]][((tNext xs (tNext xs a 4).2 5).1).toNat]? = some [.string (idN (tNext xs (tNext xs a 4).2 5).1)] := by
    generalize (tNext xs (tNext xs a 4).2 5).1 = i at r2
    have : i = 0 ∨ i = 1 ∨ i = 2 ∨ i = 3 ∨ i = 4 := by omega
    rcases this with rfl | rfl | rfl | rfl | rfl <;> rfl
  refine Ctr.of (n := 14) (args := [_]) Try.func63 rfl rfl rfl fun F => ?_
  simp only [List.zipIdx_cons, List.zipIdx_nil, List.map_cons, List.map_nil, Nat.zero_add, Nat.reduceAdd, List.cons_append, List.nil_append]
  repeat (first
    | with_reducible apply T.seq
    | with_reducible apply T.region
    | with_reducible apply TL.nil
    | with_reducible apply Thn.normal
    | with_reducible apply Thn.ret
    | with_reducible apply Thn.exit
    | with_reducible apply Blk.normal
    | with_reducible apply Blk.ret
    | ((with_reducible refine Blk.exitE ?_ ?_); · rfl)
    | ((with_reducible refine Blk.exitN ?_ ?_); · rfl)
    | with_reducible apply Rnd.ret
    | with_reducible apply Rnd.exit
    | with_reducible apply RndI.ret
    | with_reducible apply RndI.exit
    | with_reducible apply ThnI.ret
    | with_reducible apply ThnI.exit
    | with_reducible apply T.skip
    | with_reducible apply T.block
    | with_reducible apply T.ret
    | with_reducible apply T.exit
    | refine T.condT (h := ?_)
    | refine T.condF (h := ?_)
    | refine TL.pass (k := ?_)
    | refine TL.passN (k := ?_)
    | refine TL.take (k := ?_)
    | (refine TL.e (h := .al) (k := ?_); rintro _ _ ⟨_, rfl, rfl⟩))
  all_goals refine TG.start (i := 1) mixed rfl ?_
  repeat' (first
    | (refine TG.chk 1 (k := ?_); first | refine TG.q0 1 (ho := rfl) (hv := .yes (h := .move)) (k := ?_))
    | (refine TG.chk 3 (k := ?_); first | refine TG.qIndexR 3 (ho := rfl) (h := ?_))
    | (refine TG.chk 4 (k := ?_); first | refine TG.qLoad 4 (ho := rfl) (k := ?_) | refine TG.qLoadEp 4 (ho := rfl) (h := ?_))
    | (refine TG.chk 6 (k := ?_); first | refine TG.q0 6 (ho := rfl) (hv := .yes (h := .move)) (k := ?_))
    | (refine TG.chk 8 (k := ?_); first | refine TG.qIndexR 8 (ho := rfl) (h := ?_))
    | (refine TG.chk 9 (k := ?_); first | refine TG.qLoad 9 (ho := rfl) (k := ?_) | refine TG.qLoadEp 9 (ho := rfl) (h := ?_))
    | (refine TG.chk 10 (k := ?_); first | refine TG.q0 10 (ho := rfl) (hv := .yes (h := .build)) (k := ?_))
    | (refine Loud.ld 0 (ho := rfl) (hK := .ofE (h := .bs)) (k := ?_); rintro _ _ ⟨_, rfl, rfl⟩; refine ⟨by (repeat (first | exact Held.nil | apply Held.zero | (apply Held.one; (repeat (first | exact Pick.here | apply Pick.there))))), ?_⟩)
    | (refine Loud.ld 2 (ho := rfl) (hK := .callF (h := tape_Next _ _ _ _ _ _ (by first | assumption | rfl | omega | (simp at *; omega)))) (k := ?_); rintro _ _ ⟨_, rfl, rfl, rfl⟩; refine ⟨by (repeat (first | exact Held.nil | apply Held.zero | (apply Held.one; (repeat (first | exact Pick.here | apply Pick.there))))), ?_⟩)
    | (refine Loud.ld 5 (ho := rfl) (hK := .ofE (h := .bs)) (k := ?_); rintro _ _ ⟨_, rfl, rfl⟩; refine ⟨by (repeat (first | exact Held.nil | apply Held.zero | (apply Held.one; (repeat (first | exact Pick.here | apply Pick.there))))), ?_⟩)
    | (refine Loud.ld 7 (ho := rfl) (hK := .callF (h := tape_Next _ _ _ _ _ _ (by first | assumption | rfl | omega | (simp at *; omega)))) (k := ?_); rintro _ _ ⟨_, rfl, rfl, rfl⟩; refine ⟨by (repeat (first | exact Held.nil | apply Held.zero | (apply Held.one; (repeat (first | exact Pick.here | apply Pick.there))))), ?_⟩)
    | refine Loud.lu 11 (ho := rfl) (hK := .st) (k := ?_)
    | refine Loud.lu 11 (ho := rfl) (hK := .stA) (k := ?_)
    | refine Loud.lu 11 (ho := rfl) (hK := .stEp) (k := ?_)
    | refine Loud.lu 11 (ho := rfl) (hK := .stEpA) (k := ?_)
    | (refine TG.chk 0 (k := ?_); first | (refine TG.ld 0 (ho := rfl) (hK := .ofE (h := .bs)) (k := ?_); rintro _ _ ⟨_, rfl, rfl⟩; refine ⟨by (repeat (first | exact Held.nil | apply Held.zero | (apply Held.one; (repeat (first | exact Pick.here | apply Pick.there))))), ?_⟩))
    | (refine TG.chk 1 (k := ?_); first | refine TG.lv 1 (ho := rfl) (hv := .move) (k := ?_))
    | (refine TG.chk 2 (k := ?_); first | (refine TG.ld 2 (ho := rfl) (hK := .callF (h := tape_Next _ _ _ _ _ _ (by first | assumption | rfl | omega | (simp at *; omega)))) (k := ?_); rintro _ _ ⟨_, rfl, rfl, rfl⟩; refine ⟨by (repeat (first | exact Held.nil | apply Held.zero | (apply Held.one; (repeat (first | exact Pick.here | apply Pick.there))))), ?_⟩))
    | (refine TG.chk 3 (k := ?_); first | refine TG.lv 3 (ho := rfl) (hv := .indexR) (k := ?_))
    | (refine TG.chk 4 (k := ?_); first | refine TG.lv 4 (ho := rfl) (hv := .load) (k := ?_) | refine TG.lv 4 (ho := rfl) (hv := .loadEp) (k := ?_))
    | (refine TG.chk 5 (k := ?_); first | (refine TG.ld 5 (ho := rfl) (hK := .ofE (h := .bs)) (k := ?_); rintro _ _ ⟨_, rfl, rfl⟩; refine ⟨by (repeat (first | exact Held.nil | apply Held.zero | (apply Held.one; (repeat (first | exact Pick.here | apply Pick.there))))), ?_⟩))
    | (refine TG.chk 6 (k := ?_); first | refine TG.lv 6 (ho := rfl) (hv := .move) (k := ?_))
    | (refine TG.chk 7 (k := ?_); first | (refine TG.ld 7 (ho := rfl) (hK := .callF (h := tape_Next _ _ _ _ _ _ (by first | assumption | rfl | omega | (simp at *; omega)))) (k := ?_); rintro _ _ ⟨_, rfl, rfl, rfl⟩; refine ⟨by (repeat (first | exact Held.nil | apply Held.zero | (apply Held.one; (repeat (first | exact Pick.here | apply Pick.there))))), ?_⟩))
    | (refine TG.chk 8 (k := ?_); first | refine TG.lv 8 (ho := rfl) (hv := .indexR) (k := ?_))
    | (refine TG.chk 9 (k := ?_); first | refine TG.lv 9 (ho := rfl) (hv := .load) (k := ?_) | refine TG.lv 9 (ho := rfl) (hv := .loadEp) (k := ?_))
    | (refine TG.chk 10 (k := ?_); first | refine TG.lv 10 (ho := rfl) (hv := .build) (k := ?_))
    | (refine TG.chk 11 (k := ?_); first | refine TG.lu 11 (ho := rfl) (hK := .st) (k := ?_) | refine TG.lu 11 (ho := rfl) (hK := .stA) (k := ?_) | refine TG.lu 11 (ho := rfl) (hK := .stEp) (k := ?_) | refine TG.lu 11 (ho := rfl) (hK := .stEpA) (k := ?_))
    | refine TG.any [0, 2] rfl (TG.fc ?_ (TG.fc ?_ TG.fn))
    | refine TG.any [0, 2, 5] rfl (TG.fc ?_ (TG.fc ?_ (TG.fc ?_ TG.fn)))
    | refine TG.any [0, 5] rfl (TG.fc ?_ (TG.fc ?_ TG.fn))
    | refine TG.any [0, 5, 7] rfl (TG.fc ?_ (TG.fc ?_ (TG.fc ?_ TG.fn)))
    | refine TG.any [0, 7] rfl (TG.fc ?_ (TG.fc ?_ TG.fn))
    | refine TG.any [2, 5] rfl (TG.fc ?_ (TG.fc ?_ TG.fn))
    | refine TG.any [5, 7] rfl (TG.fc ?_ (TG.fc ?_ TG.fn))
    | apply TG.fin rfl)
  all_goals (repeat (first
    | with_reducible apply T.seq
    | with_reducible apply T.region
    | with_reducible apply TL.nil
    | with_reducible apply Thn.normal
    | with_reducible apply Thn.ret
    | with_reducible apply Thn.exit
    | with_reducible apply Blk.normal
    | with_reducible apply Blk.ret
    | ((with_reducible refine Blk.exitE ?_ ?_); · rfl)
    | ((with_reducible refine Blk.exitN ?_ ?_); · rfl)
    | with_reducible apply Rnd.ret
    | with_reducible apply Rnd.exit
    | with_reducible apply RndI.ret
    | with_reducible apply RndI.exit
    | with_reducible apply ThnI.ret
    | with_reducible apply ThnI.exit
    | with_reducible apply T.skip
    | with_reducible apply T.block
    | with_reducible apply T.ret
    | with_reducible apply T.exit
    | refine T.condT (h := ?_)
    | refine T.condF (h := ?_)
    | refine TL.pass (k := ?_)
    | refine TL.passN (k := ?_)
    | refine TL.take (k := ?_)
    | (refine TL.e (h := .al) (k := ?_); rintro _ _ ⟨_, rfl, rfl⟩)))
  all_goals ((first | refine RetQ.retI (L := [cel true b 29 [x.v, .int .i64 (drawKey xs a).2], row m 3 1 x.v (xs.map intC)]) (ResIs.r1 Try.results63 (RV.cellA)) (by (repeat (first | exact Picks.nil | (apply Picks.cons; (repeat (first | exact Pick.here | apply Pick.there)))))) ?_ | refine RetQ.norI (L := [cel true b 29 [x.v, .int .i64 (drawKey xs a).2], row m 3 1 x.v (xs.map intC)]) (ResIs.r1 Try.results63 (RV.cellA)) (by (repeat (first | exact Picks.nil | (apply Picks.cons; (repeat (first | exact Pick.here | apply Pick.there)))))) ?_)
             exact ⟨rfl, rfl⟩)
structure MSt where
  t : Int
  node : Int
  n : Int
def drawStamp (xs : List Int) (a : Nat) : MSt × Nat := (⟨(tNext xs a 40).1, (tNext xs (tNext xs a 40).2 6).1, (tNext xs (tNext xs (tNext xs a 40).2 6).2 9).1⟩, (tNext xs (tNext xs (tNext xs a 40).2 6).2 9).2)
theorem tape_Stamp (b : Nat) (m : Bool) (x : Sl) (xs : List Int) (a : Nat) (hx : TOk xs) : Ctr Try.prog 89 #[.pointer (some ⟨b, 0, none⟩)]
    [cel true b 29 [x.v, .int .i64 a], row m 3 1 x.v (xs.map intC)] fun v L => v = .agg #[.int .i64 (drawStamp xs a).1.t, .int .i64 (drawStamp xs a).1.node, .int .i64 (drawStamp xs a).1.n] ∧ L = [cel true b 29 [x.v, .int .i64 (drawStamp xs a).2], row m 3 1 x.v (xs.map intC)] := by
  refine Ctr.of (n := 10) (args := [_]) Try.func89 rfl rfl rfl fun F => ?_
  simp only [List.zipIdx_cons, List.zipIdx_nil, List.map_cons, List.map_nil, Nat.zero_add, Nat.reduceAdd, List.cons_append, List.nil_append]
  repeat (first
    | with_reducible apply T.seq
    | with_reducible apply T.region
    | with_reducible apply TL.nil
    | with_reducible apply Thn.normal
    | with_reducible apply Thn.ret
    | with_reducible apply Thn.exit
    | with_reducible apply Blk.normal
    | with_reducible apply Blk.ret
    | ((with_reducible refine Blk.exitE ?_ ?_); · rfl)
    | ((with_reducible refine Blk.exitN ?_ ?_); · rfl)
    | with_reducible apply Rnd.ret
    | with_reducible apply Rnd.exit
    | with_reducible apply RndI.ret
    | with_reducible apply RndI.exit
    | with_reducible apply ThnI.ret
    | with_reducible apply ThnI.exit
    | with_reducible apply T.skip
    | with_reducible apply T.block
    | with_reducible apply T.ret
    | with_reducible apply T.exit
    | refine T.condT (h := ?_)
    | refine T.condF (h := ?_)
    | refine TL.pass (k := ?_)
    | refine TL.passN (k := ?_)
    | refine TL.take (k := ?_)
    | (refine TL.e (h := .al) (k := ?_); rintro _ _ ⟨_, rfl, rfl⟩)
    | refine TL.q (h := .move) (k := ?_)
    | (refine TL.callF (h := tape_Next _ _ _ _ _ _ (by first | assumption | rfl | omega | (simp at *; omega))) (k := ?_); rintro _ _ ⟨rfl, rfl⟩)
    | refine TL.q (h := .build) (k := ?_)
    | refine TL.u (h := .st) (k := ?_)
    | refine TL.u (h := .stA) (k := ?_)
    | refine TL.u (h := .stEp) (k := ?_)
    | refine TL.u (h := .stEpA) (k := ?_))
  (first | refine RetQ.retI (L := [cel true b 29 [x.v, .int .i64 (drawStamp xs a).2], row m 3 1 x.v (xs.map intC)]) (ResIs.r1 Try.results89 (RV.cellA)) (by (repeat (first | exact Picks.nil | (apply Picks.cons; (repeat (first | exact Pick.here | apply Pick.there)))))) ?_ | refine RetQ.norI (L := [cel true b 29 [x.v, .int .i64 (drawStamp xs a).2], row m 3 1 x.v (xs.map intC)]) (ResIs.r1 Try.results89 (RV.cellA)) (by (repeat (first | exact Picks.nil | (apply Picks.cons; (repeat (first | exact Pick.here | apply Pick.there)))))) ?_)
  exact ⟨rfl, rfl⟩
def drawCard (xs : List Int) (a : Nat) : MCard × Nat :=
  let k := drawKey xs a
  let s := tNext xs k.2 2
  let o := tNext xs s.2 7
  let l := tNext xs o.2 60
  let st := drawStamp xs l.2
  let g := tNext xs st.2 4
  (⟨k.1.1, k.1.2, 1 + s.1, IntKind.i64.wrap (o.1.tdiv 2), 1 + l.1, st.1.t, st.1.node, st.1.n, g.1 == 0⟩, g.2)
theorem tape_Card (b : Nat) (m : Bool) (x : Sl) (xs : List Int) (a : Nat) (hx : TOk xs) : Ctr Try.prog 42 #[.pointer (some ⟨b, 0, none⟩)]
    [cel true b 29 [x.v, .int .i64 a], row m 3 1 x.v (xs.map intC)] fun v L => v = .agg (drawCard xs a).1.C.toArray ∧ L = [cel true b 29 [x.v, .int .i64 (drawCard xs a).2], row m 3 1 x.v (xs.map intC)] := by
  have r1 := tNext_range xs (drawKey xs a).2 (n := 2) (by omega)
  have r2 := tNext_range xs (tNext xs (tNext xs (drawKey xs a).2 2).2 7).2 (n := 60) (by omega)
  refine Ctr.of (n := 20) (args := [_]) Try.func42 rfl rfl rfl fun F => ?_
  simp only [List.zipIdx_cons, List.zipIdx_nil, List.map_cons, List.map_nil, Nat.zero_add, Nat.reduceAdd, List.cons_append, List.nil_append]
  repeat (first
    | with_reducible apply T.seq
    | with_reducible apply T.region
    | with_reducible apply TL.nil
    | with_reducible apply Thn.normal
    | with_reducible apply Thn.ret
    | with_reducible apply Thn.exit
    | with_reducible apply Blk.normal
    | with_reducible apply Blk.ret
    | ((with_reducible refine Blk.exitE ?_ ?_); · rfl)
    | ((with_reducible refine Blk.exitN ?_ ?_); · rfl)
    | with_reducible apply Rnd.ret
    | with_reducible apply Rnd.exit
    | with_reducible apply RndI.ret
    | with_reducible apply RndI.exit
    | with_reducible apply ThnI.ret
    | with_reducible apply ThnI.exit
    | with_reducible apply T.skip
    | with_reducible apply T.block
    | with_reducible apply T.ret
    | with_reducible apply T.exit
    | refine T.condT (h := ?_)
    | refine T.condF (h := ?_)
    | refine TL.pass (k := ?_)
    | refine TL.passN (k := ?_)
    | refine TL.take (k := ?_)
    | (refine TL.e (h := .al) (k := ?_); rintro _ _ ⟨_, rfl, rfl⟩)
    | refine TL.q (h := .move) (k := ?_)
    | (refine TL.callF (h := tape_Key _ _ _ _ _ (by first | assumption | rfl | omega | (simp at *; omega))) (k := ?_); rintro _ _ ⟨rfl, rfl⟩)
    | (refine TL.callF (h := tape_Next _ _ _ _ _ _ (by first | assumption | rfl | omega | (simp at *; omega))) (k := ?_); rintro _ _ ⟨rfl, rfl⟩)
    | refine TL.q (h := .add) (k := ?_)
    | refine TL.q (h := .catS) (k := ?_)
    | refine TL.q (h := .quo) (k := ?_)
    | (refine TL.callF (h := tape_Stamp _ _ _ _ _ (by first | assumption | rfl | omega | (simp at *; omega))) (k := ?_); rintro _ _ ⟨rfl, rfl⟩)
    | refine TL.q (h := .build) (k := ?_)
    | refine TL.u (h := .st) (k := ?_)
    | refine TL.u (h := .stA) (k := ?_)
    | refine TL.u (h := .stEp) (k := ?_)
    | refine TL.u (h := .stEpA) (k := ?_)
    | refine TL.q (h := .binI) (k := ?_))
  (first | refine RetQ.retI (L := [cel true b 29 [x.v, .int .i64 (drawCard xs a).2], row m 3 1 x.v (xs.map intC)]) (ResIs.r1 Try.results42 (RV.cellA)) (by (repeat (first | exact Picks.nil | (apply Picks.cons; (repeat (first | exact Pick.here | apply Pick.there)))))) ?_ | refine RetQ.norI (L := [cel true b 29 [x.v, .int .i64 (drawCard xs a).2], row m 3 1 x.v (xs.map intC)]) (ResIs.r1 Try.results42 (RV.cellA)) (by (repeat (first | exact Picks.nil | (apply Picks.cons; (repeat (first | exact Pick.here | apply Pick.there)))))) ?_)
  exact ⟨rfl, rfl⟩
/-- So many cards. -/
def drawCardsN (xs : List Int) (a : Nat) : Nat → List MCard × Nat
  | 0 => ([], a)
  | k + 1 => ((drawCardsN xs a k).1 ++ [(drawCard xs (drawCardsN xs a k).2).1], (drawCard xs (drawCardsN xs a k).2).2)
def drawCards (xs : List Int) (a : Nat) (most : Int) : List MCard × Nat := drawCardsN xs (tNext xs a (most + 1)).2 (tNext xs a (most + 1)).1.toNat
theorem drawCardsN_len (xs : List Int) (a k : Nat) : (drawCardsN xs a k).1.length = k := by
  induction k with
  | zero => rfl
  | succ k ih => simp [drawCardsN, ih]
set_option maxHeartbeats 1000000 in
theorem tape_Cards (b : Nat) (m : Bool) (x : Sl) (xs : List Int) (a : Nat) (most : Int) (hx : TOk xs) (hm : 0 ≤ most ∧ most ≤ 10000) : Ctr Try.prog 20 #[.pointer (some ⟨b, 0, none⟩), .int .i64 most]
    [cel true b 29 [x.v, .int .i64 a], row m 3 1 x.v (xs.map intC)] fun v L => ∃ q : Sl, v = q.v ∧ L = [cel true b 29 [x.v, .int .i64 (drawCards xs a most).2], row m 3 1 x.v (xs.map intC), row true 58 9 q.v ((drawCards xs a most).1.map MCard.C)] := by
  have r1 := tNext_range xs a (n := most + 1) (by omega)
  refine Ctr.of (n := 21) (args := [_, _]) Try.func20 rfl rfl rfl fun F => ?_
  simp only [List.zipIdx_cons, List.zipIdx_nil, List.map_cons, List.map_nil, Nat.zero_add, Nat.reduceAdd, List.cons_append, List.nil_append]
  refine T.parts (add_nil true 58 9) ?_
  repeat (first
    | with_reducible apply T.seq
    | with_reducible apply T.region
    | with_reducible apply TL.nil
    | with_reducible apply Thn.normal
    | with_reducible apply Thn.ret
    | with_reducible apply Thn.exit
    | with_reducible apply Blk.normal
    | with_reducible apply Blk.ret
    | ((with_reducible refine Blk.exitE ?_ ?_); · rfl)
    | ((with_reducible refine Blk.exitN ?_ ?_); · rfl)
    | with_reducible apply Rnd.ret
    | with_reducible apply Rnd.exit
    | with_reducible apply RndI.ret
    | with_reducible apply RndI.exit
    | with_reducible apply ThnI.ret
    | with_reducible apply ThnI.exit
    | with_reducible apply T.skip
    | with_reducible apply T.block
    | with_reducible apply T.ret
    | with_reducible apply T.exit
    | refine T.condT (h := ?_)
    | refine T.condF (h := ?_)
    | refine TL.pass (k := ?_)
    | refine TL.passN (k := ?_)
    | refine TL.take (k := ?_)
    | refine TL.q (h := .assign) (k := ?_)
    | refine TL.q (h := .move) (k := ?_)
    | refine TL.q (h := .add) (k := ?_)
    | refine TL.q (h := .catS) (k := ?_)
    | (refine TL.callF (h := tape_Next _ _ _ _ _ _ (by first | assumption | rfl | omega | (simp at *; omega))) (k := ?_); rintro _ _ ⟨rfl, rfl⟩)
    | (refine TL.callF (h := tape_Card _ _ _ _ _ (by first | assumption | rfl | omega | (simp at *; omega))) (k := ?_); rintro _ _ ⟨rfl, rfl⟩)
    | (refine TL.e (h := .bs) (k := ?_); rintro _ _ ⟨_, rfl, rfl⟩)
    | (refine TL.e (h := .app) (k := ?_); rintro _ _ ⟨_, rfl, rfl⟩)
    | (refine TL.e (h := .appS) (k := ?_); rintro _ _ ⟨_, rfl, rfl⟩)
    | refine TL.q (h := .sub) (k := ?_)
    | refine TL.q (h := .binI) (k := ?_)
    | refine TL.q (h := .binS) (k := ?_))
  refine T.blkW (fun l A => ∃ q : Sl, l = [(5, q.v)] ∧ A = [cel true b 29 [x.v, .int .i64 (drawCards xs a most).2], row m 3 1 x.v (xs.map intC), row true 58 9 q.v ((drawCards xs a most).1.map MCard.C), F]) ?_ ?_
  · refine T.loopI (fun q' l A => ∃ (k : Nat) (q : Sl), q' = (tNext xs a (most + 1)).1.toNat - k ∧ (k : Int) ≤ (tNext xs a (most + 1)).1 ∧ l = [(6, .int .i64 ((tNext xs a (most + 1)).1 - (k : Int))), (5, q.v), (0, .pointer (some ⟨b, 0, none⟩))] ∧
      A = [cel true b 29 [x.v, .int .i64 (drawCardsN xs (tNext xs a (most + 1)).2 k).2], row m 3 1 x.v (xs.map intC), row true 58 9 q.v ((drawCardsN xs (tNext xs a (most + 1)).2 k).1.map MCard.C), F])
      ⟨0, Sl.nil, rfl, r1.1, by rw [show (tNext xs a (most + 1)).1 - ((0 : Nat) : Int) = (tNext xs a (most + 1)).1 by omega], rfl⟩ (by (repeat (first | exact AllIs.nil | refine AllIs.cons (by (simp only [St.ev, slk, Nat.reduceBEq, cond_true, cond_false]; first | done | rfl)) ?_))) (by (repeat (first | exact Picks.nil | (apply Picks.cons; (repeat (first | exact Pick.here | apply Pick.there)))))) ?_
    rintro q' l A j ⟨k, q, rfl, hk, rfl, rfl⟩
    have hlm : ((drawCardsN xs (tNext xs a (most + 1)).2 k).1.map MCard.C).length = k := by rw [List.length_map, drawCardsN_len]
    repeat (first
      | with_reducible apply T.seq
      | with_reducible apply T.region
      | with_reducible apply TL.nil
      | with_reducible apply Thn.normal
      | with_reducible apply Thn.ret
      | with_reducible apply Thn.exit
      | with_reducible apply Blk.normal
      | with_reducible apply Blk.ret
      | ((with_reducible refine Blk.exitE ?_ ?_); · rfl)
      | ((with_reducible refine Blk.exitN ?_ ?_); · rfl)
      | with_reducible apply Rnd.ret
      | with_reducible apply Rnd.exit
      | with_reducible apply RndI.ret
      | with_reducible apply RndI.exit
      | with_reducible apply ThnI.ret
      | with_reducible apply ThnI.exit
      | with_reducible apply T.skip
      | with_reducible apply T.block
      | with_reducible apply T.ret
      | with_reducible apply T.exit
      | refine T.condT (h := ?_)
      | refine T.condF (h := ?_)
      | refine TL.pass (k := ?_)
      | refine TL.passN (k := ?_)
      | refine TL.take (k := ?_)
      | refine TL.q (h := .assign) (k := ?_)
      | refine TL.q (h := .move) (k := ?_)
      | refine TL.q (h := .add) (k := ?_)
      | refine TL.q (h := .catS) (k := ?_)
      | (refine TL.callF (h := tape_Next _ _ _ _ _ _ (by first | assumption | rfl | omega | (simp at *; omega))) (k := ?_); rintro _ _ ⟨rfl, rfl⟩)
      | (refine TL.callF (h := tape_Card _ _ _ _ _ (by first | assumption | rfl | omega | (simp at *; omega))) (k := ?_); rintro _ _ ⟨rfl, rfl⟩)
      | (refine TL.e (h := .bs) (k := ?_); rintro _ _ ⟨_, rfl, rfl⟩)
      | (refine TL.e (h := .app) (k := ?_); rintro _ _ ⟨_, rfl, rfl⟩)
      | (refine TL.e (h := .appS) (k := ?_); rintro _ _ ⟨_, rfl, rfl⟩)
      | refine TL.q (h := .sub) (k := ?_)
      | refine TL.q (h := .binI) (k := ?_)
      | refine TL.q (h := .binS) (k := ?_))
    refine T.condD (ht := fun hgt => ?_) (hf := fun hgt => ?_)
    · have hm2 : (drawCardsN xs (tNext xs a (most + 1)).2 k).1.map MCard.C ++ [(drawCard xs (drawCardsN xs (tNext xs a (most + 1)).2 k).2).1.C] = (drawCardsN xs (tNext xs a (most + 1)).2 (k + 1)).1.map MCard.C := by
        simp only [drawCardsN, List.map_append, List.map_cons, List.map_nil]
      repeat (first
        | with_reducible apply T.seq
        | with_reducible apply T.region
        | with_reducible apply TL.nil
        | with_reducible apply Thn.normal
        | with_reducible apply Thn.ret
        | with_reducible apply Thn.exit
        | with_reducible apply Blk.normal
        | with_reducible apply Blk.ret
        | ((with_reducible refine Blk.exitE ?_ ?_); · rfl)
        | ((with_reducible refine Blk.exitN ?_ ?_); · rfl)
        | with_reducible apply Rnd.ret
        | with_reducible apply Rnd.exit
        | with_reducible apply RndI.ret
        | with_reducible apply RndI.exit
        | with_reducible apply ThnI.ret
        | with_reducible apply ThnI.exit
        | with_reducible apply T.skip
        | with_reducible apply T.block
        | with_reducible apply T.ret
        | with_reducible apply T.exit
        | refine T.condT (h := ?_)
        | refine T.condF (h := ?_)
        | refine TL.pass (k := ?_)
        | refine TL.passN (k := ?_)
        | refine TL.take (k := ?_)
        | refine TL.q (h := .assign) (k := ?_)
        | refine TL.q (h := .move) (k := ?_)
        | refine TL.q (h := .add) (k := ?_)
        | refine TL.q (h := .catS) (k := ?_)
        | (refine TL.callF (h := tape_Next _ _ _ _ _ _ (by first | assumption | rfl | omega | (simp at *; omega))) (k := ?_); rintro _ _ ⟨rfl, rfl⟩)
        | (refine TL.callF (h := tape_Card _ _ _ _ _ (by first | assumption | rfl | omega | (simp at *; omega))) (k := ?_); rintro _ _ ⟨rfl, rfl⟩)
        | (refine TL.e (h := .bs) (k := ?_); rintro _ _ ⟨_, rfl, rfl⟩)
        | (refine TL.e (h := .app) (k := ?_); rintro _ _ ⟨_, rfl, rfl⟩)
        | (refine TL.e (h := .appS) (k := ?_); rintro _ _ ⟨_, rfl, rfl⟩)
        | refine TL.q (h := .sub) (k := ?_)
        | refine TL.q (h := .binI) (k := ?_)
        | refine TL.q (h := .binS) (k := ?_))
      rename_i q1 q2
      rw [hm2]
      rw [show (tNext xs a (most + 1)).1 - (k : Int) - 1 = (tNext xs a (most + 1)).1 - ((k + 1 : Nat) : Int) by omega]
      refine RndI.next (m' := (tNext xs a (most + 1)).1.toNat - (k + 1)) (by omega) ⟨k + 1, q2, rfl, by omega, rfl, rfl⟩ (by (repeat (first | exact AllIs.nil | refine AllIs.cons (by (simp only [St.ev, slk, Nat.reduceBEq, cond_true, cond_false]; first | done | rfl)) ?_))) (by (repeat (first | exact Picks.nil | (apply Picks.cons; (repeat (first | exact Pick.here | apply Pick.there))))))
    · have e : (tNext xs a (most + 1)).1.toNat = k := by omega
      repeat (first
        | with_reducible apply T.seq
        | with_reducible apply T.region
        | with_reducible apply TL.nil
        | with_reducible apply Thn.normal
        | with_reducible apply Thn.ret
        | with_reducible apply Thn.exit
        | with_reducible apply Blk.normal
        | with_reducible apply Blk.ret
        | ((with_reducible refine Blk.exitE ?_ ?_); · rfl)
        | ((with_reducible refine Blk.exitN ?_ ?_); · rfl)
        | with_reducible apply Rnd.ret
        | with_reducible apply Rnd.exit
        | with_reducible apply RndI.ret
        | with_reducible apply RndI.exit
        | with_reducible apply ThnI.ret
        | with_reducible apply ThnI.exit
        | with_reducible apply T.skip
        | with_reducible apply T.block
        | with_reducible apply T.ret
        | with_reducible apply T.exit
        | refine T.condT (h := ?_)
        | refine T.condF (h := ?_)
        | refine TL.pass (k := ?_)
        | refine TL.passN (k := ?_)
        | refine TL.take (k := ?_)
        | refine TL.q (h := .assign) (k := ?_)
        | refine TL.q (h := .move) (k := ?_)
        | refine TL.q (h := .add) (k := ?_)
        | refine TL.q (h := .catS) (k := ?_)
        | (refine TL.callF (h := tape_Next _ _ _ _ _ _ (by first | assumption | rfl | omega | (simp at *; omega))) (k := ?_); rintro _ _ ⟨rfl, rfl⟩)
        | (refine TL.callF (h := tape_Card _ _ _ _ _ (by first | assumption | rfl | omega | (simp at *; omega))) (k := ?_); rintro _ _ ⟨rfl, rfl⟩)
        | (refine TL.e (h := .bs) (k := ?_); rintro _ _ ⟨_, rfl, rfl⟩)
        | (refine TL.e (h := .app) (k := ?_); rintro _ _ ⟨_, rfl, rfl⟩)
        | (refine TL.e (h := .appS) (k := ?_); rintro _ _ ⟨_, rfl, rfl⟩)
        | refine TL.q (h := .sub) (k := ?_)
        | refine TL.q (h := .binI) (k := ?_)
        | refine TL.q (h := .binS) (k := ?_))
      refine ThnI.done ⟨q, rfl, by rw [drawCards, e]⟩ (by (repeat (first | exact AllIs.nil | refine AllIs.cons (by (simp only [St.ev, slk, Nat.reduceBEq, cond_true, cond_false]; first | done | rfl)) ?_))) (by (repeat (first | exact Picks.nil | (apply Picks.cons; (repeat (first | exact Pick.here | apply Pick.there))))))
  · rintro l A j ⟨q, rfl, rfl⟩
    repeat (first
      | with_reducible apply T.seq
      | with_reducible apply T.region
      | with_reducible apply TL.nil
      | with_reducible apply Thn.normal
      | with_reducible apply Thn.ret
      | with_reducible apply Thn.exit
      | with_reducible apply Blk.normal
      | with_reducible apply Blk.ret
      | ((with_reducible refine Blk.exitE ?_ ?_); · rfl)
      | ((with_reducible refine Blk.exitN ?_ ?_); · rfl)
      | with_reducible apply Rnd.ret
      | with_reducible apply Rnd.exit
      | with_reducible apply RndI.ret
      | with_reducible apply RndI.exit
      | with_reducible apply ThnI.ret
      | with_reducible apply ThnI.exit
      | with_reducible apply T.skip
      | with_reducible apply T.block
      | with_reducible apply T.ret
      | with_reducible apply T.exit
      | refine T.condT (h := ?_)
      | refine T.condF (h := ?_)
      | refine TL.pass (k := ?_)
      | refine TL.passN (k := ?_)
      | refine TL.take (k := ?_)
      | refine TL.q (h := .assign) (k := ?_)
      | refine TL.q (h := .move) (k := ?_)
      | refine TL.q (h := .add) (k := ?_)
      | refine TL.q (h := .catS) (k := ?_)
      | (refine TL.callF (h := tape_Next _ _ _ _ _ _ (by first | assumption | rfl | omega | (simp at *; omega))) (k := ?_); rintro _ _ ⟨rfl, rfl⟩)
      | (refine TL.callF (h := tape_Card _ _ _ _ _ (by first | assumption | rfl | omega | (simp at *; omega))) (k := ?_); rintro _ _ ⟨rfl, rfl⟩)
      | (refine TL.e (h := .bs) (k := ?_); rintro _ _ ⟨_, rfl, rfl⟩)
      | (refine TL.e (h := .app) (k := ?_); rintro _ _ ⟨_, rfl, rfl⟩)
      | (refine TL.e (h := .appS) (k := ?_); rintro _ _ ⟨_, rfl, rfl⟩)
      | refine TL.q (h := .sub) (k := ?_)
      | refine TL.q (h := .binI) (k := ?_)
      | refine TL.q (h := .binS) (k := ?_))
    (first | refine RetQ.retI (L := [cel true b 29 [x.v, .int .i64 (drawCards xs a most).2], row m 3 1 x.v (xs.map intC), row true 58 9 q.v ((drawCards xs a most).1.map MCard.C)]) (ResIs.r1 Try.results20 (RV.tmp)) (by (repeat (first | exact Picks.nil | (apply Picks.cons; (repeat (first | exact Pick.here | apply Pick.there)))))) ?_ | refine RetQ.norI (L := [cel true b 29 [x.v, .int .i64 (drawCards xs a most).2], row m 3 1 x.v (xs.map intC), row true 58 9 q.v ((drawCards xs a most).1.map MCard.C)]) (ResIs.r1 Try.results20 (RV.tmp)) (by (repeat (first | exact Picks.nil | (apply Picks.cons; (repeat (first | exact Pick.here | apply Pick.there)))))) ?_)
    exact ⟨q, rfl, rfl⟩
end Go.Proofs.Ytpbomaelkpjbbaa

