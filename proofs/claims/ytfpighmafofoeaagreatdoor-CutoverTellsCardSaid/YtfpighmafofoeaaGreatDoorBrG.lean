/- Layer 20: the reference's Do. -/
import Derived.Test.YtfpighmafofoeaaGreatDoorBrX
import Derived.Test.YtfpighmafofoeaaGreatDoorBrFa
namespace Go.Proofs.YtfpighmafofoeaaGreatDoor.GL
open Go Go.RowKit
open St (Txn txnL txnV zeroT RightT OkT stepF Rec recV RightR pairV)
open Ca (S4 flat setV OkS giveE giveT loadE loadT notesV)
set_option maxRecDepth 10000
set_option pp.deepTerms.threshold 8
set_option pp.maxSteps 3000
set_option linter.unusedSimpArgs false
set_option linter.unusedVariables false

/-- The list is another one, in a block of its own. -/
theorem rlnew {R : Heap} {q b c room : Nat} {tv lv : Value} {W : List Tp} {L L' : List Txn} (h : RefR R q tv lv W L) (hb : R b = none) (hc : L'.length ≤ c) (hf : c * 11 ≤ L'.length * 11 + room) :
    RefR (upd (upd R b (.row true 0 (rowsC txnL L') room)) q (.row true 0 [tv, .slice (some ⟨b, 0, none⟩) L'.length c] 0)) q tv (.slice (some ⟨b, 0, none⟩) L'.length c) W L' := by
  have hbq : b ≠ q := fun e => by have := h.row; rw [← e, hb] at this; cases this
  have hbW : ∀ x ∈ W, x.2 ≠ b := fun x hx e => by have := h.set x hx; rw [e, hb] at this; cases this
  have hbt : blkV tv ≠ some b := fun e => by
    obtain ⟨o, ho⟩ := h.trm.blk e
    rw [hb] at ho; cases ho
  have hblk : ∀ i, blkV (.slice (some ⟨b, 0, none⟩) L'.length c) = some i → i = b := fun i e => by simpa [blkV] using e.symm
  refine ⟨upd_same _ _ _, .inr ⟨b, 0, c, [], room, rfl, by rw [upd_ne _ _ hbq, upd_same, List.append_nil], rowsC_len txn11 L', hc, by simpa using hf⟩, ?_, fun x hx => ?_, h.nd, h.nq, h.nt, fun x hx e => hbW x hx (hblk _ e), h.tq, fun e => hbq (hblk _ e).symm, fun i hi e => hbt (by rw [hi, hblk _ e])⟩
  · exact h.trm.up fun i o hi ho => by rw [upd_ne _ _ (fun e => h.tq (by rw [hi, e])), upd_ne _ _ (fun e => hbt (by rw [hi, e]))]; exact ho
  · rw [upd_ne _ _ (h.nq x hx), upd_ne _ _ (hbW x hx)]; exact h.set x hx
/-- append of transactions: to one that is alone; to the first ones. -/
theorem tx_one {H : Heap} {K : Kont} {b l : Nat} {x : Value} {u : Txn} {D : List Txn} (hb : H b = some (.row true 0 (txnL u) 0)) (hsrc : srcOf Tryz.prog 67 52 x H = some (l, rowsC txnL D)) (hl : D.length = l) (hl2 : l ≤ 1000)
    (hK : ∀ a' c' H', Heap.le H H' → SlA H' a' (1 + l) 11 (txnL u ++ rowsC txnL D) → 1 + l ≤ c' → K (.slice a' (1 + l) c') H') :
    eApp Tryz.prog 52 52 (.slice (some ⟨b, 0, none⟩) 1 1) x H K := by
  have hs : SlA H (some ⟨b, 0, none⟩) 1 11 (rowsC txnL [u]) := SlA.row hb (Nat.le_refl _) rfl (Nat.le_refl 11) rfl
  rw [rowsC_single] at hs
  refine app_whole (F := H) (e := 67) (s := 11) (nbs := 88) (z := txnV zeroT) (n := l) (ys := rowsC txnL D) (by simp [facts]) (by simp [facts]) (by simp [facts]) zeroTx rfl (by decide) hs (Heap.le_refl H) hsrc (by rw [rowsC_len txn11, hl]) (rowsC_one txn1 _) (by omega) ?_
  intro a' c' H' B ow h hc
  exact hK a' c' H' ow.all (h.elim (·.le ow.le) (·.le ow.all)) hc
theorem tx_new {H F : Heap} {K : Kont} {a : Option Addr} {n m : Nat} {x : Value} {cs ys : List Value} (h : SlA F a n 11 cs) (hF : Heap.le F H) (hsrc : srcOf Tryz.prog 67 52 x H = some (m, ys)) (hl : ys.length = m * 11) (hone : ys.all (·.oneCell') = true) (hm : 0 < m) (hl2 : n + m ≤ 2000)
    (hK : ∀ b' c' room, H b' = none → n + m ≤ c' → c' * 11 ≤ (n + m) * 11 + room → K (.slice (some ⟨b', 0, none⟩) (n + m) c') (upd H b' (.row true 0 (cs ++ ys) room))) :
    eApp Tryz.prog 52 52 (.slice a n n) x H K :=
  app_new (e := 67) (s := 11) (nbs := 88) (z := txnV zeroT) (by simp [facts]) (by simp [facts]) (by simp [facts]) zeroTx rfl (by decide) h hF hsrc hl hone hm (by omega) hK
set_option maxHeartbeats 800000 in
theorem rdo_c (H R : Heap) (q : Nat) (tv lv : Value) (W : List Tp) (L : List Txn) (hR : Heap.le R H) (hB : RefR R q tv lv W L) (hok : BOk ⟨tmsOf W, L⟩) (r : Rec) (h0 : 0 ≤ r.term) (h1 : r.term ≤ 65535) (hpl : r.pan.length ≤ 100000) :
    ECalls Tryz.prog 10 #[.pointer (some ⟨q, 0, none⟩), recV r] H fun v H' => v = .int .i64 (doB ⟨tmsOf W, L⟩ r).2 ∧ ∃ R' lv' W', Own H R H' R' ∧ RefR R' q tv lv' W' (doB ⟨tmsOf W, L⟩ r).1.L ∧ tmsOf W' = (doB ⟨tmsOf W, L⟩ r).1.T := by
  refine ecalls_of_ewp (args := [_, _]) Tryz.func10 rfl rfl rfl (by simp [Tryz.ntmps10]) (by kernel_rfl) ?_
  have e1 : recV r = .agg (recL r).toArray := rfl
  have cR := fun G => GL.rightR_c r.rz G (by show (mkS r.pan).size ≤ _; rw [mkS_sz]; omega)
  have cR' : ∀ G, ECalls Tryz.prog 28 #[.agg (recL r).toArray] G fun v H' => v = .bool r.rz.right ∧ Heap.le G H' := cR
  clear cR
  rw [e1]
  obtain ⟨rl, hrl⟩ : ∃ rl, rl = recL r := ⟨_, rfl⟩
  rw [← hrl] at cR' ⊢
  have rl17 : rl.length = 17 := by rw [hrl]; rfl
  have k17 : List.take 17 rl = rl := List.take_of_length_le (by omega)
  obtain ⟨i, hi⟩ : ∃ i : Nat, r.term = (i : Int) := ⟨r.term.toNat, by omega⟩
  have hiN : r.term.toNat = i := by omega
  have g0 : rl[0]? = some (.int .i64 r.kind) := by rw [hrl]; rfl
  have g1 : rl[1]? = some (.int .u16 i) := by rw [hrl, ← hi]; rfl
  have g4 : rl[4]? = some (.int .i64 r.amount) := by rw [hrl]; rfl
  obtain ⟨_, g0b⟩ := List.getElem?_eq_some_iff.1 g0
  obtain ⟨_, g1b⟩ := List.getElem?_eq_some_iff.1 g1
  obtain ⟨_, g4b⟩ := List.getElem?_eq_some_iff.1 g4
  have gn : List.take 4 (List.drop 5 rl) = [.int .i64 r.n0, .int .i64 r.n1, .int .i64 r.n2, .int .i64 r.n3] := by rw [hrl]; rfl
  have gx : List.take 4 (List.drop 9 rl) = [.int .i64 r.x0, .int .i64 r.x1, .int .i64 r.x2, .int .i64 r.x3] := by rw [hrl]; rfl
  have gl : List.take 4 (List.drop 13 rl) = [.int .i64 r.x4, .int .i64 r.x5, .int .i64 r.x6, .int .i64 r.x7] := by rw [hrl]; rfl
  have hdB : doB ⟨tmsOf W, L⟩ r = if r.rz.right = false then (⟨tmsOf W, L⟩, 27) else match (tmsOf W)[i]? with
    | none => (⟨tmsOf W, L⟩, 32)
    | some x => if r.kind = 9 then (⟨(tmsOf W).set i { x with out := true }, L⟩, 0) else if r.kind = 8 then
        (if giveE (loadT x.s r.x4 r.x5 r.x6 r.x7) r.n0 r.n1 r.n2 r.n3 r.x0 r.x1 r.x2 r.x3 ≠ 0 then (⟨tmsOf W, L⟩, giveE (loadT x.s r.x4 r.x5 r.x6 r.x7) r.n0 r.n1 r.n2 r.n3 r.x0 r.x1 r.x2 r.x3)
        else (⟨(tmsOf W).set i ⟨giveT (loadT x.s r.x4 r.x5 r.x6 r.x7) r.n0 r.n1 r.n2 r.n3 r.x0 r.x1 r.x2 r.x3, false, r.amount⟩, L⟩, 0)) else stepB ⟨tmsOf W, L⟩ x r := by
    rw [← hiN]; rfl
  generalize doB ⟨tmsOf W, L⟩ r = res at hdB ⊢
  obtain ⟨a, c, rfl, hsT, _⟩ := hB.trm.sl (Heap.le_refl R)
  have hWl : (tmsOf W).length = W.length := List.length_map ..
  simp (disch := first | omega | assumption | decide | (simp <;> omega) | fail) [facts, ]
  refine fresh_intro fun b3 hb3 => ?_
  have r3 := upd_same H b3 (.row true 0 rl 0)
  have ow : Own H R (upd H b3 (.row true 0 rl 0)) R := (Own.refl hR).grow (le_upd _ hb3)
  have hb3R : R b3 = none := le_of_none hR hb3
  have hHG := le_upd (.row true 0 rl 0) hb3
  generalize upd H b3 _ = G at *
  simp (disch := first | omega | assumption | decide | (simp <;> omega) | fail) [facts, r3, k17]
  refine (cR' G).mono ?_
  rintro v G1 ⟨rfl, hle1⟩
  replace ow := ow.grow hle1
  replace r3 := hle1 _ _ r3
  have hpG := ow.le _ _ hB.row
  cases hrr : r.rz.right with
  | false =>
    rw [if_pos hrr] at hdB
    subst hdB
    simp (disch := first | omega | assumption | decide | (simp <;> omega) | fail) [facts, ]
    exact ⟨_, Heap.le_refl _, R, ow, lv, W, hB, rfl⟩
  | true =>
  rw [if_neg (by rw [hrr]; decide)] at hdB
  simp (disch := first | omega | assumption | decide | (simp <;> omega) | fail) [facts, ]
  by_cases hiT : i < W.length
  case neg =>
    rw [List.getElem?_eq_none (by rw [hWl]; omega)] at hdB
    simp only at hdB
    subst hdB
    have hiI : (W.length : Int) ≤ (i : Int) := by omega
    refine w_plan (P := Tryz.prog) (by simp [facts]) (opsP [0,1,2,3,4,5,6,7,8,9] .done) ?_ ?_
    · decide +kernel
    simp (disch := first | omega | assumption | decide | (simp <;> omega) | fail) [facts, r3, g1, g1b, hpG, hiI]
    exact ⟨_, Heap.le_refl _, R, ow, lv, W, hB, rfl⟩
  have hiI : ¬ (W.length : Int) ≤ (i : Int) := by omega
  have hiI2 : (i : Int) < (W.length : Int) := by omega
  refine w_plan (P := Tryz.prog) (by simp [facts]) (opsP [0,1,2,3,4,5,6,7,8,9] .done) ?_ ?_
  · decide +kernel
  simp (disch := first | omega | assumption | decide | (simp <;> omega) | fail) [facts, r3, g1, g1b, hpG, hiI]
  obtain ⟨x, hx⟩ : ∃ x, W[i]? = some x := ⟨_, List.getElem?_eq_getElem hiT⟩
  rw [tms_at, hx] at hdB
  simp only [Option.map_some] at hdB
  obtain ⟨tb, to, rfl⟩ := hsT.lit (by omega)
  refine w_plan (P := Tryz.prog) (by simp [facts]) (opsP [0,1,2,3,4,5,6,7,8] .done) ?_ ?_
  · decide +kernel
  simp (disch := first | omega | assumption | decide | (simp <;> omega) | fail) [facts, r3, g1, g1b, hpG, hiI2, g0, g0b]
  have hrR : r.kind ≠ 8 → r.kind ≠ 9 → RightR r := fun h8 h9 => by
    refine ⟨?_, hrr⟩
    have := hrr
    simp only [RZ.right, Rec.rz, Bool.and_eq_true] at this
    have a1 := of_decide_eq_true this.1.1.1.1.1.1.1.1
    have a2 := of_decide_eq_true this.1.1.1.1.1.1.1.2
    omega
  by_cases h9 : r.kind = 9
  case pos =>
    rw [if_pos h9] at hdB
    subst hdB
    have h8 : ¬ r.kind = 8 := by omega
    obtain ⟨tail, room, hrow, hB2⟩ := rterms hB hx ({ x.1 with out := true }, x.2) rfl rfl
    have hrowG := ow.le _ _ hrow
    have hset1 := rowsC_set1 tp3 tail hx (j := 1) (by decide) (show tpL ({ x.1 with out := true }, x.2) = (tpL x).set 1 (.bool true) from rfl)
    have hfit : i * 3 + 1 < (rowsC tpL W ++ tail).length := by rw [List.length_append, rowsC_len tp3]; omega
    have hidx : to + i * 3 + 1 - to = i * 3 + 1 := by omega
    simp (disch := first | omega | assumption | decide | (simp <;> omega) | fail) [facts, h8, h9, hrowG, hset1, hidx]
    exact ⟨_, Heap.le_refl _, _, ow.set hrow _, lv, _, hB2, by unfold tmsOf; rw [List.map_set]⟩
  rw [if_neg h9] at hdB
  by_cases h8 : r.kind = 8
  case pos =>
    rw [if_pos h8] at hdB
    have hset := ow.le _ _ (hB.set x (List.mem_of_getElem? hx))
    have rp : rd1U (G1 tb) (to + i * 3) = some (.pointer (some ⟨x.2, 0, none⟩)) := (hsT.le ow.le).el1 tp3 hx (j := 0) (by decide)
    obtain ⟨sl, hsl⟩ : ∃ sl, sl = flat x.1.s := ⟨_, rfl⟩
    have sl16 : sl.length = 16 := by rw [hsl]; rfl
    have sl1 : sl.all (·.oneCell') = true := by rw [hsl]; rfl
    have ks : List.take 16 sl = sl := List.take_of_length_le (by omega)
    rw [← hsl] at hset
    have hdr : sl ++ List.drop sl.length [.int .i64 0, .int .i64 0, .int .i64 0, .int .i64 0, .int .i64 0, .int .i64 0, .int .i64 0, .int .i64 0, .int .i64 0, .int .i64 0, .int .i64 0, .int .i64 0, .int .i64 0, .int .i64 0, .int .i64 0, .int .i64 0] = sl := by rw [List.drop_of_length_le (by rw [sl16]; decide), List.append_nil]
    simp (disch := first | omega | assumption | decide | (simp <;> omega) | fail) [facts, h8, rp, hset, ks, hdr]
    refine fresh_intro fun b6 hb6 => ?_
    have hb6R : R b6 = none := le_of_none ow.le hb6
    have hb6H : H b6 = none := le_of_none (Heap.le_trans hHG hle1) hb6
    have q36 : b3 ≠ b6 := ne_of_fresh hb6 r3
    have r6 := upd_same G1 b6 (.row true 0 sl 0)
    replace r3 := upd_other (o := .row true 0 sl 0) hb6 r3
    replace ow := ow.grow (le_upd (.row true 0 sl 0) hb6)
    generalize upd G1 b6 _ = G2 at *
    have hld := Ca.loadB_c x.1.s b6 r.x4 r.x5 r.x6 r.x7 G2 (by rw [← hsl]; exact r6)
    simp only [notesV] at hld
    simp (disch := first | omega | assumption | decide | (simp <;> omega) | fail) [facts, r3, gl]
    refine hld.mono ?_
    rintro v G3 ⟨rfl, hle3, r6'⟩
    replace ow := own_dele ow hb6H hb6R hle3
    replace r3 := hle3 _ _ (Ca.dele_get q36 r3)
    have hgv := Ca.giveB_c (loadT x.1.s r.x4 r.x5 r.x6 r.x7) b6 r.n0 r.n1 r.n2 r.n3 r.x0 r.x1 r.x2 r.x3 G3 r6' (Ca.ok_loadT (hok.sets x.1 (by unfold tmsOf; exact List.mem_map_of_mem (List.mem_of_getElem? hx))) _ _ _ _)
    simp only [notesV] at hgv
    simp (disch := first | omega | assumption | decide | (simp <;> omega) | fail) [facts, r3, gn, gx]
    refine hgv.mono ?_
    rintro v G4 ⟨rfl, hle4, r6''⟩
    replace ow := own_dele ow hb6H hb6R hle4
    replace r3 := hle4 _ _ (Ca.dele_get q36 r3)
    by_cases hge : giveE (loadT x.1.s r.x4 r.x5 r.x6 r.x7) r.n0 r.n1 r.n2 r.n3 r.x0 r.x1 r.x2 r.x3 = 0
    case neg =>
      rw [if_pos hge] at hdB
      subst hdB
      simp (disch := first | omega | assumption | decide | (simp <;> omega) | fail) [facts, hge]
      exact ⟨_, Heap.le_refl _, R, ow, lv, W, hB, rfl⟩
    rw [if_neg (not_not_intro hge)] at hdB
    subst hdB
    simp (disch := first | omega | assumption | decide | (simp <;> omega) | fail) [facts, hge]
    obtain ⟨y, hy⟩ : ∃ y : Tm, y = ⟨giveT (loadT x.1.s r.x4 r.x5 r.x6 r.x7) r.n0 r.n1 r.n2 r.n3 r.x0 r.x1 r.x2 r.x3, false, r.amount⟩ := ⟨_, rfl⟩
    obtain ⟨tail, room, hrow, hB2⟩ := rnew hB hiT y b6 hb6R
    have hrowG := ow.le _ _ hrow
    have q3t : b3 ≠ tb := fun e => by rw [← e, hb3R] at hrow; cases hrow
    have q6t : b6 ≠ tb := fun e => by rw [← e, hb6R] at hrow; cases hrow
    have hs0 : (rowsC tpL W ++ tail).set (i * 3) (.pointer (some ⟨b6, 0, none⟩)) = rowsC tpL (W.set i (x.1, b6)) ++ tail := rowsC_set1 tp3 tail hx (j := 0) (x' := (x.1, b6)) (by decide) rfl
    have hs1 : (rowsC tpL (W.set i (x.1, b6)) ++ tail).set (i * 3 + 2) (.int .i64 r.amount) = rowsC tpL (W.set i ({ x.1 with ld := r.amount }, b6)) ++ tail := by
      have := rowsC_set1 (f := tpL) tp3 tail (xs := W.set i (x.1, b6)) (k := i) (x := (x.1, b6)) (j := 2) (x' := ({ x.1 with ld := r.amount }, b6)) (v := .int .i64 r.amount) (by rw [List.getElem?_set_self hiT]) (by decide) rfl
      rw [List.set_set] at this; exact this
    have hs2 : (rowsC tpL (W.set i ({ x.1 with ld := r.amount }, b6)) ++ tail).set (i * 3 + 1) (.bool false) = rowsC tpL (W.set i (y, b6)) ++ tail := by
      have := rowsC_set1 (f := tpL) tp3 tail (xs := W.set i ({ x.1 with ld := r.amount }, b6)) (k := i) (x := ({ x.1 with ld := r.amount }, b6)) (j := 1) (x' := (y, b6)) (v := .bool false) (by rw [List.getElem?_set_self hiT]) (by decide) (by rw [hy]; rfl)
      rw [List.set_set] at this; exact this
    have hl0 : (rowsC tpL W ++ tail).length = W.length * 3 + tail.length := by rw [List.length_append, rowsC_len tp3]
    have hl1 : (rowsC tpL (W.set i (x.1, b6)) ++ tail).length = W.length * 3 + tail.length := by rw [List.length_append, rowsC_len tp3, List.length_set]
    have hl2 : (rowsC tpL (W.set i ({ x.1 with ld := r.amount }, b6)) ++ tail).length = W.length * 3 + tail.length := by rw [List.length_append, rowsC_len tp3, List.length_set]
    generalize rowsC tpL (W.set i (x.1, b6)) ++ tail = X1 at hs0 hs1 hl1
    generalize rowsC tpL (W.set i ({ x.1 with ld := r.amount }, b6)) ++ tail = X2 at hs1 hs2 hl2
    have hf0 : i * 3 < (rowsC tpL W ++ tail).length := by omega
    have hf1 : i * 3 + 2 < X1.length := by omega
    have hf2 : i * 3 + 1 < X2.length := by omega
    have hd0 : to + i * 3 - to = i * 3 := by omega
    have hd1 : to + i * 3 + 1 - to = i * 3 + 1 := by omega
    have hd2 : to + i * 3 + 2 - to = i * 3 + 2 := by omega
    have ow2 := (ow.set hrow (.row true to (rowsC tpL (W.set i (y, b6)) ++ tail) room)).take (o := .row true 0 (flat y.s) 0) hb6H (by rw [upd_ne _ _ q6t, hy]; exact r6'')
    generalize rowsC tpL (W.set i (y, b6)) ++ tail = X3 at hs2 ow2 hB2
    generalize rowsC tpL W ++ tail = X0 at hs0 hl0 hf0 hrow hrowG
    refine w_plan (P := Tryz.prog) (by simp [facts]) (opsP [0,1,2,3,4,6,7] (.both (opsP [5,8,9,10,11,12,13,14] .done) (opsP [8,5,9,10,11,12,13,14] .done))) ?_ ?_
    · decide +kernel
    simp (disch := first | omega | assumption | decide | (simp <;> omega) | fail) [facts, r3, g4, g4b, hrowG, hd0, hd1, hd2, hs0, hs1, hs2, upd_upd, upd_ne]
    have fin : ∃ R', Own H R (upd G4 tb (.row true to X3 room)) R' ∧ ∃ lv' W', RefR R' q (.slice (some ⟨tb, to, none⟩) W.length c) lv' W' L ∧ tmsOf W' = (tmsOf W).set i y :=
      ⟨_, ow2, lv, W.set i (y, b6), hB2, by unfold tmsOf; rw [List.map_set]⟩
    rw [hy] at fin
    try (repeat' apply And.intro)
    all_goals exact ⟨_, Heap.le_refl _, fin⟩
  rw [if_neg h8] at hdB
  have hr := hrR h8 h9
  obtain ⟨la, lc, rfl, hsL, hcL⟩ := hB.lst.sl (Heap.le_refl R)
  have hLn := hok.len
  simp only at hLn
  have fk : List.take 2 rl.tail = [.int .u16 r.term, .int .u32 r.stan] := by rw [hrl]; rfl
  have hat : ECalls Tryz.prog 31 #[.pointer (some ⟨q, 0, none⟩), .agg #[.int .u16 r.term, .int .u32 r.stan]] G1 fun v H' => v = .tuple #[.int .i64 (atZ (kyR r) L), .bool (isAt (kyR r) L)] ∧ Heap.le G1 H' :=
    at_c G1 q _ _ W L (hB.le ow.le) (by omega) (kyR r)
  have hgL := isAt_get (k := kyR r) hok.ord
  have hgS := isAt_some (k := kyR r) hok.ord
  simp only at hgL hgS
  obtain ⟨n, hn⟩ : ∃ n, n = atZ (kyR r) L := ⟨_, rfl⟩
  obtain ⟨is, his⟩ : ∃ b, b = isAt (kyR r) L := ⟨_, rfl⟩
  have hnle : n ≤ L.length := by rw [hn]; exact atZ_le _ _
  rw [← hn] at hat hgL
  rw [← his] at hat hgL hgS
  obtain ⟨w, hw⟩ : ∃ w, w = (getK (kyR r) L).getD zeroT := ⟨_, rfl⟩
  simp (disch := first | omega | assumption | decide | (simp <;> omega) | fail) [facts, h8, h9, r3, fk]
  refine hat.mono ?_
  rintro v G2 ⟨rfl, hle2⟩
  replace ow := ow.grow hle2
  replace r3 := hle2 _ _ r3
  simp (disch := first | omega | assumption | decide | (simp <;> omega) | fail) [facts, ]
  refine fresh_intro fun b10 hb10 => ?_
  have q310 : b3 ≠ b10 := ne_of_fresh hb10 r3
  have hb10R : R b10 = none := le_of_none ow.le hb10
  have hb10H : H b10 = none := le_of_none (Heap.le_trans hHG (Heap.le_trans hle1 hle2)) hb10
  have r10 := upd_same G2 b10 (.row true 0 [.int .u16 0, .int .u32 0, .string (mkS []), .int .i64 0, .int .i64 0, .int .i64 0, .int .i64 0, .int .i64 0, .int .i64 0, .int .i64 0, .int .i64 0] 0)
  replace r3 := upd_other (o := .row true 0 [.int .u16 0, .int .u32 0, .string (mkS []), .int .i64 0, .int .i64 0, .int .i64 0, .int .i64 0, .int .i64 0, .int .i64 0, .int .i64 0, .int .i64 0] 0) hb10 r3
  replace ow := ow.grow (le_upd (.row true 0 [.int .u16 0, .int .u32 0, .string (mkS []), .int .i64 0, .int .i64 0, .int .i64 0, .int .i64 0, .int .i64 0, .int .i64 0, .int .i64 0, .int .i64 0] 0) hb10)
  simp (disch := first | omega | assumption | decide | (simp <;> omega) | fail) [facts, upd_upd]
  generalize upd G2 b10 _ = G3 at *
  have hqG := ow.le _ _ hB.row
  obtain ⟨I, hI⟩ : ∃ I : St → Prop, I = (fun s => s.env 0 = .pointer (some ⟨q, 0, none⟩) ∧ s.env 3 = .pointer (some ⟨b3, 0, none⟩) ∧ s.env 5 = .pointer (some ⟨tb, to + i * 3, none⟩) ∧ s.env 8 = .int .i64 n ∧ s.env 9 = .bool is ∧ s.env 10 = .pointer (some ⟨b10, 0, none⟩) ∧ Own H R s.heap R ∧ s.heap b3 = some (.row true 0 rl 0) ∧ s.heap b10 = some (.row true 0 (txnL w) 0)) := ⟨_, rfl⟩
  refine cond_cut3 I ?_ ?_
  · cases hisc : is with
    | true =>
      rw [hisc] at hgL hgS
      simp only [if_true] at hgL
      have hlt : n < L.length := by
        rcases Nat.lt_or_ge n L.length with h | h
        · exact h
        · rw [List.getElem?_eq_none h] at hgL; rw [← hgL] at hgS; cases hgS
      have hltI : (n : Int) < (L.length : Int) := by omega
      obtain ⟨t, ht⟩ : ∃ t, L[n]? = some t := ⟨_, List.getElem?_eq_getElem hlt⟩
      obtain ⟨ab, ao, rfl⟩ := hsL.lit (by omega)
      have rk : rdNU (G3 ab) (ao + n * 11) 11 = some (txnL t) := (hsL.le ow.le).el txn11 ht (j := 0) (r := 11) (by decide) (by decide)
      have hwt : w = t := by rw [hw, ← hgL, ht]; rfl
      have tl := txn11 t
      have tone := txn1 t
      have j11 : List.take 11 (txnL t) = txnL t := rfl
      have hspl : splice [.int .u16 0, .int .u32 0, .string (mkS []), .int .i64 0, .int .i64 0, .int .i64 0, .int .i64 0, .int .i64 0, .int .i64 0, .int .i64 0, .int .i64 0] 0 (txnL t) = txnL t := splice_all rfl
      simp (disch := first | omega | assumption | decide | (simp <;> omega) | fail) [facts, hqG, hltI, rk, r10, hspl, j11]
      subst hI
      refine ⟨by simp, by simp, by simp, by simp, by simp [hisc], by simp, ?_, ?_, ?_⟩
      · exact own_dele ow hb10H hb10R (fun b o h => by
          have hne : b ≠ b10 := fun e => by subst e; rw [Ca.dele_none] at h; cases h
          rw [dele_ne _ hne] at h
          simp only
          rw [upd_ne _ _ hne]; exact h)
      · simp only; rw [upd_ne _ _ q310]; exact r3
      · simp only; rw [hwt]; exact upd_same _ _ _
    | false =>
      rw [hisc] at hgL hgS
      simp only [Bool.false_eq_true, if_false] at hgL
      have hwt : w = zeroT := by rw [hw, ← hgL]; rfl
      simp (disch := first | omega | assumption | decide | (simp <;> omega) | fail) [facts, ]
      subst hI
      refine ⟨by simp, by simp, by simp, by simp, by simp [hisc], by simp, ow, r3, ?_⟩
      rw [hwt]; exact r10
  clear hqG r10 r3 ow hat
  rintro ⟨env, G4⟩ hII
  subst hI
  obtain ⟨e0, e3, e5, e8, e9, e10, ow, r3, r10⟩ := hII
  simp only at e0 e3 e5 e8 e9 e10 ow r3 r10
  have k11 : List.take 11 (txnL w) = txnL w := rfl
  have tlw := txn11 w
  have tonew := txn1 w
  have hwt : RightT w ∧ (w = zeroT ∨ kyT w = kyR r) := by
    rw [hw]
    cases hg : getK (kyR r) L with
    | none => exact ⟨.inl rfl, .inl rfl⟩
    | some t =>
      obtain ⟨h1, h2⟩ := getK_some hg
      exact ⟨.inr (hok.ok t h1), .inr h2⟩
  have hstep := fun G => St.step17_c w r G hwt.1 hr (hwt.2.imp id fun h => by
    have h1 : (kyT w).t = (kyR r).t := by rw [h]
    have h2 : (kyT w).s = (kyR r).s := by rw [h]
    exact ⟨h1.symm, h2.symm⟩)
  obtain ⟨u, hu⟩ : ∃ u, u = stepF w r := ⟨_, rfl⟩
  have hsB : stepB ⟨tmsOf W, L⟩ x.1 r = if u.2 ≠ 0 then (⟨tmsOf W, L⟩, u.2) else if is = false ∧ 400 ≤ L.length then (⟨tmsOf W, L⟩, 21) else if r.kind = 6 then
      (if giveE x.1.s r.n0 r.n1 r.n2 r.n3 r.x0 r.x1 r.x2 r.x3 ≠ 0 then (⟨tmsOf W, L⟩, giveE x.1.s r.n0 r.n1 r.n2 r.n3 r.x0 r.x1 r.x2 r.x3) else (⟨(tmsOf W).set i { x.1 with s := giveT x.1.s r.n0 r.n1 r.n2 r.n3 r.x0 r.x1 r.x2 r.x3 }, insL u.1 L⟩, 0)) else (⟨tmsOf W, insL u.1 L⟩, 0) := by
    rw [hu, hw, hgS, ← hiN]; rfl
  rw [hsB] at hdB
  clear hsB
  rw [← hu] at hstep
  have q1l := txn11 u.1
  have q1o := txn1 u.1
  simp only [e1, pairV, txnV] at hstep
  rw [← hrl] at hstep
  have hspq : splice [.int .u16 0, .int .u32 0, .string (mkS []), .int .i64 0, .int .i64 0, .int .i64 0, .int .i64 0, .int .i64 0, .int .i64 0, .int .i64 0, .int .i64 0] 0 (txnL u.1) = txnL u.1 := splice_all rfl
  simp (disch := first | omega | assumption | decide | (simp <;> omega) | fail) [facts, e3, e10, r3, r10, k11, k17]
  refine (hstep G4).mono ?_
  rintro v G5 ⟨rfl, hle5⟩
  replace ow := ow.grow hle5
  replace r3 := hle5 _ _ r3
  simp (disch := first | omega | assumption | decide | (simp <;> omega) | fail) [facts, ]
  refine fresh_intro fun b11 hb11 => ?_
  have q311 : b3 ≠ b11 := ne_of_fresh hb11 r3
  simp (disch := first | omega | assumption | decide | (simp <;> omega) | fail) [facts, upd_upd, hspq]
  have r11 := upd_same G5 b11 (.row true 0 (txnL u.1) 0)
  replace r3 := upd_other (o := .row true 0 (txnL u.1) 0) hb11 r3
  have hb11R : R b11 = none := le_of_none ow.le hb11
  replace ow := ow.grow (le_upd (.row true 0 (txnL u.1) 0) hb11)
  clear r10
  generalize upd G5 b11 _ = G6 at *
  by_cases he : u.2 = 0
  case neg =>
    rw [if_pos he] at hdB
    subst hdB
    simp (disch := first | omega | assumption | decide | (simp <;> omega) | fail) [facts, he]
    exact ⟨_, Heap.le_refl _, R, ow, _, W, hB, rfl⟩
  rw [if_neg (not_not_intro he)] at hdB
  obtain ⟨hqo, hqk⟩ := step_ok hwt.1 hr hwt.2 (by rw [← hu]; exact he)
  rw [← hu] at hqo hqk
  have hqG := ow.le _ _ hB.row
  by_cases hful : is = false ∧ 400 ≤ L.length
  case pos =>
    rw [if_pos hful] at hdB
    subst hdB
    have hfI : (400 : Int) ≤ (L.length : Int) := by omega
    have e9' := e9
    rw [hful.1] at e9'
    simp (disch := first | omega | assumption | decide | (simp <;> omega) | fail) [facts, he, e0, e9', hqG, hfI]
    exact ⟨_, Heap.le_refl _, R, ow, _, W, hB, rfl⟩
  rw [if_neg hful] at hdB
  obtain ⟨I, hI⟩ : ∃ I : St → Prop, I = (fun s => s.env 0 = .pointer (some ⟨q, 0, none⟩) ∧ s.env 3 = .pointer (some ⟨b3, 0, none⟩) ∧ s.env 5 = .pointer (some ⟨tb, to + i * 3, none⟩) ∧ s.env 8 = .int .i64 n ∧ s.env 9 = .bool is ∧ s.env 11 = .pointer (some ⟨b11, 0, none⟩) ∧ s.heap = G6) := ⟨_, rfl⟩
  refine cond_cut3 I ?_ ?_
  · simp (disch := first | omega | assumption | decide | (simp <;> omega) | fail) [facts, he]
    subst hI
    exact ⟨by simp [e0], by simp [e3], by simp [e5], by simp [e8], by simp [e9], by simp, rfl⟩
  clear e0 e3 e5 e8 e9 e10
  rintro ⟨env, G⟩ hII
  refine ewp_seq_cut (I := I) ?_ ?_
  · subst hI
    obtain ⟨e0, e3, e5, e8, e9, e11, hG⟩ := hII
    simp only at e0 e3 e5 e8 e9 e11 hG
    subst hG
    cases hisc : is with
    | true =>
      rw [hisc] at e9
      simp (disch := first | omega | assumption | decide | (simp <;> omega) | fail) [facts, e0, e3, e5, e8, e9, hqG]
      exact e11
    | false =>
      have hfI : ¬ (400 : Int) ≤ (L.length : Int) := by
        have : ¬ 400 ≤ L.length := fun h => hful ⟨hisc, h⟩
        omega
      rw [hisc] at e9
      simp (disch := first | omega | assumption | decide | (simp <;> omega) | fail) [facts, e0, e3, e5, e8, e9, hqG, hfI]
      exact e11
  clear hII
  rintro ⟨env, G⟩ hII
  subst hI
  obtain ⟨e0, e3, e5, e8, e9, e11, hG⟩ := hII
  simp only at e0 e3 e5 e8 e9 e11 hG
  subst hG
  simp (disch := first | omega | assumption | decide | (simp <;> omega) | fail) [facts, e3, r3, g0, g0b]
  have hgv := Ca.giveB_c x.1.s x.2 r.n0 r.n1 r.n2 r.n3 r.x0 r.x1 r.x2 r.x3 G (ow.le _ _ (hB.set x (List.mem_of_getElem? hx))) (hok.sets x.1 (by unfold tmsOf; exact List.mem_map_of_mem (List.mem_of_getElem? hx)))
  simp only [notesV] at hgv
  have hxR := hB.set x (List.mem_of_getElem? hx)
  have q3x : b3 ≠ x.2 := fun e => by rw [← e, hb3R] at hxR; cases hxR
  have q11x : b11 ≠ x.2 := fun e => by rw [← e, hb11R] at hxR; cases hxR
  have rp : rd1U (G tb) (to + i * 3) = some (.pointer (some ⟨x.2, 0, none⟩)) := (hsT.le ow.le).el1 tp3 hx (j := 0) (by decide)
  obtain ⟨I, hI⟩ : ∃ I : St → Prop, I = (fun s => s.env 0 = .pointer (some ⟨q, 0, none⟩) ∧ s.env 8 = .int .i64 n ∧ s.env 9 = .bool is ∧ s.env 11 = .pointer (some ⟨b11, 0, none⟩) ∧ ∃ R2 W2, res = (⟨tmsOf W2, insL u.1 L⟩, 0) ∧ Own H R s.heap R2 ∧ s.heap b11 = some (.row true 0 (txnL u.1) 0) ∧ RefR R2 q (.slice (some ⟨tb, to, none⟩) W.length c) (.slice la L.length lc) W2 L) := ⟨_, rfl⟩
  refine cond_cut3 I ?_ ?_
  · by_cases h6 : r.kind = 6
    case neg =>
      rw [if_neg h6] at hdB
      simp (disch := first | omega | assumption | decide | (simp <;> omega) | fail) [facts, h6]
      subst hI
      exact ⟨by simp [e0], by simp [e8], by simp [e9], by simp [e11], R, W, hdB, ow, r11, hB⟩
    rw [if_pos h6] at hdB
    simp (disch := first | omega | assumption | decide | (simp <;> omega) | fail) [facts, h6]
    refine w_plan (P := Tryz.prog) (by simp [facts]) (opsP [0,1,2,3,4,5,6,7,8,9] .done) ?_ ?_
    · decide +kernel
    simp (disch := first | omega | assumption | decide | (simp <;> omega) | fail) [facts, e3, e5, r3, rp, gn, gx]
    refine hgv.mono ?_
    rintro v G7 ⟨rfl, hle7, rx7⟩
    by_cases hge : giveE x.1.s r.n0 r.n1 r.n2 r.n3 r.x0 r.x1 r.x2 r.x3 = 0
    case neg =>
      rw [if_pos hge] at hdB
      subst hdB
      have hsame : giveT x.1.s r.n0 r.n1 r.n2 r.n3 r.x0 r.x1 r.x2 r.x3 = x.1.s := by
        unfold giveE at hge
        unfold giveT
        split
        · rename_i h1
          rw [if_pos h1] at hge
          split
          · rename_i h2; rw [if_pos h2] at hge; exact absurd rfl hge
          · rfl
        · rfl
      rw [hsame] at rx7
      have hle : Heap.le G G7 := fun b o h => by
        by_cases hb : b = x.2
        · rw [hb, ow.le _ _ hxR] at h
          rw [hb, rx7]; exact h
        · exact hle7 _ _ (by rw [dele_ne _ hb]; exact h)
      simp (disch := first | omega | assumption | decide | (simp <;> omega) | fail) [facts, hge]
      exact ⟨_, Heap.le_refl _, R, ow.grow hle, _, W, hB, rfl⟩
    rw [if_neg (not_not_intro hge)] at hdB
    simp (disch := first | omega | assumption | decide | (simp <;> omega) | fail) [facts, hge]
    subst hI
    refine ⟨by simp [e0], by simp [e8], by simp [e9], by simp [e11], _, _, ?_, ow.chg hxR hle7 rx7, hle7 _ _ (Ca.dele_get q11x r11), rset hB hx _⟩
    rw [hdB]
    unfold tmsOf
    rw [List.map_set]
  clear e0 e3 e5 e8 e9 e11 ow r11 r3 hqG hgv rp
  rintro ⟨env, G⟩ hII
  subst hI
  obtain ⟨e0, e8, e9, e11, R2, W2, hres, ow, r11, hB2⟩ := hII
  simp only at e0 e8 e9 e11 ow r11
  have hqG := ow.le _ _ hB2.row
  have j11 : List.take 11 (txnL u.1) = txnL u.1 := rfl
  have hins := insL_atZ u.1 hok.ord
  rw [hqk, ← hn, ← his] at hins
  subst hres
  simp only
  cases hisc : is with
  | true =>
    rw [hisc] at hgL hgS hins e9
    simp only [if_true] at hgL hins
    have hlt : n < L.length := by
      rcases Nat.lt_or_ge n L.length with h | h
      · exact h
      · rw [List.getElem?_eq_none h] at hgL; rw [← hgL] at hgS; cases hgS
    have hltI : (n : Int) < (L.length : Int) := by omega
    obtain ⟨ab, ao, rfl⟩ := hsL.lit (by omega)
    obtain ⟨tail, room, hrow, hspl2, hfit2, hB3⟩ := rlset hB2 hlt u.1
    have hrowG := ow.le _ _ hrow
    simp (disch := first | omega | assumption | decide | (simp <;> omega) | fail) [facts, e9]
    refine w_plan (P := Tryz.prog) (by simp [facts]) (opsP [0,1,2,3,4,5,6,7] .done) ?_ ?_
    · decide +kernel
    simp (disch := first | omega | assumption | decide | (simp <;> omega) | fail) [facts, e0, e8, e9, e11, hqG, hltI, r11, j11, hrowG, hspl2]
    rw [hins]
    exact ⟨_, Heap.le_refl _, _, ow.set hrow _, _, W2, hB3, rfl⟩
  | false =>
    rw [hisc] at hins e9
    simp only [Bool.false_eq_true, if_false] at hins
    simp (disch := first | omega | assumption | decide | (simp <;> omega) | fail) [facts, e9]
    rcases hB2.lst with ⟨hlv, hL0, _⟩ | ⟨lb, lo, lc', ltail, lroom, hlv, hlrow, _, hcap', _⟩
    · simp only [Value.slice.injEq] at hlv
      obtain ⟨rfl, _, rfl⟩ := hlv
      have hLn : L = [] := List.eq_nil_of_length_eq_zero hL0
      subst hLn
      have hn0 : n = 0 := by simpa using hnle
      rw [hn0] at e8 hins
      clear hn hgL hL0
      have hspB : splice (zeros [.int .u16 0, .int .u32 0, .string (mkS []), .int .i64 0, .int .i64 0, .int .i64 0, .int .i64 0, .int .i64 0, .int .i64 0, .int .i64 0, .int .i64 0] 1) 0 (txnL u.1) = txnL u.1 := splice_all rfl
      refine w_growL (by simp [facts]) 20 [136,137,138,139,140,141,142,143,144,145,146,147,148,149,150,151,152,153,154,155] [.eq (.pointer (some ⟨q, 0, none⟩)), .eq (.pointer (some ⟨q, 0, none⟩)), .eq (.pointer (some ⟨q, 0, none⟩)), .eq (.pointer (some ⟨q, 1, none⟩)), .eq (.slice none 0 0), .eq (.int .i64 0), .eq (.int .i64 0), .eq (.slice none 0 0), .eq (.agg (txnL u.1).toArray), .new G (txnL u.1) (fun b => .slice (some ⟨b, 0, none⟩) 1 1), .eq (.pointer (some ⟨q, 0, none⟩)), .eq (.pointer (some ⟨q, 0, none⟩)), .eq (.pointer (some ⟨q, 1, none⟩)), .eq (.slice none 0 0), .eq (.int .i64 0), .eq (.slice none 0 0), .as (fun v H' => ∃ a c, v = .slice a (1) c ∧ SlA H' a (1) 11 (txnL u.1) ∧ 1 ≤ c) (fun _ _ _ hl ⟨a, c, e, h1, h2⟩ => ⟨a, c, e, h1.le hl, h2⟩), .as (fun v H' => ∃ b c room, v = .slice (some ⟨b, 0, none⟩) (1) c ∧ G b = none ∧ H' b = some (.row true 0 (txnL u.1) room) ∧ 1 ≤ c ∧ c * 11 ≤ (1) * 11 + room) (fun _ _ _ hl ⟨b, c, r, e, h0, h1, h2⟩ => ⟨b, c, r, e, h0, hl _ _ h1, h2⟩), .eq (.pointer (some ⟨q, 0, none⟩)), .eq (.pointer (some ⟨q, 1, none⟩))] (by decide +kernel) rfl ?_ ?_
      · simp only [List.take_succ_cons, List.take_zero, allL_cons, allL_nil]
        refine ⟨?_, ?_, ?_, ?_, ?_, ?_, ?_, ?_, ?_, ?_, ?_, ?_, ?_, ?_, ?_, ?_, ?_, ?_, ?_, ?_, trivial⟩
        all_goals (unfold stepL; intro f Hx hl ha; have hqx := hl _ _ hqG; have r11x := hl _ _ r11)
        all_goals try (simp (disch := first | omega | assumption | decide | (simp <;> omega) | fail) [facts, e0, e8, e11, hqx, r11x, j11]; done)
        · simp (disch := first | omega | assumption | decide | (simp <;> omega) | fail) [facts, e0, e8, e11, hqx, r11x, j11]
          refine fresh_intro fun b hb => ?_
          simp (disch := first | omega | assumption | decide | (simp <;> omega) | fail) [facts, hspB]
          exact ⟨le_upd _ hb, le_of_none hl hb⟩
        · replace ha : (∃ b, f 145 = .slice (some ⟨b, 0, none⟩) 1 1 ∧ G b = none ∧ Hx b = some (.row true 0 (txnL u.1) 0)) := by simpa using ha
          obtain ⟨b, f145, _, rb⟩ := ha
          simp (disch := first | omega | assumption | decide | (simp <;> omega) | fail) [facts, e0, e8, e11, hqx, r11x, j11]
          rw [f145]
          refine tx_one rb (l := 0) (D := []) (by simp [srcOf, facts]; rfl) (by simp) (by omega) ?_
          intro a' c' H' hle' hsl' hc'
          simp (disch := first | omega | assumption | decide | (simp <;> omega) | fail) [facts, ]
          exact ⟨hle', a', c', ⟨rfl, rfl⟩, by simpa [rowsC] using hsl', hc'⟩
        · replace ha : (∃ a c, f 152 = .slice a (1) c ∧ SlA Hx a (1) 11 (txnL u.1) ∧ 1 ≤ c) := by simpa using ha
          obtain ⟨a, c, f152, s152, hc152⟩ := ha
          simp (disch := first | omega | assumption | decide | (simp <;> omega) | fail) [facts, e0, e8, e11, hqx, r11x, j11]
          rw [f152]
          refine tx_new (F := Hx) (cs := []) (SlA.nil _ _) (Heap.le_refl Hx) (src_sl (e1 := 67) (z := txnV zeroT) (by simp [facts]) (by simp [facts]) zeroTx s152) s152.len (txn1 _) (by omega) (by omega) ?_
          intro b' c' room hb' hc' hf'
          simp (disch := first | omega | assumption | decide | (simp <;> omega) | fail) [facts, ]
          exact ⟨le_upd _ hb', b', c', ⟨rfl, rfl⟩, le_of_none hl hb', room, by simp, hc', hf'⟩
      intro f H4 hle4 hkn
      replace hkn : (∃ b, f 145 = .slice (some ⟨b, 0, none⟩) 1 1 ∧ G b = none ∧ H4 b = some (.row true 0 (txnL u.1) 0)) ∧ (∃ a c, f 152 = .slice a (1) c ∧ SlA H4 a (1) 11 (txnL u.1) ∧ 1 ≤ c) ∧ (∃ b c room, f 153 = .slice (some ⟨b, 0, none⟩) (1) c ∧ G b = none ∧ H4 b = some (.row true 0 (txnL u.1) room) ∧ 1 ≤ c ∧ c * 11 ≤ (1) * 11 + room) := by simpa using hkn
      obtain ⟨_, _, b, c', room, f153, hbG, hbr, hcap, hfit⟩ := hkn
      have hq4 := hle4 _ _ hqG
      simp (disch := first | omega | assumption | decide | (simp <;> omega) | fail) [facts, f153, hq4]
      obtain ⟨L', hL'⟩ : ∃ L', L' = [u.1] := ⟨_, rfl⟩
      have hLl : L'.length = 1 := by rw [hL']; rfl
      have hrows : rowsC txnL L' = txnL u.1 := by rw [hL']; exact rowsC_single _
      have hqb : q ≠ b := fun e => by rw [← e, hqG] at hbG; cases hbG
      have ow5 := ow.take2 hle4 hbG hbr
      have ow6 := ow5.set (by rw [upd_ne _ _ hqb]; exact hB2.row) (.row true 0 [.slice (some ⟨tb, to, none⟩) W.length c, .slice (some ⟨b, 0, none⟩) (1) c'] 0)
      have hB3 := rlnew (L' := L') hB2 (le_of_none ow.le hbG) (by rw [hLl]; exact hcap) (by rw [hLl]; exact hfit)
      rw [hrows, hLl] at hB3
      have hins2 : insL u.1 [] = L' := by rw [hL']; rfl
      rw [hins2]
      exact ⟨_, Heap.le_refl _, _, ow6, _, W2, hB3, rfl⟩
    cases hlv
    have hcI : (L.length : Int) ≤ (lc : Int) := by omega
    have hnI : (n : Int) ≤ (L.length : Int) := by omega
    have hlc : L.length ≤ lc := by omega
    have hspB : splice (zeros [.int .u16 0, .int .u32 0, .string (mkS []), .int .i64 0, .int .i64 0, .int .i64 0, .int .i64 0, .int .i64 0, .int .i64 0, .int .i64 0, .int .i64 0] 1) 0 (txnL u.1) = txnL u.1 := splice_all rfl
    have hsl2 : SlA G (some ⟨lb, lo, none⟩) L.length 11 (rowsC txnL L) := by
      obtain ⟨a2, c2, e2, h2, _⟩ := hB2.lst.sl ow.le
      cases e2; exact h2
    have hcutS : ∀ {Hx : Heap}, Heap.le G Hx → SlA Hx (some ⟨lb, lo, none⟩) n 11 (rowsC txnL (L.take n)) := by
      intro Hx hl
      have hcut := hB2.lst.cut (k := n) hnle
      rw [rowsC_take txn11] at hcut
      obtain ⟨a2, c2, e2, h2, _⟩ := hcut.sl (Heap.le_trans ow.le hl)
      cases e2; exact h2
    refine w_growL (by simp [facts]) 20 [136,137,138,139,140,141,142,143,144,145,146,147,148,149,150,151,152,153,154,155] [.eq (.pointer (some ⟨q, 0, none⟩)), .eq (.pointer (some ⟨q, 0, none⟩)), .eq (.pointer (some ⟨q, 0, none⟩)), .eq (.pointer (some ⟨q, 1, none⟩)), .eq (.slice (some ⟨lb, lo, none⟩) L.length lc), .eq (.int .i64 n), .eq (.int .i64 n), .eq (.slice (some ⟨lb, lo, none⟩) n n), .eq (.agg (txnL u.1).toArray), .new G (txnL u.1) (fun b => .slice (some ⟨b, 0, none⟩) 1 1), .eq (.pointer (some ⟨q, 0, none⟩)), .eq (.pointer (some ⟨q, 0, none⟩)), .eq (.pointer (some ⟨q, 1, none⟩)), .eq (.slice (some ⟨lb, lo, none⟩) L.length lc), .eq (.int .i64 n), .eq (.slice (if lc = n then some ⟨lb, lo, none⟩ else some ⟨lb, lo + n * 11, none⟩) (L.length - n) (lc - n)), .as (fun v H' => ∃ a c, v = .slice a (1 + (L.length - n)) c ∧ SlA H' a (1 + (L.length - n)) 11 (txnL u.1 ++ rowsC txnL (L.drop n)) ∧ 1 + (L.length - n) ≤ c) (fun _ _ _ hl ⟨a, c, e, h1, h2⟩ => ⟨a, c, e, h1.le hl, h2⟩), .as (fun v H' => ∃ b c room, v = .slice (some ⟨b, 0, none⟩) (n + (1 + (L.length - n))) c ∧ G b = none ∧ H' b = some (.row true 0 (rowsC txnL (L.take n) ++ (txnL u.1 ++ rowsC txnL (L.drop n))) room) ∧ n + (1 + (L.length - n)) ≤ c ∧ c * 11 ≤ (n + (1 + (L.length - n))) * 11 + room) (fun _ _ _ hl ⟨b, c, r, e, h0, h1, h2⟩ => ⟨b, c, r, e, h0, hl _ _ h1, h2⟩), .eq (.pointer (some ⟨q, 0, none⟩)), .eq (.pointer (some ⟨q, 1, none⟩))] (by decide +kernel) rfl ?_ ?_
    · simp only [List.take_succ_cons, List.take_zero, allL_cons, allL_nil]
      refine ⟨?_, ?_, ?_, ?_, ?_, ?_, ?_, ?_, ?_, ?_, ?_, ?_, ?_, ?_, ?_, ?_, ?_, ?_, ?_, ?_, trivial⟩
      all_goals (unfold stepL; intro f Hx hl ha; have hqx := hl _ _ hqG; have r11x := hl _ _ r11)
      all_goals try (simp (disch := first | omega | assumption | decide | (simp <;> omega) | fail) [facts, e0, e8, e11, hqx, r11x, j11, hnI, hcI]; done)
      · simp (disch := first | omega | assumption | decide | (simp <;> omega) | fail) [facts, e0, e8, e11, hqx, r11x, j11, hnI, hcI]
        refine fresh_intro fun b hb => ?_
        simp (disch := first | omega | assumption | decide | (simp <;> omega) | fail) [facts, hspB]
        exact ⟨le_upd _ hb, le_of_none hl hb⟩
      · replace ha : (∃ b, f 145 = .slice (some ⟨b, 0, none⟩) 1 1 ∧ G b = none ∧ Hx b = some (.row true 0 (txnL u.1) 0)) := by simpa using ha
        obtain ⟨b, f145, _, rb⟩ := ha
        simp (disch := first | omega | assumption | decide | (simp <;> omega) | fail) [facts, e0, e8, e11, hqx, r11x, j11, hnI, hcI]
        rw [f145]
        refine tx_one rb (l := L.length - n) (D := L.drop n) (by have := src_tail (P := Tryz.prog) (e := 67) (t1 := 52) (e1 := 67) (z := txnV zeroT) (l := n) (by simp [facts]) (by simp [facts]) zeroTx (hsl2.le hl) hnle hlc; rw [rowsC_drop txn11] at this; simpa using this) (by simp) (by omega) ?_
        intro a' c' H' hle' hsl' hc'
        simp (disch := first | omega | assumption | decide | (simp <;> omega) | fail) [facts, ]
        exact ⟨hle', a', c', ⟨rfl, rfl⟩, hsl', hc'⟩
      · replace ha : (∃ a c, f 152 = .slice a (1 + (L.length - n)) c ∧ SlA Hx a (1 + (L.length - n)) 11 (txnL u.1 ++ rowsC txnL (L.drop n)) ∧ 1 + (L.length - n) ≤ c) := by simpa using ha
        obtain ⟨a, c, f152, s152, hc152⟩ := ha
        simp (disch := first | omega | assumption | decide | (simp <;> omega) | fail) [facts, e0, e8, e11, hqx, r11x, j11, hnI, hcI]
        rw [f152]
        refine tx_new (F := Hx) (hcutS hl) (Heap.le_refl Hx) (src_sl (e1 := 67) (z := txnV zeroT) (by simp [facts]) (by simp [facts]) zeroTx s152) s152.len (by rw [List.all_append, txn1, rowsC_one txn1]; rfl) (by omega) (by omega) ?_
        intro b' c' room hb' hc' hf'
        simp (disch := first | omega | assumption | decide | (simp <;> omega) | fail) [facts, ]
        exact ⟨le_upd _ hb', b', c', ⟨rfl, rfl⟩, le_of_none hl hb', room, by simp, hc', hf'⟩
    intro f H4 hle4 hkn
    replace hkn : (∃ b, f 145 = .slice (some ⟨b, 0, none⟩) 1 1 ∧ G b = none ∧ H4 b = some (.row true 0 (txnL u.1) 0)) ∧ (∃ a c, f 152 = .slice a (1 + (L.length - n)) c ∧ SlA H4 a (1 + (L.length - n)) 11 (txnL u.1 ++ rowsC txnL (L.drop n)) ∧ 1 + (L.length - n) ≤ c) ∧ (∃ b c room, f 153 = .slice (some ⟨b, 0, none⟩) (n + (1 + (L.length - n))) c ∧ G b = none ∧ H4 b = some (.row true 0 (rowsC txnL (L.take n) ++ (txnL u.1 ++ rowsC txnL (L.drop n))) room) ∧ n + (1 + (L.length - n)) ≤ c ∧ c * 11 ≤ (n + (1 + (L.length - n))) * 11 + room) := by simpa using hkn
    obtain ⟨_, _, b, c', room, f153, hbG, hbr, hcap, hfit⟩ := hkn
    have hq4 := hle4 _ _ hqG
    simp (disch := first | omega | assumption | decide | (simp <;> omega) | fail) [facts, f153, hq4]
    obtain ⟨L', hL'⟩ : ∃ L', L' = L.take n ++ u.1 :: L.drop n := ⟨_, rfl⟩
    have hLl : L'.length = n + (1 + (L.length - n)) := by rw [hL']; simp; omega
    have hrows : rowsC txnL L' = rowsC txnL (L.take n) ++ (txnL u.1 ++ rowsC txnL (L.drop n)) := by rw [hL']; rw [rowsC_app, rowsC_cons]
    have hqb : q ≠ b := fun e => by rw [← e, hqG] at hbG; cases hbG
    have ow5 := ow.take2 hle4 hbG hbr
    have ow6 := ow5.set (by rw [upd_ne _ _ hqb]; exact hB2.row) (.row true 0 [.slice (some ⟨tb, to, none⟩) W.length c, .slice (some ⟨b, 0, none⟩) (n + (1 + (L.length - n))) c'] 0)
    have hB3 := rlnew (L' := L') hB2 (le_of_none ow.le hbG) (by rw [hLl]; exact hcap) (by rw [hLl]; exact hfit)
    rw [hrows, hLl] at hB3
    have hins2 : insL u.1 L = L' := by rw [hL']; exact hins
    rw [hins2]
    exact ⟨_, Heap.le_refl _, _, ow6, _, W2, hB3, rfl⟩
end Go.Proofs.YtfpighmafofoeaaGreatDoor.GL
