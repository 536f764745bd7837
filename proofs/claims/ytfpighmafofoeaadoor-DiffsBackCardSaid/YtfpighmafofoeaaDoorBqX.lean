/- Layer 20: the plain book; how it lies in memory.; Layer 20: Get, Out, Loads, Cassettes.; Layer 20: All.; Layer 20: what is under way: IndexFunc, DeleteFunc, Open. -/
import Derived.Test.YtfpighmafofoeaaDoorBsT
import Derived.Test.YtfpighmafofoeaaDoorSoG
namespace Go.Proofs.YtfpighmafofoeaaDoor.GL
open Go Go.RowKit
open St (Txn txnL txnV zeroT RightT OkT stepF Rec RightR pairV)
open Ca (S4 flat setV OkS giveE giveT loadE loadT)
set_option maxRecDepth 10000
set_option pp.deepTerms.threshold 8
set_option pp.maxSteps 3000
set_option linter.unusedSimpArgs false
set_option linter.unusedVariables false

def kyT (t : Txn) : KZ := ⟨t.term, t.stan⟩
def entV (t : Txn) : Value × Value := (encK (kyT t), txnV t)
/-- A terminal: its cassettes, is it out, how often was it loaded. -/
structure Tm where
  s : S4
  out : Bool
  ld : Int
def Tm.cells (x : Tm) : List Value := flat x.s ++ [.bool x.out, .int .i64 x.ld]
theorem tm18 (x : Tm) : x.cells.length = 18 := rfl
theorem tm1 (x : Tm) : x.cells.all (·.oneCell') = true := rfl
theorem txn11 (t : Txn) : (txnL t).length = 11 := rfl
theorem txn1 (t : Txn) : (txnL t).all (·.oneCell') = true := rfl
structure Bz where
  T : List Tm
  L : List Txn
def idxK (k : KZ) : List Txn → Option Nat
  | [] => none
  | t :: l => if kyT t = k then some 0 else (idxK k l).map (· + 1)
def getK (k : KZ) (M : List Txn) : Option Txn := (idxK k M).bind fun i => M[i]?
def putM (u : Txn) (M : List Txn) : List Txn := match idxK (kyT u) M with | some i => M.set i u | none => M ++ [u]
theorem keyEq_k (x y : KZ) : keyEq Tryd.prog 38 (encK x) (encK y) = some (decide (y = x)) := by
  obtain ⟨a, b⟩ := x
  obtain ⟨c, d⟩ := y
  simp only [encK, keyEq, (by simp [facts] : und Tryd.prog 38 = .struct), qEq, (by simp [facts] : kinds Tryd.prog 38 = some [.int, .int])]
  simp [eqC_int, eqC_nil, Bool.decide_and, eq_comm]
theorem findK (k : KZ) : ∀ M : List Txn, findM Tryd.prog 38 (encK k) (M.map entV) = some (idxK k M)
  | [] => rfl
  | x :: l => by
    simp only [List.map_cons, findM, entV, keyEq_k, idxK]
    by_cases h : kyT x = k
    · simp [h]
    · simp only [h, decide_false, if_false]
      have ih := findK k l
      rw [ih]; rfl
theorem ksKey : keyStruct Tryd.prog 38 = some 2 := by kernel_rfl
theorem keyK (k : KZ) : keyOk Tryd.prog 38 (encK k) = true := by
  simp [keyOk, encK, (by simp [facts] : und Tryd.prog 38 = .struct), ksKey]
theorem idxK_some {k : KZ} : ∀ {M : List Txn} {i : Nat}, idxK k M = some i → ∃ t, M[i]? = some t ∧ kyT t = k
  | [], i, h => by cases h
  | x :: l, i, h => by
    unfold idxK at h
    by_cases hx : kyT x = k
    · rw [if_pos hx] at h; cases h; exact ⟨x, rfl, hx⟩
    · rw [if_neg hx] at h
      cases hi : idxK k l with
      | none => rw [hi] at h; cases h
      | some j =>
        rw [hi] at h; cases h
        obtain ⟨t, h1, h2⟩ := idxK_some hi
        exact ⟨t, by simpa using h1, h2⟩
theorem idxK_none {k : KZ} : ∀ {M : List Txn}, idxK k M = none → ∀ t ∈ M, kyT t ≠ k
  | [], _, t, ht => by cases ht
  | x :: l, h, t, ht => by
    unfold idxK at h
    by_cases hx : kyT x = k
    · rw [if_pos hx] at h; cases h
    · rw [if_neg hx] at h
      have hn : idxK k l = none := by
        cases hi : idxK k l with
        | none => rfl
        | some j => rw [hi] at h; cases h
      rcases List.mem_cons.1 ht with rfl | ht
      · exact hx
      · exact idxK_none hn t ht
theorem getK_some {k : KZ} {M : List Txn} {t : Txn} (h : getK k M = some t) : t ∈ M ∧ kyT t = k := by
  unfold getK at h
  cases hi : idxK k M with
  | none => rw [hi] at h; cases h
  | some i =>
    rw [hi] at h
    obtain ⟨t', h1, h2⟩ := idxK_some hi
    have : M[i]? = some t := h
    rw [h1] at this; cases this
    exact ⟨List.mem_of_getElem? h1, h2⟩
theorem getK_none {k : KZ} {M : List Txn} (h : getK k M = none) : ∀ t ∈ M, kyT t ≠ k := by
  unfold getK at h
  cases hi : idxK k M with
  | none => exact idxK_none hi
  | some i =>
    rw [hi] at h
    obtain ⟨t', h1, h2⟩ := idxK_some hi
    have : M[i]? = none := h
    rw [h1] at this; cases this
theorem getK_mem {k : KZ} {M : List Txn} (hn : (M.map kyT).Nodup) {t : Txn} (ht : t ∈ M) (hk : kyT t = k) : getK k M = some t := by
  cases h : getK k M with
  | none => exact absurd hk (getK_none h t ht)
  | some u =>
    obtain ⟨h1, h2⟩ := getK_some h
    obtain ⟨i, hi, hit⟩ := List.getElem_of_mem ht
    obtain ⟨j, hj, hju⟩ := List.getElem_of_mem h1
    have : i = j := (List.getElem_inj (h₀ := by simpa using hi) (h₁ := by simpa using hj) hn).1 (by simp [hit, hju, hk, h2])
    subst this
    rw [← hit, ← hju]
/-- The book in memory: its object p, its terminals' row, its map. -/
structure BookR (R : Heap) (p : Nat) (fv tv : Value) (m : Nat) (M : List Txn) (T : List Tm) : Prop where
  row : R p = some (.row true 0 [fv, tv, .map (some m)] 0)
  map : R m = some (.map (M.map entV))
  lst : LstR R tv 18 T.length (rowsC Tm.cells T)
  pm : p ≠ m
  tp : blkV tv ≠ some p
  tm : blkV tv ≠ some m
theorem BookR.le {R H : Heap} {p : Nat} {fv tv : Value} {m : Nat} {M : List Txn} {T : List Tm} (h : BookR R p fv tv m M T) (hl : Heap.le R H) : BookR H p fv tv m M T :=
  ⟨hl _ _ h.row, hl _ _ h.map, h.lst.le hl, h.pm, h.tp, h.tm⟩
theorem zeroTx : zeroV Tryd.prog 40 = some (txnV zeroT) := by
  simp [facts]
  rfl
theorem lookK {H : Heap} {m : Nat} {M : List Txn} (h : H m = some (.map (M.map entV))) (k : KZ) : qLook Tryd.prog 73 (.map (some m)) (encK k) true H = some (.tuple #[txnV ((getK k M).getD zeroT), .bool (getK k M).isSome]) := by
  unfold qLook
  rw [(by simp [facts] : und Tryd.prog 73 = .map 38 40)]
  simp only [h, keyK, if_true, findK]
  unfold getK
  cases hi : idxK k M with
  | none =>
    simp [zeroTx]
  | some i =>
    obtain ⟨t, h1, h2⟩ := idxK_some hi
    simp [h1, entV]
theorem look1 {H : Heap} {m : Nat} {M : List Txn} (h : H m = some (.map (M.map entV))) (k : KZ) : qLook Tryd.prog 73 (.map (some m)) (encK k) false H = some (txnV ((getK k M).getD zeroT)) := by
  unfold qLook
  rw [(by simp [facts] : und Tryd.prog 73 = .map 38 40)]
  simp only [h, keyK, if_true, findK]
  unfold getK
  cases hi : idxK k M with
  | none =>
    simp [zeroTx]
  | some i =>
    obtain ⟨t, h1, h2⟩ := idxK_some hi
    simp [h1, entV]
theorem setK {H : Heap} {K : Kont} {m : Nat} {M : List Txn} (h : H m = some (.map (M.map entV))) (u : Txn) (hK : K undef (upd H m (.map ((putM u M).map entV)))) : eMapSet Tryd.prog 73 (.map (some m)) (encK (kyT u)) (txnV u) H K := by
  unfold eMapSet
  rw [(by simp [facts] : und Tryd.prog 73 = .map 38 40)]
  simp only [h, keyK, findK, true_and]
  unfold putM at hK
  cases hi : idxK (kyT u) M with
  | none =>
    rw [hi] at hK
    simpa [entV] using hK
  | some i =>
    rw [hi] at hK
    simpa [List.map_set, entV] using hK
end Go.Proofs.YtfpighmafofoeaaDoor.GL

namespace Go.Proofs.YtfpighmafofoeaaDoor.GL
open Go Go.RowKit
open St (Txn txnL txnV zeroT RightT OkT stepF Rec RightR pairV)
open Ca (S4 flat setV OkS giveE giveT loadE loadT)
set_option maxRecDepth 10000
set_option pp.deepTerms.threshold 8
set_option pp.maxSteps 3000
set_option linter.unusedSimpArgs false
set_option linter.unusedVariables false

/-- What is told of a terminal's row: a terminal, or that there is none. -/
theorem terms_at {H : Heap} {tv : Value} {T : List Tm} (h : LstR H tv 18 T.length (rowsC Tm.cells T)) : ∃ a c, tv = .slice a T.length c ∧ SlA H a T.length 18 (rowsC Tm.cells T) := by
  obtain ⟨a, c, h1, h2, _⟩ := h.sl (Heap.le_refl H)
  exact ⟨a, c, h1, h2⟩
theorem out_c (H : Heap) (p : Nat) (fv tv : Value) (m : Nat) (M : List Txn) (T : List Tm) (hB : BookR H p fv tv m M T) (t : Nat) (ht : t < 65536) (hn : T.length ≤ 8) :
    ECalls Tryd.prog 37 #[.pointer (some ⟨p, 0, none⟩), .int .u16 t] H fun v H' => v = .bool (match T[t]? with | some x => x.out | none => false) ∧ H' = H := by
  refine ecalls_of_ewp (args := [_, _]) Tryd.func37 rfl rfl rfl (by simp [Tryd.ntmps37]) (by kernel_rfl) ?_
  obtain ⟨a, c, rfl, hs⟩ := terms_at hB.lst
  have hr := hB.row
  by_cases hlt : t < T.length
  · obtain ⟨x, hx⟩ : ∃ x, T[t]? = some x := ⟨_, List.getElem?_eq_getElem hlt⟩
    obtain ⟨ab, ao, rfl⟩ := hs.lit (by omega)
    have rx := hs.el1 tm18 hx (j := 16) (by decide)
    have hltI : (t : Int) < (T.length : Int) := by omega
    rw [hx]
    simp (disch := first | omega | assumption | decide | (simp <;> omega) | fail) [facts, hr, hltI, rx, Tm.cells, flat]
  · have hltI : ¬ (t : Int) < (T.length : Int) := by omega
    rw [List.getElem?_eq_none (by omega)]
    simp (disch := first | omega | assumption | decide | (simp <;> omega) | fail) [facts, hr, hltI]
def zeroS : S4 := ⟨⟨0, 0, 0, 0⟩, ⟨0, 0, 0, 0⟩, ⟨0, 0, 0, 0⟩, ⟨0, 0, 0, 0⟩⟩
def cassZ (T : List Tm) (t : Nat) : Value := .tuple #[setV (match T[t]? with | some x => x.s | none => zeroS), .bool (decide (t < T.length))]
end Go.Proofs.YtfpighmafofoeaaDoor.GL

namespace Go.Proofs.YtfpighmafofoeaaDoor.GL
open Go Go.RowKit
open St (Txn txnL txnV zeroT RightT OkT stepF Rec RightR pairV)
open Ca (S4 flat setV OkS giveE giveT loadE loadT)
set_option maxRecDepth 10000
set_option pp.deepTerms.threshold 8
set_option pp.maxSteps 3000
set_option linter.unusedSimpArgs false
set_option linter.unusedVariables false

/-- Transactions in the order of their keys, each once. -/
def Sorted (L : List Txn) : Prop := (L.map kyT).Pairwise KZ.lt
theorem KZ.lt_irr (a : KZ) : ¬ KZ.lt a a := by unfold KZ.lt; omega
theorem Sorted.nodup {L : List Txn} (h : Sorted L) : (L.map kyT).Nodup := List.Pairwise.imp (fun {a b} hab e => by subst e; exact KZ.lt_irr _ hab) h
theorem KZ.total {a b : KZ} (h1 : ¬ KZ.lt b a) (h2 : ¬ KZ.lt a b) : a = b := by
  obtain ⟨x, y⟩ := a
  obtain ⟨z, w⟩ := b
  unfold KZ.lt at h1 h2
  simp only at h1 h2
  have e1 : x = z := by omega
  have e2 : y = w := by omega
  rw [e1, e2]
theorem KZ.asym {a b : KZ} (h : KZ.lt a b) : ¬ KZ.lt b a := by unfold KZ.lt at *; omega
theorem sorted_keys {ks : List KZ} {L : List Txn} (hs : KSorted ks) (hL : Sorted L) (hp : ks.Perm (L.map kyT)) : ks = L.map kyT :=
  List.Perm.eq_of_pairwise (le := fun a b => ¬ KZ.lt b a) (fun a b _ _ h1 h2 => KZ.total h1 h2) hs (List.Pairwise.imp (fun h => KZ.asym h) hL) hp
/-- Looked up in either list. -/
theorem getK_perm {M L : List Txn} (hp : M.Perm L) (hn : (L.map kyT).Nodup) (k : KZ) : getK k M = getK k L := by
  have hnM : (M.map kyT).Nodup := (hp.map kyT).nodup_iff.2 hn
  cases h : getK k L with
  | none =>
    cases h2 : getK k M with
    | none => rfl
    | some t =>
      obtain ⟨h3, h4⟩ := getK_some h2
      exact absurd h4 (getK_none h t (hp.subset h3))
  | some t =>
    obtain ⟨h3, h4⟩ := getK_some h
    exact getK_mem hnM (hp.symm.subset h3) h4
theorem getK_at {L : List Txn} (hn : (L.map kyT).Nodup) {i : Nat} {t : Txn} (h : L[i]? = some t) : getK (kyT t) L = some t := getK_mem hn (List.mem_of_getElem? h) rfl
theorem KeyRow.sl {H H' : Heap} {ks : List KZ} {v : Value} (h : KeyRow H ks v H') : Heap.le H H' ∧ ∃ a c, v = .slice a ks.length c ∧ SlA H' a ks.length 2 (rowsC KZ.cells ks) := by
  rcases h with ⟨rfl, rfl, rfl⟩ | ⟨g, cap, tail, hg, rfl, rfl, hcap, htl⟩
  · exact ⟨Heap.le_refl _, none, 0, rfl, SlA.nil _ _⟩
  · refine ⟨le_upd _ hg, _, cap, rfl, SlA.row (upd_same _ _ _) (Nat.le_refl _) (rowsC_len kz2 _) (by rw [Nat.sub_self, List.length_append, rowsC_len kz2]; omega) ?_⟩
    rw [Nat.sub_self, List.drop_zero, ← rowsC_len kz2 ks, List.take_left]
theorem t_app {H : Heap} {B : Heap} {K : Kont} {v : Value} {n b : Nat} {cs : List Value} {t : Txn} (h : LstR B v 11 n cs) (hl : Heap.le B H) (hb : H b = some (.row true 0 (txnL t) 0)) (hn : n ≤ 100000)
    (hK : ∀ v' H' B', Own H B H' B' → LstR B' v' 11 (n + 1) (cs ++ txnL t) → (∀ i o, B i = some o → blkV v ≠ some i → B' i = some o ∧ blkV v' ≠ some i) → K v' H') :
    eApp Tryd.prog 33 33 v (.slice (some ⟨b, 0, none⟩) 1 1) H K := by
  have hs : SlA H (some ⟨b, 0, none⟩) 1 11 (rowsC txnL [t]) := SlA.row hb (Nat.le_refl _) rfl (Nat.le_refl 11) rfl
  have e : rowsC txnL [t] = txnL t := rowsC_single t
  rw [e] at hs
  refine LstR.app (H0 := H) (B0 := B) (e := 40) (s := 11) (nbs := 88) (z := txnV zeroT) (m := 1) (ys := txnL t) (by simp [facts]) (by simp [facts]) (by simp [facts]) zeroTx rfl (by decide) h (Own.refl hl)
    (src_sl (e1 := 40) (z := txnV zeroT) (by simp [facts]) (by simp [facts]) zeroTx hs) rfl (txn1 t) (by omega) ?_
  intro v' H' B' ow l k _
  exact hK v' H' B' ow l k
def allInv (H1 : Heap) (p : Nat) (a : Option Addr) (n c : Nat) (L : List Txn) (st : St) : Prop :=
  ∃ k, k ≤ n ∧ st.env 0 = .pointer (some ⟨p, 0, none⟩) ∧ st.env 11 = .slice a n c ∧ st.env 12 = .int .i64 n ∧ st.env 13 = .int .i64 k ∧ ∃ R v, Own H1 (fun _ => none) st.heap R ∧ st.env 3 = v ∧ LstR R v 11 k (rowsC txnL (L.take k))
theorem all_c (H : Heap) (p : Nat) (fv tv : Value) (m : Nat) (M L : List Txn) (T : List Tm) (hB : BookR H p fv tv m M T) (hp : M.Perm L) (hL : Sorted L) (hn : L.length ≤ 1000) :
    ECalls Tryd.prog 35 #[.pointer (some ⟨p, 0, none⟩)] H fun v H' => ∃ R, Own H (fun _ => none) H' R ∧ LstR R v 11 L.length (rowsC txnL L) := by
  refine ecalls_of_ewp (args := [_]) Tryd.func35 rfl rfl rfl (by simp [Tryd.ntmps35]) (by kernel_rfl) ?_
  have hr := hB.row
  simp (disch := first | omega | assumption | decide | (simp <;> omega) | fail) [facts, hr]
  refine (keys_c H m).mono ?_
  rintro v H1 ⟨b, hb, rfl, rfl⟩
  have hbx := upd_same H b (.row true 0 [.map (some m)] 0)
  have hm1 := upd_other (o := .row true 0 [.map (some m)] 0) hb hB.map
  have hle1 := le_upd (.row true 0 [.map (some m)] 0) hb
  generalize upd H b _ = H1 at *
  simp (disch := first | omega | assumption | decide | (simp <;> omega) | fail) [facts, ]
  refine (sorted_c H1 b m _ (M.map kyT) hbx hm1 (by simp [entV, Function.comp_def]) (by simp [hp.length_eq]; omega)).mono ?_
  rintro v H2 ⟨ks, hkp, hks, hrow⟩
  have hke : ks = L.map kyT := sorted_keys hks hL (hkp.trans (hp.map kyT))
  subst hke
  obtain ⟨hle2, a, c, rfl, hs⟩ := hrow.sl
  clear hrow hkp hks
  rw [List.length_map] at hs ⊢
  have hr2 := hle2 _ _ (hle1 _ _ hr)
  have hm2 := hle2 _ _ hm1
  have hn2 : ¬ (1000000 : Int) < L.length := by omega
  obtain ⟨n, hnn⟩ : ∃ n, n = L.length := ⟨_, rfl⟩
  rw [← hnn] at hs hn ⊢
  simp (disch := first | omega | assumption | decide | (simp <;> omega) | fail) [facts, ]
  refine w_loop (allInv H2 p a n c L) (fun st => n - (intOf (st.env 13)).toNat) ?_ ?_
  · exact ⟨0, Nat.zero_le _, by simp, by simp, by simp, by simp, _, .slice none 0 0, Own.nil (Heap.le_refl _), by simp, LstR.nil _ _⟩
  rintro ⟨env, G⟩ ⟨k, hk, e0, e11, e12, e13, R, v, ow, e3, hlst⟩
  simp only at e0 e11 e12 e13 e3 ow
  have hall := ow.all
  have hrG := hall _ _ hr2
  have hmG := hall _ _ hm2
  by_cases hlt : k < n
  · have hltI : (k : Int) < (n : Int) := by omega
    obtain ⟨t, ht⟩ : ∃ t, L[k]? = some t := ⟨_, List.getElem?_eq_getElem (by omega)⟩
    obtain ⟨ab, ao, rfl⟩ := hs.lit (by omega)
    have rx : rdNU (G ab) (ao + k * 2) 2 = some (kyT t).cells := (hs.le hall).el kz2 (by rw [List.getElem?_map, ht]; rfl) (j := 0) (r := 2) (by decide) (by decide)
    unfold KZ.cells at rx
    simp (disch := first | omega | assumption | decide | (simp <;> omega) | fail) [facts, e0, e11, e12, e13, hltI, rx]
    refine fresh_intro fun b5 hb5 => ?_
    simp (disch := first | omega | assumption | decide | (simp <;> omega) | fail) [facts, upd_upd]
    have r5 := upd_same G b5 (.row true 0 [.int .u16 (kyT t).t, .int .u32 (kyT t).s] 0)
    have hr5 := upd_other (o := .row true 0 [.int .u16 (kyT t).t, .int .u32 (kyT t).s] 0) hb5 hrG
    have hm5 := upd_other (o := .row true 0 [.int .u16 (kyT t).t, .int .u32 (kyT t).s] 0) hb5 hmG
    have ow5 := ow.grow (le_upd (.row true 0 [.int .u16 (kyT t).t, .int .u32 (kyT t).s] 0) hb5)
    generalize upd G b5 _ = G5 at *
    have hq := look1 hm5 (kyT t)
    rw [getK_perm hp hL.nodup, getK_at hL.nodup ht] at hq
    simp only [Option.getD_some, encK] at hq
    have hnx : L.take k ++ [t] = L.take (k + 1) := by rw [List.take_add_one, ht]; rfl
    have hcs : rowsC txnL (L.take k) ++ txnL t = rowsC txnL (L.take (k + 1)) := by rw [← hnx, rowsC_app, rowsC_single]
    rw [e3.symm] at hlst
    clear ht hnx rx e3
    obtain ⟨kk, hkk⟩ : ∃ kk, kyT t = kk := ⟨_, rfl⟩
    rw [hkk] at r5 hq
    refine w_plan (P := Tryd.prog) (by simp [facts]) (opsP [0,1,2,3] (.both (opsP [4,5,6,7,8,9] .done) (opsP [5,4,6,7,8,9] .done))) ?_ ?_
    · decide +kernel
    have tone := txn1 t
    have tl := txn11 t
    simp only [txnV] at hq
    have hspl : splice (zeros [.int .u16 0, .int .u32 0, .string (mkS []), .int .i64 0, .int .i64 0, .int .i64 0, .int .i64 0, .int .i64 0, .int .i64 0, .int .i64 0, .int .i64 0] 1) 0 (txnL t) = txnL t := splice_all rfl
    simp (disch := first | omega | assumption | decide | (simp <;> omega) | fail) [facts, e0, hr5, r5, hq, tl, tone, hspl]
    try (repeat' apply And.intro)
    all_goals
      refine fresh_intro fun b7 hb7 => ?_
      have r7 := upd_same G5 b7 (.row true 0 (txnL t) 0)
      have ow7 := ow5.grow (le_upd (.row true 0 (txnL t) 0) hb7)
      generalize upd G5 b7 _ = G7 at *
      simp (disch := first | omega | assumption | decide | (simp <;> omega) | fail) [facts, ]
      refine t_app hlst ow7.le r7 (by omega) fun v' G8 R8 ow8 l8 _ => ?_
      rw [hcs] at l8
      simp (disch := first | omega | assumption | decide | (simp <;> omega) | fail) [facts, e13]
      refine ⟨_, Heap.le_refl _, ⟨k + 1, by omega, by simp [e0], by simp [e11], by simp [e12], by simp, R8, v', ow7.trans ow8, by simp, l8⟩, ?_⟩
      simp [intOf, e13]
      omega
  · have hkn : k = n := by omega
    subst hkn
    simp (disch := first | omega | assumption | decide | (simp <;> omega) | fail) [facts, e0, e11, e12, e13, e3]
    rw [show L.take k = L by rw [hnn, List.take_length]] at hlst
    exact ⟨_, Heap.le_refl _, R, ⟨fun b' o' h1 h2 => ow.mv b' o' rfl (hle2 _ _ (hle1 _ _ h2)), ow.le⟩, hlst⟩
end Go.Proofs.YtfpighmafofoeaaDoor.GL

namespace Go.Proofs.YtfpighmafofoeaaDoor.GL
open Go Go.RowKit
open St (Txn txnL txnV zeroT RightT OkT stepF Rec RightR pairV)
open Ca (S4 flat setV OkS giveE giveT loadE loadT)
set_option maxRecDepth 10000
set_option pp.deepTerms.threshold 8
set_option pp.maxSteps 3000
set_option linter.unusedSimpArgs false
set_option linter.unusedVariables false

def keepB (z : Nat) (t : Txn) : Bool := decide (t.term = z) && decide (1 ≤ t.state ∧ t.state ≤ 4)
def ixZ (z : Nat) (L : List Txn) (v : Value) : Prop := (∃ (i : Nat) (t : Txn), v = .int .i64 i ∧ L[i]? = some t ∧ keepB z t = false ∧ (L.take i).all (keepB z) = true) ∨ (v = .int .i64 (-1) ∧ L.all (keepB z) = true)
theorem filter_all {α : Type} {p : α → Bool} {l : List α} (h : l.all p = true) : l.filter p = l := List.filter_eq_self.2 (List.all_eq_true.1 h)
theorem filter_snoc {α : Type} {p : α → Bool} {l : List α} {k : Nat} {x : α} (h : l[k]? = some x) : (l.take (k + 1)).filter p = (l.take k).filter p ++ if p x = true then [x] else [] := by
  rw [List.take_add_one, h, List.filter_append]
  congr 1
  simp only [Option.toList_some, List.filter_cons, List.filter_nil]
end Go.Proofs.YtfpighmafofoeaaDoor.GL
