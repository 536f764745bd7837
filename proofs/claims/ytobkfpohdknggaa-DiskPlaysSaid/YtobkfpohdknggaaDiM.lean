/- Layer 3: both disks side by side. -/
import Derived.Test.YtobkfpohdknggaaDiL
namespace Go.Proofs.Ytobkfpohdknggaa.GL
open Go Go.RowKit
set_option maxRecDepth 10000
set_option pp.deepTerms.threshold 8
set_option pp.maxSteps 3000
set_option linter.unusedSimpArgs false
set_option linter.unusedVariables false

theorem cond_cutB' {P : Program} {v : Value} {A B : Code} {id : Nat} {f : St → Prop} {K : Post} {s : St} (I : St → Prop) (h1 : condK v P A B (Kblock id (Kseq I K)) s) (h2 : ∀ s, I s → f s) : condK v P A B (Kblock id (Kseq f K)) s := by
  unfold condK at h1 ⊢
  cases v with
  | bool t => exact ⟨fun ht => w_cutB I (h1.1 ht) h2, fun ht => w_cutB I (h1.2 ht) h2⟩
  | _ => exact h1
theorem ewp_seq_cut {P : Program} {A B : Code} {K : Post} {s : St} {I : St → Prop} (h1 : ewp P A (Kseq I K) s) (h2 : ∀ s, I s → ewp P B K s) : ewp P (.seq A B) K s := by
  rw [w_seq]; exact w_cut I h1 h2
/-- Two objects side by side, beside what stays. -/
structure TwoO (F A B H : Heap) : Prop where
  fle : Heap.le F H
  ale : Heap.le A H
  ble : Heap.le B H
  fa : Off F A
  fb : Off F B
  ab : Off A B
section
variable {F A B H H' A' B' : Heap}
theorem TwoO.left (t : TwoO F A B H) (o : Own H A H' A') : TwoO F A' B H' :=
  ⟨(o.frame t.fle t.fa).1, o.le, (o.frame t.ble t.ab.symm).1, (o.frame t.fle t.fa).2, t.fb, (o.frame t.ble t.ab.symm).2.symm⟩
theorem TwoO.right (t : TwoO F A B H) (o : Own H B H' B') : TwoO F A B' H' :=
  ⟨(o.frame t.fle t.fb).1, (o.frame t.ale t.ab).1, o.le, t.fa, (o.frame t.fle t.fb).2, (o.frame t.ale t.ab).2⟩
theorem TwoO.grow (t : TwoO F A B H) (hl : Heap.le H H') : TwoO F A B H' := ⟨Heap.le_trans t.fle hl, Heap.le_trans t.ale hl, Heap.le_trans t.ble hl, t.fa, t.fb, t.ab⟩
theorem TwoO.keep (t : TwoO F A B H) {b : Nat} (hb : H b = none) (o : GObj) : TwoO (upd F b o) A B (upd H b o) :=
  ⟨le_upd2' o t.fle, Heap.le_trans t.ale (le_upd _ hb), Heap.le_trans t.ble (le_upd _ hb), fun i x e => by
    by_cases hi : i = b
    · subst hi; exact le_of_none t.ale hb
    · rw [upd_ne _ _ hi] at e; exact t.fa i x e, fun i x e => by
    by_cases hi : i = b
    · subst hi; exact le_of_none t.ble hb
    · rw [upd_ne _ _ hi] at e; exact t.fb i x e, t.ab⟩
theorem TwoO.new {F H0 H1 H2 A B : Heap} (h0 : Heap.le F H0) (a : Own H0 (fun _ => none) H1 A) (b : Own H1 (fun _ => none) H2 B) : TwoO F A B H2 :=
  ⟨Heap.le_trans h0 (Heap.le_trans a.all b.all), Heap.le_trans a.le b.all, b.le, fun i x e => a.off i x (h0 _ _ e), fun i x e => b.off i x (a.all _ _ (h0 _ _ e)), fun i x e => b.off i x (a.le _ _ e)⟩
end

structure Same3 (d : DZ) (r : RZ) : Prop where
  S : r.S = d.kept
  wait : r.wait = d.wait
  gone : r.gone = d.down
  left : r.left = max d.left 0
  now : d.now = applyW d.kept d.wait
section
variable {d : DZ} {r : RZ}
theorem Same3.out (h : Same3 d r) (n : Int) : outZ d n = routZ r n := by unfold outZ routZ; rw [h.S, h.gone]
theorem Same3.pow (h : Same3 d r) : Same3 (powZ d) (stepZ r) := by
  have hl := h.left
  unfold powZ stepZ
  by_cases h0 : 0 < d.left
  · have hr : 0 < r.left := by omega
    rw [if_pos h0, if_pos hr]
    refine ⟨h.S, h.wait, ?_, ?_, h.now⟩
    · have : (r.left = 1) = (d.left = 1) := by apply propext; omega
      simp only [this]
    · simp only; omega
  · rw [if_neg h0, if_neg (by omega)]
    exact h
theorem Same3.write (h : Same3 d r) (n : Int) (bs : List UInt8) : writeE d n = rwE r n ∧ Same3 (writeD d n bs) (rwD r n bs) := by
  have hp := h.pow
  obtain ⟨p1, p2, p3⟩ := powZ_same d
  unfold writeE rwE writeD rwD powE
  rw [h.out n, ← hp.gone]
  refine ⟨rfl, ?_⟩
  by_cases ho : routZ r n = 0
  · simp only [ho, ne_eq, not_true_eq_false, if_false]
    by_cases hg : (stepZ r).gone = true
    · simp only [hg, if_true]; exact hp
    · rw [if_neg hg, if_neg hg]
      refine ⟨hp.S, ?_, hp.gone, hp.left, ?_⟩
      · show r.wait ++ _ = d.wait ++ _
        rw [h.wait]
      · show d.now.set n.toNat (secOf bs) = applyW (powZ d).kept (d.wait ++ [⟨n.toNat, secOf bs⟩])
        rw [applyW_app, p1, h.now]
        rfl
  · simp only [ho, ne_eq, not_false_eq_true, if_true]; exact h
theorem Same3.sync (h : Same3 d r) : syncE d = rsE r ∧ Same3 (syncD d) (rsD r) := by
  have hp := h.pow
  obtain ⟨p1, p2, p3⟩ := powZ_same d
  unfold syncE rsE syncD rsD powE
  rw [← h.gone, ← hp.gone]
  refine ⟨rfl, ?_⟩
  by_cases h1 : r.gone = true
  · simp only [h1, if_true]; exact h
  · by_cases hg : (stepZ r).gone = true
    · simp only [h1, hg, if_true, if_false]; exact hp
    · rw [if_neg h1, if_neg hg, if_neg h1, if_neg hg]
      refine ⟨?_, rfl, hp.gone, hp.left, ?_⟩
      · show applyW r.S r.wait = applyW d.kept d.wait
        rw [h.S, h.wait]
      · show (powZ d).now = applyW (applyW d.kept d.wait) []
        rw [p2, h.now]; rfl
theorem Same3.cut (h : Same3 d r) (n : Int) : Same3 (cutZ d n) (rcutZ r n) := by
  unfold cutZ rcutZ
  by_cases h1 : n < 1
  · rw [if_pos h1]
    exact ⟨h.S, h.wait, by simp [h1], by simp only; omega, h.now⟩
  · rw [if_neg h1]
    exact ⟨h.S, h.wait, by simp [h1, h.gone], by simp only; omega, h.now⟩
theorem Same3.reopen (h : Same3 d r) (ks : List Bool) (torn : Int) : Same3 (reopenZ d ks torn) (rreopenZ r ks torn) := by
  unfold reopenZ rreopenZ
  rw [h.S, h.wait]
  exact ⟨rfl, rfl, rfl, rfl, rfl⟩
theorem Same3.new (n : Nat) : Same3 (newZ n) ⟨List.replicate n (secOf []), [], 0, false⟩ := ⟨rfl, rfl, rfl, rfl, rfl⟩
theorem Same3.read (h : Same3 d r) {j : Nat} (hj : j < d.kept.length) : ∃ s, r.S[j]? = some s ∧ d.now[j]? = some (readW j s r.wait) := by
  have hj' : j < r.S.length := by rw [h.S]; exact hj
  refine ⟨_, List.getElem?_eq_getElem hj', ?_⟩
  rw [h.now, ← h.S, ← h.wait]
  exact applyW_read _ _ _ _ (List.getElem?_eq_getElem hj')
theorem writeD_wait (d : DZ) (n : Int) (bs : List UInt8) : (writeD d n bs).wait.length ≤ d.wait.length + 1 := by
  obtain ⟨p1, p2, p3⟩ := powZ_same d
  unfold writeD
  split
  · omega
  · split
    · rw [p3]; omega
    · simp [writeZ]
theorem syncD_wait (d : DZ) : (syncD d).wait.length ≤ d.wait.length := by
  obtain ⟨p1, p2, p3⟩ := powZ_same d
  unfold syncD
  split
  · omega
  · split
    · rw [p3]; omega
    · simp [syncZ]
end
structure A3Z where
  w : Nat
  s : Nat
  n : Nat
  b : List UInt8
  a : Option Addr
  c : Nat
  k : List Bool
  ka : Option Addr
  kc : Nat
def A3Z.cells (x : A3Z) : List Value := [.int .u8 x.w, .int .u8 x.s, .int .u8 x.n, .slice x.a x.b.length x.c, .slice x.ka x.k.length x.kc]
theorem a35 (x : A3Z) : x.cells.length = 5 := rfl
structure A3Ok (M : Heap) (x : A3Z) : Prop where
  w : x.w < 256
  s : x.s < 256
  n : x.n < 256
  b : ByA M x.a x.b.length x.b
  k : BoA M x.ka x.k.length x.k
theorem A3Ok.le {M M' : Heap} {x : A3Z} (h : A3Ok M x) (hl : Heap.le M M') : A3Ok M' x := ⟨h.w, h.s, h.n, h.b.le hl, h.k.le hl⟩
theorem a3_is {M : Heap} {cs : List Value} (h : Fits M [.int .u8, .int .u8, .int .u8, .bytes, .bools] cs) : ∃ x : A3Z, A3Ok M x ∧ cs = x.cells := by
  obtain ⟨v0, r0, rfl, ⟨w, rfl, hw⟩, h1⟩ := h.cons
  obtain ⟨v1, r1, rfl, ⟨s, rfl, hs⟩, h2⟩ := h1.cons
  obtain ⟨v2, r2, rfl, ⟨n, rfl, hn⟩, h3⟩ := h2.cons
  obtain ⟨v3, r3, rfl, ⟨a, k, c, bs, rfl, _, _, hb⟩, h4⟩ := h3.cons
  obtain ⟨v4, r4, rfl, ⟨a', k', c', ks, rfl, _, _, hk⟩, h5⟩ := h4.cons
  have := h5.nil
  subst this
  have hw' := (u8_wf w).1 hw
  have hs' := (u8_wf s).1 hs
  have hn' := (u8_wf n).1 hn
  have hl := hb.len
  have hl2 := hk.len
  subst hl hl2
  refine ⟨⟨w.toNat, s.toNat, n.toNat, bs, a, c, ks, a', c'⟩, ⟨by show w.toNat < 256; omega, by show s.toNat < 256; omega, by show n.toNat < 256; omega, hb, hk⟩, ?_⟩
  simp only [A3Z.cells]
  rw [Int.toNat_of_nonneg hw'.1, Int.toNat_of_nonneg hs'.1, Int.toNat_of_nonneg hn'.1]
theorem a3s_of {M : Heap} {xs : List Value} {n : Nat} (hl : xs.length = n * 5) (h : ∀ i, i < n → Fits M [.int .u8, .int .u8, .int .u8, .bytes, .bools] ((xs.drop (i * 5)).take 5)) : ∃ L : List A3Z, xs = rowsC A3Z.cells L ∧ ∀ x ∈ L, A3Ok M x := by
  obtain ⟨L, e, _, hL⟩ := rows_list a35 hl fun i hi => a3_is (h i hi)
  exact ⟨L, e, hL⟩
end Go.Proofs.Ytobkfpohdknggaa.GL
