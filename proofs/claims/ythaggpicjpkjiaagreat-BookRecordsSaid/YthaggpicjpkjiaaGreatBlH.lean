/- Layer 20: one terminal's records, one by one. -/
import Derived.Test.YthaggpicjpkjiaaGreatBlF
namespace Go.Proofs.YthaggpicjpkjiaaGreat.GL
open Go Go.RowKit
open St (Txn txnL txnV zeroT RightT OkT Rec recV stepF fromL revT)
open Ca (S4 flat setV OkS CassOk newS giveE giveT loadE loadT leftZ fitS fitC fourIn fewIn addS addC loadS)
set_option maxRecDepth 10000
set_option pp.deepTerms.threshold 8
set_option pp.maxSteps 3000
set_option linter.unusedSimpArgs false
set_option linter.unusedVariables false

theorem TwoO.keep2 {F A B H : Heap} (t : TwoO F A B H) {b : Nat} (hA : A b = none) (hB : B b = none) (o : GObj) : TwoO (upd F b o) A B (upd H b o) := by
  have hof : ∀ {X : Heap}, X b = none → Heap.le X H → Heap.le X (upd H b o) := fun {X} hX hl i x e => by
    rw [upd_ne _ _ (fun h => by rw [h, hX] at e; cases e)]; exact hl i x e
  refine ⟨le_upd2' o t.fle, hof hA t.ale, hof hB t.ble, fun i x e => ?_, fun i x e => ?_, t.ab⟩
  · by_cases hi : i = b
    · rw [hi]; exact hA
    · rw [upd_ne _ _ hi] at e; exact t.fa i x e
  · by_cases hi : i = b
    · rw [hi]; exact hB
    · rw [upd_ne _ _ hi] at e; exact t.fb i x e
def rsd (s : Nat) : Rec := ⟨5, 0, s, [], 0, 0, 0, 0, 0, 0, 0, 0, 0, 0, 0, 0, 0⟩
def rcf (s : Nat) (g0 g1 : Int) : Rec := ⟨6, 0, s, [], 100, g0, g1, 0, 0, 0, 0, 0, 0, 0, 0, 0, 0⟩
def rld (w : Int) : Rec := ⟨8, 0, 0, [], 3, 1, 0, 0, 0, 0, 0, 0, 0, w, 2, 3, 4⟩
def t2 (s : Nat) : Txn := ⟨0, s, [53, 49], 600, 2, 0, 0, 0, 0, 0, 0⟩
def t3 (s : Nat) : Txn := ⟨0, s, [53, 49], 600, 3, 0, 0, 0, 0, 0, 0⟩
def t4 (s : Nat) : Txn := ⟨0, s, [53, 49], 600, 4, 0, 0, 0, 0, 100, 500⟩
theorem getK_cons (k : KZ) (x : Txn) (l : List Txn) : getK k (x :: l) = if kyT x = k then some x else getK k l := by
  unfold getK
  simp only [idxK]
  by_cases h : kyT x = k
  · simp [h]
  · simp only [h, if_false]
    cases idxK k l with
    | none => rfl
    | some j => simp
theorem getK_last {t : Txn} {k : KZ} (hk : kyT t = k) : ∀ {L : List Txn}, (∀ x ∈ L, kyT x ≠ k) → getK k (L ++ [t]) = some t
  | [], _ => by rw [List.nil_append, getK_cons, if_pos hk]
  | x :: l, h => by rw [List.cons_append, getK_cons, if_neg (h x (by simp)), getK_last hk fun y hy => h y (by simp [hy])]
theorem insL_last {t u : Txn} (hk : kyT t = kyT u) : ∀ {L : List Txn}, (∀ x ∈ L, KZ.lt (kyT x) (kyT u)) → insL u (L ++ [t]) = L ++ [u]
  | [], _ => by simp [insL, hk]
  | x :: l, h => by
    have h1 := h x (by simp)
    rw [List.cons_append]
    unfold insL
    rw [if_neg (fun e => by rw [e] at h1; exact KZ.lt_irr _ h1), if_neg (KZ.asym h1), insL_last hk fun y hy => h y (by simp [hy])]
    rfl
theorem lt_ne {a b : KZ} (h : KZ.lt a b) : a ≠ b := fun e => by rw [e] at h; exact KZ.lt_irr _ h
theorem begin_do {x : Tm} {L : List Txn} {s : Nat} (hL : ∀ y ∈ L, KZ.lt (kyT y) ⟨0, s⟩) (hn : L.length < 400) : doB ⟨[x], L⟩ (rb s) = (⟨[x], L ++ [bt s]⟩, 0) := by
  unfold doB
  rw [rb_right, if_neg (by decide)]
  have h1 : [x][(rb s).term.toNat]? = some x := rfl
  simp only [h1]
  rw [if_neg (by show ¬ (1 : Int) = 9; decide), if_neg (by show ¬ (1 : Int) = 8; decide)]
  unfold stepB
  have hg : getK (kyR (rb s)) L = none := getK_no fun t ht => lt_ne (hL t ht)
  simp only [hg, Option.getD_none, rb_step, Option.isSome_none]
  rw [if_neg (by simp), if_neg (by omega), if_neg (by show ¬ (1 : Int) = 6; decide), insL_end (u := bt s) fun t ht => hL t ht]
theorem one_do {x : Tm} {L : List Txn} {t u : Txn} {r : Rec} (hr : r.rz.right = true) (h0 : r.term = 0) (h8 : r.kind ≠ 8) (h9 : r.kind ≠ 9) (h6 : r.kind ≠ 6) (hL : ∀ y ∈ L, KZ.lt (kyT y) (kyR r)) (hk : kyT t = kyR r) (hs : stepF t r = (u, 0)) (hu : kyT u = kyR r) :
    doB ⟨[x], L ++ [t]⟩ r = (⟨[x], L ++ [u]⟩, 0) := by
  unfold doB
  rw [hr, if_neg (by decide)]
  have h1 : [x][r.term.toNat]? = some x := by rw [h0]; rfl
  simp only [h1]
  rw [if_neg h9, if_neg h8]
  unfold stepB
  have hg : getK (kyR r) (L ++ [t]) = some t := getK_last hk fun y hy => lt_ne (hL y hy)
  simp only [hg, Option.getD_some, hs, Option.isSome_some]
  rw [if_neg (by simp), if_neg (by simp), if_neg h6, insL_last (hk.trans hu.symm) fun y hy => by rw [hu]; exact hL y hy]
theorem conf_do {x : Tm} {L : List Txn} {t u : Txn} {r : Rec} (hr : r.rz.right = true) (h0 : r.term = 0) (h6 : r.kind = 6) (hL : ∀ y ∈ L, KZ.lt (kyT y) (kyR r)) (hk : kyT t = kyR r) (hs : stepF t r = (u, 0)) (hu : kyT u = kyR r) :
    doB ⟨[x], L ++ [t]⟩ r = if giveE x.s r.n0 r.n1 r.n2 r.n3 r.x0 r.x1 r.x2 r.x3 ≠ 0 then (⟨[x], L ++ [t]⟩, giveE x.s r.n0 r.n1 r.n2 r.n3 r.x0 r.x1 r.x2 r.x3) else (⟨[{ x with s := giveT x.s r.n0 r.n1 r.n2 r.n3 r.x0 r.x1 r.x2 r.x3 }], L ++ [u]⟩, 0) := by
  unfold doB
  rw [hr, if_neg (by decide)]
  have h1 : [x][r.term.toNat]? = some x := by rw [h0]; rfl
  simp only [h1]
  rw [if_neg (by omega), if_neg (by omega)]
  unfold stepB
  have hg : getK (kyR r) (L ++ [t]) = some t := getK_last hk fun y hy => lt_ne (hL y hy)
  simp only [hg, Option.getD_some, hs, Option.isSome_some]
  rw [if_neg (by simp), if_neg (by simp), if_pos h6, insL_last (hk.trans hu.symm) fun y hy => by rw [hu]; exact hL y hy, h0]
  rfl
theorem err_do {x : Tm} {L : List Txn} {t : Txn} {r : Rec} (hr : r.rz.right = true) (h0 : r.term = 0) (h8 : r.kind ≠ 8) (h9 : r.kind ≠ 9) (hL : ∀ y ∈ L, KZ.lt (kyT y) (kyR r)) (hk : kyT t = kyR r) (hs : (stepF t r).2 ≠ 0) :
    doB ⟨[x], L ++ [t]⟩ r = (⟨[x], L ++ [t]⟩, (stepF t r).2) := by
  unfold doB
  rw [hr, if_neg (by decide)]
  have h1 : [x][r.term.toNat]? = some x := by rw [h0]; rfl
  simp only [h1]
  rw [if_neg h9, if_neg h8]
  unfold stepB
  have hg : getK (kyR r) (L ++ [t]) = some t := getK_last hk fun y hy => lt_ne (hL y hy)
  simp only [hg, Option.getD_some]
  rw [if_pos hs]
theorem ra_s (s : Nat) : stepF (bt s) (ra s) = (t2 s, 0) := by simp [stepF, fromL, ra, bt, t2]
theorem rsd_s (s : Nat) : stepF (t2 s) (rsd s) = (t3 s, 0) := by simp [stepF, fromL, rsd, t2, t3]
theorem rcf_s (s : Nat) (g0 g1 : Int) : stepF (t3 s) (rcf s g0 g1) = (t4 s, 0) := by simp [stepF, fromL, rcf, t3, t4, revT]
theorem rcf_e (s : Nat) (g0 g1 : Int) : (stepF (t4 s) (rcf s g0 g1)).2 = 30 := by simp [stepF, fromL, rcf, t4]
theorem rsd_right (s : Nat) : (rsd s).rz.right = true := by kernel_rfl
theorem inC_small {g : Int} (h : 0 ≤ g ∧ g ≤ 10000) : inC g = true := by unfold inC; simp [h.1, h.2]
theorem rcf_right (s : Nat) {g0 g1 : Int} (h0 : 0 ≤ g0 ∧ g0 ≤ 10000) (h1 : 0 ≤ g1 ∧ g1 ≤ 10000) : (rcf s g0 g1).rz.right = true := by
  have : (rcf s g0 g1).rz.right = (((inC g0 && (inC g1 && true)) && true) && true) := by kernel_rfl
  rw [this, inC_small h0, inC_small h1]; rfl
theorem rld_right {w : Int} (h0 : 0 ≤ w ∧ w ≤ 10000) : (rld w).rz.right = true := by
  have : (rld w).rz.right = (inC w && true) := by kernel_rfl
  rw [this, inC_small h0]; rfl
theorem leftZ_nn (l g r : Int) : 0 ≤ leftZ l g r := by
  unfold leftZ
  split <;> omega
theorem four4 {g0 g1 : Int} (h0 : 0 ≤ g0 ∧ g0 ≤ 10000) (h1 : 0 ≤ g1 ∧ g1 ≤ 10000) : fourIn g0 g1 0 0 := by unfold fourIn fewIn; omega
theorem zero4 : fourIn 0 0 0 0 := by unfold fourIn fewIn; omega
theorem fits_iff (s : S4) {g0 g1 : Int} : fitS s g0 g1 0 0 0 0 0 0 ↔ g0 ≤ leftZ s.a.l s.a.g s.a.r ∧ g1 ≤ leftZ s.b.l s.b.g s.b.r := by
  have h1 := leftZ_nn s.c.l s.c.g s.c.r
  have h2 := leftZ_nn s.e.l s.e.g s.e.r
  unfold fitS fitC
  omega
theorem give_yes {s : S4} {g0 g1 : Int} (h0 : 0 ≤ g0 ∧ g0 ≤ 10000) (h1 : 0 ≤ g1 ∧ g1 ≤ 10000) (h : g0 ≤ leftZ s.a.l s.a.g s.a.r ∧ g1 ≤ leftZ s.b.l s.b.g s.b.r) : giveE s g0 g1 0 0 0 0 0 0 = 0 ∧ giveT s g0 g1 0 0 0 0 0 0 = addS s g0 g1 0 0 0 0 0 0 := by
  unfold giveE giveT
  have hf : fourIn g0 g1 0 0 ∧ fourIn 0 0 0 0 := ⟨four4 h0 h1, zero4⟩
  simp only [if_pos hf, if_pos ((fits_iff s).2 h)]
  exact ⟨trivial, trivial⟩
theorem give_no {s : S4} {g0 g1 : Int} (h0 : 0 ≤ g0 ∧ g0 ≤ 10000) (h1 : 0 ≤ g1 ∧ g1 ≤ 10000) (h : ¬ (g0 ≤ leftZ s.a.l s.a.g s.a.r ∧ g1 ≤ leftZ s.b.l s.b.g s.b.r)) : giveE s g0 g1 0 0 0 0 0 0 = 25 := by
  unfold giveE
  rw [if_pos ⟨four4 h0 h1, zero4⟩, if_neg fun hf => h ((fits_iff s).1 hf)]
theorem load_do {x : Tm} {L : List Txn} {w : Int} (hw : 1 ≤ w ∧ w ≤ 10000) : doB ⟨[x], L⟩ (rld w) = (⟨[⟨⟨⟨x.s.a.d, w, 1, 0⟩, ⟨x.s.b.d, 2, 0, 0⟩, ⟨x.s.c.d, 3, 0, 0⟩, ⟨x.s.e.d, 4, 0, 0⟩⟩, false, 3⟩], L⟩, 0) := by
  have hf : fourIn w 2 3 4 := by unfold fourIn fewIn; omega
  have hlt : loadT x.s w 2 3 4 = loadS x.s w 2 3 4 := by unfold loadT; rw [if_pos hf]
  have hl : leftZ w 0 0 = w := by
    unfold leftZ fewIn
    rw [if_pos (by omega)]
    omega
  have hge := give_yes (s := loadS x.s w 2 3 4) (g0 := 1) (g1 := 0) (by decide) (by decide) ⟨by show (1 : Int) ≤ leftZ w 0 0; omega, leftZ_nn _ _ _⟩
  unfold doB
  rw [rld_right (by omega), if_neg (by decide)]
  have h1 : [x][(rld w).term.toNat]? = some x := rfl
  simp only [h1]
  rw [if_neg (by show ¬ (8 : Int) = 9; decide), if_pos (by show (8 : Int) = 8; rfl)]
  show (if giveE (loadT x.s w 2 3 4) 1 0 0 0 0 0 0 0 ≠ 0 then _ else _) = _
  rw [hlt, hge.1, if_neg (by decide)]
  show (⟨[⟨giveT (loadT x.s w 2 3 4) 1 0 0 0 0 0 0 0, false, 3⟩], L⟩, (0 : Int)) = ((⟨_, L⟩ : Bz), (0 : Int))
  rw [hlt, hge.2]
  rfl
end Go.Proofs.YthaggpicjpkjiaaGreat.GL
