/- Layer 20: a book's records make the same book.; Layer 20: terminals' records; what a book is sure of.; Layer 20: what a book is sure of stays, record by record.; Layer 20: Book.Records.; Layer 20: BookRecords: what its walk needs.; Layer 20: BookRecords. -/
import Derived.Test.YthaggpicjpkjiaaGreatReP
import Derived.Test.YthaggpicjpkjiaaGreatBlH
import Derived.Test.YthaggpicjpkjiaaGreatBlJ
import Derived.Test.YthaggpicjpkjiaaGreatGlOb
namespace Go.Proofs.YthaggpicjpkjiaaGreat.GL
open Go Go.RowKit
open St (Txn txnL txnV zeroT RightT OkT Rec recV stepF fromL revT owesT noT RightR)
open Ca (S4 flat setV OkS OkC Cs giveE giveT loadE loadT leftZ fitS fitC fourIn fewIn addS addC loadS)
set_option maxRecDepth 10000
set_option pp.deepTerms.threshold 8
set_option pp.maxSteps 3000
set_option linter.unusedSimpArgs false
set_option linter.unusedVariables false

/-- Records done one after another, each well. -/
inductive Runs : Bz → List Rec → Bz → Prop where
  | nil (b : Bz) : Runs b [] b
  | cons {b b' c : Bz} {r : Rec} {rs : List Rec} (h : doB b r = (b', 0)) (t : Runs b' rs c) : Runs b (r :: rs) c
theorem Runs.app {b c d : Bz} {xs ys : List Rec} (h1 : Runs b xs c) (h2 : Runs c ys d) : Runs b (xs ++ ys) d := by
  induction h1 with
  | nil => exact h2
  | cons h _ ih => exact .cons h (ih h2)
theorem Runs.one {b c : Bz} {r : Rec} (h : doB b r = (c, 0)) : Runs b [r] c := .cons h (.nil _)
def recsT (t : Txn) : List Rec := (kindsZ t).map (recT t)
def u1 (t : Txn) : Txn := ⟨t.term, t.stan, t.pan, t.amount, 1, 0, 0, 0, 0, 0, 0⟩
theorem recT_key (t : Txn) (k : Int) : kyR (recT t k) = kyT t := by
  unfold recT
  repeat' split
  all_goals rfl
theorem recT_kind (t : Txn) (k : Int) : (recT t k).kind = k := by
  unfold recT
  repeat' split
  all_goals rfl
theorem recT_term (t : Txn) (k : Int) : (recT t k).term = t.term := by
  have := congrArg KZ.t (recT_key t k)
  exact this
theorem inC_few {z : Int} (h : St.fewIn z) : inC z = true := by
  unfold St.fewIn at h
  exact inC_small h
theorem given_in {t : Txn} (h : OkT t) : 0 ≤ t.given ∧ t.given ≤ t.amount := by
  obtain ⟨_, _, _, a1, a2, _, hst⟩ := h
  rcases hst with ⟨_, _, hg, _⟩ | ⟨_, hg, _⟩ | ⟨_, hw⟩ | ⟨_, hw | hw⟩
  · omega
  · omega
  · unfold owesT at hw; omega
  · omega
  · unfold owesT at hw; omega
theorem right_of {k te st A a b c d e f g h i j l m : Int} {P : List UInt8} (hk : 1 ≤ k ∧ k < 10) (hp : P.length ≤ 19) (hd : allD (mkS P) = true) (hA : 0 ≤ A ∧ A ≤ 1000000) (h1 : inC a = true ∧ inC b = true ∧ inC c = true ∧ inC d = true) (h2 : inC e = true ∧ inC f = true ∧ inC g = true ∧ inC h = true) (h3 : inC i = true ∧ inC j = true ∧ inC l = true ∧ inC m = true) :
    (⟨k, te, st, P, A, a, b, c, d, e, f, g, h, i, j, l, m⟩ : Rec).rz.right = true := by
  show (decide (1 ≤ k) && decide (k < 10) && decide ((mkS P).size ≤ 19) && allD (mkS P) && decide (0 ≤ A) && decide (A ≤ 1000000) && ([a, b, c, d].all inC) && ([e, f, g, h].all inC) && ([i, j, l, m].all inC)) = true
  simp [hk.1, hk.2, hd, hA.1, hA.2, mkS_sz, hp, h1.1, h1.2.1, h1.2.2.1, h1.2.2.2, h2.1, h2.2.1, h2.2.2.1, h2.2.2.2, h3.1, h3.2.1, h3.2.2.1, h3.2.2.2]
theorem recT_right {t : Txn} (h : OkT t) {k : Int} (hk : 1 ≤ k ∧ k ≤ 7) : (recT t k).rz.right = true := by
  have hg := given_in h
  obtain ⟨p1, p2, p3, a1, a2, few, _⟩ := h
  have hd : allD (mkS t.pan) = true := St.allD_of p3
  have hz : inC 0 = true := rfl
  have hde : allD (mkS []) = true := rfl
  have hz4 : inC 0 = true ∧ inC 0 = true ∧ inC 0 = true ∧ inC 0 = true := ⟨rfl, rfl, rfl, rfl⟩
  have hk2 : 1 ≤ k ∧ k < 10 := by omega
  have hf4 : inC t.n0 = true ∧ inC t.n1 = true ∧ inC t.n2 = true ∧ inC t.n3 = true := ⟨inC_few few.1, inC_few few.2.1, inC_few few.2.2.1, inC_few few.2.2.2⟩
  unfold recT
  split
  · exact right_of hk2 p2 hd (by omega) hz4 hz4 hz4
  · split
    · exact right_of hk2 (by simp) hde (by omega) hf4 hz4 hz4
    · split
      · exact right_of hk2 (by simp) hde (by omega) hz4 hz4 hz4
      · exact right_of hk2 (by simp) hde (by omega) hz4 hz4 hz4
theorem give_none (s : S4) : giveE s 0 0 0 0 0 0 0 0 = 0 ∧ giveT s 0 0 0 0 0 0 0 0 = s := by
  obtain ⟨h1, h2⟩ := give_yes (s := s) (g0 := 0) (g1 := 0) (by decide) (by decide) ⟨leftZ_nn _ _ _, leftZ_nn _ _ _⟩
  refine ⟨h1, h2.trans ?_⟩
  obtain ⟨⟨_, _, _, _⟩, ⟨_, _, _, _⟩, ⟨_, _, _, _⟩, ⟨_, _, _, _⟩⟩ := s
  simp [addS, addC]
/-- A transaction's record, on a book in which it is the last one, or is none yet. -/
theorem do_first {T : List Tm} {x : Tm} {L : List Txn} {r : Rec} {u : Txn} (hr : r.rz.right = true) (hx : T[r.term.toNat]? = some x) (h1 : r.kind = 1) (hL : ∀ y ∈ L, KZ.lt (kyT y) (kyR r)) (hn : L.length < 400) (hs : stepF zeroT r = (u, 0)) (hu : kyT u = kyR r) : doB ⟨T, L⟩ r = (⟨T, L ++ [u]⟩, 0) := by
  unfold doB
  rw [hr, if_neg (by decide)]
  simp only [hx]
  rw [if_neg (by omega), if_neg (by omega)]
  unfold stepB
  have hg : getK (kyR r) L = none := getK_no fun t ht => lt_ne (hL t ht)
  simp only [hg, Option.getD_none, hs, Option.isSome_none]
  rw [if_neg (by simp), if_neg (by omega), if_neg (by omega), insL_end fun t ht => by rw [hu]; exact hL t ht]
theorem do_next {T : List Tm} {x : Tm} {L : List Txn} {t u : Txn} {r : Rec} (hr : r.rz.right = true) (hx : T[r.term.toNat]? = some x) (h8 : r.kind ≠ 8) (h9 : r.kind ≠ 9) (h6 : r.kind ≠ 6) (hL : ∀ y ∈ L, KZ.lt (kyT y) (kyR r)) (hk : kyT t = kyR r) (hs : stepF t r = (u, 0)) (hu : kyT u = kyR r) :
    doB ⟨T, L ++ [t]⟩ r = (⟨T, L ++ [u]⟩, 0) := by
  unfold doB
  rw [hr, if_neg (by decide)]
  simp only [hx]
  rw [if_neg h9, if_neg h8]
  unfold stepB
  have hg : getK (kyR r) (L ++ [t]) = some t := getK_last hk fun y hy => lt_ne (hL y hy)
  simp only [hg, Option.getD_some, hs, Option.isSome_some]
  rw [if_neg (by simp), if_neg (by simp), if_neg h6, insL_last (hk.trans hu.symm) fun y hy => by rw [hu]; exact hL y hy]
theorem do_conf {T : List Tm} {x : Tm} {L : List Txn} {t u : Txn} {r : Rec} (hr : r.rz.right = true) (hx : T[r.term.toNat]? = some x) (h6 : r.kind = 6) (hn : r.n0 = 0 ∧ r.n1 = 0 ∧ r.n2 = 0 ∧ r.n3 = 0 ∧ r.x0 = 0 ∧ r.x1 = 0 ∧ r.x2 = 0 ∧ r.x3 = 0) (hL : ∀ y ∈ L, KZ.lt (kyT y) (kyR r)) (hk : kyT t = kyR r) (hs : stepF t r = (u, 0)) (hu : kyT u = kyR r) :
    doB ⟨T, L ++ [t]⟩ r = (⟨T, L ++ [u]⟩, 0) := by
  obtain ⟨e0, e1, e2, e3, e4, e5, e6, e7⟩ := hn
  unfold doB
  rw [hr, if_neg (by decide)]
  simp only [hx]
  rw [if_neg (by omega), if_neg (by omega)]
  unfold stepB
  have hg : getK (kyR r) (L ++ [t]) = some t := getK_last hk fun y hy => lt_ne (hL y hy)
  simp only [hg, Option.getD_some, hs, Option.isSome_some]
  rw [if_neg (by simp), if_neg (by simp), if_pos h6, insL_last (hk.trans hu.symm) fun y hy => by rw [hu]; exact hL y hy]
  rw [e0, e1, e2, e3, e4, e5, e6, e7, (give_none x.s).1, (give_none x.s).2, if_neg (by decide)]
  have hset : T.set r.term.toNat x = T := by
    have h := (List.getElem?_eq_some_iff.1 hx)
    rw [← h.2]; exact List.set_getElem_self h.1
  show ((⟨T.set r.term.toNat x, L ++ [u]⟩, (0 : Int)) : Bz × Int) = _
  rw [hset]
/-- The records of one transaction make it. -/
theorem run_txn {T : List Tm} {x : Tm} {L : List Txn} {t : Txn} (ht : OkT t) (hx : T[t.term.toNat]? = some x) (hL : ∀ y ∈ L, KZ.lt (kyT y) (kyT t)) (hn : L.length < 400) : Runs ⟨T, L⟩ (recsT t) ⟨T, L ++ [t]⟩ := by
  have hg := given_in ht
  have hR : ∀ k, 1 ≤ k ∧ k ≤ 7 → (recT t k).rz.right = true := fun k hk => recT_right ht hk
  have hX : ∀ k, T[(recT t k).term.toNat]? = some x := fun k => by rw [recT_term]; exact hx
  have hLk : ∀ k, ∀ y ∈ L, KZ.lt (kyT y) (kyR (recT t k)) := fun k y hy => by rw [recT_key]; exact hL y hy
  obtain ⟨p1, p2, p3, a1, a2, few, hst⟩ := ht
  have hpan : t.pan ≠ [] := fun e => by rw [e] at p1; simp at p1
  have step1 : doB ⟨T, L⟩ (recT t 1) = (⟨T, L ++ [u1 t]⟩, 0) :=
    do_first (hR 1 (by decide)) (hX 1) (recT_kind t 1) (hLk 1) hn (by
      unfold recT stepF fromL
      simp only [zeroT, if_true]
      rw [if_pos (by simp), if_neg hpan, if_neg (by omega)]
      rfl) rfl
  have key : ∀ {u : Txn} (k : Int), kyT u = kyT t → kyT u = kyR (recT t k) := fun k h => by rw [recT_key]; exact h
  have next : ∀ {u v : Txn} (k : Int), (1 ≤ k ∧ k ≤ 7) → k ≠ 6 → kyT u = kyT t → kyT v = kyT t → stepF u (recT t k) = (v, 0) → doB ⟨T, L ++ [u]⟩ (recT t k) = (⟨T, L ++ [v]⟩, 0) := fun {u v} k hk h6 hu hv hs =>
    do_next (hR k hk) (hX k) (by rw [recT_kind]; omega) (by rw [recT_kind]; omega) (by rw [recT_kind]; exact h6) (hLk k) (key k hu) hs (key k hv)
  have conf : ∀ {u v : Txn}, kyT u = kyT t → kyT v = kyT t → stepF u (recT t 6) = (v, 0) → doB ⟨T, L ++ [u]⟩ (recT t 6) = (⟨T, L ++ [v]⟩, 0) := fun {u v} hu hv hs =>
    do_conf (hR 6 (by decide)) (hX 6) (recT_kind t 6) ⟨rfl, rfl, rfl, rfl, rfl, rfl, rfl, rfl⟩ (hLk 6) (key 6 hu) hs (key 6 hv)
  have r2 : recT t 2 = ⟨2, t.term, t.stan, [], 0, 0, 0, 0, 0, 0, 0, 0, 0, 0, 0, 0, 0⟩ := rfl
  have r3 : recT t 3 = ⟨3, t.term, t.stan, [], 0, 0, 0, 0, 0, 0, 0, 0, 0, 0, 0, 0, 0⟩ := rfl
  have r4 : recT t 4 = ⟨4, t.term, t.stan, [], 0, 0, 0, 0, 0, 0, 0, 0, 0, 0, 0, 0, 0⟩ := rfl
  have r5 : recT t 5 = ⟨5, t.term, t.stan, [], 0, t.n0, t.n1, t.n2, t.n3, 0, 0, 0, 0, 0, 0, 0, 0⟩ := rfl
  have r6 : recT t 6 = ⟨6, t.term, t.stan, [], t.given, 0, 0, 0, 0, 0, 0, 0, 0, 0, 0, 0, 0⟩ := rfl
  have r7 : recT t 7 = ⟨7, t.term, t.stan, [], 0, 0, 0, 0, 0, 0, 0, 0, 0, 0, 0, 0, 0⟩ := rfl
  have kk : ∀ {b c d e f g h i : Int}, kyT ⟨t.term, t.stan, t.pan, t.amount, b, c, d, e, f, g, h⟩ = kyT t := by intros; rfl
  unfold u1 at step1
  have s2 : doB ⟨T, L ++ [⟨t.term, t.stan, t.pan, t.amount, 1, 0, 0, 0, 0, 0, 0⟩]⟩ (recT t 2) = (⟨T, L ++ [⟨t.term, t.stan, t.pan, t.amount, 2, 0, 0, 0, 0, 0, 0⟩]⟩, 0) :=
    next 2 (by decide) (by decide) (kk (i := 0)) (kk (i := 0)) (by rw [r2]; simp [stepF, fromL])
  have s3 : doB ⟨T, L ++ [⟨t.term, t.stan, t.pan, t.amount, 1, 0, 0, 0, 0, 0, 0⟩]⟩ (recT t 3) = (⟨T, L ++ [⟨t.term, t.stan, t.pan, t.amount, 6, 0, 0, 0, 0, 0, 0⟩]⟩, 0) :=
    next 3 (by decide) (by decide) (kk (i := 0)) (kk (i := 0)) (by rw [r3]; simp [stepF, fromL])
  have s4 : doB ⟨T, L ++ [⟨t.term, t.stan, t.pan, t.amount, 1, 0, 0, 0, 0, 0, 0⟩]⟩ (recT t 4) = (⟨T, L ++ [⟨t.term, t.stan, t.pan, t.amount, 4, 0, 0, 0, 0, 0, t.amount⟩]⟩, 0) :=
    next 4 (by decide) (by decide) (kk (i := 0)) (kk (i := 0)) (by rw [r4]; simp [stepF, fromL, revT])
  have s5 : doB ⟨T, L ++ [⟨t.term, t.stan, t.pan, t.amount, 2, 0, 0, 0, 0, 0, 0⟩]⟩ (recT t 5) = (⟨T, L ++ [⟨t.term, t.stan, t.pan, t.amount, 3, t.n0, t.n1, t.n2, t.n3, 0, 0⟩]⟩, 0) :=
    next 5 (by decide) (by decide) (kk (i := 0)) (kk (i := 0)) (by rw [r5]; simp [stepF, fromL])
  have s6 : t.amount - t.given ≠ 0 → doB ⟨T, L ++ [⟨t.term, t.stan, t.pan, t.amount, 3, t.n0, t.n1, t.n2, t.n3, 0, 0⟩]⟩ (recT t 6) = (⟨T, L ++ [⟨t.term, t.stan, t.pan, t.amount, 4, t.n0, t.n1, t.n2, t.n3, t.given, t.amount - t.given⟩]⟩, 0) := fun hne =>
    conf (kk (i := 0)) (kk (i := 0)) (by
      rw [r6]
      have h1 : ¬ t.amount < t.given := by omega
      simp [stepF, fromL, revT, h1, hne])
  have s6z : t.amount - t.given = 0 → doB ⟨T, L ++ [⟨t.term, t.stan, t.pan, t.amount, 3, t.n0, t.n1, t.n2, t.n3, 0, 0⟩]⟩ (recT t 6) = (⟨T, L ++ [⟨t.term, t.stan, t.pan, t.amount, 5, t.n0, t.n1, t.n2, t.n3, t.given, t.amount - t.given⟩]⟩, 0) := fun hne =>
    conf (kk (i := 0)) (kk (i := 0)) (by
      rw [r6]
      have h1 : ¬ t.amount < t.given := by omega
      simp [stepF, fromL, revT, h1, hne])
  have s7 : ∀ {a b c d e f : Int}, doB ⟨T, L ++ [⟨t.term, t.stan, t.pan, t.amount, 4, a, b, c, d, e, f⟩]⟩ (recT t 7) = (⟨T, L ++ [⟨t.term, t.stan, t.pan, t.amount, 5, a, b, c, d, e, f⟩]⟩, 0) := fun {a b c d e f} =>
    next 7 (by decide) (by decide) (kk (i := 0)) (kk (i := 0)) (by rw [r7]; simp [stepF, fromL])
  have hks : recsT t = (kindsZ t).map (recT t) := rfl
  have hkz : kindsZ t = if t.state = 1 then [1] else if t.state = 6 then [1, 3] else if t.state = 2 then [1, 2] else if t.state = 3 then [1, 2, 5] else if t.state = 5 ∧ 0 < t.owed then (if sentB t = true then [1, 2, 5, 6, 7] else [1, 4, 7]) else (if sentB t = true then [1, 2, 5, 6] else [1, 4]) := rfl
  have hsb : sentB t = (!(decide (t.n0 = 0) && decide (t.n1 = 0) && decide (t.n2 = 0) && decide (t.n3 = 0)) || decide (0 < t.given)) := rfl
  rw [hks]
  have fin : ∀ {a b c d e f g : Int}, t.state = a → t.n0 = b → t.n1 = c → t.n2 = d → t.n3 = e → t.given = f → t.owed = g → (⟨T, L ++ [t]⟩ : Bz) = ⟨T, L ++ [⟨t.term, t.stan, t.pan, t.amount, a, b, c, d, e, f, g⟩]⟩ := by
    rintro _ _ _ _ _ _ _ rfl rfl rfl rfl rfl rfl rfl
    rfl
  have unsent : sentB t = false → t.n0 = 0 ∧ t.n1 = 0 ∧ t.n2 = 0 ∧ t.n3 = 0 ∧ t.given = 0 := fun h => by
    rw [hsb] at h
    simp at h
    omega
  rcases hst with ⟨hs, ⟨z0, z1, z2, z3⟩, hgi, how⟩ | ⟨hs, hgi, how⟩ | ⟨hs, hw⟩ | ⟨hs, hw⟩
  · rcases hs with hs | hs | hs
    · have hz : kindsZ t = [1] := by rw [hkz]; simp [hs]
      rw [hz, fin hs z0 z1 z2 z3 hgi how]
      exact .cons step1 (.nil _)
    · have hz : kindsZ t = [1, 2] := by rw [hkz]; simp [hs]
      rw [hz, fin hs z0 z1 z2 z3 hgi how]
      exact .cons step1 (.cons s2 (.nil _))
    · have hz : kindsZ t = [1, 3] := by rw [hkz]; simp [hs]
      rw [hz, fin hs z0 z1 z2 z3 hgi how]
      exact .cons step1 (.cons s3 (.nil _))
  · have hz : kindsZ t = [1, 2, 5] := by rw [hkz]; simp [hs]
    rw [hz, fin hs rfl rfl rfl rfl hgi how]
    exact .cons step1 (.cons s2 (.cons s5 (.nil _)))
  · unfold owesT at hw
    have how : t.owed = t.amount - t.given := by omega
    cases hsn : sentB t with
    | true =>
      have hz : kindsZ t = [1, 2, 5, 6] := by rw [hkz]; simp [hs, hsn]
      rw [hz, fin hs rfl rfl rfl rfl rfl how]
      exact .cons step1 (.cons s2 (.cons s5 (.cons (s6 (by omega)) (.nil _))))
    | false =>
      obtain ⟨z0, z1, z2, z3, zg⟩ := unsent hsn
      have hz : kindsZ t = [1, 4] := by rw [hkz]; simp [hs, hsn]
      rw [hz, fin hs z0 z1 z2 z3 zg (show t.owed = t.amount by omega)]
      exact .cons step1 (.cons s4 (.nil _))
  · rcases hw with hw | hw
    · have how : t.owed = t.amount - t.given := by omega
      have hsn : sentB t = true := by
        cases h : sentB t with
        | true => rfl
        | false =>
          obtain ⟨_, _, _, _, zg⟩ := unsent h
          omega
      have hno : ¬ 0 < t.owed := by omega
      have hz : kindsZ t = [1, 2, 5, 6] := by rw [hkz]; simp [hs, hsn, hno]
      rw [hz, fin hs rfl rfl rfl rfl rfl how]
      exact .cons step1 (.cons s2 (.cons s5 (.cons (s6z (by omega)) (.nil _))))
    · unfold owesT at hw
      have how : t.owed = t.amount - t.given := by omega
      cases hsn : sentB t with
      | true =>
        have hz : kindsZ t = [1, 2, 5, 6, 7] := by rw [hkz]; simp [hs, hsn, hw.2.1]
        rw [hz, fin hs rfl rfl rfl rfl rfl how]
        exact .cons step1 (.cons s2 (.cons s5 (.cons (s6 (by omega)) (.cons s7 (.nil _)))))
      | false =>
        obtain ⟨z0, z1, z2, z3, zg⟩ := unsent hsn
        have hz : kindsZ t = [1, 4, 7] := by rw [hkz]; simp [hs, hsn, hw.2.1]
        rw [hz, fin hs z0 z1 z2 z3 zg (show t.owed = t.amount by omega)]
        exact .cons step1 (.cons s4 (.cons s7 (.nil _)))
theorem runs_txns {T : List Tm} (hT : ∀ t : Txn, 0 ≤ t.term → t.term.toNat < T.length → ∃ x, T[t.term.toNat]? = some x) : ∀ (L2 L1 : List Txn), Sorted (L1 ++ L2) → (∀ t ∈ L2, OkT t ∧ 0 ≤ t.term ∧ t.term.toNat < T.length) → (L1 ++ L2).length ≤ 400 → Runs ⟨T, L1⟩ (L2.flatMap recsT) ⟨T, L1 ++ L2⟩
  | [], L1, _, _, _ => by rw [List.append_nil]; exact .nil _
  | t :: l, L1, hs, ho, hl => by
    obtain ⟨o1, o2, o3⟩ := ho t (by simp)
    obtain ⟨x, hx⟩ := hT t o2 o3
    have hlt : ∀ y ∈ L1, KZ.lt (kyT y) (kyT t) := fun y hy => by
      unfold Sorted at hs
      rw [List.map_append, List.pairwise_append] at hs
      exact hs.2.2 _ (List.mem_map_of_mem hy) _ (by simp)
    have h1 := run_txn o1 hx hlt (by rw [List.length_append, List.length_cons] at hl; omega)
    have e : L1 ++ t :: l = (L1 ++ [t]) ++ l := by simp
    rw [List.flatMap_cons, e]
    rw [e] at hs hl
    exact h1.app (runs_txns hT l (L1 ++ [t]) hs (fun y hy => ho y (by simp [hy])) hl)
end Go.Proofs.YthaggpicjpkjiaaGreat.GL

namespace Go.Proofs.YthaggpicjpkjiaaGreat.GL
open Go Go.RowKit
open St (Txn txnL txnV zeroT RightT OkT Rec recV stepF fromL revT owesT noT RightR)
open Ca (S4 flat setV OkS OkC Cs giveE giveT loadE loadT leftZ fitS fitC fourIn fewIn addS addC loadS CassOk newS)
set_option maxRecDepth 10000
set_option pp.deepTerms.threshold 8
set_option pp.maxSteps 3000
set_option linter.unusedSimpArgs false
set_option linter.unusedVariables false

def sameS (a b : S4) : Bool :=
  decide (a.a.d = b.a.d) && (decide (a.a.l = b.a.l) && (decide (a.a.g = b.a.g) && (decide (a.a.r = b.a.r) && (decide (a.b.d = b.b.d) && (decide (a.b.l = b.b.l) && (decide (a.b.g = b.b.g) && (decide (a.b.r = b.b.r) &&
  (decide (a.c.d = b.c.d) && (decide (a.c.l = b.c.l) && (decide (a.c.g = b.c.g) && (decide (a.c.r = b.c.r) && (decide (a.e.d = b.e.d) && (decide (a.e.l = b.e.l) && (decide (a.e.g = b.e.g) && decide (a.e.r = b.e.r)))))))))))))))
theorem sameS_eq {a b : S4} (h : sameS a b = true) : a = b := by
  obtain ⟨⟨_, _, _, _⟩, ⟨_, _, _, _⟩, ⟨_, _, _, _⟩, ⟨_, _, _, _⟩⟩ := a
  obtain ⟨⟨_, _, _, _⟩, ⟨_, _, _, _⟩, ⟨_, _, _, _⟩, ⟨_, _, _, _⟩⟩ := b
  unfold sameS at h
  simp only [Bool.and_eq_true, decide_eq_true_eq] at h
  obtain ⟨h1, h2, h3, h4, h5, h6, h7, h8, h9, ha, hb, hc, hd, he, hf, hg⟩ := h
  simp only [S4.mk.injEq, Cs.mk.injEq]
  exact ⟨⟨h1, h2, h3, h4⟩, ⟨h5, h6, h7, h8⟩, ⟨h9, ha, hb, hc⟩, ⟨hd, he, hf, hg⟩⟩
def ldR (i : Nat) (x : Tm) : Rec := ⟨8, i, 0, [], x.ld, x.s.a.g, x.s.b.g, x.s.c.g, x.s.e.g, x.s.a.r, x.s.b.r, x.s.c.r, x.s.e.r, x.s.a.l, x.s.b.l, x.s.c.l, x.s.e.l⟩
def outR (i : Nat) : Rec := ⟨9, i, 0, [], 0, 0, 0, 0, 0, 0, 0, 0, 0, 0, 0, 0, 0⟩
def ldB (f x : Tm) : Bool := !sameS x.s f.s || !decide (x.ld = 0)
def recsTm (i : Nat) (f x : Tm) : List Rec := (if ldB f x = true then [ldR i x] else []) ++ (if x.out = true then [outR i] else [])
structure WdT (f x : Tm) : Prop where
  out : f.out = false
  ld : f.ld = 0
  den : x.s.a.d = f.s.a.d ∧ x.s.b.d = f.s.b.d ∧ x.s.c.d = f.s.c.d ∧ x.s.e.d = f.s.e.d
  ok : OkS x.s
  rng : 0 ≤ x.ld ∧ x.ld ≤ 1000000
theorem inC_fewA {z : Int} (h : fewIn z) : inC z = true := by
  unfold fewIn at h
  exact inC_small h
theorem load_back {f x : Tm} (h : WdT f x) : giveE (loadT f.s x.s.a.l x.s.b.l x.s.c.l x.s.e.l) x.s.a.g x.s.b.g x.s.c.g x.s.e.g x.s.a.r x.s.b.r x.s.c.r x.s.e.r = 0 ∧ giveT (loadT f.s x.s.a.l x.s.b.l x.s.c.l x.s.e.l) x.s.a.g x.s.b.g x.s.c.g x.s.e.g x.s.a.r x.s.b.r x.s.c.r x.s.e.r = x.s := by
  obtain ⟨_, _, ⟨d0, d1, d2, d3⟩, ⟨o0, o1, o2, o3⟩, _⟩ := h
  have hl : fourIn x.s.a.l x.s.b.l x.s.c.l x.s.e.l := ⟨o0.1, o1.1, o2.1, o3.1⟩
  have hg : fourIn x.s.a.g x.s.b.g x.s.c.g x.s.e.g := ⟨o0.2.1, o1.2.1, o2.2.1, o3.2.1⟩
  have hr : fourIn x.s.a.r x.s.b.r x.s.c.r x.s.e.r := ⟨o0.2.2.1, o1.2.2.1, o2.2.2.1, o3.2.2.1⟩
  have hlt : loadT f.s x.s.a.l x.s.b.l x.s.c.l x.s.e.l = loadS f.s x.s.a.l x.s.b.l x.s.c.l x.s.e.l := by unfold loadT; rw [if_pos hl]
  have hz : ∀ {l : Int}, fewIn l → leftZ l 0 0 = l := fun {l} hl => by
    unfold leftZ
    rw [if_pos ⟨hl, by decide, by decide⟩]
    unfold fewIn at hl
    omega
  have hfit : fitS (loadS f.s x.s.a.l x.s.b.l x.s.c.l x.s.e.l) x.s.a.g x.s.b.g x.s.c.g x.s.e.g x.s.a.r x.s.b.r x.s.c.r x.s.e.r := by
    refine ⟨?_, ?_, ?_, ?_⟩
    · show x.s.a.g + x.s.a.r ≤ leftZ x.s.a.l 0 0
      rw [hz o0.1]; exact o0.2.2.2.1
    · show x.s.b.g + x.s.b.r ≤ leftZ x.s.b.l 0 0
      rw [hz o1.1]; exact o1.2.2.2.1
    · show x.s.c.g + x.s.c.r ≤ leftZ x.s.c.l 0 0
      rw [hz o2.1]; exact o2.2.2.2.1
    · show x.s.e.g + x.s.e.r ≤ leftZ x.s.e.l 0 0
      rw [hz o3.1]; exact o3.2.2.2.1
  rw [hlt]
  unfold giveE giveT
  simp only [if_pos (show fourIn x.s.a.g x.s.b.g x.s.c.g x.s.e.g ∧ fourIn x.s.a.r x.s.b.r x.s.c.r x.s.e.r from ⟨hg, hr⟩), if_pos hfit]
  refine ⟨trivial, ?_⟩
  obtain ⟨⟨⟨_, _, _, _⟩, ⟨_, _, _, _⟩, ⟨_, _, _, _⟩, ⟨_, _, _, _⟩⟩, _, _⟩ := x
  simp only at d0 d1 d2 d3
  simp only [addS, addC, loadS, Int.zero_add, d0, d1, d2, d3]
theorem do_load {T : List Tm} {L : List Txn} {i : Nat} {f x : Tm} (hi : T[i]? = some f) (h : WdT f x) : doB ⟨T, L⟩ (ldR i x) = (⟨T.set i ⟨x.s, false, x.ld⟩, L⟩, 0) := by
  obtain ⟨h1, h2⟩ := load_back h
  obtain ⟨_, _, _, ⟨o0, o1, o2, o3⟩, hr⟩ := h
  have hright : (ldR i x).rz.right = true := right_of (by decide) (by simp) rfl hr ⟨inC_fewA o0.2.1, inC_fewA o1.2.1, inC_fewA o2.2.1, inC_fewA o3.2.1⟩ ⟨inC_fewA o0.2.2.1, inC_fewA o1.2.2.1, inC_fewA o2.2.2.1, inC_fewA o3.2.2.1⟩ ⟨inC_fewA o0.1, inC_fewA o1.1, inC_fewA o2.1, inC_fewA o3.1⟩
  have hti : (ldR i x).term.toNat = i := by show ((i : Int)).toNat = i; omega
  unfold doB
  rw [hright, if_neg (by decide), hti]
  simp only [hi]
  rw [if_neg (by show ¬ (8 : Int) = 9; decide), if_pos (by show (8 : Int) = 8; rfl)]
  show (if giveE (loadT f.s x.s.a.l x.s.b.l x.s.c.l x.s.e.l) x.s.a.g x.s.b.g x.s.c.g x.s.e.g x.s.a.r x.s.b.r x.s.c.r x.s.e.r ≠ 0 then _ else ((⟨T.set i ⟨giveT (loadT f.s x.s.a.l x.s.b.l x.s.c.l x.s.e.l) x.s.a.g x.s.b.g x.s.c.g x.s.e.g x.s.a.r x.s.b.r x.s.c.r x.s.e.r, false, x.ld⟩, L⟩ : Bz), (0 : Int))) = _
  rw [h1, h2, if_neg (by decide)]
theorem do_out {T : List Tm} {L : List Txn} {i : Nat} {y : Tm} (hi : T[i]? = some y) : doB ⟨T, L⟩ (outR i) = (⟨T.set i { y with out := true }, L⟩, 0) := by
  have hz : inC 0 = true ∧ inC 0 = true ∧ inC 0 = true ∧ inC 0 = true := ⟨rfl, rfl, rfl, rfl⟩
  have hright : (outR i).rz.right = true := right_of (by decide) (by simp) rfl (by decide) hz hz hz
  have hti : (outR i).term.toNat = i := by show ((i : Int)).toNat = i; omega
  unfold doB
  rw [hright, if_neg (by decide), hti]
  simp only [hi]
  rw [if_pos (by show (9 : Int) = 9; rfl)]
theorem run_tm {T : List Tm} {L : List Txn} {i : Nat} {f x : Tm} (hi : T[i]? = some f) (h : WdT f x) : Runs ⟨T, L⟩ (recsTm i f x) ⟨T.set i x, L⟩ := by
  have hlt : i < T.length := (List.getElem?_eq_some_iff.1 hi).1
  have hself : T.set i f = T := by
    have h := (List.getElem?_eq_some_iff.1 hi)
    rw [← h.2]; exact List.set_getElem_self h.1
  unfold recsTm
  have h1 : Runs ⟨T, L⟩ (if ldB f x = true then [ldR i x] else []) ⟨T.set i ⟨x.s, false, x.ld⟩, L⟩ := by
    cases hb : ldB f x with
    | true => simp only [if_true]; exact .one (do_load hi h)
    | false =>
      simp only [Bool.false_eq_true, if_false]
      unfold ldB at hb
      rw [Bool.or_eq_false_iff, Bool.not_eq_false', Bool.not_eq_false', decide_eq_true_eq] at hb
      have he : (⟨x.s, false, x.ld⟩ : Tm) = f := by
        obtain ⟨fs, fo, fl⟩ := f
        have e1 := sameS_eq hb.1
        have e2 := h.out
        have e3 := h.ld
        simp only at e1 e2 e3
        rw [e1, hb.2, e2, e3]
      rw [he, hself]
      exact .nil _
  refine h1.app ?_
  cases ho : x.out with
  | true =>
    simp only [if_true]
    have := do_out (T := T.set i ⟨x.s, false, x.ld⟩) (L := L) (i := i) (y := ⟨x.s, false, x.ld⟩) (by rw [List.getElem?_set_self hlt])
    rw [List.set_set] at this
    have he : ({ (⟨x.s, false, x.ld⟩ : Tm) with out := true } : Tm) = x := by
      obtain ⟨xs, xo, xl⟩ := x
      simp only at ho
      rw [ho]
    rw [he] at this
    exact .one this
  | false =>
    simp only [Bool.false_eq_true, if_false]
    have he : (⟨x.s, false, x.ld⟩ : Tm) = x := by
      obtain ⟨xs, xo, xl⟩ := x
      simp only at ho
      rw [ho]
    rw [he]
    exact .nil _
def recsFrom : Nat → List Tm → List Tm → List Rec
  | i, f :: fs, x :: xs => recsTm i f x ++ recsFrom (i + 1) fs xs
  | _, _, _ => []
theorem recsFrom_snoc {f x : Tm} : ∀ {fs xs : List Tm} {i : Nat}, fs.length = xs.length → recsFrom i (fs ++ [f]) (xs ++ [x]) = recsFrom i fs xs ++ recsTm (i + fs.length) f x
  | [], [], i, _ => by simp [recsFrom]
  | [], _ :: _, _, h => by simp at h
  | _ :: _, [], _, h => by simp at h
  | g :: fs, y :: xs, i, h => by
    have ih := recsFrom_snoc (f := f) (x := x) (fs := fs) (xs := xs) (i := i + 1) (by simpa using h)
    have e : i + (g :: fs).length = i + 1 + fs.length := by rw [List.length_cons]; omega
    rw [e]
    show recsTm i g y ++ recsFrom (i + 1) (fs ++ [f]) (xs ++ [x]) = (recsTm i g y ++ recsFrom (i + 1) fs xs) ++ recsTm (i + 1 + fs.length) f x
    rw [ih, List.append_assoc]
theorem runs_tms {L : List Txn} : ∀ (F2 X2 P : List Tm), F2.length = X2.length → (∀ (i : Nat) (f x : Tm), F2[i]? = some f → X2[i]? = some x → WdT f x) → Runs ⟨P ++ F2, L⟩ (recsFrom P.length F2 X2) ⟨P ++ X2, L⟩
  | [], [], P, _, _ => .nil _
  | f :: fs, x :: xs, P, hl, h => by
    have h1 := run_tm (T := P ++ f :: fs) (L := L) (i := P.length) (f := f) (x := x) (by simp) (h 0 f x rfl rfl)
    have e : (P ++ f :: fs).set P.length x = (P ++ [x]) ++ fs := by simp
    rw [e] at h1
    have h2 := runs_tms (L := L) fs xs (P ++ [x]) (by simpa using hl) (fun i g y hg hy => h (i + 1) g y (by simpa using hg) (by simpa using hy))
    rw [List.length_append] at h2
    have e2 : P ++ x :: xs = (P ++ [x]) ++ xs := by simp
    rw [e2]
    exact h1.app h2
  | [], _ :: _, _, hl, _ => by simp at hl
  | _ :: _, [], _, hl, _ => by simp at hl
/-- What a book is sure of, beside what it began with. -/
structure Wd (F : List Tm) (b : Bz) : Prop where
  ln : F.length = b.T.length
  tm : ∀ (i : Nat) (f x : Tm), F[i]? = some f → b.T[i]? = some x → WdT f x
  key : ∀ t ∈ b.L, 0 ≤ t.term ∧ t.term.toNat < b.T.length
def recsZ (F : List Tm) (b : Bz) : List Rec := b.L.flatMap recsT ++ recsFrom 0 F b.T
theorem runs_all {F : List Tm} {b : Bz} (h : Wd F b) (hok : BOk b) : Runs ⟨F, []⟩ (recsZ F b) b := by
  have h1 := runs_txns (T := F) (fun t h0 hl => ⟨_, List.getElem?_eq_getElem hl⟩) b.L [] hok.ord (fun t ht => ⟨hok.ok t ht, (h.key t ht).1, by have := (h.key t ht).2; rw [← h.ln] at this; exact this⟩) hok.len
  have h2 := runs_tms (L := b.L) F b.T [] h.ln h.tm
  exact h1.app h2
end Go.Proofs.YthaggpicjpkjiaaGreat.GL

namespace Go.Proofs.YthaggpicjpkjiaaGreat.GL
open Go Go.RowKit
open St (Txn txnL txnV zeroT RightT OkT Rec recV stepF fromL revT owesT noT RightR)
open Ca (S4 flat setV OkS OkC Cs giveE giveT loadE loadT leftZ fitS fitC fourIn fewIn addS addC loadS CassOk newS)
set_option maxRecDepth 10000
set_option pp.deepTerms.threshold 8
set_option pp.maxSteps 3000
set_option linter.unusedSimpArgs false
set_option linter.unusedVariables false

def SameD (a b : S4) : Prop := a.a.d = b.a.d ∧ a.b.d = b.b.d ∧ a.c.d = b.c.d ∧ a.e.d = b.e.d
theorem giveT_d (s : S4) (n0 n1 n2 n3 r0 r1 r2 r3 : Int) : SameD (giveT s n0 n1 n2 n3 r0 r1 r2 r3) s := by
  unfold giveT
  split
  · split
    · exact ⟨rfl, rfl, rfl, rfl⟩
    · exact ⟨rfl, rfl, rfl, rfl⟩
  · exact ⟨rfl, rfl, rfl, rfl⟩
theorem loadT_d (s : S4) (n0 n1 n2 n3 : Int) : SameD (loadT s n0 n1 n2 n3) s := by
  unfold loadT
  split
  · exact ⟨rfl, rfl, rfl, rfl⟩
  · exact ⟨rfl, rfl, rfl, rfl⟩
theorem SameD.trans {a b c : S4} (h1 : SameD a b) (h2 : SameD b c) : SameD a c := ⟨h1.1.trans h2.1, h1.2.1.trans h2.2.1, h1.2.2.1.trans h2.2.2.1, h1.2.2.2.trans h2.2.2.2⟩
theorem Wd.set {F : List Tm} {b : Bz} (h : Wd F b) {i : Nat} {x y : Tm} (hx : b.T[i]? = some x) (hd : SameD y.s x.s) (hy : OkS y.s) (hr : 0 ≤ y.ld ∧ y.ld ≤ 1000000) {L : List Txn} (hL : ∀ t ∈ L, 0 ≤ t.term ∧ t.term.toNat < b.T.length) : Wd F ⟨b.T.set i y, L⟩ := by
  refine ⟨by simpa using h.ln, fun j f z hf hz => ?_, fun t ht => by simpa using hL t ht⟩
  have hi := (List.getElem?_eq_some_iff.1 hx).1
  by_cases hj : i = j
  · subst hj
    rw [List.getElem?_set_self hi] at hz
    cases hz
    have w := h.tm i f x hf hx
    exact ⟨w.out, w.ld, hd.trans w.den, hy, hr⟩
  · rw [List.getElem?_set_ne hj] at hz
    exact h.tm j f z hf hz
theorem doB_wd {F : List Tm} {b : Bz} (h : Wd F b) (hok : BOk b) {r : Rec} (h0 : 0 ≤ r.term) : Wd F (doB b r).1 := by
  have hok2 := doB_ok hok r h0
  unfold doB at hok2 ⊢
  by_cases hrr : r.rz.right = false
  · rw [if_pos hrr]; exact h
  rw [if_neg hrr] at hok2 ⊢
  cases hx : b.T[r.term.toNat]? with
  | none => exact h
  | some x =>
    rw [hx] at hok2
    have hlt : r.term.toNat < b.T.length := (List.getElem?_eq_some_iff.1 hx).1
    obtain ⟨f, hf⟩ : ∃ f, F[r.term.toNat]? = some f := ⟨_, List.getElem?_eq_getElem (by rw [h.ln]; exact hlt)⟩
    have w := h.tm _ f x hf hx
    have hmem : ∀ y : Tm, y ∈ b.T.set r.term.toNat y := fun y => List.mem_of_getElem? (List.getElem?_set_self hlt)
    simp only at hok2 ⊢
    by_cases h9 : r.kind = 9
    · rw [if_pos h9]
      exact h.set (y := { x with out := true }) hx ⟨rfl, rfl, rfl, rfl⟩ w.ok w.rng h.key
    rw [if_neg h9] at hok2 ⊢
    by_cases h8 : r.kind = 8
    · rw [if_pos h8] at hok2 ⊢
      by_cases hg : giveE (loadT x.s r.x4 r.x5 r.x6 r.x7) r.n0 r.n1 r.n2 r.n3 r.x0 r.x1 r.x2 r.x3 ≠ 0
      · rw [if_pos hg]; exact h
      · rw [if_neg hg] at hok2 ⊢
        have hrr2 : r.rz.right = true := by simpa using hrr
        have ham : 0 ≤ r.amount ∧ r.amount ≤ 1000000 := by
          simp only [RZ.right, Rec.rz, Bool.and_eq_true] at hrr2
          exact ⟨of_decide_eq_true hrr2.1.1.1.1.2, of_decide_eq_true hrr2.1.1.1.2⟩
        exact h.set hx ((giveT_d _ _ _ _ _ _ _ _ _).trans (loadT_d _ _ _ _ _)) (hok2.sets _ (hmem _)) ham h.key
    rw [if_neg h8] at hok2 ⊢
    have hR := right_R (by simpa using hrr) h8 h9
    have hkey := fun he => step_key hok hR he
    unfold stepB at hok2 ⊢
    simp only at hok2 ⊢
    obtain ⟨q, hq⟩ : ∃ q, q = stepF ((getK (kyR r) b.L).getD zeroT) r := ⟨_, rfl⟩
    rw [← hq] at hkey hok2 ⊢
    by_cases he : q.2 = 0
    case neg => rw [if_pos he]; exact h
    rw [if_neg (not_not_intro he)] at hok2 ⊢
    have hins : ∀ t ∈ insL q.1 b.L, 0 ≤ t.term ∧ t.term.toNat < b.T.length := fun t ht => by
      rcases insL_mem ht with e | e
      · have h1 : q.1.term = r.term := congrArg KZ.t (hkey he)
        rw [e, h1]; exact ⟨h0, hlt⟩
      · exact h.key t e
    by_cases hfull : (getK (kyR r) b.L).isSome = false ∧ 400 ≤ b.L.length
    · rw [if_pos hfull]; exact h
    rw [if_neg hfull] at hok2 ⊢
    by_cases h6 : r.kind = 6
    · rw [if_pos h6] at hok2 ⊢
      by_cases hg : giveE x.s r.n0 r.n1 r.n2 r.n3 r.x0 r.x1 r.x2 r.x3 ≠ 0
      · rw [if_pos hg]; exact h
      · rw [if_neg hg] at hok2 ⊢
        exact h.set hx (giveT_d _ _ _ _ _ _ _ _ _) (hok2.sets _ (hmem _)) w.rng hins
    · rw [if_neg h6]
      exact ⟨h.ln, h.tm, hins⟩
theorem wd_new {T : List S4} (h : ∀ s ∈ T, CassOk s) : Wd (T.map tm0) ⟨T.map tm0, []⟩ := by
  refine ⟨rfl, fun i f x hf hx => ?_, fun t ht => by cases ht⟩
  rw [hf] at hx
  cases hx
  rw [List.getElem?_map] at hf
  cases hs : T[i]? with
  | none => rw [hs] at hf; cases hf
  | some s =>
    rw [hs] at hf
    cases hf
    exact ⟨rfl, rfl, ⟨rfl, rfl, rfl, rfl⟩, ok_newS (h s (List.mem_of_getElem? hs)), by simp [tm0]⟩
theorem recsTm_len (i : Nat) (f x : Tm) : (recsTm i f x).length ≤ 2 := by
  unfold recsTm
  split <;> split <;> simp
theorem recsFrom_len : ∀ (i : Nat) (fs xs : List Tm), (recsFrom i fs xs).length ≤ 2 * xs.length
  | i, f :: fs, x :: xs => by
    have h1 := recsTm_len i f x
    have h2 := recsFrom_len (i + 1) fs xs
    simp only [recsFrom, List.length_append, List.length_cons]
    omega
  | _, [], _ => by simp [recsFrom]
  | _, _ :: _, [] => by simp [recsFrom]
theorem recsT_len : ∀ l : List Txn, (l.flatMap recsT).length ≤ 5 * l.length
  | [] => by simp
  | t :: l => by
    have h1 := kindsZ_len t
    have h2 := recsT_len l
    rw [List.flatMap_cons, List.length_append]
    have h3 : (recsT t).length = (kindsZ t).length := by unfold recsT; rw [List.length_map]
    rw [List.length_cons]
    omega
theorem recsZ_len {F : List Tm} {b : Bz} (hT : b.T.length ≤ 8) (hL : b.L.length ≤ 100) : (recsZ F b).length ≤ 600 := by
  have h1 := recsT_len b.L
  have h2 := recsFrom_len 0 F b.T
  unfold recsZ
  rw [List.length_append]
  omega
end Go.Proofs.YthaggpicjpkjiaaGreat.GL

namespace Go.Proofs.YthaggpicjpkjiaaGreat.GL
open Go Go.RowKit
open St (Txn txnL txnV zeroT RightT OkT Rec recV stepF)
open Ca (S4 flat setV OkS notesV)
set_option maxRecDepth 10000
set_option pp.deepTerms.threshold 8
set_option pp.maxSteps 3000
set_option linter.unusedSimpArgs false
set_option linter.unusedVariables false

theorem recL17 (r : Rec) : (recL r).length = 17 := rfl
theorem recL1 (r : Rec) : (recL r).all (·.oneCell') = true := rfl
def zRec : Value := .agg #[.int .i64 0, .int .u16 0, .int .u32 0, .string ByteArray.empty, .int .i64 0, .int .i64 0, .int .i64 0, .int .i64 0, .int .i64 0, .int .i64 0, .int .i64 0, .int .i64 0, .int .i64 0, .int .i64 0, .int .i64 0, .int .i64 0, .int .i64 0]
theorem zeroRec : zeroV Tryz.prog 41 = some zRec := by
  simp [facts]
  rfl
abbrev noH : Heap := fun _ => none
/-- append of a record that lies alone in a block. -/
theorem rec_app {F U H : Heap} {K : Kont} {v : Value} {n b : Nat} {rs : List Rec} {r : Rec} (t : TwoO F U noH H) (h : LstR U v 17 n (rowsC recL rs)) (hb : H b = some (.row true 0 (recL r) 0)) (hn : n ≤ 10000)
    (hK : ∀ v' H' U', TwoO F U' noH H' → LstR U' v' 17 (n + 1) (rowsC recL (rs ++ [r])) → K v' H') :
    eApp Tryz.prog 48 48 v (.slice (some ⟨b, 0, none⟩) 1 1) H K := by
  have hs : SlA H (some ⟨b, 0, none⟩) 1 17 (rowsC recL [r]) := SlA.row hb (Nat.le_refl _) rfl (Nat.le_refl 17) rfl
  rw [rowsC_single] at hs
  refine LstR.app (H0 := H) (B0 := U) (e := 41) (s := 17) (nbs := 136) (z := zRec) (m := 1) (ys := recL r) (by simp [facts]) (by simp [facts]) (by simp [facts]) zeroRec rfl (by decide) h (Own.refl t.ale)
    (src_sl (e1 := 41) (z := zRec) (by simp [facts]) (by simp [facts]) zeroRec hs) rfl (recL1 r) (by omega) ?_
  intro v' H' U' ow l k _
  exact hK v' H' U' (t.left ow) (by rw [rowsC_app, rowsC_single]; exact l)
def rcInv (H1 : Heap) (p n : Nat) (a : Option Addr) (c : Nat) (L : List Txn) (s : St) : Prop :=
  ∃ (j : Nat) (F U : Heap) (v : Value) (rs : List Rec), j ≤ n ∧ rs = (L.take j).flatMap recsT ∧ s.env 0 = .pointer (some ⟨p, 0, none⟩) ∧ s.env 3 = v ∧ s.env 12 = .slice a n c ∧ s.env 13 = .int .i64 n ∧ s.env 14 = .int .i64 j ∧ Heap.le H1 F ∧ TwoO F U noH s.heap ∧ LstR U v 17 rs.length (rowsC recL rs)
def rc2Inv (F : Heap) (p n j b5 : Nat) (a : Option Addr) (c : Nat) (kv : Value) (ks : List Int) (t : Txn) (done : List Rec) (s : St) : Prop :=
  ∃ (i : Nat) (U : Heap) (v : Value) (rs : List Rec), i ≤ ks.length ∧ rs = done ++ (ks.take i).map (recT t) ∧ s.env 0 = .pointer (some ⟨p, 0, none⟩) ∧ s.env 3 = v ∧ s.env 5 = .pointer (some ⟨b5, 0, none⟩) ∧ s.env 12 = .slice a n c ∧ s.env 13 = .int .i64 n ∧ s.env 14 = .int .i64 j ∧ s.env 19 = kv ∧ s.env 20 = .int .i64 ks.length ∧ s.env 21 = .int .i64 i ∧ TwoO F U noH s.heap ∧ LstR U v 17 rs.length (rowsC recL rs)
def rc3Inv (Fb : Heap) (p nt : Nat) (ta : Option Addr) (tc : Nat) (base : List Rec) (F0 T : List Tm) (s : St) : Prop :=
  ∃ (j : Nat) (F U : Heap) (v : Value) (rs : List Rec), j ≤ nt ∧ rs = base ++ recsFrom 0 (F0.take j) (T.take j) ∧ s.env 0 = .pointer (some ⟨p, 0, none⟩) ∧ s.env 3 = v ∧ s.env 36 = .slice ta nt tc ∧ s.env 37 = .int .i64 nt ∧ s.env 38 = .int .i64 j ∧ Heap.le Fb F ∧ TwoO F U noH s.heap ∧ LstR U v 17 rs.length (rowsC recL rs)
theorem same_cells (a b : S4) : eqCells [.int, .int, .int, .int, .int, .int, .int, .int, .int, .int, .int, .int, .int, .int, .int, .int] (flat a) (flat b) = some (sameS a b) := by
  unfold flat sameS
  simp [eqC_int, eqC_nil]
set_option maxHeartbeats 1600000 in
theorem records_c {H R : Heap} {p m : Nat} {fv tv : Value} {M : List Txn} {F0 : List Tm} {b : Bz} (hR : Heap.le R H) (hB : BookR R p fv tv m M b.T) (hF0 : LstR R fv 18 F0.length (rowsC Tm.cells F0)) (hp : M.Perm b.L) (hok : BOk b) (hw : Wd F0 b) (hL : b.L.length ≤ 100) :
    ECalls Tryz.prog 11 #[.pointer (some ⟨p, 0, none⟩)] H fun v H' => ∃ U, Own H (fun _ => none) H' U ∧ LstR U v 17 (recsZ F0 b).length (rowsC recL (recsZ F0 b)) := by
  refine ecalls_of_ewp (args := [_]) Tryz.func11 rfl rfl rfl (by simp [Tryz.ntmps11]) (by kernel_rfl) ?_
  have hT8 := hok.few
  simp (disch := first | omega | assumption | decide | (simp <;> omega) | fail) [facts, ]
  refine (all_c H p fv tv m M b.L b.T (hB.le hR) hp hok.ord (by omega)).mono ?_
  rintro v H1 ⟨UA, owA, lA⟩
  obtain ⟨a, c, rfl, hsl, _⟩ := lA.sl owA.le
  obtain ⟨n, hn⟩ : ∃ n, n = b.L.length := ⟨_, rfl⟩
  rw [← hn] at hsl ⊢
  have hH1 := owA.all
  simp (disch := first | omega | assumption | decide | (simp <;> omega) | fail) [facts, ]
  refine w_loop (rcInv H1 p n a c b.L) (fun st => n - (intOf (st.env 14)).toNat) ?_ ?_
  · exact ⟨0, H1, noH, .slice none 0 0, [], Nat.zero_le _, rfl, by simp, by simp, by simp, by simp, by simp, Heap.le_refl _, ⟨Heap.le_refl _, fun _ _ h => (by cases h), fun _ _ h => (by cases h), Off.nil, Off.nil, Off.nil⟩, LstR.nil _ _⟩
  rintro ⟨env, G⟩ ⟨j, F, U, v, rs, hj, hrs, e0, e3, e12, e13, e14, hF, t0, lU⟩
  simp only at e0 e3 e12 e13 e14 t0
  have hrsl : rs.length ≤ 500 := by
    rw [hrs]
    refine Nat.le_trans (recsT_len _) ?_
    rw [List.length_take]
    omega
  by_cases hlt : j < n
  · have hltI : (j : Int) < (n : Int) := by omega
    obtain ⟨t, ht⟩ : ∃ t, b.L[j]? = some t := ⟨_, List.getElem?_eq_getElem (by omega)⟩
    obtain ⟨ab, ao, rfl⟩ := hsl.lit (by omega)
    have rk : rdNU (G ab) (ao + j * 11) 11 = some (txnL t) := (hsl.le (Heap.le_trans hF t0.fle)).el txn11 ht (j := 0) (r := 11) (by decide) (by decide)
    have tl := txn11 t
    have tone := txn1 t
    have j11 : List.take 11 (txnL t) = txnL t := rfl
    have hspl : splice [.int .u16 0, .int .u32 0, .string (mkS []), .int .i64 0, .int .i64 0, .int .i64 0, .int .i64 0, .int .i64 0, .int .i64 0, .int .i64 0, .int .i64 0] 0 (txnL t) = txnL t := splice_all rfl
    have ck := fun H => kinds_c t H
    have cr := fun k H => record_c t k H
    simp only [txnV] at ck cr
    simp (disch := first | omega | assumption | decide | (simp <;> omega) | fail) [facts, e12, e13, e14, hltI, rk]
    refine fresh_intro fun b5 hb5 => ?_
    have t1 := t0.keep hb5 (.row true 0 (txnL t) 0)
    have hb5F := le_of_none t0.fle hb5
    have hF1 := Heap.le_trans hF (le_upd (.row true 0 (txnL t) 0) hb5F)
    have r5F := upd_same F b5 (.row true 0 (txnL t) 0)
    simp (disch := first | omega | assumption | decide | (simp <;> omega) | fail) [facts, upd_upd, hspl]
    generalize upd F b5 _ = F1 at *
    generalize upd G b5 _ = G1 at *
    have r5 := t1.fle _ _ r5F
    simp (disch := first | omega | assumption | decide | (simp <;> omega) | fail) [facts, r5, j11]
    refine (ck G1).mono ?_
    rintro v2 G2 ⟨Rk, owk, lk⟩
    obtain ⟨ks, hks⟩ : ∃ ks, ks = kindsZ t := ⟨_, rfl⟩
    rw [← hks] at lk
    have hks0 : 0 < ks.length := by
      rw [hks]
      unfold kindsZ
      repeat' split
      all_goals decide
    have hks5 : ks.length ≤ 5 := by rw [hks]; exact kindsZ_len t
    have t2 := t1.grow owk.all
    rcases lk with ⟨_, h0, _⟩ | ⟨kb, ko, kc, ktail, kroom, rfl, hkr, hkl, hkc, hkf⟩
    · omega
    have hkb1 : G1 kb = none := by
      cases hg : G1 kb with
      | none => rfl
      | some o => have := owk.off _ _ hg; rw [this] at hkr; cases hkr
    have hkG := owk.le _ _ hkr
    have hkU := le_of_none t1.ale hkb1
    have t3 : TwoO (upd F1 kb (.row true ko (ks.map i64V ++ ktail) kroom)) U noH G2 := by
      have := t2.keep2 (b := kb) hkU rfl (.row true ko (ks.map i64V ++ ktail) kroom)
      have e : upd G2 kb (.row true ko (ks.map i64V ++ ktail) kroom) = G2 := by
        funext i
        by_cases hi : i = kb
        · rw [hi, upd_same, hkG]
        · rw [upd_ne _ _ hi]
      rw [e] at this
      exact this
    have hkF1 := le_of_none t1.fle hkb1
    have hF2 := Heap.le_trans hF1 (le_upd (.row true ko (ks.map i64V ++ ktail) kroom) hkF1)
    have rkF := upd_same F1 kb (.row true ko (ks.map i64V ++ ktail) kroom)
    have r5F2 := upd_other (o := .row true ko (ks.map i64V ++ ktail) kroom) hkF1 r5F
    generalize upd F1 kb _ = F2 at *
    have hks1 : SlA F2 (some ⟨kb, ko, none⟩) ks.length 1 (ks.map i64V) := SlA.row rkF (Nat.le_refl _) hkl (by rw [Nat.sub_self, List.length_append, hkl]; omega) (by rw [Nat.sub_self, List.drop_zero, ← hkl]; exact List.take_left' rfl)
    simp (disch := first | omega | assumption | decide | (simp <;> omega) | fail) [facts, ]
    refine w_loop (rc2Inv F2 p n j b5 (some ⟨ab, ao, none⟩) c (.slice (some ⟨kb, ko, none⟩) ks.length kc) ks t rs) (fun st => ks.length - (intOf (st.env 21)).toNat) ?_ ?_
    · exact ⟨0, U, v, rs, Nat.zero_le _, by simp, by simp [e0], by simp [e3], by simp, by simp [e12], by simp [e13], by simp [e14], by simp, by simp, by simp, t3, lU⟩
    clear e0 e3 e12 e13 e14 t0 t1 t2 t3 lU r5 rk
    rintro ⟨env, G⟩ ⟨i, U, v, rs2, hi, hrs2, e0, e3, e5, e12, e13, e14, e19, e20, e21, t4, lU⟩
    simp only at e0 e3 e5 e12 e13 e14 e19 e20 e21 t4
    have hrs2l : rs2.length ≤ 600 := by
      rw [hrs2, List.length_append, List.length_map, List.length_take]
      omega
    by_cases hlt2 : i < ks.length
    · have hltI2 : (i : Int) < (ks.length : Int) := by omega
      obtain ⟨k, hk⟩ : ∃ k, ks[i]? = some k := ⟨_, List.getElem?_eq_getElem hlt2⟩
      have rkk : rd1U (G kb) (ko + i) = some (.int .i64 k) := (hks1.le t4.fle).at hk
      have r5 := t4.fle _ _ r5F2
      have erk : recV (recT t k) = .agg (recL (recT t k)).toArray := rfl
      obtain ⟨rl, hrl⟩ : ∃ rl, rl = recL (recT t k) := ⟨_, rfl⟩
      have rl17 : rl.length = 17 := by rw [hrl]; rfl
      have hspr : splice (zeros [.int .i64 0, .int .u16 0, .int .u32 0, .string (mkS []), .int .i64 0, .int .i64 0, .int .i64 0, .int .i64 0, .int .i64 0, .int .i64 0, .int .i64 0, .int .i64 0, .int .i64 0, .int .i64 0, .int .i64 0, .int .i64 0, .int .i64 0] 1) 0 rl = rl := splice_all (by rw [rl17]; rfl)
      have ck := cr k G
      rw [erk, ← hrl] at ck
      simp (disch := first | omega | assumption | decide | (simp <;> omega) | fail) [facts, e3, e5, e19, e20, e21, hltI2, rkk, r5, j11]
      refine ck.mono ?_
      rintro v3 G5 ⟨rfl, hle5⟩
      have t5 := t4.grow hle5
      simp (disch := first | omega | assumption | decide | (simp <;> omega) | fail) [facts, ]
      refine fresh_intro fun b29 hb29 => ?_
      have t6 := t5.grow (le_upd (.row true 0 rl 0) hb29)
      have r29 := upd_same G5 b29 (.row true 0 rl 0)
      simp (disch := first | omega | assumption | decide | (simp <;> omega) | fail) [facts, hspr]
      refine rec_app (r := recT t k) t6 lU (by rw [← hrl]; exact r29) (by omega) ?_
      intro v' H' U' t7 l7
      simp (disch := first | omega | assumption | decide | (simp <;> omega) | fail) [facts, e21]
      exact ⟨_, Heap.le_refl _, ⟨i + 1, U', v', rs2 ++ [recT t k], by omega, by rw [take_snoc hk, List.map_append, hrs2, List.append_assoc]; rfl, by simp [e0], by simp, by simp [e5], by simp [e12], by simp [e13], by simp [e14], by simp [e19], by simp [e20], by simp, t7, by rw [List.length_append]; exact l7⟩, by simp [intOf, e21]; omega⟩
    · have hie : i = ks.length := by omega
      subst hie
      have hltI2 : ¬ (ks.length : Int) < (ks.length : Int) := by omega
      simp (disch := first | omega | assumption | decide | (simp <;> omega) | fail) [facts, e14, e20, e21, hltI2]
      exact ⟨_, Heap.le_refl _, ⟨j + 1, F2, U, v, rs2, by omega, by rw [hrs2, hrs, take_snoc ht, List.flatMap_append, List.take_length]; simp [recsT, hks], by simp [e0], by simp [e3], by simp [e12], by simp [e13], by simp, hF2, t4, lU⟩, by simp [intOf, e14]; omega⟩
  · have hje : j = n := by omega
    subst hje
    have hltI : ¬ (j : Int) < (j : Int) := by omega
    rw [hn, List.take_length] at hrs
    have hRF : Heap.le R F := Heap.le_trans hR (Heap.le_trans hH1 hF)
    obtain ⟨ta, tc, rfl, hts⟩ := terms_at (hB.lst.le hRF)
    have hpF := hRF _ _ hB.row
    have hpG := t0.fle _ _ hpF
    obtain ⟨fa, fc, rfl, hfs, _⟩ := hF0.sl hRF
    obtain ⟨nt, hnt⟩ : ∃ nt, nt = b.T.length := ⟨_, rfl⟩
    rw [← hnt] at hts hpG hpF hT8
    rw [hw.ln, ← hnt] at hpG hpF hfs
    have hnt8 : nt ≤ 8 := hT8
    have hF0l : F0.length = nt := by rw [hw.ln, hnt]
    simp (disch := first | omega | assumption | decide | (simp <;> omega) | fail) [facts, e0, e13, e14, hltI, hpG]
    refine w_loop (rc3Inv F p nt ta tc rs F0 b.T) (fun st => nt - (intOf (st.env 38)).toNat) ?_ ?_
    · exact ⟨0, F, U, v, rs, Nat.zero_le _, by simp [recsFrom], by simp [e0], by simp [e3], by simp, by simp, by simp, Heap.le_refl _, t0, lU⟩
    clear e0 e3 e12 e13 e14 t0 lU hpG
    rintro ⟨env, G⟩ ⟨i, F2, U, v, rs2, hi, hrs2, e0, e3, e36, e37, e38, hF2, t0, lU⟩
    simp only at e0 e3 e36 e37 e38 t0
    have hrs2l : rs2.length ≤ 600 := by
      have h1 := recsFrom_len 0 (F0.take i) (b.T.take i)
      rw [List.length_take] at h1
      rw [hrs2, List.length_append]
      omega
    by_cases hlt : i < nt
    · have hltI : (i : Int) < (nt : Int) := by omega
      obtain ⟨x, hx⟩ : ∃ x, b.T[i]? = some x := ⟨_, List.getElem?_eq_getElem (by omega)⟩
      obtain ⟨f, hf⟩ : ∃ f, F0[i]? = some f := ⟨_, List.getElem?_eq_getElem (by omega)⟩
      have hsnoc : recsFrom 0 (F0.take (i + 1)) (b.T.take (i + 1)) = recsFrom 0 (F0.take i) (b.T.take i) ++ recsTm i f x := by
        rw [take_snoc hf, take_snoc hx, recsFrom_snoc (by rw [List.length_take, List.length_take]; omega), List.length_take, Nat.zero_add, Nat.min_eq_left (by omega)]
      obtain ⟨tb, to, rfl⟩ := hts.lit (by omega)
      obtain ⟨fb, fo, rfl⟩ := hfs.lit (by omega)
      have hFG := Heap.le_trans hF2 t0.fle
      have rx : rdNU (G tb) (to + i * 18) 18 = some x.cells := (hts.le hFG).el tm18 hx (j := 0) (r := 18) (by decide) (by decide)
      obtain ⟨xl, hxl⟩ : ∃ xl, xl = x.cells := ⟨_, rfl⟩
      have xl18 : xl.length = 18 := by rw [hxl]; rfl
      have x1 : xl.all (·.oneCell') = true := by rw [hxl]; rfl
      have kx : List.take 18 xl = xl := List.take_of_length_le (by omega)
      have k16 : List.take 16 xl = flat x.s := by rw [hxl]; rfl
      have c16 : xl[16]? = some (.bool x.out) := by rw [hxl]; rfl
      have c17 : xl[17]? = some (.int .i64 x.ld) := by rw [hxl]; rfl
      obtain ⟨_, c16b⟩ := List.getElem?_eq_some_iff.1 c16
      obtain ⟨_, c17b⟩ := List.getElem?_eq_some_iff.1 c17
      have hspx : splice [.int .i64 0, .int .i64 0, .int .i64 0, .int .i64 0, .int .i64 0, .int .i64 0, .int .i64 0, .int .i64 0, .int .i64 0, .int .i64 0, .int .i64 0, .int .i64 0, .int .i64 0, .int .i64 0, .int .i64 0, .int .i64 0, .bool false, .int .i64 0] 0 xl = xl := splice_all (by rw [xl18]; rfl)
      rw [← hxl] at rx
      have hwr : IntKind.wrap .u16 (i : Int) = (i : Int) := by rw [IntKind.wrap_u16]; omega
      simp (disch := first | omega | assumption | decide | (simp <;> omega) | fail) [facts, e36, e37, e38, hltI, rx, kx]
      refine fresh_intro fun b9 hb9 => ?_
      have t1 := t0.keep hb9 (.row true 0 xl 0)
      have hb9F := le_of_none t0.fle hb9
      have hF3 := Heap.le_trans hF2 (le_upd (.row true 0 xl 0) hb9F)
      have r9F := upd_same F2 b9 (.row true 0 xl 0)
      simp (disch := first | omega | assumption | decide | (simp <;> omega) | fail) [facts, upd_upd, hspx, hwr]
      generalize upd F2 b9 _ = F3 at *
      generalize upd G b9 _ = G1 at *
      refine fresh_intro fun b10 hb10 => ?_
      have t2 := t1.keep hb10 (.row true 0 [.int .u16 i, .int .u32 0] 0)
      have hb10F := le_of_none t1.fle hb10
      have hF4 := Heap.le_trans hF3 (le_upd (.row true 0 [.int .u16 i, .int .u32 0] 0) hb10F)
      have r10F := upd_same F3 b10 (.row true 0 [.int .u16 i, .int .u32 0] 0)
      have r9F4 := upd_other (o := .row true 0 [.int .u16 i, .int .u32 0] 0) hb10F r9F
      simp (disch := first | omega | assumption | decide | (simp <;> omega) | fail) [facts, upd_upd, -w_region, -w_seq]
      generalize upd F3 b10 _ = F4 at *
      generalize upd G1 b10 _ = G2 at *
      have r9 := t2.fle _ _ r9F4
      have r10 := t2.fle _ _ r10F
      have hpG := t2.fle _ _ (hF4 _ _ hpF)
      have rf : rdNU (G2 fb) (fo + i * 18) 16 = some (flat f.s) := (hfs.le (Heap.le_trans hF4 t2.fle)).el tm18 hf (j := 0) (r := 16) (by decide) (by decide)
      have hsc := same_cells x.s f.s
      have hff := flat16 f.s
      have hff1 := flat1 f.s
      have j16 : List.take 16 (flat f.s) = flat f.s := rfl
      obtain ⟨J, hJ⟩ : ∃ I : St → Prop, I = (fun s => s.env 0 = .pointer (some ⟨p, 0, none⟩) ∧ s.env 3 = v ∧ s.env 9 = .pointer (some ⟨b9, 0, none⟩) ∧ s.env 10 = .pointer (some ⟨b10, 0, none⟩) ∧ s.env 36 = .slice (some ⟨tb, to, none⟩) nt tc ∧ s.env 37 = .int .i64 nt ∧ s.env 38 = .int .i64 i ∧ s.env 61 = .bool (ldB f x) ∧ s.heap = G2) := ⟨_, rfl⟩
      obtain ⟨J2, hJ2⟩ : ∃ I : St → Prop, I = (fun s => ∃ (U' : Heap) (v' : Value) (rs' : List Rec), s.env 0 = .pointer (some ⟨p, 0, none⟩) ∧ s.env 3 = v' ∧ s.env 9 = .pointer (some ⟨b9, 0, none⟩) ∧ s.env 10 = .pointer (some ⟨b10, 0, none⟩) ∧ s.env 36 = .slice (some ⟨tb, to, none⟩) nt tc ∧ s.env 37 = .int .i64 nt ∧ s.env 38 = .int .i64 i ∧ rs' = rs2 ++ (if ldB f x = true then [ldR i x] else []) ∧ TwoO F4 U' noH s.heap ∧ LstR U' v' 17 rs'.length (rowsC recL rs')) := ⟨_, rfl⟩
      rw [w_seq]
      refine w_cut J2 ?_ ?_
      · rw [w_seq]
        refine w_cut J ?_ ?_
        · refine w_plan (P := Tryz.prog) (by simp [facts]) (opsP [0,1,2,3,4,5,6,7,8,9,10,11,12,13,14,15] .done) ?_ ?_
          · decide +kernel
          cases hsm : sameS x.s f.s with
          | false =>
            rw [hsm] at hsc
            simp (disch := first | omega | assumption | decide | (simp <;> omega) | fail) [facts, e0, e3, r9, k16, hpG, rf, j16, hsc, hltI]
            subst hJ
            refine ⟨by simp [e0], by simp [e3], by simp, by simp, by simp [e36], by simp [e37], by simp [e38], ?_, rfl⟩
            unfold ldB
            rw [hsm]
            simp
          | true =>
            rw [hsm] at hsc
            simp (disch := first | omega | assumption | decide | (simp <;> omega) | fail) [facts, e0, e3, r9, k16, hpG, rf, j16, hsc, hltI, c17, c17b]
            subst hJ
            refine ⟨by simp [e0], by simp [e3], by simp, by simp, by simp [e36], by simp [e37], by simp [e38], ?_, rfl⟩
            unfold ldB
            rw [hsm]
            simp
        clear e0 e3 e36 e37 e38
        rintro ⟨env, G3⟩ hII
        subst hJ
        obtain ⟨e0, e3, e9, e10, e36, e37, e38, e61, hG⟩ := hII
        simp only at e0 e3 e9 e10 e36 e37 e38 e61 hG
        subst hG
        cases hlb : ldB f x with
        | false =>
          rw [hlb] at e61
          simp (disch := first | omega | assumption | decide | (simp <;> omega) | fail) [facts, e61]
          subst hJ2
          exact ⟨U, v, rs2, e0, e3, e9, e10, e36, e37, e38, by rw [hlb]; simp, t2, lU⟩
        | true =>
          rw [hlb] at e61
          simp (disch := first | omega | assumption | decide | (simp <;> omega) | fail) [facts, e61]
          have hxx : xl = flat x.s ++ [.bool x.out, .int .i64 x.ld] := by rw [hxl]; rfl
          have hspl : splice (zeros [.int .i64 0, .int .u16 0, .int .u32 0, .string (mkS []), .int .i64 0, .int .i64 0, .int .i64 0, .int .i64 0, .int .i64 0, .int .i64 0, .int .i64 0, .int .i64 0, .int .i64 0, .int .i64 0, .int .i64 0, .int .i64 0, .int .i64 0] 1) 0 [.int .i64 8, .int .u16 i, .int .u32 0, .string (mkS []), .int .i64 x.ld, .int .i64 x.s.a.g, .int .i64 x.s.b.g, .int .i64 x.s.c.g, .int .i64 x.s.e.g, .int .i64 x.s.a.r, .int .i64 x.s.b.r, .int .i64 x.s.c.r, .int .i64 x.s.e.r, .int .i64 x.s.a.l, .int .i64 x.s.b.l, .int .i64 x.s.c.l, .int .i64 x.s.e.l] = [.int .i64 8, .int .u16 i, .int .u32 0, .string (mkS []), .int .i64 x.ld, .int .i64 x.s.a.g, .int .i64 x.s.b.g, .int .i64 x.s.c.g, .int .i64 x.s.e.g, .int .i64 x.s.a.r, .int .i64 x.s.b.r, .int .i64 x.s.c.r, .int .i64 x.s.e.r, .int .i64 x.s.a.l, .int .i64 x.s.b.l, .int .i64 x.s.c.l, .int .i64 x.s.e.l] := rfl
          have cg := fun H lp => Ca.given_c x.s b9 x.out x.ld H lp
          have cj := fun H lp => Ca.rejected_c x.s b9 x.out x.ld H lp
          have cl := fun H => Ca.loaded_c x.s H
          simp only [notesV, setV] at cg cj cl
          have sx16 := flat16 x.s
          have sx1 := flat1 x.s
          refine w_growL2 (by simp [facts]) 13 [62,63,64,65,66,67,68,69,70,71,72,73,74] [.eq v, .eq (.agg #[.int .u16 i, .int .u32 0]), .eq (.pointer (some ⟨b9, 17, none⟩)), .eq (.int .i64 x.ld), .eq (.pointer (some ⟨b9, 0, none⟩)), .eq (.agg #[.int .i64 x.s.a.g, .int .i64 x.s.b.g, .int .i64 x.s.c.g, .int .i64 x.s.e.g]), .eq (.pointer (some ⟨b9, 0, none⟩)), .eq (.agg #[.int .i64 x.s.a.r, .int .i64 x.s.b.r, .int .i64 x.s.c.r, .int .i64 x.s.e.r]), .eq (.pointer (some ⟨b9, 0, none⟩)), .eq (.agg (flat x.s).toArray), .eq (.agg #[.int .i64 x.s.a.l, .int .i64 x.s.b.l, .int .i64 x.s.c.l, .int .i64 x.s.e.l]), .eq (.agg #[.int .i64 8, .int .u16 i, .int .u32 0, .string (mkS []), .int .i64 x.ld, .int .i64 x.s.a.g, .int .i64 x.s.b.g, .int .i64 x.s.c.g, .int .i64 x.s.e.g, .int .i64 x.s.a.r, .int .i64 x.s.b.r, .int .i64 x.s.c.r, .int .i64 x.s.e.r, .int .i64 x.s.a.l, .int .i64 x.s.b.l, .int .i64 x.s.c.l, .int .i64 x.s.e.l]), .new G3 [.int .i64 8, .int .u16 i, .int .u32 0, .string (mkS []), .int .i64 x.ld, .int .i64 x.s.a.g, .int .i64 x.s.b.g, .int .i64 x.s.c.g, .int .i64 x.s.e.g, .int .i64 x.s.a.r, .int .i64 x.s.b.r, .int .i64 x.s.c.r, .int .i64 x.s.e.r, .int .i64 x.s.a.l, .int .i64 x.s.b.l, .int .i64 x.s.c.l, .int .i64 x.s.e.l] (fun b => .slice (some ⟨b, 0, none⟩) 1 1)] (by decide +kernel) rfl ?_ ?_
          · simp only [List.take_succ_cons, List.take_zero, allL_cons, allL_nil]
            refine ⟨?_, ?_, ?_, ?_, ?_, ?_, ?_, ?_, ?_, ?_, ?_, ?_, ?_, trivial⟩
            all_goals (unfold stepL; intro f0 Hx hl ha; have r9x := hl _ _ r9; have r10x := hl _ _ r10)
            all_goals try (simp (disch := first | omega | assumption | decide | (simp <;> omega) | fail) [facts, e3, e9, e10, r9x, r10x, k16, c17, c17b]; done)
            · simp (disch := first | omega | assumption | decide | (simp <;> omega) | fail) [facts, ]
              refine (cg Hx (by rw [← hxx]; exact r9x)).mono ?_
              rintro v H' ⟨rfl, hle'⟩
              simp (disch := first | omega | assumption | decide | (simp <;> omega) | fail) [facts, ]
              exact hle'
            · simp (disch := first | omega | assumption | decide | (simp <;> omega) | fail) [facts, ]
              refine (cj Hx (by rw [← hxx]; exact r9x)).mono ?_
              rintro v H' ⟨rfl, hle'⟩
              simp (disch := first | omega | assumption | decide | (simp <;> omega) | fail) [facts, ]
              exact hle'
            · simp (disch := first | omega | assumption | decide | (simp <;> omega) | fail) [facts, ]
              refine (cl Hx).mono ?_
              rintro v H' ⟨rfl, hle'⟩
              simp (disch := first | omega | assumption | decide | (simp <;> omega) | fail) [facts, ]
              exact hle'
            · simp (disch := first | omega | assumption | decide | (simp <;> omega) | fail) [facts, ]
              refine fresh_intro fun b hb => ?_
              simp (disch := first | omega | assumption | decide | (simp <;> omega) | fail) [facts, hspl]
              exact ⟨le_upd _ hb, le_of_none hl hb⟩
          intro f0 G4 hle4 hkn
          replace hkn : (∃ b, f0 74 = .slice (some ⟨b, 0, none⟩) 1 1 ∧ G3 b = none ∧ G4 b = some (.row true 0 [.int .i64 8, .int .u16 i, .int .u32 0, .string (mkS []), .int .i64 x.ld, .int .i64 x.s.a.g, .int .i64 x.s.b.g, .int .i64 x.s.c.g, .int .i64 x.s.e.g, .int .i64 x.s.a.r, .int .i64 x.s.b.r, .int .i64 x.s.c.r, .int .i64 x.s.e.r, .int .i64 x.s.a.l, .int .i64 x.s.b.l, .int .i64 x.s.c.l, .int .i64 x.s.e.l] 0)) := by simpa using hkn
          obtain ⟨b74, f74, _, r74⟩ := hkn
          simp (disch := first | omega | assumption | decide | (simp <;> omega) | fail) [facts, f74]
          refine rec_app (r := ldR i x) (t2.grow hle4) lU r74 (by omega) ?_
          intro v' H' U' t7 l7
          simp (disch := first | omega | assumption | decide | (simp <;> omega) | fail) [facts, ]
          subst hJ2
          exact ⟨U', v', _, by simp [e0], by simp, by simp [e9], by simp [e10], by simp [e36], by simp [e37], by simp [e38], rfl, t7, by rw [hlb]; simp only [if_true]; rw [List.length_append]; exact l7⟩
      clear e0 e3 e36 e37 e38 lU t2 r9 r10 hpG rf
      rintro ⟨env, G3⟩ hII
      subst hJ2
      obtain ⟨U3, v3, rs3, e0, e3, e9, e10, e36, e37, e38, hrs3, t3, l3⟩ := hII
      simp only at e0 e3 e9 e10 e36 e37 e38 t3
      have r9 := t3.fle _ _ r9F4
      have r10 := t3.fle _ _ r10F
      have hrs3l : rs3.length ≤ 700 := by
        rw [hrs3, List.length_append]
        have : (if ldB f x = true then [ldR i x] else []).length ≤ 1 := by split <;> simp
        omega
      cases hout : x.out with
      | false =>
        rw [hout] at c16 c16b
        simp (disch := first | omega | assumption | decide | (simp <;> omega) | fail) [facts, e9, e38, r9, c16, c16b]
        exact ⟨_, Heap.le_refl _, ⟨i + 1, F4, U3, v3, rs3, by omega, by rw [hsnoc, ← List.append_assoc, ← hrs2, hrs3]; unfold recsTm; rw [hout]; simp, by simp [e0], by simp [e3], by simp [e36], by simp [e37], by simp, hF4, t3, l3⟩, by simp [intOf, e38]; omega⟩
      | true =>
        rw [hout] at c16 c16b
        have hspo : splice (zeros [.int .i64 0, .int .u16 0, .int .u32 0, .string (mkS []), .int .i64 0, .int .i64 0, .int .i64 0, .int .i64 0, .int .i64 0, .int .i64 0, .int .i64 0, .int .i64 0, .int .i64 0, .int .i64 0, .int .i64 0, .int .i64 0, .int .i64 0] 1) 0 [.int .i64 9, .int .u16 i, .int .u32 0, .string (mkS []), .int .i64 0, .int .i64 0, .int .i64 0, .int .i64 0, .int .i64 0, .int .i64 0, .int .i64 0, .int .i64 0, .int .i64 0, .int .i64 0, .int .i64 0, .int .i64 0, .int .i64 0] = [.int .i64 9, .int .u16 i, .int .u32 0, .string (mkS []), .int .i64 0, .int .i64 0, .int .i64 0, .int .i64 0, .int .i64 0, .int .i64 0, .int .i64 0, .int .i64 0, .int .i64 0, .int .i64 0, .int .i64 0, .int .i64 0, .int .i64 0] := rfl
        simp (disch := first | omega | assumption | decide | (simp <;> omega) | fail) [facts, e3, e9, e10, r9, r10, c16, c16b]
        refine fresh_intro fun b81 hb81 => ?_
        have t4 := t3.grow (le_upd (.row true 0 [.int .i64 9, .int .u16 i, .int .u32 0, .string (mkS []), .int .i64 0, .int .i64 0, .int .i64 0, .int .i64 0, .int .i64 0, .int .i64 0, .int .i64 0, .int .i64 0, .int .i64 0, .int .i64 0, .int .i64 0, .int .i64 0, .int .i64 0] 0) hb81)
        have r81 := upd_same G3 b81 (.row true 0 [.int .i64 9, .int .u16 i, .int .u32 0, .string (mkS []), .int .i64 0, .int .i64 0, .int .i64 0, .int .i64 0, .int .i64 0, .int .i64 0, .int .i64 0, .int .i64 0, .int .i64 0, .int .i64 0, .int .i64 0, .int .i64 0, .int .i64 0] 0)
        simp (disch := first | omega | assumption | decide | (simp <;> omega) | fail) [facts, hspo]
        refine rec_app (r := outR i) t4 l3 r81 (by omega) ?_
        intro v' H' U' t7 l7
        simp (disch := first | omega | assumption | decide | (simp <;> omega) | fail) [facts, e38]
        exact ⟨_, Heap.le_refl _, ⟨i + 1, F4, U', v', rs3 ++ [outR i], by omega, by rw [hsnoc, ← List.append_assoc, ← hrs2, hrs3]; unfold recsTm; rw [hout]; simp, by simp [e0], by simp, by simp [e36], by simp [e37], by simp, hF4, t7, by rw [List.length_append]; exact l7⟩, by simp [intOf, e38]; omega⟩
    · have hie : i = nt := by omega
      subst hie
      have hltI : ¬ (i : Int) < (i : Int) := by omega
      have hHF2 := Heap.le_trans hH1 (Heap.le_trans hF hF2)
      have hall : rs2 = recsZ F0 b := by
        rw [hrs2, hrs]
        unfold recsZ
        rw [List.take_of_length_le (by omega), List.take_of_length_le (by omega)]
      rw [hall] at lU
      simp (disch := first | omega | assumption | decide | (simp <;> omega) | fail) [facts, e3, e37, e38, hltI]
      exact ⟨_, Heap.le_refl _, U, ⟨fun q o _ hq => ⟨t0.fa q o (hHF2 _ _ hq), t0.fle _ _ (hHF2 _ _ hq)⟩, t0.ale⟩, lU⟩
end Go.Proofs.YthaggpicjpkjiaaGreat.GL

namespace Go.Proofs.YthaggpicjpkjiaaGreat.GL
open Go Go.RowKit
open St (Txn txnL txnV zeroT RightT OkT Rec recV stepF)
open Ca (S4 flat setV OkS CassOk newS)
set_option maxRecDepth 10000
set_option pp.deepTerms.threshold 8
set_option pp.maxSteps 3000
set_option linter.unusedSimpArgs false
set_option linter.unusedVariables false

theorem recIn_term {x : In20} (h : x.wf) : 0 ≤ (recIn x).term ∧ (recIn x).term ≤ 65535 := by
  unfold recIn
  split
  · exact h.term
  · split
    all_goals
      show 0 ≤ ((x.k % 3 : Nat) : Int) ∧ ((x.k % 3 : Nat) : Int) ≤ 65535
      omega
theorem recIn_len {x : In20} (h : x.raw.pan.length ≤ 60) : (recIn x).pan.length ≤ 60 := by
  unfold recIn
  split
  · exact h
  · split
    all_goals
      have := recN_len x.kind x.k x.stan x.am
      first
        | (show (recN x.kind x.k x.stan x.am).pan.length ≤ 60; omega)
        | omega
/-- One record, done to both. -/
theorem do20_c {F A B H : Heap} {p m : Nat} {fv tv : Value} {M : List Txn} {q : Nat} {tv2 lv : Value} {W : List Tp} {b : Bz} (h : Two20 F A B H p m fv tv M q tv2 lv W b) (r : Rec) (h0 : 0 ≤ r.term) (h1 : r.term ≤ 65535) (hpl : r.pan.length ≤ 100000) :
    ECalls Tryz.prog 8 #[.pointer (some ⟨p, 0, none⟩), recV r] H fun v H' => v = .int .i64 (doB b r).2 ∧ ∃ A' M', TwoO F A' B H' ∧ BookR A' p fv tv m M' (doB b r).1.T ∧ M'.Perm (doB b r).1.L := by
  refine (bdo_c H A p fv tv m M b.L b.T h.t.ale h.bk h.pm h.ok r h0 h1 hpl).mono ?_
  rintro v H' ⟨rfl, A', M', ow, hB, hp⟩
  exact ⟨rfl, A', M', h.t.left ow, hB, hp⟩
theorem rdo20_c {F A A' B H H' : Heap} {p m : Nat} {fv tv : Value} {M M' : List Txn} {q : Nat} {tv2 lv : Value} {W : List Tp} {b : Bz} (h : Two20 F A B H p m fv tv M q tv2 lv W b) (r : Rec) (h0 : 0 ≤ r.term) (h1 : r.term ≤ 65535) (hpl : r.pan.length ≤ 100000)
    (t' : TwoO F A' B H') (hB' : BookR A' p fv tv m M' (doB b r).1.T) (hp' : M'.Perm (doB b r).1.L) :
    ECalls Tryz.prog 10 #[.pointer (some ⟨q, 0, none⟩), recV r] H' fun v H2 => v = .int .i64 (doB b r).2 ∧ ∃ B' lv' W', Two20 F A' B' H2 p m fv tv M' q tv2 lv' W' (doB b r).1 := by
  have hok : BOk ⟨tmsOf W, b.L⟩ := by rw [h.tm]; exact h.ok
  have hc := rdo_c H' B q tv2 lv W b.L t'.ble h.rf hok r h0 h1 hpl
  rw [h.tm] at hc
  refine hc.mono ?_
  rintro v H2 ⟨rfl, B', lv', W', ow, hR, hT⟩
  exact ⟨rfl, B', lv', W', t'.right ow, hB', hR, hp', hT, doB_ok h.ok r h0⟩
/-- What the call knows besides. -/
theorem Two20.frame {F F2 A B H H2 : Heap} {p m : Nat} {fv tv : Value} {M : List Txn} {q : Nat} {tv2 lv : Value} {W : List Tp} {b : Bz} (h : Two20 F A B H p m fv tv M q tv2 lv W b) (t : TwoO F2 A B H2) : Two20 F2 A B H2 p m fv tv M q tv2 lv W b := ⟨t, h.bk, h.rf, h.pm, h.tm, h.ok⟩
/-- A new object, one block of which nobody changes, and another one beside it. -/
theorem split_new {H H4 H5 R B : Heap} {bf : Nat} {o : GObj} (a : Own H (fun _ => none) H4 R) (b : Own H4 (fun _ => none) H5 B) (hr : R bf = some o) : Heap.le H (upd H bf o) ∧ TwoO (upd H bf o) (dele R bf) B H5 := by
  have hf : H bf = none := by
    cases e : H bf with
    | none => rfl
    | some o2 => have := a.off bf o2 e; rw [this] at hr; cases hr
  have hF : Heap.le (upd H bf o) H4 := fun i x h => by
    unfold upd at h
    split at h
    · rename_i e
      subst e
      cases h
      exact a.le _ _ hr
    · exact a.all _ _ h
  refine ⟨le_upd o hf, Heap.le_trans hF b.all, Heap.le_trans (dele_le _ _) (Heap.le_trans a.le b.all), b.le, fun i x h => ?_, fun i x h => b.off i x (hF i x h), fun i x h => b.off i x (a.le i x (dele_le _ _ i x h))⟩
  unfold upd at h
  unfold dele
  split at h
  · rename_i e; rw [if_pos e]
  · rename_i e; rw [if_neg e]; exact a.off i x h
theorem dele_at {R : Heap} {b i : Nat} {o : GObj} (h : R i = some o) (hn : i ≠ b) : dele R b i = some o := by
  unfold dele
  rw [if_neg hn]
  exact h
theorem first_split {H H4 H5 R B : Heap} {p m n : Nat} {fv tv : Value} {M : List Txn} {T : List Tm} {cs : List Value} (a : Own H (fun _ => none) H4 R) (b : Own H4 (fun _ => none) H5 B) (hB : BookR R p fv tv m M T) (hF : LstR R fv 18 n cs) (hn : 0 < n) (h1 : blkV fv ≠ some p) (h2 : blkV fv ≠ some m) (h3 : ∀ b, blkV fv = some b → blkV tv ≠ some b) :
    ∃ F A, Heap.le H F ∧ TwoO F A B H5 ∧ BookR A p fv tv m M T ∧ LstR F fv 18 n cs := by
  have hF2 := hF
  rcases hF2 with ⟨_, rfl, _⟩ | ⟨bf, o, cap, tail, room, rfl, hr, _⟩
  · omega
  have hs := split_new a b hr
  have e : blkV (.slice (some ⟨bf, o, none⟩) n cap) = some bf := rfl
  rw [e] at h1 h2
  refine ⟨_, _, hs.1, hs.2, ⟨dele_at hB.row fun e2 => h1 (by rw [e2]), dele_at hB.map fun e2 => h2 (by rw [e2]), hB.lst.up fun i x hi hx => dele_at hx fun e2 => ?_, hB.pm, hB.tp, hB.tm⟩, hF.up fun i x hi hx => ?_⟩
  · subst e2
    exact h3 _ e hi
  · rw [e] at hi
    cases hi
    rw [hr] at hx
    cases hx
    exact upd_same _ _ _
/-- All of memory but one object's. -/
theorem frame_of {G V X H : Heap} (hG : Heap.le G H) (hV : Heap.le V H) (hX : Heap.le X H) (oG : Off G X) (oV : Off V X) : ∃ F2, Heap.le G F2 ∧ Heap.le V F2 ∧ TwoO F2 X noH H := by
  have hk : ∀ (Z : Heap), Heap.le Z H → Off Z X → Heap.le Z (fun i => if (X i).isNone = true then H i else none) := fun Z hz oz i o h => by
    have h1 := oz i o h
    have h2 := hz i o h
    simp [h1, h2]
  refine ⟨fun i => if (X i).isNone = true then H i else none, hk G hG oG, hk V hV oV, fun i o h => ?_, hX, fun _ _ h => (by cases h), fun i o h => ?_, Off.nil, Off.nil⟩
  · split at h
    · exact h
    · cases h
  · split at h
    · rename_i e
      simpa using e
    · cases h
def RecIn (r : Rec) : Prop := 0 ≤ r.term ∧ r.term ≤ 65535 ∧ r.pan.length ≤ 100000
theorem recT_in {t : Txn} (h0 : 0 ≤ t.term) (h1 : t.term ≤ 65535) (hp : t.pan.length ≤ 100000) (k : Int) : RecIn (recT t k) := by
  unfold recT
  repeat' split
  · exact ⟨h0, h1, hp⟩
  all_goals exact ⟨h0, h1, Nat.zero_le _⟩
theorem recsFrom_in : ∀ (fs xs : List Tm) (i : Nat), i + xs.length ≤ 65535 → ∀ r ∈ recsFrom i fs xs, RecIn r
  | [], [], i, _, r, hr => by simp [recsFrom] at hr
  | [], _ :: _, i, _, r, hr => by simp [recsFrom] at hr
  | _ :: _, [], i, _, r, hr => by simp [recsFrom] at hr
  | f :: fs, x :: xs, i, hi, r, hr => by
    rw [List.length_cons] at hi
    unfold recsFrom at hr
    rcases List.mem_append.1 hr with hr | hr
    · unfold recsTm at hr
      rcases List.mem_append.1 hr with hr | hr
      · split at hr
        · rw [List.mem_singleton] at hr
          subst hr
          exact ⟨Int.natCast_nonneg i, by show (i : Int) ≤ 65535; omega, Nat.zero_le _⟩
        · cases hr
      · split at hr
        · rw [List.mem_singleton] at hr
          subst hr
          exact ⟨Int.natCast_nonneg i, by show (i : Int) ≤ 65535; omega, Nat.zero_le _⟩
        · cases hr
    · exact recsFrom_in fs xs (i + 1) (by omega) r hr
theorem recsZ_in {F : List Tm} {b : Bz} (h : Wd F b) (hok : BOk b) : ∀ r ∈ recsZ F b, RecIn r := fun r hr => by
  have hT := hok.few
  unfold recsZ at hr
  rcases List.mem_append.1 hr with hr | hr
  · obtain ⟨t, ht, hr⟩ := List.mem_flatMap.1 hr
    unfold recsT at hr
    obtain ⟨k, _, rfl⟩ := List.mem_map.1 hr
    have hk := h.key t ht
    have ho := hok.ok t ht
    have hp := ho.pan2
    exact recT_in hk.1 (by omega) (by omega) k
  · exact recsFrom_in F b.T 0 (by omega) r hr
theorem Runs.step {b c : Bz} {r : Rec} {rs : List Rec} (h : Runs b (r :: rs) c) : ∃ b', doB b r = (b', 0) ∧ Runs b' rs c := by
  cases h with
  | cons h t => exact ⟨_, h, t⟩
theorem Runs.fin {b c : Bz} (h : Runs b [] c) : b = c := by
  cases h
  rfl
end Go.Proofs.YthaggpicjpkjiaaGreat.GL

namespace Go.Proofs.YthaggpicjpkjiaaGreat.GL
open Go Go.RowKit
open St (Txn txnL txnV zeroT RightT OkT Rec recV stepF)
open Ca (S4 flat setV OkS CassOk newS)
set_option maxRecDepth 10000
set_option pp.deepTerms.threshold 8
set_option pp.maxSteps 3000
set_option linter.unusedSimpArgs false
set_option linter.unusedVariables false

def rl1Inv (F : Heap) (F0 : List Tm) (a : Option Addr) (n c : Nat) (a2 : Option Addr) (n2 c2 b9 p m : Nat) (fv tv : Value) (q : Nat) (tv2 : Value) (s : St) : Prop :=
  ∃ (i : Nat) (A B : Heap) (M : List Txn) (lv : Value) (W : List Tp) (b : Bz), i ≤ n ∧ s.env 2 = .slice a n c ∧ s.env 3 = .slice a2 n2 c2 ∧ s.env 9 = .pointer (some ⟨b9, 0, none⟩) ∧ s.env 10 = .pointer (some ⟨p, 0, none⟩) ∧ s.env 11 = .pointer (some ⟨q, 0, none⟩) ∧ s.env 12 = .int .i64 i ∧ Two20 F A B s.heap p m fv tv M q tv2 lv W b ∧ Wd F0 b ∧ b.L.length ≤ i
def rl2Inv (G : Heap) (n : Nat) (b : Bz) (rs : List Rec) (a2 : Option Addr) (n2 c2 : Nat) (a3 : Option Addr) (c3 p q p2 m2 : Nat) (fv2 tv2 : Value) (s : St) : Prop :=
  ∃ (i : Nat) (X : Heap) (M : List Txn) (x : Bz), i ≤ n ∧ s.env 3 = .slice a2 n2 c2 ∧ s.env 10 = .pointer (some ⟨p, 0, none⟩) ∧ s.env 11 = .pointer (some ⟨q, 0, none⟩) ∧ s.env 13 = .pointer (some ⟨p2, 0, none⟩) ∧ s.env 14 = .slice a3 n c3 ∧ s.env 15 = .int .i64 i ∧ TwoO G X noH s.heap ∧ BookR X p2 fv2 tv2 m2 M x.T ∧ M.Perm x.L ∧ BOk x ∧ Runs x (rs.drop i) b
def rl3Inv (G X : Heap) (a2 : Option Addr) (n2 c2 p q p2 p3 m3 : Nat) (fv3 tv3 : Value) (s : St) : Prop :=
  ∃ (i : Nat) (Y : Heap) (M : List Txn) (y : Bz), i ≤ n2 ∧ s.env 3 = .slice a2 n2 c2 ∧ s.env 10 = .pointer (some ⟨p, 0, none⟩) ∧ s.env 11 = .pointer (some ⟨q, 0, none⟩) ∧ s.env 13 = .pointer (some ⟨p2, 0, none⟩) ∧ s.env 16 = .pointer (some ⟨p3, 0, none⟩) ∧ s.env 17 = .int .i64 i ∧ TwoO G X Y s.heap ∧ BookR Y p3 fv3 tv3 m3 M y.T ∧ M.Perm y.L ∧ BOk y
set_option maxHeartbeats 4000000 in
theorem bookRecords_c (t k : Nat) (a : Option Addr) (n c : Nat) (L : List In20) (a2 : Option Addr) (n2 c2 : Nat) (L2 : List In20) (H : Heap) (ht : t < 256) (hk : k < 256) (h : SlA H a n 21 (rowsC In20.cells L)) (h2 : SlA H a2 n2 21 (rowsC In20.cells L2)) (hL : ∀ x ∈ L, x.wf) (hL2 : ∀ x ∈ L2, x.wf) :
    ECalls Tryz.prog 3 #[.int .u8 t, .int .u8 k, .slice a n c, .slice a2 n2 c2] H fun v _ => v = .bool true := by
  refine ecalls_of_ewp (args := [_, _, _, _]) Tryz.func3 rfl rfl rfl (by simp [Tryz.ntmps3]) (by kernel_rfl) ?_
  have hlen : L.length = n := h.els in21 (by decide)
  have hlen2 : L2.length = n2 := h2.els in21 (by decide)
  simp (disch := first | omega | assumption | decide | (simp <;> omega) | fail) [facts, ]
  refine (known20_c H).mono ?_
  rintro v H1 ⟨rfl, hle1⟩
  replace h := h.le hle1
  replace h2 := h2.le hle1
  by_cases hn : (50 : Int) < (n : Int)
  · simp (disch := first | omega | assumption | decide | (simp <;> omega) | fail) [facts, hn]
    exact ⟨_, Heap.le_refl _⟩
  by_cases hn2 : (20 : Int) < (n2 : Int)
  · simp (disch := first | omega | assumption | decide | (simp <;> omega) | fail) [facts, hn, hn2]
    exact ⟨_, Heap.le_refl _⟩
  simp (disch := first | omega | assumption | decide | (simp <;> omega) | fail) [facts, hn, hn2]
  refine (bank_c t k H1 ht hk).mono ?_
  rintro v H2 ⟨T, U, owU, hC, hT⟩
  obtain ⟨⟨tv0, pv0, fv0, rfl, hc1, hc2, hc3⟩, hcok⟩ := hC
  obtain ⟨ta, tc, rfl, _, _⟩ := hc1.sl (Heap.le_refl U)
  obtain ⟨pa, pc, rfl, _, _⟩ := hc2.sl (Heap.le_refl U)
  obtain ⟨fa, fc, rfl, _, _⟩ := hc3.sl (Heap.le_refl U)
  have hC : CfgV U (.agg #[.slice ta T.length tc, .slice pa 4 pc, .slice fa 4 fc, .int .i64 500, .int .i64 100000]) T k := ⟨⟨_, _, _, rfl, hc1, hc2, hc3⟩, hcok⟩
  replace h := h.le owU.all
  replace h2 := h2.le owU.all
  simp (disch := first | omega | assumption | decide | (simp <;> omega) | fail) [facts, ]
  refine fresh_intro fun b9 hb9 => ?_
  have r9 := upd_same H2 b9 (.row true 0 [.slice ta T.length tc, .slice pa 4 pc, .slice fa 4 fc, .int .i64 500, .int .i64 100000] 0)
  have hl9 := le_upd (.row true 0 [.slice ta T.length tc, .slice pa 4 pc, .slice fa 4 fc, .int .i64 500, .int .i64 100000] 0) hb9
  replace h := h.le hl9
  replace h2 := h2.le hl9
  have hU9 := Heap.le_trans owU.le hl9
  simp (disch := first | omega | assumption | decide | (simp <;> omega) | fail) [facts, upd_upd]
  generalize upd H2 b9 _ = H3 at *
  obtain ⟨I, hI⟩ : ∃ I : St → Prop, I = (fun s => s.env 2 = .slice a n c ∧ s.env 3 = .slice a2 n2 c2 ∧ s.env 9 = .pointer (some ⟨b9, 0, none⟩) ∧ ∃ p q m fv tv tv2 W F A B, s.env 10 = .pointer (some ⟨p, 0, none⟩) ∧ s.env 11 = .pointer (some ⟨q, 0, none⟩) ∧ Heap.le H3 F ∧ LstR F fv 18 T.length (rowsC Tm.cells (T.map tm0)) ∧ Two20 F A B s.heap p m fv tv [] q tv2 (.slice none 0 0) W ⟨T.map tm0, []⟩) := ⟨_, rfl⟩
  refine w_cut I ?_ ?_
  · refine w_plan (P := Tryz.prog) (by simp [facts]) (.both (opsP [0] (.both (opsP [1,2,3,4,5] .done) (opsP [2,1,3,4,5] .done))) (opsP [2,0,1,3,4,5] .done)) ?_ ?_
    · decide +kernel
    simp (disch := first | omega | assumption | decide | (simp <;> omega) | fail) [facts, r9]
    repeat' apply And.intro
    all_goals
      refine (bnew_c _ T k U H3 hU9 hC (by omega) (by omega) hk).mono ?_
      rintro v H4 ⟨p, A, fv, tv, m, rfl, owA, hB, hF, hb1, hb2, hb3⟩
      have r9' := owA.all _ _ r9
      simp (disch := first | omega | assumption | decide | (simp <;> omega) | fail) [facts, r9']
      refine (rnewbook_c _ T k U H4 (Heap.le_trans hU9 owA.all) hC (by omega) hk).mono ?_
      rintro v H5 ⟨q, B, tv2, W, rfl, owB, hR, hW⟩
      obtain ⟨F, A2, hF1, t5, hB5, hF5⟩ := first_split owA owB hB hF (by omega) hb1 hb2 hb3
      simp (disch := first | omega | assumption | decide | (simp <;> omega) | fail) [facts, ]
      subst hI
      exact ⟨by simp, by simp, by simp, p, q, m, fv, tv, tv2, W, F, A2, B, by simp, by simp, hF1, hF5, t5, hB5, hR, List.Perm.refl _, hW, bok_new hcok (by omega)⟩
  rintro ⟨env, G⟩ hII
  subst hI
  obtain ⟨e2, e3, e9, p, q, m, fv, tv, tv2, W, F, A, B, e10, e11, hF, hfv, hTw⟩ := hII
  simp only at e2 e3 e9 e10 e11 hTw
  replace h := h.le hF
  replace h2 := h2.le hF
  replace r9 := hF _ _ r9
  replace hU9 := Heap.le_trans hU9 hF
  have hwd0 : Wd (T.map tm0) ⟨T.map tm0, []⟩ := wd_new hcok
  have hTl : (T.map tm0).length = T.length := List.length_map ..
  simp (disch := first | omega | assumption | decide | (simp <;> omega) | fail) [facts, e2, e3, e9, e10, e11]
  refine w_loop (rl1Inv F (T.map tm0) a n c a2 n2 c2 b9 p m fv tv q tv2) (fun st => n - (intOf (st.env 12)).toNat) ?_ ?_
  · exact ⟨0, A, B, [], _, W, _, Nat.zero_le _, by simp [e2], by simp [e3], by simp [e9], by simp [e10], by simp [e11], by simp, hTw, hwd0, Nat.le_refl _⟩
  clear e2 e3 e9 e10 e11 hTw
  rintro ⟨env, G⟩ ⟨i, A, B, M, lv, W, b, hi, e2, e3, e9, e10, e11, e12, hTw, hwd, hbl⟩
  simp only at e2 e3 e9 e10 e11 e12 hTw
  by_cases hlt : i < n
  · have hltI : (i : Int) < (n : Int) := by omega
    obtain ⟨x, hx⟩ : ∃ x, L[i]? = some x := ⟨_, List.getElem?_eq_getElem (by omega)⟩
    have hxw := hL x (List.mem_of_getElem? hx)
    obtain ⟨ab, ao, rfl⟩ := h.lit (by omega)
    have hsG := h.le hTw.t.fle
    have rp : rd1U (G ab) (ao + i * 21 + 7) = some (.string (mkS x.raw.pan)) := hsG.el1 in21 hx (j := 7) (by decide)
    have rx : rdNU (G ab) (ao + i * 21) 21 = some x.cells := hsG.el in21 hx (j := 0) (r := 21) (by decide) (by decide)
    by_cases hlong : (60 : Int) < (x.raw.pan.length : Int)
    · simp (disch := first | omega | assumption | decide | (simp <;> omega) | fail) [facts, e2, e12, hltI, rp, hlong]
      exact ⟨_, Heap.le_refl _⟩
    have hpl : (recIn x).pan.length ≤ 60 := recIn_len (by omega)
    obtain ⟨h0, h1⟩ := recIn_term hxw
    have hrc := fun H => inrec_c x hxw H
    obtain ⟨r, hr⟩ : ∃ r, r = recIn x := ⟨_, rfl⟩
    rw [← hr] at hpl h0 h1 hrc
    have er : recV r = .agg (recL r).toArray := rfl
    obtain ⟨rl, hrl⟩ : ∃ rl, rl = recL r := ⟨_, rfl⟩
    rw [← hrl] at er
    obtain ⟨xl, hxl⟩ : ∃ xl, xl = x.cells := ⟨_, rfl⟩
    have xl21 : xl.length = 21 := by rw [hxl]; rfl
    have xk : List.take 21 xl = xl := List.take_of_length_le (by omega)
    have rxF : ∀ G2, Heap.le F G2 → rdNU (G2 ab) (ao + i * 21) 21 = some xl := fun G2 hl => by
      rw [hxl]
      exact (h.le hl).el in21 hx (j := 0) (r := 21) (by decide) (by decide)
    rw [← hxl] at rx hrc
    rw [er] at hrc
    simp (disch := first | omega | assumption | decide | (simp <;> omega) | fail) [facts, e2, e10, e12, hltI, rp, hlong, rx, xk]
    refine (hrc G).mono ?_
    rintro v G2 ⟨rfl, hle2⟩
    have hT3 := hTw.frame (hTw.t.grow hle2)
    have cd := do20_c hT3 r h0 h1 (by omega)
    rw [er] at cd
    simp (disch := first | omega | assumption | decide | (simp <;> omega) | fail) [facts, ]
    refine cd.mono ?_
    rintro v G4 ⟨rfl, A4, M4, t4, hB4, hp4⟩
    have rx4 := rxF G4 t4.fle
    simp (disch := first | omega | assumption | decide | (simp <;> omega) | fail) [facts, e2, e11, e12, rx4, xk]
    refine (hrc G4).mono ?_
    rintro v G5 ⟨rfl, hle5⟩
    have cr := rdo20_c hT3 r h0 h1 (by omega) (t4.grow hle5) hB4 hp4
    rw [er] at cr
    simp (disch := first | omega | assumption | decide | (simp <;> omega) | fail) [facts, ]
    refine cr.mono ?_
    rintro v G6 ⟨rfl, B5, lv5, W5, hT5⟩
    have hl6 := doB_len b r
    simp (disch := first | omega | assumption | decide | (simp <;> omega) | fail) [facts, e12]
    exact ⟨_, Heap.le_refl _, ⟨i + 1, A4, B5, M4, lv5, W5, _, by omega, by simp [e2], by simp [e3], by simp [e9], by simp [e10], by simp [e11], by simp, hT5, doB_wd hwd hTw.ok h0, Nat.le_trans hl6 (by omega)⟩, by simp [intOf, e12]; omega⟩
  have hltI : ¬ (i : Int) < (n : Int) := by omega
  have r9G := hTw.t.fle _ _ r9
  simp (disch := first | omega | assumption | decide | (simp <;> omega) | fail) [facts, e2, e9, e12, hltI, r9G]
  refine (bnew_c _ T k U G (Heap.le_trans hU9 hTw.t.fle) hC (by omega) (by omega) hk).mono ?_
  rintro v G1 ⟨p2, X, fv2, tvx, m2, rfl, owX, hBX, _⟩
  have hbA := hTw.bk.le (Heap.le_trans hTw.t.ale owX.all)
  have hbl2 : b.L.length ≤ 100 := by omega
  have crec := records_c (F0 := T.map tm0) (Heap.le_refl G1) hbA (by rw [hTl]; exact hfv.le (Heap.le_trans hTw.t.fle owX.all)) hTw.pm hTw.ok hwd hbl2
  have hrun := runs_all hwd hTw.ok
  have hin := recsZ_in hwd hTw.ok
  have hl3 := recsZ_len (F := T.map tm0) hTw.ok.few hbl2
  obtain ⟨rs, hrs⟩ : ∃ rs, rs = recsZ (T.map tm0) b := ⟨_, rfl⟩
  rw [← hrs] at crec hrun hin hl3
  obtain ⟨n3, hn3⟩ : ∃ n3, n3 = rs.length := ⟨_, rfl⟩
  rw [← hn3] at crec hl3
  simp (disch := first | omega | assumption | decide | (simp <;> omega) | fail) [facts, e10]
  refine crec.mono ?_
  rintro v G2 ⟨V, owV, lV⟩
  obtain ⟨F2, hGF2, hVF2, t2⟩ := frame_of (Heap.le_trans owX.all owV.all) owV.le (Heap.le_trans owX.le owV.all) owX.off (fun i o hv => by
    cases e : X i with
    | none => rfl
    | some o2 => have := owV.off i o2 (owX.le i o2 e); rw [this] at hv; cases hv)
  obtain ⟨a3, c3, rfl, s3, _⟩ := lV.sl hVF2
  have hn3I : ¬ (2000 : Int) < (n3 : Int) := by omega
  simp (disch := first | omega | assumption | decide | (simp <;> omega) | fail) [facts, hn3I]
  refine w_loop (rl2Inv F2 n3 b rs a2 n2 c2 a3 c3 p q p2 m2 fv2 tvx) (fun st => n3 - (intOf (st.env 15)).toNat) ?_ ?_
  · exact ⟨0, X, [], _, Nat.zero_le _, by simp [e3], by simp [e10], by simp [e11], by simp, by simp, by simp, t2, hBX, List.Perm.refl _, bok_new hcok (by omega), hrun⟩
  clear e2 e3 e9 e10 e11 e12 t2 hBX crec
  rintro ⟨env, G3⟩ ⟨j, X3, M3, x, hj, e3, e10, e11, e13, e14, e15, t3, hBX, hpX, hokX, hrunX⟩
  simp only at e3 e10 e11 e13 e14 e15 t3
  by_cases hlt3 : j < n3
  · have hltJ : (j : Int) < (n3 : Int) := by omega
    obtain ⟨r, hrx⟩ : ∃ r, rs[j]? = some r := ⟨_, List.getElem?_eq_getElem (by omega)⟩
    obtain ⟨h0, h1, hpl⟩ := hin r (List.mem_of_getElem? hrx)
    obtain ⟨ab, ao, rfl⟩ := s3.lit (by omega)
    have rx : rdNU (G3 ab) (ao + j * 17) 17 = some (recL r) := (s3.le t3.fle).el recL17 hrx (j := 0) (r := 17) (by decide) (by decide)
    have hd : rs.drop j = r :: rs.drop (j + 1) := by
      obtain ⟨hjl, he⟩ := List.getElem?_eq_some_iff.1 hrx
      rw [List.drop_eq_getElem_cons hjl, he]
    rw [hd] at hrunX
    obtain ⟨x', hd1, hd2⟩ := hrunX.step
    have cd := bdo_c G3 X3 p2 fv2 tvx m2 M3 x.L x.T t3.ale hBX hpX hokX r h0 h1 hpl
    have hok' := doB_ok hokX r h0
    rw [hd1] at hok'
    rw [show doB ⟨x.T, x.L⟩ r = (x', 0) from hd1] at cd
    simp only at cd hok'
    have er : recV r = .agg (recL r).toArray := rfl
    obtain ⟨rl, hrl⟩ : ∃ rl, rl = recL r := ⟨_, rfl⟩
    have rl17 : rl.length = 17 := by rw [hrl]; rfl
    have k17 : List.take 17 rl = rl := List.take_of_length_le (by omega)
    rw [er, ← hrl] at cd
    rw [← hrl] at rx
    simp (disch := first | omega | assumption | decide | (simp <;> omega) | fail) [facts, e13, e14, e15, hltJ, rx, k17]
    refine cd.mono ?_
    rintro v G4 ⟨rfl, X4, M4, ow4, hB4, hp4⟩
    simp (disch := first | omega | assumption | decide | (simp <;> omega) | fail) [facts, e15]
    exact ⟨_, Heap.le_refl _, ⟨j + 1, X4, M4, x', by omega, by simp [e3], by simp [e10], by simp [e11], by simp [e13], by simp [e14], by simp, t3.left ow4, hB4, hp4, hok', hd2⟩, by simp [intOf, e15]; omega⟩
  have hltJ : ¬ (j : Int) < (n3 : Int) := by omega
  have hd : rs.drop j = [] := List.drop_eq_nil_of_le (by omega)
  rw [hd] at hrunX
  have hxb := hrunX.fin
  rw [hxb] at hBX hpX
  clear hrunX hokX
  have hAF2 := Heap.le_trans hTw.t.ale hGF2
  have hBF2 := Heap.le_trans hTw.t.ble hGF2
  have hoAX : Off A X3 := fun i o hv => t3.fa i o (hAF2 i o hv)
  have hoBX : Off B X3 := fun i o hv => t3.fa i o (hBF2 i o hv)
  obtain ⟨tA, tB, oAB, bkA, rfB, pmA, tmW, okb⟩ : Heap.le A G ∧ Heap.le B G ∧ Off A B ∧ BookR A p fv tv m M b.T ∧ RefR B q tv2 lv W b.L ∧ M.Perm b.L ∧ tmsOf W = b.T ∧ BOk b := ⟨hTw.t.ale, hTw.t.ble, hTw.t.ab, hTw.bk, hTw.rf, hTw.pm, hTw.tm, hTw.ok⟩
  replace h2 := h2.le (Heap.le_trans hTw.t.fle hGF2)
  have hbT : b.T.length = T.length := by rw [← hTl]; exact hwd.ln.symm
  obtain ⟨fa1, fc1, rfl, _, _⟩ := hfv.sl (Heap.le_refl F)
  obtain ⟨ta1, tc1, rfl, _, _⟩ := bkA.lst.sl (Heap.le_refl A)
  have ccl := bclone_c (Heap.le_refl G3) (bkA.le (Heap.le_trans hAF2 t3.fle)) (by omega) (by omega)
  simp (disch := first | omega | assumption | decide | (simp <;> omega) | fail) [facts, e10, e14, e15, hltJ]
  refine ccl.mono ?_
  rintro v G4 ⟨p3, tv3, m3, Y, rfl, owY, hBY⟩
  have t4 : TwoO F2 X3 Y G4 := ⟨Heap.le_trans t3.fle owY.all, Heap.le_trans t3.ale owY.all, owY.le, t3.fa, fun i o hv => owY.off i o (t3.fle i o hv), fun i o hv => owY.off i o (t3.ale i o hv)⟩
  simp (disch := first | omega | assumption | decide | (simp <;> omega) | fail) [facts, ]
  refine w_loop (rl3Inv F2 X3 a2 n2 c2 p q p2 p3 m3 (.slice fa1 T.length fc1) tv3) (fun st => n2 - (intOf (st.env 17)).toNat) ?_ ?_
  · exact ⟨0, Y, M, b, Nat.zero_le _, by simp [e3], by simp [e10], by simp [e11], by simp [e13], by simp, by simp, t4, hBY, pmA, okb⟩
  clear e3 e10 e11 e13 e14 e15 t3 t4 hBY ccl
  rintro ⟨env, G5⟩ ⟨l, Y5, M5, y, hl, e3, e10, e11, e13, e16, e17, t5, hBY, hpY, hokY⟩
  simp only at e3 e10 e11 e13 e16 e17 t5
  by_cases hlt5 : l < n2
  · have hltI : (l : Int) < (n2 : Int) := by omega
    obtain ⟨x, hx⟩ : ∃ x, L2[l]? = some x := ⟨_, List.getElem?_eq_getElem (by omega)⟩
    have hxw := hL2 x (List.mem_of_getElem? hx)
    obtain ⟨ab, ao, rfl⟩ := h2.lit (by omega)
    have hsG := h2.le t5.fle
    have rp : rd1U (G5 ab) (ao + l * 21 + 7) = some (.string (mkS x.raw.pan)) := hsG.el1 in21 hx (j := 7) (by decide)
    have rx : rdNU (G5 ab) (ao + l * 21) 21 = some x.cells := hsG.el in21 hx (j := 0) (r := 21) (by decide) (by decide)
    by_cases hlong : (60 : Int) < (x.raw.pan.length : Int)
    · simp (disch := first | omega | assumption | decide | (simp <;> omega) | fail) [facts, e3, e17, hltI, rp, hlong]
      exact ⟨_, Heap.le_refl _⟩
    have hpl : (recIn x).pan.length ≤ 60 := recIn_len (by omega)
    obtain ⟨h0, h1⟩ := recIn_term hxw
    have hrc := inrec_c x hxw G5
    obtain ⟨r, hr⟩ : ∃ r, r = recIn x := ⟨_, rfl⟩
    rw [← hr] at hpl h0 h1 hrc
    have er : recV r = .agg (recL r).toArray := rfl
    obtain ⟨rl, hrl⟩ : ∃ rl, rl = recL r := ⟨_, rfl⟩
    rw [← hrl] at er
    obtain ⟨xl, hxl⟩ : ∃ xl, xl = x.cells := ⟨_, rfl⟩
    have xl21 : xl.length = 21 := by rw [hxl]; rfl
    have xk : List.take 21 xl = xl := List.take_of_length_le (by omega)
    rw [← hxl] at rx hrc
    rw [er] at hrc
    simp (disch := first | omega | assumption | decide | (simp <;> omega) | fail) [facts, e3, e16, e17, hltI, rp, hlong, rx, xk]
    refine hrc.mono ?_
    rintro v G6 ⟨rfl, hle6⟩
    have t6 := t5.grow hle6
    have cd := bdo_c G6 Y5 p3 (.slice fa1 T.length fc1) tv3 m3 M5 y.L y.T t6.ble hBY hpY hokY r h0 h1 (by omega)
    rw [er] at cd
    simp (disch := first | omega | assumption | decide | (simp <;> omega) | fail) [facts, ]
    refine cd.mono ?_
    rintro v G7 ⟨rfl, Y7, M7, ow7, hB7, hp7⟩
    simp (disch := first | omega | assumption | decide | (simp <;> omega) | fail) [facts, e17]
    exact ⟨_, Heap.le_refl _, ⟨l + 1, Y7, M7, _, by omega, by simp [e3], by simp [e10], by simp [e11], by simp [e13], by simp [e16], by simp, t6.right ow7, hB7, hp7, doB_ok hokY r h0⟩, by simp [intOf, e17]; omega⟩
  have hltI : ¬ (l : Int) < (n2 : Int) := by omega
  have t8 : TwoO A X3 B G5 := ⟨Heap.le_trans hAF2 t5.fle, t5.ale, Heap.le_trans hBF2 t5.fle, hoAX, oAB, hoBX.symm⟩
  simp (disch := first | omega | assumption | decide | (simp <;> omega) | fail) [facts, e3, e11, e13, e17, hltI]
  refine (same20_c (⟨t8, hBX, rfB, hpX, tmW, okb⟩ : Two20 A X3 B G5 p2 m2 fv2 tvx M3 q tv2 lv W b)).mono ?_
  rintro v G6 ⟨rfl, t9⟩
  have t10 : TwoO noH A B G6 := ⟨fun _ _ hv => (by cases hv), t9.fle, t9.ble, fun _ _ hv => (by cases hv), fun _ _ hv => (by cases hv), oAB⟩
  simp (disch := first | omega | assumption | decide | (simp <;> omega) | fail) [facts, e10, e11]
  refine (same20_c (⟨t10, bkA, rfB, pmA, tmW, okb⟩ : Two20 noH A B G6 p m _ _ M q tv2 lv W b)).mono ?_
  rintro v G7 ⟨rfl, t11⟩
  simp (disch := first | omega | assumption | decide | (simp <;> omega) | fail) [facts, ]
  exact ⟨_, Heap.le_refl _⟩
end Go.Proofs.YthaggpicjpkjiaaGreat.GL
