/- Layer 21: one account and keys by number: what LedgerOrders' ledgers are. -/
import Derived.Test.YtdeffhibolcebaaLeH
namespace Go.Proofs.Ytdeffhibolcebaa.GL
open Go Go.RowKit Go.MapKept
set_option maxRecDepth 10000
set_option pp.deepTerms.threshold 8
set_option pp.maxSteps 3000
set_option linter.unusedSimpArgs false
set_option linter.unusedVariables false

abbrev NN := Nat → Option Int
def putN (N : NN) (k : Nat) (x : Int) : NN := fun j => if j = k then some x else N j
def sumN (N : NN) : Nat → Int
  | 0 => 0
  | k + 1 => sumN N k + (N k).getD 0
theorem sumN_out (N : NN) (k : Nat) (x : Int) : ∀ n, n ≤ k → sumN (putN N k x) n = sumN N n
  | 0, _ => rfl
  | n + 1, h => by
    have : putN N k x n = N n := by unfold putN; rw [if_neg (by omega)]
    simp only [sumN, sumN_out N k x n (by omega), this]
theorem sumN_put (N : NN) (k : Nat) (x : Int) : ∀ n, k < n → sumN (putN N k x) n = sumN N n - (N k).getD 0 + x
  | 0, h => by omega
  | n + 1, h => by
    by_cases hk : k = n
    · subst hk
      have : putN N k x k = some x := by unfold putN; rw [if_pos rfl]
      simp only [sumN, sumN_out N k x k (Nat.le_refl _), this, Option.getD_some]
      omega
    · have : putN N k x n = N n := by unfold putN; rw [if_neg (by omega)]
      simp only [sumN, sumN_put N k x n (by omega), this]
      omega
theorem sumN_bound {N : NN} {B : Int} : ∀ n, (∀ k, k < n → 0 ≤ (N k).getD 0 ∧ (N k).getD 0 ≤ B) → 0 ≤ sumN N n ∧ sumN N n ≤ n * B
  | 0, _ => by simp [sumN]
  | n + 1, h => by
    have ih := sumN_bound n (fun k hk => h k (by omega))
    have h0 := h n (by omega)
    have e : ((n + 1 : Nat) : Int) * B = n * B + B := by rw [Int.natCast_add, Int.add_mul]; simp
    simp only [sumN]
    omega
theorem sumN_congr {N N' : NN} : ∀ n, (∀ k, k < n → N k = N' k) → sumN N n = sumN N' n
  | 0, _ => rfl
  | n + 1, h => by simp only [sumN, sumN_congr n (fun k hk => h k (by omega)), h n (by omega)]

theorem gE_set (t s : Int) (e : LE) : ∀ L : List LE, gE t s (setL e L) = if e.t = t ∧ e.s = s then some e else gE t s L
  | [] => by simp [setL, idxE, gE_cons, gE_nil]
  | x :: l => by
    have hu : idxE e.t e.s (x :: l) = if x.t = e.t ∧ x.s = e.s then some 0 else (idxE e.t e.s l).map (· + 1) := rfl
    have ih := gE_set t s e l
    by_cases hx : x.t = e.t ∧ x.s = e.s
    · have : setL e (x :: l) = e :: l := by unfold setL; rw [hu, if_pos hx]; rfl
      rw [this, gE_cons, gE_cons]
      by_cases he : e.t = t ∧ e.s = s
      · simp [he]
      · have : ¬ (x.t = t ∧ x.s = s) := fun h => he ⟨hx.1 ▸ h.1, hx.2 ▸ h.2⟩
        simp [he, this]
    · have : setL e (x :: l) = x :: setL e l := by
        unfold setL; rw [hu, if_neg hx]
        cases idxE e.t e.s l <;> rfl
      rw [this, gE_cons, gE_cons, ih]
      by_cases he : e.t = t ∧ e.s = s
      · have : ¬ (x.t = t ∧ x.s = s) := fun h => hx ⟨h.1.trans he.1.symm, h.2.trans he.2.symm⟩
        simp [he, this]
      · simp [he]
structure OneL (n : Nat) (F : List Acc) (L : List LE) (N : NN) : Prop where
  fs : F = [(p51, 1000000000 - sumN N n)]
  is : ∀ k x, k < n → N k = some x → gE 0 k L = some ⟨0, k, okS, p51, x⟩
  no : ∀ k, k < n → N k = none → gE 0 k L = none
  bd : ∀ k, k < n → 0 ≤ (N k).getD 0 ∧ (N k).getD 0 ≤ 70000
  n20 : n ≤ 20
section
variable {n : Nat} {F : List Acc} {L : List LE} {N : NN}
theorem gF1 (v : Int) : gF p51 [(p51, v)] = some v := by simp [gF, idxF]
theorem set1 (v w : Int) : setM p51 w [(p51, v)] = [(p51, w)] := by simp [setM, idxF]
theorem OneL.sum (h : OneL n F L N) : 0 ≤ sumN N n ∧ sumN N n ≤ 1400000 := by
  have := sumN_bound n h.bd
  have h2 : (n : Int) * 70000 ≤ 20 * 70000 := Int.mul_le_mul_of_nonneg_right (by have := h.n20; omega) (by decide)
  omega
theorem OneL.put (h : OneL n F L N) {k : Nat} {x : Int} (hk : k < n) (hx : 0 ≤ x ∧ x ≤ 70000) : OneL n [(p51, 1000000000 - sumN (putN N k x) n)] (setL ⟨0, k, okS, p51, x⟩ L) (putN N k x) := by
  refine ⟨rfl, fun j y hj hy => ?_, fun j hj hy => ?_, fun j hj => ?_, h.n20⟩
  · rw [gE_set]
    unfold putN at hy
    by_cases hjk : j = k
    · rw [if_pos hjk] at hy; cases hy; subst hjk; simp
    · rw [if_neg hjk] at hy
      rw [if_neg (by simp only; omega)]
      exact h.is j y hj hy
  · rw [gE_set]
    unfold putN at hy
    by_cases hjk : j = k
    · rw [if_pos hjk] at hy; cases hy
    · rw [if_neg hjk] at hy
      rw [if_neg (by simp only; omega)]
      exact h.no j hj hy
  · unfold putN
    by_cases hjk : j = k
    · rw [if_pos hjk]; exact hx
    · rw [if_neg hjk]; exact h.bd j hj
theorem OneL.deb_new (h : OneL n F L N) {k : Nat} {m : Int} (hk : k < n) (hN : N k = none) (hm : 1 ≤ m ∧ m ≤ 70000) : OneL n (debF F L 0 k p51 m) (debL F L 0 k p51 m) (putN N k m) := by
  have hs := h.sum
  have hg := h.no k hk hN
  have hf := h.fs
  subst hf
  rcases deb_new hg (gF1 (1000000000 - sumN N n)) (a := m) (by omega) with ⟨h1, h2, h3, h4, h5⟩ | ⟨h1, h3, h4, h5⟩
  · rw [h4, h5, set1]
    have := h.put hk (x := m) (by omega)
    rw [sumN_put _ _ _ _ hk, hN] at this
    have e : 1000000000 - sumN N n - m = 1000000000 - (sumN N n - (none : Option Int).getD 0 + m) := by simp; omega
    rw [e]; exact this
  · omega
theorem OneL.deb_old (h : OneL n F L N) {k : Nat} {m x : Int} (hk : k < n) (hN : N k = some x) : debF F L 0 k p51 m = F ∧ debL F L 0 k p51 m = L := by
  have hg := h.is k x hk hN
  unfold debF debL
  rw [hg]
  exact ⟨rfl, rfl⟩
theorem OneL.rev_lt (h : OneL n F L N) {k : Nat} {g x : Int} (hk : k < n) (hN : N k = some x) (hg : 0 ≤ g) (hx : g < x) : OneL n (revF F L 0 k g) (revL L 0 k g) (putN N k g) := by
  have hge := h.is k x hk hN
  have hb := h.bd k hk
  rw [hN] at hb
  have hf := h.fs
  subst hf
  have h1 : revF [(p51, 1000000000 - sumN N n)] L 0 k g = [(p51, 1000000000 - sumN (putN N k g) n)] := by
    unfold revF
    rw [if_neg (by omega), hge]
    simp only [hx, if_true, set1, gF1, Option.getD_some]
    rw [sumN_put _ _ _ _ hk, hN]
    congr 2
    simp; omega
  have h2 : revL L 0 k g = setL ⟨0, k, okS, p51, g⟩ L := by
    unfold revL
    rw [if_neg (by omega), hge]
    simp only [hx, if_true]
  rw [h1, h2]
  simp at hb
  exact h.put hk (by omega)
theorem OneL.rev_ge (h : OneL n F L N) {k : Nat} {g x : Int} (hk : k < n) (hN : N k = some x) (hx : x ≤ g) : revF F L 0 k g = F ∧ revL L 0 k g = L := by
  have hge := h.is k x hk hN
  have hb := h.bd k hk
  rw [hN] at hb
  simp at hb
  unfold revF revL
  rw [hge]
  simp [show ¬ g < x by omega]
end
/-- A ledger of one account. -/
def LO (R : Heap) (p n : Nat) (N : NN) : Prop := ∃ F L fm lm, Led R p F L fm lm ∧ OneL n F L N
section
variable {H R : Heap} {p n : Nat} {N : NN}
theorem lo_new (H : Heap) (b1 b2 n : Nat) (hn : n ≤ 20) (h1 : H b1 = some (.row true 0 [.string p51] 0)) (h2 : H b2 = some (.row true 0 [.int .i64 1000000000] 0)) :
    ECalls Try.prog 8 #[.slice (some ⟨b1, 0, none⟩) 1 1, .slice (some ⟨b2, 0, none⟩) 1 1] H fun v H' => ∃ p R', v = .pointer (some ⟨p, 0, none⟩) ∧ Own H (fun _ => none) H' R' ∧ LO R' p n (fun _ => none) := by
  have s1 : SlA H (some ⟨b1, 0, none⟩) 1 1 ([p51].map .string) := SlA.row h1 (Nat.le_refl _) rfl (by simp) (by simp)
  have s2 : SlA H (some ⟨b2, 0, none⟩) 1 1 ([1000000000].map i64V) := SlA.row h2 (Nat.le_refl _) rfl (by simp) (by simp [i64V])
  refine (new_c H _ _ 1 1 1 1 [p51] [1000000000] s1 s2 (by decide) (by decide)).mono ?_
  rintro v H1 ⟨p, fm, lm, R1, rfl, ow1, hL1⟩
  rw [show mkN [1000000000] [p51] 1 = [(p51, 1000000000)] by decide] at hL1
  have h0 : ∀ n, sumN (fun _ => none) n = 0 := fun n => by induction n with
    | zero => rfl
    | succ n ih => simp [sumN, ih]
  exact ⟨p, R1, rfl, ow1, _, _, _, _, hL1, ⟨by rw [h0]; rfl, fun k x hk hx => (by cases hx), fun k hk _ => rfl, fun k hk => (by simp), hn⟩⟩
theorem lo_debit (hR : Heap.le R H) (h : LO R p n N) (k : Nat) (hk : k < n) (m : Int) (hm : 1 ≤ m ∧ m ≤ 70000) :
    ECalls Try.prog 13 #[.pointer (some ⟨p, 0, none⟩), .agg #[.int .u16 0, .int .u32 k], .string p51, .int .i64 m] H fun v H' => (∃ a, v = .string a) ∧ ∃ R', Own H R H' R' ∧ LO R' p n (if (N k).isSome then N else putN N k m) := by
  obtain ⟨F, L, fm, lm, hL, hO⟩ := h
  refine (debit_c hR hL 0 k p51 m (fun v hv => ?_)).mono ?_
  · have hs := hO.sum
    rw [hO.fs, gF1] at hv; cases hv; omega
  rintro v H' ⟨rfl, R', ow, hL'⟩
  refine ⟨⟨_, rfl⟩, R', ow, ?_⟩
  cases hN : N k with
  | none => exact ⟨_, _, _, _, hL', hO.deb_new hk hN hm⟩
  | some x =>
    obtain ⟨e1, e2⟩ := hO.deb_old (m := m) hk hN
    rw [e1, e2] at hL'
    exact ⟨_, _, _, _, hL', hO⟩
theorem lo_reverse (hR : Heap.le R H) (h : LO R p n N) (k : Nat) (hk : k < n) (g x : Int) (hx : N k = some x) (hg : 0 ≤ g) :
    ECalls Try.prog 10 #[.pointer (some ⟨p, 0, none⟩), .agg #[.int .u16 0, .int .u32 k], .int .i64 g] H fun v H' => (∃ a, v = .string a) ∧ ∃ R', Own H R H' R' ∧ LO R' p n (if g < x then putN N k g else N) := by
  obtain ⟨F, L, fm, lm, hL, hO⟩ := h
  have hge := hO.is k x hk hx
  have hb := hO.bd k hk
  rw [hx] at hb
  simp at hb
  refine (reverse_c hR hL 0 k g (fun e he => ?_)).mono ?_
  · rw [hge] at he; cases he
    have hs := hO.sum
    simp only [hO.fs, gF1, Option.getD_some]
    omega
  rintro v H' ⟨rfl, R', ow, hL'⟩
  refine ⟨⟨_, rfl⟩, R', ow, ?_⟩
  by_cases hlt : g < x
  · rw [if_pos hlt]
    exact ⟨_, _, _, _, hL', hO.rev_lt hk hx hg hlt⟩
  · rw [if_neg hlt]
    obtain ⟨e1, e2⟩ := hO.rev_ge (g := g) hk hx (by omega)
    rw [e1, e2] at hL'
    exact ⟨_, _, _, _, hL', hO⟩
theorem lo_net (hR : Heap.le R H) (h : LO R p n N) (k : Nat) (hk : k < n) (x : Int) (hx : N k = some x) :
    ECalls Try.prog 15 #[.pointer (some ⟨p, 0, none⟩), .agg #[.int .u16 0, .int .u32 k]] H fun v H' => v = .int .i64 x ∧ Heap.le H H' := by
  obtain ⟨F, L, fm, lm, hL, hO⟩ := h
  have hge := hO.is k x hk hx
  refine (net_c hR hL 0 k).mono ?_
  rintro v H' ⟨rfl, hle⟩
  exact ⟨by unfold netE; rw [hge]; rfl, hle⟩
theorem lo_total (hR : Heap.le R H) (h : LO R p n N) : ECalls Try.prog 17 #[.pointer (some ⟨p, 0, none⟩)] H fun v H' => v = .int .i64 (1000000000 - sumN N n) ∧ Heap.le H H' := by
  obtain ⟨F, L, fm, lm, hL, hO⟩ := h
  have hs := hO.sum
  have hf := hO.fs
  subst hf
  refine (total_c hR hL (by simp) (fun x hx => by simp at hx; subst hx; simp only; omega)).mono ?_
  rintro v H' ⟨rfl, hle⟩
  exact ⟨by simp [sumF], hle⟩
end
end Go.Proofs.Ytdeffhibolcebaa.GL
