/- Layer 21: what stays true of a ledger; Pan, key. -/
import Derived.Test.YtdeffhibolcebaaLeQ
namespace Go.Proofs.Ytdeffhibolcebaa.GL
open Go Go.RowKit Go.MapKept
set_option maxRecDepth 10000
set_option pp.deepTerms.threshold 8
set_option pp.maxSteps 3000
set_option linter.unusedSimpArgs false
set_option linter.unusedVariables false

structure WfN (m : Nat) (F : List Acc) (L : List LE) : Prop where
  ok : ∀ e ∈ L, e.ans = okS → ∃ i, idxF e.pan F = some i
  no : ∀ e ∈ L, e.ans ≠ okS → e.net = 0
  bd : ∀ e ∈ L, 0 ≤ e.net ∧ e.net ≤ 1000000
  fb : ∀ x ∈ F, 0 ≤ x.2 ∧ x.2 ≤ 1000000000000 + m * 1000000
  nf : F.length ≤ 64
  nl : L.length ≤ m
section
variable {m : Nat} {F : List Acc} {L : List LE}
theorem WfN.wf (h : WfN m F L) (hm : m ≤ 1000) : Wf F L :=
  ⟨h.ok, h.no, h.bd, fun x hx => by have := h.fb x hx; omega, h.nf, by have := h.nl; omega⟩
theorem WfN.up (h : WfN m F L) : WfN (m + 1) F L :=
  ⟨h.ok, h.no, h.bd, fun x hx => by have := h.fb x hx; omega, h.nf, by have := h.nl; omega⟩
theorem WfN.add (h : WfN m F L) {e : LE} (h1 : e.ans = okS → ∃ i, idxF e.pan F = some i) (h2 : e.ans ≠ okS → e.net = 0) (h3 : 0 ≤ e.net ∧ e.net ≤ 1000000) : WfN (m + 1) F (L ++ [e]) := by
  have mem : ∀ x, x ∈ L ++ [e] → x ∈ L ∨ x = e := fun x hx => by simpa using hx
  refine ⟨fun x hx => ?_, fun x hx => ?_, fun x hx => ?_, h.up.fb, h.nf, by have := h.nl; simp; omega⟩
  · rcases mem x hx with hx | rfl
    · exact h.ok x hx
    · exact h1
  · rcases mem x hx with hx | rfl
    · exact h.no x hx
    · exact h2
  · rcases mem x hx with hx | rfl
    · exact h.bd x hx
    · exact h3
theorem WfN.money (h : WfN m F L) {i : Nat} {x : Acc} {w : Int} (hi : F[i]? = some x) (hw : 0 ≤ w ∧ w ≤ x.2 + 1000000) : WfN (m + 1) (F.set i (x.1, w)) L := by
  refine ⟨fun e he hok => ?_, h.no, h.bd, fun y hy => ?_, by rw [List.length_set]; exact h.nf, by have := h.nl; omega⟩
  · rw [idxF_set hi]; exact h.ok e he hok
  · rcases List.mem_or_eq_of_mem_set hy with hy | rfl
    · exact h.up.fb y hy
    · have := h.fb x (List.mem_of_getElem? hi)
      simp only
      omega
theorem gF_idx {pan : ByteArray} {v : Int} (h : gF pan F = some v) : ∃ i, idxF pan F = some i ∧ F[i]? = some (pan, v) := by
  unfold gF at h
  cases hi : idxF pan F with
  | none => rw [hi] at h; cases h
  | some i =>
    obtain ⟨w, hw⟩ := idxF_lt hi
    rw [hi] at h
    simp [hw] at h
    exact ⟨i, rfl, by rw [hw, h]⟩
theorem WfN.debit (h : WfN m F L) (t s : Int) (pan : ByteArray) (a : Int) : WfN (m + 1) (debF F L t s pan a) (debL F L t s pan a) := by
  unfold debF debL
  cases hg : gE t s L with
  | some e => exact h.up
  | none =>
    simp only
    have hno : ∀ (e : LE), e.t = t → e.s = s → setL e L = L ++ [e] := fun e h1 h2 => setL_new (by rw [h1, h2]; exact hg)
    unfold newE
    by_cases hok : ansF F pan a = okS
    · obtain ⟨a1, a2, v, hv, hav⟩ := ansF_ok hok
      obtain ⟨i, hi, hx⟩ := gF_idx hv
      rw [if_pos hok, if_pos hok, hno _ rfl rfl, hv, setM_at hi]
      have hvb := h.fb _ (List.mem_of_getElem? hx)
      simp only at hvb
      have h2 := h.money (w := v - a) hx (by simp only; omega)
      have h3 : WfN m (F.set i (pan, v - a)) L := by
        refine ⟨h2.ok, h2.no, h2.bd, fun y hy => ?_, h2.nf, h.nl⟩
        rcases List.mem_or_eq_of_mem_set hy with hy | rfl
        · exact h.fb y hy
        · simp only; omega
      refine h3.add (fun _ => ⟨i, ?_⟩) (fun hne => absurd rfl hne) (by simp only; omega)
      rw [show (pan, v - a) = ((pan, v).1, v - a) from rfl, idxF_set hx]; exact hi
    · rw [if_neg hok, if_neg hok, hno _ rfl rfl]
      exact h.add (fun h1 => absurd h1 hok) (fun _ => rfl) (by simp only; omega)
theorem gE_idx {t s : Int} {e : LE} (h : gE t s L = some e) : ∃ i, idxE t s L = some i ∧ L[i]? = some e ∧ e.t = t ∧ e.s = s := by
  unfold gE at h
  cases hi : idxE t s L with
  | none => rw [hi] at h; cases h
  | some i =>
    obtain ⟨e', he, h1, h2⟩ := idxE_lt hi
    rw [hi] at h
    simp [he] at h
    subst h
    exact ⟨i, rfl, he, h1, h2⟩
theorem WfN.reverse (h : WfN m F L) (t s g : Int) : WfN (m + 1) (revF F L t s g) (revL L t s g) := by
  unfold revF revL
  by_cases hg0 : g < 0
  · rw [if_pos hg0, if_pos hg0]; exact h.up
  rw [if_neg hg0, if_neg hg0]
  cases hg : gE t s L with
  | none =>
    simp only
    rw [setL_new hg]
    exact h.add (fun h1 => absurd h1 (by show ¬ ((⟨#[49, 50]⟩ : ByteArray) = okS); decide)) (fun _ => rfl) (by simp only; omega)
  | some e =>
    simp only
    by_cases hlt : g < e.net
    · rw [if_pos hlt, if_pos hlt]
      obtain ⟨i, hi, he, h1, h2⟩ := gE_idx hg
      have hmem := List.mem_of_getElem? he
      have hb := h.bd e hmem
      have hok : e.ans = okS := Classical.byContradiction fun hne => by have := h.no e hmem hne; omega
      obtain ⟨k, hk⟩ := h.ok e hmem hok
      obtain ⟨v, hv⟩ := idxF_lt hk
      rw [setM_at hk, gF_at hk hv, setL_at (e := ⟨t, s, e.ans, e.pan, g⟩) hi]
      have hvb := h.fb _ (List.mem_of_getElem? hv)
      simp only at hvb
      have h2' := h.money (w := v + (e.net - g)) hv (by simp only; omega)
      refine ⟨fun x hx hxo => ?_, fun x hx hxo => ?_, fun x hx => ?_, h2'.fb, h2'.nf, by have := h.nl; rw [List.length_set]; omega⟩
      · rcases List.mem_or_eq_of_mem_set hx with hx | rfl
        · exact h2'.ok x hx hxo
        · exact h2'.ok e hmem hok
      · rcases List.mem_or_eq_of_mem_set hx with hx | rfl
        · exact h2'.no x hx hxo
        · exact absurd hok hxo
      · rcases List.mem_or_eq_of_mem_set hx with hx | rfl
        · exact h2'.bd x hx
        · simp only; omega
    · rw [if_neg hlt, if_neg hlt]; exact h.up
theorem WfN.new (fs : List Int) (ps : List ByteArray) (k : Nat) : WfN 0 (mkN fs ps k) [] := by
  refine ⟨fun e he => (by cases he), fun e he => (by cases he), fun e he => (by cases he), ?_, mkN_len fs ps k, by simp⟩
  induction k with
  | zero => intro x hx; cases hx
  | succ k ih =>
    intro x hx
    simp only [mkN] at hx
    cases hp : ps[k]? with
    | none => rw [hp] at hx; exact ih x hx
    | some p =>
      rw [hp] at hx
      simp only [stepF] at hx
      split at hx
      · exact ih x hx
      · rcases List.mem_append.1 hx with hx | hx
        · exact ih x hx
        · simp at hx; subst hx
          simp only [clampAt]
          split <;> omega
theorem WfN.gb (h : WfN m F L) (hm : m ≤ 1000) (pan : ByteArray) : 0 ≤ (gF pan F).getD 0 ∧ (gF pan F).getD 0 ≤ 10000000000000 := by
  cases hg : gF pan F with
  | none => simp
  | some v =>
    obtain ⟨i, _, hx⟩ := gF_idx hg
    have := h.fb _ (List.mem_of_getElem? hx)
    simp only [Option.getD_some] at this ⊢
    omega
end

def pans4 : List ByteArray := [⟨#[52, 48, 48, 48, 49, 50, 51, 52, 49, 50, 51, 52, 49, 50, 51, 52]⟩, ⟨#[53, 49]⟩, ⟨#[57]⟩, ⟨#[54, 48, 49, 49, 48, 48, 48, 57, 57, 48, 49, 51, 57, 52, 50, 52]⟩]
def panS (k : Nat) : ByteArray := (pans4[k % 4]?).getD ByteArray.empty
theorem pan_c (H : Heap) (k : Nat) (hk : k < 256) : ECalls Try.prog 7 #[.int .u8 k] H fun v H' => v = .string (panS k) ∧ Heap.le H H' := by
  refine ecalls_of_ewp (args := [_]) Try.func7 rfl rfl rfl (by simp [Try.ntmps7]) (by kernel_rfl) ?_
  simp (disch := first | omega | assumption | decide | (simp <;> omega) | fail) [facts, ]
  refine fresh_intro fun b hb => ?_
  have h4 : k % 4 = 0 ∨ k % 4 = 1 ∨ k % 4 = 2 ∨ k % 4 = 3 := by omega
  rcases h4 with h | h | h | h
  all_goals
    have hI : (k : Int) % 4 = ((k % 4 : Nat) : Int) := by omega
    rw [h] at hI
    have hS : panS k = (pans4[k % 4]?).getD ByteArray.empty := rfl
    rw [h] at hS
    rw [hS]
    simp (disch := first | omega | assumption | decide | (simp <;> omega) | fail) [facts, hI, upd_same]
    exact ⟨_, Heap.le_refl _, rfl, le_upd _ hb⟩
def kT (k : Nat) : Int := ((k % 2 : Nat) : Int)
def kS (k : Nat) : Int := ((k / 2 % 4 : Nat) : Int)
theorem key_c (H : Heap) (k : Nat) (hk : k < 256) : ECalls Try.prog 11 #[.int .u8 k] H fun v H' => v = .agg #[.int .u16 (kT k), .int .u32 (kS k)] ∧ Heap.le H H' := by
  refine ecalls_of_ewp (args := [_]) Try.func11 rfl rfl rfl (by simp [Try.ntmps11]) (by kernel_rfl) ?_
  have h1 : (k : Int) % 2 = kT k := by unfold kT; omega
  have h2 : (k : Int) / 2 % 4 = kS k := by unfold kS; omega
  have b1 : 0 ≤ kT k ∧ kT k < 2 := by unfold kT; omega
  have b2 : 0 ≤ kS k ∧ kS k < 4 := by unfold kS; omega
  simp (disch := first | omega | assumption | decide | (simp <;> omega) | fail) [facts, ]
  refine fresh_intro fun b hb => ?_
  simp (disch := first | omega | assumption | decide | (simp <;> omega) | fail) [facts, upd_same, h1, h2, upd_upd]
  exact ⟨_, Heap.le_refl _, le_upd _ hb⟩
end Go.Proofs.Ytdeffhibolcebaa.GL
