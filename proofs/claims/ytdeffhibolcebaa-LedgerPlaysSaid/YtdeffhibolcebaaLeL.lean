/- Layer 21: the document's ledger: memory, account, at. -/
import Derived.Test.YtdeffhibolcebaaLeJ
import Derived.Test.YtdeffhibolcebaaGlU
namespace Go.Proofs.Ytdeffhibolcebaa.GL
open Go Go.RowKit Go.MapKept
set_option maxRecDepth 10000
set_option pp.deepTerms.threshold 8
set_option pp.maxSteps 3000
set_option linter.unusedSimpArgs false
set_option linter.unusedVariables false

def idI (o : Option Nat) : Int := match o with | some i => i | none => -1
/-- Whose account. -/
def ofE (F : List Acc) (e : LE) : Int := if e.ans = okS then idI (idxF e.pan F) else -1
def LE.key (e : LE) : List Value := [.int .u16 e.t, .int .u32 e.s]
theorem k2 (x : LE) : x.key.length = 2 := rfl
def rxs (F : List Acc) (L : List LE) : List LX :=
  [(1, F.length, F.map fun x => .string x.1), (1, F.length, F.map fun x => .int .i64 x.2), (2, L.length, rowsC LE.key L), (1, L.length, L.map fun e => .string e.ans), (1, L.length, L.map fun e => .int .i64 (ofE F e)), (1, L.length, L.map fun e => .int .i64 e.net)]
def RLed (R : Heap) (p : Nat) (F : List Acc) (L : List LE) : Prop := ∃ vs, R p = some (.row true 0 vs 0) ∧ Lsts R p vs (rxs F L)
theorem six {vs : List Value} (h : vs.length = 6) : ∃ a b c d e f, vs = [a, b, c, d, e, f] := by
  rcases vs with _ | ⟨a, _ | ⟨b, _ | ⟨c, _ | ⟨d, _ | ⟨e, _ | ⟨f, _ | ⟨g, l⟩⟩⟩⟩⟩⟩⟩ <;> simp at h
  exact ⟨_, _, _, _, _, _, rfl⟩
section
variable {H R : Heap} {p : Nat} {F : List Acc} {L : List LE}
theorem RLed.open (h : RLed R p F L) : ∃ v0 v1 v2 v3 v4 v5, R p = some (.row true 0 [v0, v1, v2, v3, v4, v5] 0) ∧ Lsts R p [v0, v1, v2, v3, v4, v5] (rxs F L) := by
  obtain ⟨vs, hr, hl⟩ := h
  obtain ⟨a, b, c, d, e, f, rfl⟩ := six hl.len
  exact ⟨a, b, c, d, e, f, hr, hl⟩
def accInv (H : Heap) (p : Nat) (pan : ByteArray) (F : List Acc) (st : St) : Prop :=
  ∃ k, k ≤ F.length ∧ st.env 0 = .pointer (some ⟨p, 0, none⟩) ∧ st.env 1 = .string pan ∧ st.env 5 = .int .i64 k ∧ st.heap = H ∧ idxF pan (F.take k) = none
theorem idxF_none {p : ByteArray} : ∀ {l : List Acc}, idxF p l = none ↔ ∀ x ∈ l, x.1 ≠ p
  | [] => by simp [idxF]
  | x :: l => by
    unfold idxF
    by_cases h : x.1 = p
    · simp [h]
    · have ih := idxF_none (p := p) (l := l)
      simp only [h, if_false, Option.map_eq_none_iff, ih, List.mem_cons, forall_eq_or_imp, ne_eq, not_false_eq_true, true_and]
theorem idxF_first {p : ByteArray} {v : Int} : ∀ {l : List Acc} {k : Nat}, l[k]? = some (p, v) → idxF p (l.take k) = none → idxF p l = some k
  | [], k, h, _ => by simp at h
  | x :: l, 0, h, _ => by
    simp at h; subst h; simp [idxF]
  | x :: l, k + 1, h, h2 => by
    simp only [List.take_succ_cons] at h2
    have hx : ¬ x.1 = p := fun e => by
      have := (idxF_none.1 h2) x (by simp)
      exact this e
    have h3 : idxF p (l.take k) = none := idxF_none.2 fun y hy => (idxF_none.1 h2) y (by simp [hy])
    have ih := idxF_first (l := l) (k := k) (by simpa using h) h3
    unfold idxF
    rw [if_neg hx, ih]; rfl
theorem account_c (hR : Heap.le R H) (h : RLed R p F L) (pan : ByteArray) (hn : F.length ≤ 64) : ECalls Try.prog 19 #[.pointer (some ⟨p, 0, none⟩), .string pan] H fun v H' => v = .int .i64 (idI (idxF pan F)) ∧ H' = H := by
  refine ecalls_of_ewp (args := [_, _]) Try.func19 rfl rfl rfl (by simp [Try.ntmps19]) (by kernel_rfl) ?_
  obtain ⟨v0, v1, v2, v3, v4, v5, hr, hl⟩ := h.open
  obtain ⟨a, c, rfl, hs0, _⟩ := (hl.get (i := 0) rfl rfl).sl hR
  have hp := hR _ _ hr
  simp only [rxs] at hs0
  simp (disch := first | omega | assumption | decide | (simp <;> omega) | fail) [facts, ]
  refine w_loop (accInv H p pan F) (fun st => F.length - (intOf (st.env 5)).toNat) ?_ ?_
  · exact ⟨0, Nat.zero_le _, by simp, by simp, by simp, rfl, rfl⟩
  rintro ⟨env, G⟩ ⟨k, hk, e0, e1, e5, hG, hno⟩
  simp only at e0 e1 e5 hG
  subst hG
  by_cases hlt : k < F.length
  · have hltI : (k : Int) < (F.length : Int) := by omega
    obtain ⟨x, hx⟩ : ∃ x, F[k]? = some x := ⟨_, List.getElem?_eq_getElem hlt⟩
    obtain ⟨ab, ao, rfl⟩ := hs0.lit (by omega)
    have rx : rd1U (G ab) (ao + k) = some (.string x.1) := by
      have := hs0.at (f := fun x : Acc => Value.string x.1) hx
      exact this
    by_cases hxp : x.1 = pan
    · have hi : idxF pan F = some k := idxF_first (v := x.2) (by rw [hx, ← hxp]) hno
      simp (disch := first | omega | assumption | decide | (simp <;> omega) | fail) [facts, e0, e1, e5, hp, hltI, rx, hxp]
      rw [hi]; rfl
    · simp (disch := first | omega | assumption | decide | (simp <;> omega) | fail) [facts, e0, e1, e5, hp, hltI, rx, hxp]
      refine ⟨_, Heap.le_refl _, ⟨k + 1, by omega, by simp [e0], by simp [e1], by simp, rfl, ?_⟩, by simp [intOf, e5]; omega⟩
      refine idxF_none.2 fun y hy => ?_
      rw [List.take_add_one, hx] at hy
      rcases List.mem_append.1 hy with hy | hy
      · exact idxF_none.1 hno y hy
      · simp at hy; subst hy; exact hxp
  · have hkn : k = F.length := by omega
    subst hkn
    rw [List.take_length] at hno
    simp (disch := first | omega | assumption | decide | (simp <;> omega) | fail) [facts, e0, e1, e5, hp]
    rw [hno]; rfl
def atInv (H : Heap) (p kb : Nat) (t s : Int) (L : List LE) (st : St) : Prop :=
  ∃ k, k ≤ L.length ∧ st.env 0 = .pointer (some ⟨p, 0, none⟩) ∧ st.env 3 = .pointer (some ⟨kb, 0, none⟩) ∧ st.env 5 = .int .i64 k ∧ st.heap = H ∧ idxE t s (L.take k) = none
theorem idxE_none' {t s : Int} : ∀ {l : List LE}, idxE t s l = none ↔ ∀ x ∈ l, ¬ (x.t = t ∧ x.s = s)
  | [] => by simp [idxE]
  | x :: l => by
    have hu : idxE t s (x :: l) = if x.t = t ∧ x.s = s then some 0 else (idxE t s l).map (· + 1) := rfl
    rw [hu]
    have ih := idxE_none' (t := t) (s := s) (l := l)
    by_cases h : x.t = t ∧ x.s = s
    · rw [if_pos h]; simp [h]
    · rw [if_neg h]
      simp only [Option.map_eq_none_iff, ih, List.mem_cons, forall_eq_or_imp]
      exact ⟨fun h2 => ⟨h, h2⟩, fun h2 => h2.2⟩
theorem idxE_first {t s : Int} : ∀ {l : List LE} {k : Nat} {x : LE}, l[k]? = some x → x.t = t ∧ x.s = s → idxE t s (l.take k) = none → idxE t s l = some k
  | [], k, x, h, _, _ => by simp at h
  | y :: l, 0, x, h, hx, _ => by
    simp at h; subst h
    have hu : idxE t s (y :: l) = if y.t = t ∧ y.s = s then some 0 else (idxE t s l).map (· + 1) := rfl
    rw [hu, if_pos hx]
  | y :: l, k + 1, x, h, hx, h2 => by
    simp only [List.take_succ_cons] at h2
    have hy : ¬ (y.t = t ∧ y.s = s) := (idxE_none'.1 h2) y (by simp)
    have h3 : idxE t s (l.take k) = none := idxE_none'.2 fun z hz => (idxE_none'.1 h2) z (by simp [hz])
    have ih := idxE_first (l := l) (k := k) (x := x) (by simpa using h) hx h3
    have hu : idxE t s (y :: l) = if y.t = t ∧ y.s = s then some 0 else (idxE t s l).map (· + 1) := rfl
    rw [hu, if_neg hy, ih]; rfl
theorem at_c (hR : Heap.le R H) (h : RLed R p F L) (t s : Int) (hn : L.length ≤ 1000000) : ECalls Try.prog 20 #[.pointer (some ⟨p, 0, none⟩), .agg #[.int .u16 t, .int .u32 s]] H fun v H' => v = .int .i64 (idI (idxE t s L)) ∧ Heap.le H H' := by
  refine ecalls_of_ewp (args := [_, _]) Try.func20 rfl rfl rfl (by simp [Try.ntmps20]) (by kernel_rfl) ?_
  obtain ⟨v0, v1, v2, v3, v4, v5, hr, hl⟩ := h.open
  obtain ⟨a, c, rfl, hs2, _⟩ := (hl.get (i := 2) rfl rfl).sl hR
  simp only [rxs] at hs2
  simp (disch := first | omega | assumption | decide | (simp <;> omega) | fail) [facts, ]
  refine fresh_intro fun kb hkb => ?_
  have hle := le_upd (.row true 0 [.int .u16 t, .int .u32 s] 0) hkb
  have hk := upd_same H kb (.row true 0 [.int .u16 t, .int .u32 s] 0)
  generalize upd H kb (.row true 0 [.int .u16 t, .int .u32 s] 0) = H1 at *
  have hp := hle _ _ (hR _ _ hr)
  have hs := hs2.le hle
  simp (disch := first | omega | assumption | decide | (simp <;> omega) | fail) [facts, ]
  refine w_loop (atInv H1 p kb t s L) (fun st => L.length - (intOf (st.env 5)).toNat) ?_ ?_
  · exact ⟨0, Nat.zero_le _, by simp, by simp, by simp, rfl, rfl⟩
  rintro ⟨env, G⟩ ⟨k, hk', e0, e3, e5, hG, hno⟩
  simp only at e0 e3 e5 hG
  subst hG
  by_cases hlt : k < L.length
  · have hltI : (k : Int) < (L.length : Int) := by omega
    obtain ⟨x, hx⟩ : ∃ x, L[k]? = some x := ⟨_, List.getElem?_eq_getElem hlt⟩
    obtain ⟨ab, ao, rfl⟩ := hs.lit (by omega)
    have rx : rdNU (G ab) (ao + k * 2) 2 = some [.int .u16 x.t, .int .u32 x.s] := hs.el k2 hx (j := 0) (r := 2) (by decide) (by decide)
    simp (disch := first | omega | assumption | decide | (simp <;> omega) | fail) [facts, e0, e3, e5, hp, hltI]
    refine w_plan (by simp [facts]) (opsP [0,1,2,3,4,5,6,7,8] .done) (by decide +kernel) ?_
    by_cases hxp : x.t = t ∧ x.s = s
    · have hi : idxE t s L = some k := idxE_first hx hxp hno
      have h1 := hxp.1
      have h2 := hxp.2
      simp (disch := first | omega | assumption | decide | (simp <;> omega) | fail) [facts, e0, e3, e5, hp, hk, hltI, rx, h1, h2]
      exact ⟨_, Heap.le_refl _, by rw [hi]; rfl, hle⟩
    · have hb : (decide (x.t = t) && decide (x.s = s)) = false := by simpa using hxp
      simp (disch := first | omega | assumption | decide | (simp <;> omega) | fail) [facts, e0, e3, e5, hp, hk, hltI, rx, hb]
      refine ⟨_, Heap.le_refl _, ⟨k + 1, by omega, by simp [e0], by simp [e3], by simp, rfl, ?_⟩, by simp [intOf, e5]; omega⟩
      refine idxE_none'.2 fun y hy => ?_
      rw [List.take_add_one, hx] at hy
      rcases List.mem_append.1 hy with hy | hy
      · exact idxE_none'.1 hno y hy
      · simp at hy; subst hy; exact hxp
  · have hkn : k = L.length := by omega
    subst hkn
    rw [List.take_length] at hno
    simp (disch := first | omega | assumption | decide | (simp <;> omega) | fail) [facts, e0, e3, e5, hp]
    exact ⟨_, Heap.le_refl _, by rw [hno]; rfl, hle⟩
end
end Go.Proofs.Ytdeffhibolcebaa.GL
