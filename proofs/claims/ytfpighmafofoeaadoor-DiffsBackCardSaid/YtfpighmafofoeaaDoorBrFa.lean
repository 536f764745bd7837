/- Layer 20: memory taken over; append that makes a new row. -/
import Derived.Test.YtfpighmafofoeaaDoorGlU
import Derived.Test.YtfpighmafofoeaaDoorGlO
namespace Go.Proofs.YtfpighmafofoeaaDoor.GL
open Go Go.RowKit
set_option maxRecDepth 10000
set_option pp.deepTerms.threshold 8
set_option pp.maxSteps 3000
set_option linter.unusedSimpArgs false
set_option linter.unusedVariables false

/-- A block that was made since becomes the object's. -/
theorem Own.take {H R H1 R1 : Heap} (a : Own H R H1 R1) {b : Nat} {o : GObj} (hH : H b = none) (h1 : H1 b = some o) : Own H R H1 (upd R1 b o) := by
  refine ⟨fun i p h2 h3 => ?_, fun i p e => ?_⟩
  · obtain ⟨y, z⟩ := a.mv i p h2 h3
    have hi : i ≠ b := fun e => by rw [e, hH] at h3; cases h3
    exact ⟨by rw [upd_ne _ _ hi]; exact y, z⟩
  · by_cases hi : i = b
    · rw [hi, upd_same] at e
      rw [hi, h1]; exact e
    · rw [upd_ne _ _ hi] at e
      exact a.le _ _ e
theorem Own.take2 {H R G R1 H1 : Heap} (a : Own H R G R1) (hl : Heap.le G H1) {b : Nat} {o : GObj} (hG : G b = none) (h1 : H1 b = some o) : Own H R H1 (upd R1 b o) := by
  refine ⟨fun i p h2 h3 => ?_, fun i p e => ?_⟩
  · obtain ⟨y, z⟩ := a.mv i p h2 h3
    have hi : i ≠ b := fun e => by rw [e, hG] at z; cases z
    exact ⟨by rw [upd_ne _ _ hi]; exact y, hl _ _ z⟩
  · by_cases hi : i = b
    · rw [hi, upd_same] at e
      rw [hi, h1]; exact e
    · rw [upd_ne _ _ hi] at e
      exact hl _ _ (a.le _ _ e)
/-- A call changed one of the object's blocks. -/
theorem Own.chg {H R H1 R1 H2 : Heap} (a : Own H R H1 R1) {b : Nat} {o o' : GObj} (hr : R1 b = some o) (hl : Heap.le (dele H1 b) H2) (h2 : H2 b = some o') : Own H R H2 (upd R1 b o') := by
  refine ⟨fun i p h3 h4 => ?_, fun i p e => ?_⟩
  · obtain ⟨y, z⟩ := a.mv i p h3 h4
    have hi : i ≠ b := fun e => by rw [e, hr] at y; cases y
    exact ⟨by rw [upd_ne _ _ hi]; exact y, hl _ _ (by rw [dele_ne _ hi]; exact z)⟩
  · by_cases hi : i = b
    · rw [hi, upd_same] at e
      rw [hi, h2]; exact e
    · rw [upd_ne _ _ hi] at e
      exact hl _ _ (by rw [dele_ne _ hi]; exact a.le _ _ e)
/-- append to what has no room, or is nothing: a new row. -/
theorem app_new {P : Program} {F H : Heap} {K : Kont} {t t1 e : TypeId} {x z : Value} {s nbs n m : Nat} {a : Option Addr} {cs ys : List Value} (hu : und P t = .slice e) (hs : sz P e = some s) (hn : nb P e = some nbs) (hz : zeroV P e = some z)
    (hzs : (cellsV z).length = s) (hs0 : 0 < s) (h : SlA F a m s cs) (hF : Heap.le F H) (hsrc : srcOf P e t1 x H = some (n, ys)) (hl : ys.length = n * s) (hone : ys.all (·.oneCell') = true) (hn0 : 0 < n) (hb : (m + n) * (nbs + 1) ≤ 35184372088832)
    (hK : ∀ b' c' room, H b' = none → m + n ≤ c' → c' * s ≤ (m + n) * s + room → K (.slice (some ⟨b', 0, none⟩) (m + n) c') (upd H b' (.row true 0 (cs ++ ys) room))) : eApp P t t1 (.slice a m m) x H K := by
  cases a with
  | none =>
    have hm : m = 0 := by
      rcases Nat.eq_zero_or_pos m with hm | hm
      · exact hm
      · obtain ⟨b, o, e⟩ := h.lit hm
        cases e
    subst hm
    have hcs : cs = [] := List.eq_nil_of_length_eq_zero (by rw [h.len]; simp)
    subst hcs
    refine app_nil hu hs hn hz hzs hs0 hsrc hl hone (by simpa using hb) (fun h0 => absurd h0 (by omega)) (fun b cap room hb' _ hown => ?_)
    have := hK b cap room hb' (by simpa using hown.capOk) (by simpa using hown.fits)
    simpa using this
  | some a =>
    obtain ⟨b, o, sp⟩ := a
    have hsp : sp = none := by
      have := h.plain
      cases sp with
      | none => rfl
      | some y => simp [plainA] at this
    subst hsp
    exact app_full hu hs hn hz hzs hs0 (h.le hF) hsrc hl hone hn0 hb fun b' cap' room hb' hc hr => hK b' cap' room hb' hc (by omega)
end Go.Proofs.YtfpighmafofoeaaDoor.GL
