/- Layer 19: the walk of StepLives. -/
import Derived.Test.YtahmnhdmnhijcaaStE
namespace Go.Proofs.Ytahmnhdmnhijcaa.GL
open Go Go.RowKit
set_option maxRecDepth 10000
set_option pp.deepTerms.threshold 8
set_option pp.maxSteps 3000
set_option linter.unusedSimpArgs false
set_option linter.unusedVariables false

/-- What is known of a life so far: its transaction, how often it was sent, confirmed. -/
def LifeT (A : Int) (t : Txn) (s c : Int) : Prop :=
  (t = zeroT ∧ s = 0 ∧ c = 0) ∨ (OkT t ∧ t.amount = A ∧ t.term = 1 ∧ t.stan = 7 ∧
    ((s = 0 ∧ c = 0 ∧ (t.state = 1 ∨ t.state = 2 ∨ t.state = 6 ∨ t.state = 4 ∨ t.state = 5)) ∨ (s = 1 ∧ c = 0 ∧ t.state = 3) ∨ (s = 1 ∧ c = 1 ∧ (t.state = 4 ∨ t.state = 5))))
def lifeR (k A G : Int) : Rec := ⟨k, 1, 7, [53, 49], if k = 6 then G else A, 0, 0, 0, 0⟩
theorem lifeR_right (k A G : Int) (hk : 1 ≤ k ∧ k ≤ 7) (hA : 1 ≤ A ∧ A ≤ 3000) (hG : 0 ≤ G ∧ G ≤ A) : RightR (lifeR k A G) :=
  ⟨hk, by simp [lifeR], pan51, by unfold lifeR; simp only; split <;> omega, few0, few0, few0, few0⟩
theorem LifeT.right {A : Int} {t : Txn} {s c : Int} (h : LifeT A t s c) : RightT t := by
  rcases h with ⟨rfl, _⟩ | ⟨h, _⟩
  · exact .inl rfl
  · exact .inr h
theorem LifeT.key {A : Int} {t : Txn} {s c : Int} (h : LifeT A t s c) (k G : Int) : t = zeroT ∨ ((lifeR k A G).term = t.term ∧ (lifeR k A G).stan = t.stan) := by
  rcases h with ⟨rfl, _⟩ | ⟨_, _, h1, h2, _⟩
  · exact .inl rfl
  · exact .inr ⟨h1.symm, h2.symm⟩
theorem LifeT.shut {A : Int} {t : Txn} {s c : Int} (h : LifeT A t s c) : (1 ≤ t.state ∧ t.state ≤ 4) ∨ t.state = 5 ∨ t.state = 0 ∨ t.state = 6 := by
  rcases h with ⟨rfl, _⟩ | ⟨_, _, _, _, h⟩
  · exact .inr (.inr (.inl rfl))
  · omega

structure LifeStep (A : Int) (t u : Txn) (s c : Int) (s' c' : Int) : Prop where
  life : LifeT A u s' c'
  s1 : s' ≤ 1
  c1 : c' ≤ s'
  st : t.state ≤ u.state
  gi : 0 ≤ u.given
  am : u.given + u.owed ≤ A
  fits : -3000 ≤ u.owed ∧ u.owed ≤ 3000 ∧ u.given ≤ 3000
theorem life_step (A G k : Int) (t : Txn) (s c : Int) (h : LifeT A t s c) (hk : 1 ≤ k ∧ k ≤ 7) (hA : 1 ≤ A ∧ A ≤ 3000) (hG : 0 ≤ G ∧ G ≤ A) (he : (stepF t (lifeR k A G)).2 = 0) :
    LifeStep A t (stepF t (lifeR k A G)).1 s c (if k = 5 then s + 1 else s) (if k = 6 then c + 1 else c) := by
  by_cases hin : t.state ∈ fromL k
  case neg =>
    have : stepF t (lifeR k A G) = (zeroT, 30) := by simp [stepF, lifeR, hin]
    rw [this] at he; cases he
  have hk7 : k = 1 ∨ k = 2 ∨ k = 3 ∨ k = 4 ∨ k = 5 ∨ k = 6 ∨ k = 7 := by omega
  have pl : ([53, 49] : List UInt8).length = 2 := rfl
  rcases hk7 with rfl | rfl | rfl | rfl | rfl | rfl | rfl
  · have hs0 : t.state = 0 := by simpa [fromL] using hin
    rcases h with ⟨rfl, rfl, rfl⟩ | ⟨hok, _⟩
    · have e : stepF zeroT (lifeR 1 A G) = (⟨1, 7, [53, 49], A, 1, 0, 0, 0, 0, 0, 0⟩, 0) := by simp [stepF, lifeR, hin]; omega
      rw [e]
      exact ⟨.inr ⟨⟨by first | decide | (simp only [zeroT]; omega) | (simp [zeroT] <;> omega), by first | decide | (simp only [zeroT]; omega) | (simp [zeroT] <;> omega), pan51, hA.1, by first | (simp only; omega) | (simp <;> omega), ⟨few0, few0, few0, few0⟩, .inl ⟨.inl rfl, ⟨rfl, rfl, rfl, rfl⟩, rfl, rfl⟩⟩, rfl, rfl, rfl, .inl ⟨rfl, rfl, .inl rfl⟩⟩, by first | decide | (simp only [zeroT]; omega) | (simp [zeroT] <;> omega), by first | decide | (simp only [zeroT]; omega) | (simp [zeroT] <;> omega), by first | decide | (simp only [zeroT]; omega) | (simp [zeroT] <;> omega), by first | decide | (simp only [zeroT]; omega) | (simp [zeroT] <;> omega), by first | (simp only; omega) | (simp <;> omega), by first | decide | (simp only [zeroT]; omega) | (simp [zeroT] <;> omega)⟩
    · have := hok.state; omega
  all_goals
    rcases h with ⟨rfl, rfl, rfl⟩ | ⟨hok, ha, h1, h7, hst⟩
    · simp [fromL, zeroT] at hin
  all_goals
    obtain ⟨te, sn, pan, am, sta, n0, n1, n2, n3, gv, ow⟩ := t
    obtain ⟨p1, p2, p3, a1, a2, few, hss⟩ := hok
    simp only at ha h1 h7 hst p1 p2 p3 a1 a2 few hss hin
    subst ha h1 h7
    simp [fromL] at hin
  · subst hin
    have hz : gv = 0 ∧ ow = 0 ∧ (n0 = 0 ∧ n1 = 0 ∧ n2 = 0 ∧ n3 = 0) := by rcases hss with ⟨_, hn, hg, ho⟩ | ⟨h, _⟩ | ⟨h, _⟩ | ⟨h, _⟩ <;> first | exact ⟨hg, ho, hn⟩ | omega
    obtain ⟨rfl, rfl, rfl, rfl, rfl, rfl⟩ := hz
    have e : stepF ⟨1, 7, pan, am, 1, 0, 0, 0, 0, 0, 0⟩ (lifeR 2 am G) = (⟨1, 7, pan, am, 2, 0, 0, 0, 0, 0, 0⟩, 0) := by simp [stepF, lifeR, fromL]
    rw [e]
    have hsc : s = 0 ∧ c = 0 := by omega
    obtain ⟨rfl, rfl⟩ := hsc
    exact ⟨.inr ⟨⟨p1, p2, p3, a1, a2, few, .inl ⟨.inr (.inl rfl), ⟨rfl, rfl, rfl, rfl⟩, rfl, rfl⟩⟩, rfl, rfl, rfl, .inl ⟨rfl, rfl, .inr (.inl rfl)⟩⟩, by first | decide | (simp only [zeroT]; omega) | (simp [zeroT] <;> omega), by first | decide | (simp only [zeroT]; omega) | (simp [zeroT] <;> omega), by first | decide | (simp only [zeroT]; omega) | (simp [zeroT] <;> omega), by first | decide | (simp only [zeroT]; omega) | (simp [zeroT] <;> omega), by first | (simp only; omega) | (simp <;> omega), by first | decide | (simp only [zeroT]; omega) | (simp [zeroT] <;> omega)⟩
  · subst hin
    have hz : gv = 0 ∧ ow = 0 ∧ (n0 = 0 ∧ n1 = 0 ∧ n2 = 0 ∧ n3 = 0) := by rcases hss with ⟨_, hn, hg, ho⟩ | ⟨h, _⟩ | ⟨h, _⟩ | ⟨h, _⟩ <;> first | exact ⟨hg, ho, hn⟩ | omega
    obtain ⟨rfl, rfl, rfl, rfl, rfl, rfl⟩ := hz
    have e : stepF ⟨1, 7, pan, am, 1, 0, 0, 0, 0, 0, 0⟩ (lifeR 3 am G) = (⟨1, 7, pan, am, 6, 0, 0, 0, 0, 0, 0⟩, 0) := by simp [stepF, lifeR, fromL]
    rw [e]
    have hsc : s = 0 ∧ c = 0 := by omega
    obtain ⟨rfl, rfl⟩ := hsc
    exact ⟨.inr ⟨⟨p1, p2, p3, a1, a2, few, .inl ⟨.inr (.inr rfl), ⟨rfl, rfl, rfl, rfl⟩, rfl, rfl⟩⟩, rfl, rfl, rfl, .inl ⟨rfl, rfl, .inr (.inr (.inl rfl))⟩⟩, by first | decide | (simp only [zeroT]; omega) | (simp [zeroT] <;> omega), by first | decide | (simp only [zeroT]; omega) | (simp [zeroT] <;> omega), by first | decide | (simp only [zeroT]; omega) | (simp [zeroT] <;> omega), by first | decide | (simp only [zeroT]; omega) | (simp [zeroT] <;> omega), by first | (simp only; omega) | (simp <;> omega), by first | decide | (simp only [zeroT]; omega) | (simp [zeroT] <;> omega)⟩
  · have e : stepF ⟨1, 7, pan, am, sta, n0, n1, n2, n3, gv, ow⟩ (lifeR 4 am G) = (⟨1, 7, pan, am, 4, n0, n1, n2, n3, 0, am⟩, 0) := by simp [stepF, lifeR, fromL, hin, revT]
    rw [e]
    have hsc : s = 0 ∧ c = 0 := by omega
    obtain ⟨rfl, rfl⟩ := hsc
    exact ⟨.inr ⟨⟨p1, p2, p3, a1, a2, few, .inr (.inr (.inl ⟨rfl, by simp only [owesT]; omega⟩))⟩, rfl, rfl, rfl, .inl ⟨rfl, rfl, .inr (.inr (.inr (.inl rfl)))⟩⟩, by first | decide | (simp only [zeroT]; omega) | (simp [zeroT] <;> omega), by first | decide | (simp only [zeroT]; omega) | (simp [zeroT] <;> omega), by simp only; omega, by first | decide | (simp only [zeroT]; omega) | (simp [zeroT] <;> omega), by simp, by simp only; omega⟩
  · subst hin
    have hz : gv = 0 ∧ ow = 0 := by rcases hss with ⟨_, hn, hg, ho⟩ | ⟨h, _⟩ | ⟨h, _⟩ | ⟨h, _⟩ <;> first | exact ⟨hg, ho⟩ | omega
    obtain ⟨rfl, rfl⟩ := hz
    have e : stepF ⟨1, 7, pan, am, 2, n0, n1, n2, n3, 0, 0⟩ (lifeR 5 am G) = (⟨1, 7, pan, am, 3, 0, 0, 0, 0, 0, 0⟩, 0) := by simp [stepF, lifeR, fromL]
    rw [e]
    have hsc : s = 0 ∧ c = 0 := by omega
    obtain ⟨rfl, rfl⟩ := hsc
    exact ⟨.inr ⟨⟨p1, p2, p3, a1, a2, ⟨few0, few0, few0, few0⟩, .inr (.inl ⟨rfl, rfl, rfl⟩)⟩, rfl, rfl, rfl, .inr (.inl ⟨rfl, rfl, rfl⟩)⟩, by first | decide | (simp only [zeroT]; omega) | (simp [zeroT] <;> omega), by first | decide | (simp only [zeroT]; omega) | (simp [zeroT] <;> omega), by first | decide | (simp only [zeroT]; omega) | (simp [zeroT] <;> omega), by first | decide | (simp only [zeroT]; omega) | (simp [zeroT] <;> omega), by first | (simp only; omega) | (simp <;> omega), by first | decide | (simp only [zeroT]; omega) | (simp [zeroT] <;> omega)⟩
  · subst hin
    have hsc : s = 1 ∧ c = 0 := by omega
    obtain ⟨rfl, rfl⟩ := hsc
    by_cases hz : am - G = 0
    · have e : stepF ⟨1, 7, pan, am, 3, n0, n1, n2, n3, gv, ow⟩ (lifeR 6 am G) = (⟨1, 7, pan, am, 5, n0, n1, n2, n3, G, am - G⟩, 0) := by simp [stepF, lifeR, fromL, revT, hz, show ¬ am < G by omega]
      rw [e]
      exact ⟨.inr ⟨⟨p1, p2, p3, a1, a2, few, .inr (.inr (.inr ⟨rfl, .inl ⟨hz, by simp only; omega⟩⟩))⟩, rfl, rfl, rfl, .inr (.inr ⟨rfl, rfl, .inr rfl⟩)⟩, by first | decide | (simp only [zeroT]; omega) | (simp [zeroT] <;> omega), by first | decide | (simp only [zeroT]; omega) | (simp [zeroT] <;> omega), by first | decide | (simp only [zeroT]; omega) | (simp [zeroT] <;> omega), by simp only; omega, by simp only; omega, by simp only; omega⟩
    · have e : stepF ⟨1, 7, pan, am, 3, n0, n1, n2, n3, gv, ow⟩ (lifeR 6 am G) = (⟨1, 7, pan, am, 4, n0, n1, n2, n3, G, am - G⟩, 0) := by simp [stepF, lifeR, fromL, revT, hz, show ¬ am < G by omega]
      rw [e]
      exact ⟨.inr ⟨⟨p1, p2, p3, a1, a2, few, .inr (.inr (.inl ⟨rfl, by simp only [owesT]; omega⟩))⟩, rfl, rfl, rfl, .inr (.inr ⟨rfl, rfl, .inl rfl⟩)⟩, by first | decide | (simp only [zeroT]; omega) | (simp [zeroT] <;> omega), by first | decide | (simp only [zeroT]; omega) | (simp [zeroT] <;> omega), by first | decide | (simp only [zeroT]; omega) | (simp [zeroT] <;> omega), by simp only; omega, by simp only; omega, by simp only; omega⟩
  · subst hin
    have how : owesT ⟨1, 7, pan, am, 4, n0, n1, n2, n3, gv, ow⟩ := by rcases hss with ⟨h, _⟩ | ⟨h, _⟩ | ⟨h, ho⟩ | ⟨h, _⟩ <;> first | exact ho | omega
    have e : stepF ⟨1, 7, pan, am, 4, n0, n1, n2, n3, gv, ow⟩ (lifeR 7 am G) = (⟨1, 7, pan, am, 5, n0, n1, n2, n3, gv, ow⟩, 0) := by simp [stepF, lifeR, fromL]
    rw [e]
    have e5 : (if (7 : Int) = 5 then s + 1 else s) = s := if_neg (by decide)
    have e6 : (if (7 : Int) = 6 then c + 1 else c) = c := if_neg (by decide)
    rw [e5, e6]
    have how2 := how
    unfold owesT at how2
    simp only at how2
    have hsc : s ≤ 1 ∧ c ≤ s := by
      rcases hst with ⟨h1, h2, _⟩ | ⟨h1, h2, _⟩ | ⟨h1, h2, _⟩ <;> omega
    refine ⟨.inr ⟨⟨p1, p2, p3, a1, a2, few, .inr (.inr (.inr ⟨rfl, .inr how⟩))⟩, rfl, rfl, rfl, ?_⟩, hsc.1, hsc.2, by show (4 : Int) ≤ 5; decide, how2.1, by show gv + ow ≤ am; omega, by show -3000 ≤ ow ∧ ow ≤ 3000 ∧ gv ≤ 3000; omega⟩
    rcases hst with ⟨h1, h2, _⟩ | ⟨_, _, h3⟩ | ⟨h1, h2, _⟩
    · exact .inl ⟨h1, h2, .inr (.inr (.inr (.inr rfl)))⟩
    · exact absurd h3 (by decide)
    · exact .inr (.inr ⟨h1, h2, .inr rfl⟩)
end Go.Proofs.Ytahmnhdmnhijcaa.GL
