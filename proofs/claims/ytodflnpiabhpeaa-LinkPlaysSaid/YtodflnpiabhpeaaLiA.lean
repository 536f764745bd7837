/- Layer 26: messages, cloned. -/
import Derived.Test.YtodflnpiabhpeaaGlT
import Derived.Test.YtodflnpiabhpeaaGlX
namespace Go.Proofs.Ytodflnpiabhpeaa.GL
open Go Go.RowKit
set_option maxRecDepth 10000
set_option pp.deepTerms.threshold 8
set_option pp.maxSteps 3000
set_option linter.unusedSimpArgs false
set_option linter.unusedVariables false

theorem le_updN {H H1 : Heap} {b : Nat} (o : GObj) (hl : Heap.le H H1) (hb : H b = none) : Heap.le H (upd H1 b o) := fun i p e => by
  rw [upd_ne _ _ (ne_of_fresh hb e)]; exact hl i p e
theorem le_deleN {F H : Heap} {p : Nat} (hl : Heap.le F H) (hp : F p = none) : Heap.le F (dele H p) := fun i o e => by
  rw [dele_ne _ (ne_of_fresh hp e)]; exact hl i o e

/-- Of a slice that was made: it is there in every part of memory that holds what is new. -/
theorem out_part {H H' D : Heap} {sv : Value} {s n : Nat} {cs : List Value} (h : Out H H' sv s n cs) (hD : ∀ b o, H b = none → H' b = some o → D b = some o) : ∃ a c, sv = .slice a n c ∧ SlA D a n s cs ∧ n ≤ c := by
  rcases h with ⟨rfl, rfl, rfl⟩ | ⟨b, o, cap, room, hb, hown⟩
  · exact ⟨none, 0, rfl, SlA.nil _ _, Nat.le_refl _⟩
  · have hr := hD b _ hb hown.row
    have h2 : OwnA D sv s n b o cap cs room := ⟨hown.is, hr, hown.len, hown.capOk, hown.fits⟩
    exact ⟨some ⟨b, o, none⟩, cap, hown.is, h2.slA, hown.capOk⟩

/-- append onto a slice of the call's own, behind whose cells others may stand. -/
theorem app_tail {P : Program} {H : Heap} {K : Kont} {t t1 e : TypeId} {x z : Value} {s nbs n m q o cap room : Nat} {cs tail ys : List Value} (hu : und P t = .slice e) (hs : sz P e = some s) (hn : nb P e = some nbs) (hz : zeroV P e = some z)
    (hzs : (cellsV z).length = s) (hs0 : 0 < s) (hrow : H q = some (.row true o (cs ++ tail) room)) (hcs : cs.length = m * s) (hc : m ≤ cap) (hfit : cap * s ≤ m * s + tail.length + room)
    (hsrc : srcOf P e t1 x H = some (n, ys)) (hl : ys.length = n * s) (hone : ys.all (·.oneCell') = true) (hb : (m + n) * (nbs + 1) ≤ 35184372088832) (hn0 : n ≠ 0)
    (h : ∀ b' o' cap' room', (dele H q) b' = none → m + n ≤ cap' → cap' * s ≤ (m + n) * s + room' → K (.slice (some ⟨b', o', none⟩) (m + n) cap') (upd (dele H q) b' (.row true o' (cs ++ ys) room'))) :
    eApp P t t1 (.slice (some ⟨q, o, none⟩) m cap) x H K := by
  refine .inl ?_
  unfold eApp0
  rw [hu]
  simp only [hs, hn, hz, hsrc, hrow]
  refine ⟨⟨hzs, hs0, hl, hone, hc, hb⟩, fun h0 => absurd h0 hn0, fun _ => ⟨⟨Nat.le_refl _, by rw [Nat.sub_self, List.length_append, hcs]; omega, by rw [Nat.sub_self, List.length_append, hcs]; omega⟩, fun b' o' cap' room' hb' hcap hfit' => ?_⟩⟩
  have hct : ((cs ++ tail).drop (o - o)).take (m * s) = cs := by rw [Nat.sub_self, List.drop_zero, ← hcs, List.take_left']; rfl
  rw [hct]
  exact h b' o' cap' room' hb' hcap hfit'
/-- append where there is room, onto cells that are known. -/
theorem app_in {P : Program} {H : Heap} {K : Kont} {t t1 e : TypeId} {x z : Value} {s nbs n m q o cap room : Nat} {vs ys : List Value} (hu : und P t = .slice e) (hs : sz P e = some s) (hn : nb P e = some nbs) (hz : zeroV P e = some z)
    (hzs : (cellsV z).length = s) (hs0 : 0 < s) (hrow : H q = some (.row true o vs room)) (hsrc : srcOf P e t1 x H = some (n, ys)) (hl : ys.length = n * s) (hone : ys.all (·.oneCell') = true) (hc : m + n ≤ cap) (hb : (m + n) * (nbs + 1) ≤ 35184372088832) (hfit : (m + n) * s ≤ vs.length)
    (h : K (.slice (some ⟨q, o, none⟩) (m + n) cap) (upd H q (.row true o (splice vs (m * s) ys) room))) : eApp P t t1 (.slice (some ⟨q, o, none⟩) m cap) x H K := by
  refine .inr ?_
  unfold eAppIn
  rw [hu]
  simp only [hs, hn, hz, hsrc, hrow]
  exact ⟨⟨hzs, hs0, hl, hone, hc, hb, Nat.le_refl _, by rw [Nat.sub_self]; omega⟩, by rw [Nat.sub_self, Nat.zero_add]; exact h⟩
theorem clear_in {P : Program} {H : Heap} {K : Kont} {t e : TypeId} {z : Value} {s len q o off cap room : Nat} {vs : List Value} (hu : und P t = .slice e) (hs : sz P e = some s) (hz : zeroV P e = some z) (hzs : (cellsV z).length = s) (hone : (cellsV z).all (·.oneCell') = true)
    (hrow : H q = some (.row true off vs room)) (ho : off ≤ o) (hfit : o - off + len * s ≤ vs.length) (h0 : len ≠ 0) (h : K (.tuple #[]) (upd H q (.row true off (splice vs (o - off) (zeros (cellsV z) len)) room))) : eClear P t (.slice (some ⟨q, o, none⟩) len cap) H K := by
  unfold eClear
  rw [hu]
  simp only [hs, hz, hrow]
  exact ⟨⟨hzs, hone⟩, fun h1 => absurd h1 h0, fun _ => ⟨⟨ho, hfit⟩, h⟩⟩
theorem cloneB_c (a : Option Addr) (n c : Nat) (bs : List UInt8) (H : Heap) (h : ByA H a n bs) (hn : n ≤ 1099511627776) :
    ECalls Try.prog 15 #[.slice a n c] H fun v H' => Heap.le H H' ∧ Out H H' v 1 n (bs.map u8V) := by
  refine ecalls_of_ewp (args := [_]) Try.func15 rfl rfl rfl (by simp [Try.ntmps15]) (by kernel_rfl) ?_
  have hlen : bs.length = n := h.len
  cases a with
  | none =>
    have hn0 : n = 0 := by
      rcases h with h | ⟨h0, _⟩
      · rcases Nat.eq_zero_or_pos n with h0 | h0
        · exact h0
        · have := h.there h0; cases this
      · exact h0
    subst hn0
    have hb : bs = [] := List.length_eq_zero_iff.1 hlen
    subst hb
    simp (disch := first | omega | assumption | decide | (simp <;> omega) | fail) [facts, ]
    exact ⟨_, Heap.le_refl _, Heap.le_refl _, .inl ⟨rfl, rfl, rfl⟩⟩
  | some a =>
    simp (disch := first | omega | assumption | decide | (simp <;> omega) | fail) [facts, ]
    refine fresh_intro fun b hb => ?_
    simp (disch := first | omega | assumption | decide | (simp <;> omega) | fail) [facts, ]
    refine app_own (e := 5) (s := 1) (nbs := 1) (z := .int .u8 0) (b := b) (o := 0) (cap := 0) (room := 0) (m := 0) (n := n) (cs := []) (ys := bs.map u8V) (by simp [facts]) (by simp [facts]) (by simp [facts]) (by simp [facts]) rfl (by decide) ⟨rfl, upd_same _ _ _, rfl, Nat.le_refl _, by omega⟩
      (src_by (e1 := 5) (z := .int .u8 0) (by simp [facts]) (by simp [facts]) (by simp [facts]) (h.le (le_upd _ hb))) (by simp [hlen]) (by simp [List.all_eq_true, u8V, Value.oneCell']) (by omega) ?_
    intro b' o' cap' room' H' hb' hH' hown
    rw [dele_fresh hb] at hb' hH'
    have hle : Heap.le H H' := by rw [hH']; exact le_upd _ hb'
    simp (disch := first | omega | assumption | decide | (simp <;> omega) | fail) [facts, ]
    exact ⟨_, Heap.le_refl _, hle, .inr ⟨b', o', cap', room', hb', by simpa using hown⟩⟩

def msgV (f t : Int) (s : Value) : Value := .agg #[.int .i64 f, .int .i64 t, s]
theorem msgClone_c (f t : Int) (a : Option Addr) (n c : Nat) (bs : List UInt8) (H : Heap) (h : ByA H a n bs) (hn : n ≤ 1099511627776) :
    ECalls Try.prog 12 #[msgV f t (.slice a n c)] H fun v H' => Heap.le H H' ∧ ∃ a' c', v = msgV f t (.slice a' n c') ∧ Out H H' (.slice a' n c') 1 n (bs.map u8V) := by
  refine ecalls_of_ewp (args := [_]) Try.func12 rfl rfl rfl (by simp [Try.ntmps12]) (by kernel_rfl) ?_
  unfold msgV
  simp (disch := first | omega | assumption | decide | (simp <;> omega) | fail) [facts, ]
  refine fresh_intro fun b1 hb1 => ?_
  simp (disch := first | omega | assumption | decide | (simp <;> omega) | fail) [facts, ]
  refine fresh_intro fun b2 hb2 => ?_
  have q : b1 ≠ b2 := ne_of_fresh hb2 (upd_same _ _ _)
  have hle := Heap.le_trans (le_upd (.row true 0 [.int .i64 f, .int .i64 t, .slice a n c] 0) hb1) (le_upd (.row true 0 [.int .i64 0, .int .i64 0, .slice none 0 0] 0) hb2)
  have l1 := upd_other (o := .row true 0 [.int .i64 0, .int .i64 0, .slice none 0 0] 0) hb2 (upd_same H b1 (.row true 0 [.int .i64 f, .int .i64 t, .slice a n c] 0))
  have l2 := upd_same (upd H b1 (.row true 0 [.int .i64 f, .int .i64 t, .slice a n c] 0)) b2 (.row true 0 [.int .i64 0, .int .i64 0, .slice none 0 0] 0)
  have h2n : H b2 = none := le_of_none (le_upd _ hb1) hb2
  generalize upd (upd H b1 (.row true 0 [.int .i64 f, .int .i64 t, .slice a n c] 0)) b2 (.row true 0 [.int .i64 0, .int .i64 0, .slice none 0 0] 0) = H1 at *
  simp (disch := first | omega | assumption | decide | (simp <;> omega) | fail) [facts, l1]
  refine (cloneB_c a n c bs _ (h.le hle) hn).mono ?_
  rintro v H2 ⟨hle2, hout⟩
  obtain ⟨a', c', rfl, _, _⟩ := hout.sl2
  have m1 := hle2 _ _ l1
  have m2 := hle2 _ _ l2
  simp (disch := first | omega | assumption | decide | (simp <;> omega) | fail) [facts, m1, m2, upd_ne, upd_upd]
  have hH : Heap.le H (upd (upd H2 b1 (.row true 0 [.int .i64 f, .int .i64 t, .slice a' n c'] 0)) b2 (.row true 0 [.int .i64 f, .int .i64 t, .slice a' n c'] 0)) := le_updN _ (le_updN _ (Heap.le_trans hle hle2) hb1) h2n
  refine ⟨_, Heap.le_refl _, hH, a', c', ⟨rfl, rfl⟩, ?_⟩
  rcases hout with h0 | ⟨b, o, cap, room, hb, hown⟩
  · exact .inl h0
  · have n1 : b ≠ b1 := (ne_of_fresh hb l1).symm
    have n2 : b ≠ b2 := (ne_of_fresh hb l2).symm
    exact .inr ⟨b, o, cap, room, le_of_none hle hb, hown.is, by rw [upd_ne _ _ n2, upd_ne _ _ n1]; exact hown.row, hown.len, hown.capOk, hown.fits⟩
end Go.Proofs.Ytodflnpiabhpeaa.GL
