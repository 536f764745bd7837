/- An object of several lists: each in a block of its own. -/
import Derived.Test.YtfpighmafofoeaaDoorGlS
import Derived.Test.YtfpighmafofoeaaDoorGlV
namespace Go.Proofs.YtfpighmafofoeaaDoor.GL
open Go Go.RowKit
set_option linter.unusedSimpArgs false
set_option linter.unusedVariables false

theorem LstR.blk {B : Heap} {v : Value} {s n b : Nat} {cs : List Value} (h : LstR B v s n cs) (hb : blkV v = some b) : ∃ o, B b = some o := by
  rcases h with ⟨rfl, _, _⟩ | ⟨b', o, cap, tail, room, rfl, hr, _⟩
  · cases hb
  · cases hb; exact ⟨_, hr⟩
abbrev LX := Nat × Nat × List Value
structure Lsts (R : Heap) (p : Nat) (vs : List Value) (xs : List LX) : Prop where
  is : ∀ (i : Nat) (v : Value) (x : LX), vs[i]? = some v → xs[i]? = some x → LstR R v x.1 x.2.1 x.2.2
  len : vs.length = xs.length
  off : ∀ (i : Nat) (v : Value), vs[i]? = some v → blkV v ≠ some p
  dis : ∀ (i j : Nat) (v w : Value) (b : Nat), i ≠ j → vs[i]? = some v → vs[j]? = some w → blkV v = some b → blkV w ≠ some b
section
variable {R R' : Heap} {p i : Nat} {vs : List Value} {xs : List LX} {v v' : Value} {x x' : LX}
theorem Lsts.get (h : Lsts R p vs xs) (hv : vs[i]? = some v) (hx : xs[i]? = some x) : LstR R v x.1 x.2.1 x.2.2 := h.is i v x hv hx
theorem Lsts.xat (h : Lsts R p vs xs) (hv : vs[i]? = some v) : ∃ x, xs[i]? = some x := by
  have := (List.getElem?_eq_some_iff.1 hv).1
  have := h.len
  exact ⟨_, List.getElem?_eq_getElem (by omega)⟩
/-- One of the lists changed; the others' blocks stayed. -/
theorem Lsts.chg (h : Lsts R p vs xs) (hv : vs[i]? = some v) (hx : LstR R' v' x'.1 x'.2.1 x'.2.2) (hp' : blkV v' ≠ some p)
    (hk : ∀ b o, R b = some o → blkV v ≠ some b → R' b = some o ∧ blkV v' ≠ some b) : Lsts R' p (vs.set i v') (xs.set i x') := by
  have hi := (List.getElem?_eq_some_iff.1 hv).1
  have hl := h.len
  refine ⟨fun j w y hw hy => ?_, by simp [h.len], fun j w hw => ?_, fun j k w u b hjk hw hu hb => ?_⟩
  · by_cases hij : i = j
    · subst hij
      rw [List.getElem?_set_self hi] at hw; cases hw
      rw [List.getElem?_set_self (by omega)] at hy; cases hy
      exact hx
    · rw [List.getElem?_set_ne hij] at hw hy
      refine (h.is j w y hw hy).up fun b o hb hR => (hk b o hR ?_).1
      intro hvb
      exact h.dis i j v w b hij hv hw hvb hb
  · by_cases hij : i = j
    · subst hij
      rw [List.getElem?_set_self hi] at hw; cases hw
      exact hp'
    · rw [List.getElem?_set_ne hij] at hw
      exact h.off j w hw
  · have other : ∀ (j : Nat) (w : Value) (b : Nat), i ≠ j → vs[j]? = some w → blkV w = some b → blkV v' ≠ some b := fun j w b hij hw hb => by
      obtain ⟨y, hy⟩ := h.xat hw
      obtain ⟨o, ho⟩ := (h.is j w y hw hy).blk hb
      exact (hk b o ho (fun hvb => h.dis i j v w b hij hv hw hvb hb)).2
    by_cases hij : i = j
    · subst hij
      rw [List.getElem?_set_self hi] at hw; cases hw
      rw [List.getElem?_set_ne hjk] at hu
      exact fun hub => other k u b hjk hu hub hb
    · rw [List.getElem?_set_ne hij] at hw
      by_cases hik : i = k
      · subst hik
        rw [List.getElem?_set_self hi] at hu; cases hu
        exact other j w b hij hw hb
      · rw [List.getElem?_set_ne hik] at hu
        exact h.dis j k w u b hjk hw hu hb
/-- The cells of one of the lists are others. -/
theorem Lsts.put (h : Lsts R p vs xs) {b : Nat} {o : GObj} (hv : vs[i]? = some v) (hb : blkV v = some b) (hx : LstR (upd R b o) v x'.1 x'.2.1 x'.2.2) : Lsts (upd R b o) p vs (xs.set i x') := by
  have hvs : vs.set i v = vs := by
    have hi := (List.getElem?_eq_some_iff.1 hv).1
    have := (List.getElem?_eq_some_iff.1 hv).2
    rw [← this]; exact List.set_getElem_self hi
  have := h.chg (R' := upd R b o) (v' := v) (x' := x') hv hx (h.off i v hv) (fun b' o' hR hne => ⟨by rw [upd_ne _ _ (fun (e : b' = b) => hne (by rw [e]; exact hb))]; exact hR, hne⟩)
  rwa [hvs] at this
/-- What lies beside the lists changed. -/
theorem Lsts.up (h : Lsts R p vs xs) (hk : ∀ (b : Nat) (o : GObj), b ≠ p → R b = some o → R' b = some o) : Lsts R' p vs xs :=
  ⟨fun i v x hv hx => (h.is i v x hv hx).up fun b o hb hR => hk b o (fun e => h.off i v hv (e ▸ hb)) hR, h.len, h.off, h.dis⟩
/-- append to one of the lists. -/
theorem Lsts.app {P : Program} {G : Heap} {K : Kont} {t t1 e : TypeId} {y z : Value} {s nbs n m : Nat} {cs ys : List Value} {rp : GObj} (hu : und P t = .slice e) (hs : sz P e = some s) (hn : nb P e = some nbs) (hz : zeroV P e = some z) (hzs : (cellsV z).length = s) (hs0 : 0 < s)
    (h : Lsts R p vs xs) (hv : vs[i]? = some v) (hx : xs[i]? = some (s, n, cs)) (hR : Heap.le R G) (hp : R p = some rp) (hsrc : srcOf P e t1 y G = some (m, ys)) (hl : ys.length = m * s) (hone : ys.all (·.oneCell') = true) (hb : (n + m) * (nbs + 1) ≤ 35184372088832)
    (hK : ∀ v' H' R', Own G R H' R' → Lsts R' p (vs.set i v') (xs.set i (s, n + m, cs ++ ys)) → R' p = some rp → Heap.le (deleV G v) H' → K v' H') :
    eApp P t t1 v y G K := by
  refine LstR.app (H0 := G) (B0 := R) (B := R) hu hs hn hz hzs hs0 (h.is i v _ hv hx) (Own.refl hR) hsrc hl hone hb ?_
  intro v' H' R' ow hL' hk hle
  have hpk := hk p rp hp (h.off i v hv)
  exact hK v' H' R' ow (h.chg (x' := (s, n + m, cs ++ ys)) hv hL' hpk.2 hk) hpk.1 hle
end
/-- A cell of one of the lists (of one cell each), to be read and written. -/
theorem Lsts.cell {R : Heap} {p i n : Nat} {vs : List Value} {xs : List LX} {v : Value} {cs : List Value} (h : Lsts R p vs xs) (hv : vs[i]? = some v) (hx : xs[i]? = some (1, n, cs)) (h0 : 0 < n) :
    ∃ b o c tail room, v = .slice (some ⟨b, o, none⟩) n c ∧ R b = some (.row true o (cs ++ tail) room) ∧ b ≠ p ∧ cs.length = n ∧ ∀ k w, k < n → Lsts (upd R b (.row true o ((cs ++ tail).set k w) room)) p vs (xs.set i (1, n, cs.set k w)) := by
  have hL := h.is i v _ hv hx
  have hoff := h.off i v hv
  have hL2 := hL
  rcases hL with ⟨_, e, _⟩ | ⟨b, o, cap, tail, room, rfl, hr, hlen, hc, hf⟩
  · simp only at e; omega
  simp only [Nat.mul_one] at hlen
  refine ⟨b, o, cap, tail, room, rfl, hr, fun e => hoff (by simp [blkV, e]), hlen, fun k w hk => ?_⟩
  rw [List.set_append_left _ _ (by omega)]
  refine h.put (x' := (1, n, cs.set k w)) hv rfl (.inr ⟨b, o, cap, tail, room, rfl, upd_same _ _ _, by simp [hlen], hc, hf⟩)
/-- What isn't the list's stays. -/
theorem keep_dele {G R H' : Heap} {v : Value} {s n b : Nat} {cs : List Value} {o : GObj} (h : LstR R v s n cs) (hb : R b = none) (hG : G b = some o) (hle : Heap.le (deleV G v) H') : H' b = some o := by
  refine hle b o ?_
  rcases h with ⟨rfl, _, _⟩ | ⟨b', o', cap, tail, room, rfl, hr, _⟩
  · exact hG
  · show dele G b' b = some o
    rw [dele_ne _ (fun e => by subst e; rw [hr] at hb; cases hb)]; exact hG

/-! ### Two appends, in whatever order: l.A, l.B = append(l.A, ..), append(l.B, ..) -/
structure KP where
  i : Bool → Nat
  ld : Bool → Nat
  a : Bool → Nat
  pp : Bool → Nat
  s : Bool → Nat
  v : Bool → Value
  x : Bool → LX
  x' : Bool → LX
  y : Bool → List Value
structure KC where
  b : Bool → Nat
  w : Bool → Value
  R : Heap
def KP.cur (P : KP) (c : KC) (g : Nat → Bool) (q : Bool) : Value := if g (P.pp q) = true then c.w q else P.v q
def KP.curS (P : KP) (c : KC) (g : Nat → Bool) (q : Bool) : Value := if g (P.s q) = true then c.w q else P.v q
def KP.curX (P : KP) (g : Nat → Bool) (q : Bool) : LX := if g (P.pp q) = true then P.x' q else P.x q
def set2 {α : Type} (P : KP) (vs : List α) (f : Bool → α) : List α := (vs.set (P.i true) (f true)).set (P.i false) (f false)
theorem set2_set {α : Type} {P : KP} (hi : P.i true ≠ P.i false) (vs : List α) (f f' : Bool → α) (q : Bool) (v : α) (h1 : f' q = v) (h2 : f' (!q) = f (!q)) : (set2 P vs f).set (P.i q) v = set2 P vs f' := by
  unfold set2
  cases q with
  | true =>
    simp at h2
    rw [List.set_comm _ _ hi.symm, List.set_set, h1, h2]
  | false =>
    simp at h2
    rw [List.set_set, h1, h2]
theorem set2_get {α : Type} {P : KP} (hi : P.i true ≠ P.i false) {vs : List α} {f : Bool → α} (hl : ∀ q, P.i q < vs.length) (q : Bool) : (set2 P vs f)[P.i q]? = some (f q) := by
  unfold set2
  cases q with
  | true => rw [List.getElem?_set_ne hi.symm, List.getElem?_set_self (hl true)]
  | false => rw [List.getElem?_set_self (by rw [List.length_set]; exact hl false)]
structure KI (P : KP) (H0 R0 : Heap) (p : Nat) (vs : List Value) (xs : List LX) (c : KC) (g : Nat → Bool) (H : Heap) : Prop where
  own : Own H0 R0 H c.R
  row : c.R p = some (.row true 0 (set2 P vs (P.curS c g)) 0)
  lst : Lsts c.R p (set2 P vs (P.cur c g)) (set2 P xs (P.curX g))
  nw : ∀ q, g (P.a q) = true → H (c.b q) = some (.row true 0 (P.y q) 0) ∧ c.R (c.b q) = none
  ord : ∀ q, g (P.s q) = true → g (P.ld q) = true ∧ g (P.pp q) = true
/-- What the places of the operations are. -/
structure KOk (P : KP) (vs : List Value) (xs : List LX) : Prop where
  hi : P.i true ≠ P.i false
  hv : ∀ q, vs[P.i q]? = some (P.v q)
  hx : ∀ q, xs[P.i q]? = some (P.x q)
  ne : ∀ q r, P.a q ≠ P.pp r ∧ P.a q ≠ P.s r ∧ P.pp q ≠ P.s r ∧ P.ld q ≠ P.s r ∧ P.ld q ≠ P.pp r ∧ P.ld q ≠ P.a r
  nq : ∀ q, P.a q ≠ P.a (!q) ∧ P.pp q ≠ P.pp (!q) ∧ P.s q ≠ P.s (!q)
section
variable {P : KP} {H0 R0 : Heap} {p : Nat} {vs : List Value} {xs : List LX} {c : KC} {g : Nat → Bool} {H : Heap}
theorem set2_id {α : Type} {vs : List α} {f : Bool → α} (h : ∀ q, vs[P.i q]? = some (f q)) : set2 P vs f = vs := by
  unfold set2
  have h1 := h true
  have h2 := h false
  obtain ⟨l1, e1⟩ := List.getElem?_eq_some_iff.1 h1
  obtain ⟨l2, e2⟩ := List.getElem?_eq_some_iff.1 h2
  rw [← e1, List.set_getElem_self l1, ← e2, List.set_getElem_self l2]
theorem KI.init (k : KOk P vs xs) (hR : Heap.le R0 H0) (hr : R0 p = some (.row true 0 vs 0)) (hl : Lsts R0 p vs xs) (b : Bool → Nat) (w : Bool → Value) : KI P H0 R0 p vs xs ⟨b, w, R0⟩ (fun _ => false) H0 := by
  have e1 : set2 P vs (P.curS ⟨b, w, R0⟩ (fun _ => false)) = vs := set2_id fun q => by simpa [KP.curS] using k.hv q
  have e2 : set2 P vs (P.cur ⟨b, w, R0⟩ (fun _ => false)) = vs := set2_id fun q => by simpa [KP.cur] using k.hv q
  have e3 : set2 P xs (P.curX (fun _ => false)) = xs := set2_id fun q => by simpa [KP.curX] using k.hx q
  exact ⟨Own.refl hR, by rw [e1]; exact hr, by rw [e2, e3]; exact hl, fun q h => (by cases h), fun q h => (by cases h)⟩
theorem setB_ne {g : Nat → Bool} {i j : Nat} (h : j ≠ i) : setB g i j = g j := by unfold setB; rw [if_neg h]
theorem setB_eq {g : Nat → Bool} {i : Nat} : setB g i i = true := by unfold setB; rw [if_pos rfl]
theorem setB_up {g : Nat → Bool} {i j : Nat} (h : g j = true) : setB g i j = true := by unfold setB; split <;> simp_all
theorem KI.same (h : KI P H0 R0 p vs xs c g H) (i : Nat) (hn : ∀ q, i ≠ P.a q ∧ i ≠ P.pp q ∧ i ≠ P.s q) : KI P H0 R0 p vs xs c (setB g i) H := by
  have e1 : P.curS c (setB g i) = P.curS c g := funext fun q => by unfold KP.curS; rw [setB_ne (hn q).2.2.symm]
  have e2 : P.cur c (setB g i) = P.cur c g := funext fun q => by unfold KP.cur; rw [setB_ne (hn q).2.1.symm]
  have e3 : P.curX (setB g i) = P.curX g := funext fun q => by unfold KP.curX; rw [setB_ne (hn q).2.1.symm]
  refine ⟨h.own, by rw [e1]; exact h.row, by rw [e2, e3]; exact h.lst, fun q hq => h.nw q (by rwa [setB_ne (hn q).1.symm] at hq), fun q hq => ?_⟩
  rw [setB_ne (hn q).2.2.symm] at hq
  exact ⟨setB_up (h.ord q hq).1, setB_up (h.ord q hq).2⟩
def KC.setb (c : KC) (q : Bool) (b : Nat) : KC := ⟨fun r => if r = q then b else c.b r, c.w, c.R⟩
def KC.setw (c : KC) (q : Bool) (w : Value) (R : Heap) : KC := ⟨c.b, fun r => if r = q then w else c.w r, R⟩
theorem KI.build (k : KOk P vs xs) (h : KI P H0 R0 p vs xs c g H) (q : Bool) {b : Nat} (hb : H b = none) : KI P H0 R0 p vs xs (c.setb q b) (setB g (P.a q)) (upd H b (.row true 0 (P.y q) 0)) := by
  have e1 : P.curS (c.setb q b) (setB g (P.a q)) = P.curS c g := funext fun r => by unfold KP.curS; rw [setB_ne (k.ne q r).2.1.symm]; rfl
  have e2 : P.cur (c.setb q b) (setB g (P.a q)) = P.cur c g := funext fun r => by unfold KP.cur; rw [setB_ne (k.ne q r).1.symm]; rfl
  have e3 : P.curX (setB g (P.a q)) = P.curX g := funext fun r => by unfold KP.curX; rw [setB_ne (k.ne q r).1.symm]
  refine ⟨h.own.grow (le_upd _ hb), by rw [e1]; exact h.row, by rw [e2, e3]; exact h.lst, fun r hr => ?_, fun r hr => ?_⟩
  · unfold KC.setb
    by_cases hrq : r = q
    · subst hrq
      simp only [if_true]
      exact ⟨upd_same _ _ _, le_of_none h.own.le hb⟩
    · simp only [hrq, if_false]
      have hqr : r = !q := by cases r <;> cases q <;> simp_all
      rw [setB_ne (by rw [hqr]; exact (k.nq q).1.symm)] at hr
      exact ⟨upd_other hb (h.nw r hr).1, (h.nw r hr).2⟩
  · rw [setB_ne (k.ne q r).2.1.symm] at hr
    exact ⟨setB_up (h.ord r hr).1, setB_up (h.ord r hr).2⟩
theorem KI.app {Pr : Program} {K : Kont} {t t1 e : TypeId} {z : Value} {s nbs n : Nat} {cs : List Value} (k : KOk P vs xs) (h : KI P H0 R0 p vs xs c g H) (q : Bool) (ha : g (P.a q) = true) (hg : g (P.pp q) = false)
    (hu : und Pr t = .slice e) (hu1 : und Pr t1 = .slice e) (hs : sz Pr e = some s) (hn : nb Pr e = some nbs) (hz : zeroV Pr e = some z) (hzs : (cellsV z).length = s) (hs0 : 0 < s)
    (hx : P.x q = (s, n, cs)) (hx' : P.x' q = (s, n + 1, cs ++ P.y q)) (hl : (P.y q).length = s) (hone : (P.y q).all (·.oneCell') = true) (hb : (n + 1) * (nbs + 1) ≤ 35184372088832)
    (hK : ∀ w R' H', KI P H0 R0 p vs xs (c.setw q w R') (setB g (P.pp q)) H' → K w H') : eApp Pr t t1 (P.v q) (.slice (some ⟨c.b q, 0, none⟩) 1 1) H K := by
  obtain ⟨hb1, hb2⟩ := h.nw q ha
  have hlv : ∀ r, P.i r < vs.length := fun r => (List.getElem?_eq_some_iff.1 (k.hv r)).1
  have hlx : ∀ r, P.i r < xs.length := fun r => (List.getElem?_eq_some_iff.1 (k.hx r)).1
  have gv : (set2 P vs (P.cur c g))[P.i q]? = some (P.v q) := by rw [set2_get k.hi hlv]; unfold KP.cur; rw [hg]; rfl
  have gx : (set2 P xs (P.curX g))[P.i q]? = some (s, n, cs) := by rw [set2_get k.hi hlx]; unfold KP.curX; rw [hg, ← hx]; rfl
  have hsrc : srcOf Pr e t1 (.slice (some ⟨c.b q, 0, none⟩) 1 1) H = some (1, P.y q) := by
    have h2 : SlA H (some ⟨c.b q, 0, none⟩) 1 s (P.y q) := SlA.row hb1 (Nat.le_refl _) (by omega) (by simp; omega) (by rw [Nat.sub_self, List.drop_zero, Nat.one_mul, ← hl, List.take_length])
    exact src_sl hu1 hs hz h2
  refine h.lst.app (m := 1) hu hs hn hz hzs hs0 gv gx h.own.le h.row hsrc (by omega) hone hb ?_
  intro w H' R' ow hL' hp' hle
  refine hK w R' H' ⟨h.own.trans ow, ?_, ?_, fun r hr => ?_, fun r hr => ?_⟩
  · have e1 : P.curS (c.setw q w R') (setB g (P.pp q)) = P.curS c g := funext fun r => by
      unfold KP.curS KC.setw
      rw [setB_ne (k.ne q r).2.2.1.symm]
      by_cases hs : g (P.s r) = true
      · rw [if_pos hs, if_pos hs]
        have hrq : r ≠ q := fun e => by subst e; rw [(h.ord r hs).2] at hg; cases hg
        simp only [hrq, if_false]
      · rw [if_neg hs, if_neg hs]
    rw [e1]; exact hp'
  · have hnq := (k.nq q).2.1.symm
    rw [← set2_set k.hi vs (P.cur c g) (P.cur (c.setw q w R') (setB g (P.pp q))) q w (by unfold KP.cur KC.setw; rw [setB_eq]; simp) (by
      unfold KP.cur KC.setw
      rw [setB_ne hnq]
      simp), ← set2_set k.hi xs (P.curX g) (P.curX (setB g (P.pp q))) q (P.x' q) (by unfold KP.curX; rw [setB_eq]; simp) (by
      unfold KP.curX
      rw [setB_ne hnq]), hx']
    exact hL'
  · rw [setB_ne (k.ne r q).1] at hr
    obtain ⟨m1, m2⟩ := h.nw r hr
    exact ⟨(ow.mv _ _ m2 m1).2, (ow.mv _ _ m2 m1).1⟩
  · rw [setB_ne (k.ne q r).2.2.1.symm] at hr
    exact ⟨setB_up (h.ord r hr).1, setB_up (h.ord r hr).2⟩
theorem KI.store (k : KOk P vs xs) (h : KI P H0 R0 p vs xs c g H) (q : Bool) (hp : g (P.pp q) = true) (hl : g (P.ld q) = true) : KI P H0 R0 p vs xs ⟨c.b, c.w, upd c.R p (.row true 0 ((set2 P vs (P.curS c g)).set (P.i q) (c.w q)) 0)⟩ (setB g (P.s q)) (upd H p (.row true 0 ((set2 P vs (P.curS c g)).set (P.i q) (c.w q)) 0)) := by
  have e2 : P.cur ⟨c.b, c.w, upd c.R p (.row true 0 ((set2 P vs (P.curS c g)).set (P.i q) (c.w q)) 0)⟩ (setB g (P.s q)) = P.cur c g := funext fun r => by unfold KP.cur; rw [setB_ne (k.ne r q).2.2.1]
  have e3 : P.curX (setB g (P.s q)) = P.curX g := funext fun r => by unfold KP.curX; rw [setB_ne (k.ne r q).2.2.1]
  refine ⟨h.own.set h.row _, ?_, ?_, fun r hr => ?_, fun r hr => ?_⟩
  · rw [set2_set k.hi vs (P.curS c g) (P.curS ⟨c.b, c.w, upd c.R p (.row true 0 ((set2 P vs (P.curS c g)).set (P.i q) (c.w q)) 0)⟩ (setB g (P.s q))) q (c.w q) (by unfold KP.curS; rw [setB_eq]; simp) (by
      unfold KP.curS
      rw [setB_ne (k.nq q).2.2.symm])]
    exact upd_same _ _ _
  · rw [e2, e3]
    exact h.lst.up fun b o hb hR => by show upd c.R p _ b = _; rw [upd_ne _ _ hb]; exact hR
  · rw [setB_ne (k.ne r q).2.1] at hr
    obtain ⟨m1, m2⟩ := h.nw r hr
    have hne : c.b r ≠ p := fun e => by rw [e, h.row] at m2; cases m2
    exact ⟨by show upd H p _ (c.b r) = _; rw [upd_ne _ _ hne]; exact m1, by show upd c.R p _ (c.b r) = _; rw [upd_ne _ _ hne]; exact m2⟩
  · by_cases hrq : r = q
    · subst hrq; exact ⟨setB_up hl, setB_up hp⟩
    · have hqr : r = !q := by cases r <;> cases q <;> simp_all
      rw [setB_ne (by rw [hqr]; exact (k.nq q).2.2.symm)] at hr
      exact ⟨setB_up (h.ord r hr).1, setB_up (h.ord r hr).2⟩
/-- The row, where its list wasn't stored yet. -/
theorem KI.rd (k : KOk P vs xs) (h : KI P H0 R0 p vs xs c g H) (q : Bool) (hl : g (P.ld q) = false) : rd1U (H p) (P.i q) = some (P.v q) := by
  have hlv : ∀ r, P.i r < vs.length := fun r => (List.getElem?_eq_some_iff.1 (k.hv r)).1
  have hs : ¬ g (P.s q) = true := fun e => by rw [(h.ord q e).1] at hl; cases hl
  rw [h.own.le _ _ h.row, rd1U_row (Nat.zero_le _), Nat.sub_zero, set2_get k.hi hlv]
  unfold KP.curS
  rw [if_neg hs]
theorem KI.one (k : KOk P vs xs) (h : KI P H0 R0 p vs xs c g H) (q : Bool) (hp : g (P.pp q) = true) : (c.w q).oneCell' = true := by
  have hlv : ∀ r, P.i r < vs.length := fun r => (List.getElem?_eq_some_iff.1 (k.hv r)).1
  have hv : (set2 P vs (P.cur c g))[P.i q]? = some (c.w q) := by rw [set2_get k.hi hlv]; unfold KP.cur; rw [if_pos hp]
  obtain ⟨x, hx⟩ := h.lst.xat hv
  rcases h.lst.is _ _ _ hv hx with ⟨e, _⟩ | ⟨b, o, cap, tail, room, e, _⟩ <;> rw [e] <;> rfl
theorem KI.storeU {K : Kont} {o : Nat} (k : KOk P vs xs) (h : KI P H0 R0 p vs xs c g H) (q : Bool) (hp : g (P.pp q) = true) (hl : g (P.ld q) = true) (ho : o = P.i q)
    (hK : ∀ R' H', KI P H0 R0 p vs xs ⟨c.b, c.w, R'⟩ (setB g (P.s q)) H' → K undef H') : storeU (some 1) (H p) p o (c.w q) H K := by
  have hlv : ∀ r, P.i r < vs.length := fun r => (List.getElem?_eq_some_iff.1 (k.hv r)).1
  subst ho
  rw [h.own.le _ _ h.row, storeU_one (Nat.zero_le _) (by rw [Nat.sub_zero]; unfold set2; rw [List.length_set, List.length_set]; exact hlv q) (h.one k q hp), Nat.sub_zero]
  exact hK _ _ (h.store k q hp hl)
theorem KI.done (h : KI P H0 R0 p vs xs c g H) (hs : ∀ q, g (P.s q) = true) : Own H0 R0 H c.R ∧ c.R p = some (.row true 0 (set2 P vs c.w) 0) ∧ Lsts c.R p (set2 P vs c.w) (set2 P xs P.x') := by
  have e1 : P.curS c g = c.w := funext fun q => by unfold KP.curS; rw [if_pos (hs q)]
  have e2 : P.cur c g = c.w := funext fun q => by unfold KP.cur; rw [if_pos (h.ord q (hs q)).2]
  have e3 : P.curX g = P.x' := funext fun q => by unfold KP.curX; rw [if_pos (h.ord q (hs q)).2]
  have h1 := h.row
  have h2 := h.lst
  rw [e1] at h1
  rw [e2, e3] at h2
  exact ⟨h.own, h1, h2⟩
end
end Go.Proofs.YtfpighmafofoeaaDoor.GL
