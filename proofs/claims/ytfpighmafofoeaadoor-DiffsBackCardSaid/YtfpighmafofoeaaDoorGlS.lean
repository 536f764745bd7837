/- Calls of function values; lists in an object's memory. -/
import Derived.Test.YtfpighmafofoeaaDoorGlR
namespace Go.Proofs.YtfpighmafofoeaaDoor.GL
open Go Go.RowKit
set_option linter.unusedSimpArgs false
set_option linter.unusedVariables false

def callV (P : Program) (f : Value) (args : Array Value) (H : Heap) (K : Kont) : Prop :=
  match f with
  | .func (.func g) first captured => callX (callable P g) P g (first ++ args ++ captured) H K
  | _ => False
theorem callV_fn {P : Program} {g : FuncId} {first captured args : Array Value} {H : Heap} {K : Kont} : callV P (.func (.func g) first captured) args H K = callX (callable P g) P g (first ++ args ++ captured) H K := Eq.trans rfl rfl
theorem x_callv {P : Program} {s : St} {K : Kont} {i : Tmp} {args : Array Operand} {ts : Array TypeId} : xop P s (.call ⟨.value (.tmp i), args, ts⟩) K = callV P (s.env i) (args.map s.eval) s.heap K := by
  simp only [xop, eop, callV, St.eval]
  generalize s.env i = v
  cases v <;> try rfl
theorem x_makeFunc {P : Program} {s : St} {K : Kont} {fn : Fn} {first captured : Array Operand} : xop P s (.makeFunc fn first captured) K = K (.func fn (first.map s.eval) (captured.map s.eval)) s.heap := by
  simp [xop, eop, qop]
attribute [simp] callV_fn x_callv x_makeFunc

def blkV (v : Value) : Option Nat := match v with | .slice (some a) _ _ => some a.block | _ => none
/-- A list in an object's memory, behind whose cells others may stand. -/
def LstR (B : Heap) (v : Value) (s n : Nat) (cs : List Value) : Prop :=
  (v = .slice none 0 0 ∧ n = 0 ∧ cs = []) ∨ ∃ b o cap tail room, v = .slice (some ⟨b, o, none⟩) n cap ∧ B b = some (.row true o (cs ++ tail) room) ∧ cs.length = n * s ∧ n ≤ cap ∧ cap * s ≤ n * s + tail.length + room
theorem LstR.nil (B : Heap) (s : Nat) : LstR B (.slice none 0 0) s 0 [] := .inl ⟨rfl, rfl, rfl⟩
theorem LstR.sl {B H : Heap} {v : Value} {s n : Nat} {cs : List Value} (h : LstR B v s n cs) (hl : Heap.le B H) : ∃ a c, v = .slice a n c ∧ SlA H a n s cs ∧ n ≤ c := by
  rcases h with ⟨rfl, rfl, rfl⟩ | ⟨b, o, cap, tail, room, rfl, hr, hc, hcap, _⟩
  · exact ⟨none, 0, rfl, SlA.nil _ _, Nat.le_refl _⟩
  · refine ⟨_, cap, rfl, SlA.row (hl _ _ hr) (Nat.le_refl _) hc (by rw [Nat.sub_self, List.length_append, hc]; omega) ?_, hcap⟩
    rw [Nat.sub_self, List.drop_zero, ← hc, List.take_left']; rfl
/-- The same list, where its block stayed. -/
theorem LstR.up {B B' : Heap} {v : Value} {s n : Nat} {cs : List Value} (h : LstR B v s n cs) (hk : ∀ i o, blkV v = some i → B i = some o → B' i = some o) : LstR B' v s n cs := by
  rcases h with h | ⟨b, o, cap, tail, room, rfl, hr, hc, hcap, hf⟩
  · exact .inl h
  · exact .inr ⟨b, o, cap, tail, room, rfl, hk b _ rfl hr, hc, hcap, hf⟩
theorem LstR.le {B B' : Heap} {v : Value} {s n : Nat} {cs : List Value} (h : LstR B v s n cs) (hl : Heap.le B B') : LstR B' v s n cs := h.up fun i o _ e => hl i o e
/-- append. -/
theorem LstR.app {P : Program} {H0 B0 G B : Heap} {K : Kont} {t t1 e : TypeId} {v x z : Value} {s nbs n m : Nat} {cs ys : List Value} (hu : und P t = .slice e) (hs : sz P e = some s) (hn : nb P e = some nbs) (hz : zeroV P e = some z) (hzs : (cellsV z).length = s) (hs0 : 0 < s)
    (h : LstR B v s n cs) (own : Own H0 B0 G B) (hsrc : srcOf P e t1 x G = some (m, ys)) (hl : ys.length = m * s) (hone : ys.all (·.oneCell') = true) (hb : (n + m) * (nbs + 1) ≤ 35184372088832)
    (hK : ∀ v' H' B', Own H0 B0 H' B' → LstR B' v' s (n + m) (cs ++ ys) → (∀ i o, B i = some o → blkV v ≠ some i → B' i = some o ∧ blkV v' ≠ some i) → Heap.le (deleV G v) H' → K v' H') :
    eApp P t t1 v x G K := by
  by_cases hm : m = 0
  · subst hm
    have hys : ys = [] := List.eq_nil_of_length_eq_zero (by simpa using hl)
    subst hys
    have hK0 : K v G := hK v G B own (by simpa using h) (fun i o hi hv => ⟨hi, hv⟩) (deleV_le _ _)
    rcases h with ⟨rfl, rfl, rfl⟩ | ⟨b, o, cap, tail, room, rfl, hr, hlen, hc, hf⟩
    · exact app_nil hu hs hn hz hzs hs0 hsrc hl hone (by simp) (fun _ => hK0) (fun _ _ _ _ h0 _ => absurd rfl h0)
    · have hr' := own.le _ _ hr
      refine .inl ?_
      unfold eApp0
      rw [hu]
      simp only [hs, hn, hz, hsrc, hr']
      exact ⟨⟨hzs, hs0, hl, hone, hc, hb⟩, fun _ => hK0, fun h0 => absurd rfl h0⟩
  · rcases h with ⟨rfl, rfl, rfl⟩ | ⟨b, o, cap, tail, room, rfl, hr, hlen, hc, hf⟩
    · refine app_nil hu hs hn hz hzs hs0 hsrc hl hone (by simpa using hb) (fun h0 => absurd h0 hm) (fun b cap room hb' _ hown => ?_)
      refine hK _ _ _ (own.add hb' _) (.inr ⟨b, 0, cap, [], room, by simp, by rw [upd_same]; simp, by simpa using hl, by simpa using hown.capOk, by simpa using hown.fits⟩) (fun i o hi _ => ?_) (le_upd _ hb')
      have hne : i ≠ b := ne_of_fresh hb' (own.le _ _ hi)
      exact ⟨by rw [upd_ne _ _ hne]; exact hi, by simp [blkV, hne.symm]⟩
    · have hr' := own.le _ _ hr
      refine .inl ?_
      unfold eApp0
      rw [hu]
      simp only [hs, hn, hz, hsrc, hr']
      refine ⟨⟨hzs, hs0, hl, hone, hc, hb⟩, fun h0 => absurd h0 hm, fun _ => ⟨⟨Nat.le_refl _, by rw [Nat.sub_self, List.length_append, hlen]; omega, by rw [Nat.sub_self, List.length_append, hlen]; omega⟩, fun b' o' cap' room' hb' hcap hfit' => ?_⟩⟩
      have hct : ((cs ++ tail).drop (o - o)).take (n * s) = cs := by rw [Nat.sub_self, List.drop_zero, ← hlen, List.take_left']; rfl
      rw [hct]
      have own2 := own.drop hr
      refine hK _ _ _ (own2.add hb' _) (.inr ⟨b', o', cap', [], room', rfl, by rw [upd_same]; simp, by rw [List.length_append, hlen, hl, Nat.add_mul], hcap, by simpa using hfit'⟩) (fun i o hi hv => ?_) (le_upd _ hb')
      have hib : i ≠ b := fun e' => hv (by subst e'; rfl)
      have hi2 : dele B b i = some o := by rw [dele_ne _ hib]; exact hi
      have hne : i ≠ b' := ne_of_fresh hb' (own2.le _ _ hi2)
      exact ⟨by rw [upd_ne _ _ hne]; exact hi2, by simp [blkV, hne.symm]⟩
/-- The first ones, with no room behind. -/
theorem LstR.cut {B : Heap} {b o cap s n k : Nat} {cs : List Value} (h : LstR B (.slice (some ⟨b, o, none⟩) n cap) s n cs) (hk : k ≤ n) : LstR B (.slice (some ⟨b, o, none⟩) k k) s k (cs.take (k * s)) := by
  rcases h with ⟨h, _⟩ | ⟨b', o', cap', tail, room, hv, hr, hlen, hc, hf⟩
  · cases h
  · simp only [Value.slice.injEq, Option.some.injEq, Addr.mk.injEq, true_and] at hv
    obtain ⟨⟨rfl, rfl, _⟩, rfl⟩ := hv
    have hks : k * s ≤ n * s := Nat.mul_le_mul_right _ hk
    refine .inr ⟨b, o, k, cs.drop (k * s) ++ tail, room, rfl, by rw [← List.append_assoc, List.take_append_drop]; exact hr, by rw [List.length_take]; omega, Nat.le_refl _, by omega⟩
/-- Its cells are others. -/
theorem LstR.put {B : Heap} {v : Value} {s n : Nat} {cs cs' : List Value} (h : LstR B v s n cs) (hl : cs'.length = cs.length) (h0 : 0 < cs.length) : ∃ b o c tail room, v = .slice (some ⟨b, o, none⟩) n c ∧ B b = some (.row true o (cs ++ tail) room) ∧ LstR (upd B b (.row true o (cs' ++ tail) room)) v s n cs' := by
  rcases h with ⟨_, _, rfl⟩ | ⟨b, o, cap, tail, room, rfl, hr, hlen, hc, hf⟩
  · cases h0
  · exact ⟨b, o, cap, tail, room, rfl, hr, .inr ⟨b, o, cap, tail, room, rfl, upd_same _ _ _, hl.trans hlen, hc, hf⟩⟩
/-- append where there is room, onto cells that are known. -/
theorem app_in {P : Program} {H : Heap} {K : Kont} {t t1 e : TypeId} {x z : Value} {s nbs n m q o cap room : Nat} {vs ys : List Value} (hu : und P t = .slice e) (hs : sz P e = some s) (hn : nb P e = some nbs) (hz : zeroV P e = some z)
    (hzs : (cellsV z).length = s) (hs0 : 0 < s) (hrow : H q = some (.row true o vs room)) (hsrc : srcOf P e t1 x H = some (n, ys)) (hl : ys.length = n * s) (hone : ys.all (·.oneCell') = true) (hc : m + n ≤ cap) (hb : (m + n) * (nbs + 1) ≤ 35184372088832) (hfit : (m + n) * s ≤ vs.length)
    (h : K (.slice (some ⟨q, o, none⟩) (m + n) cap) (upd H q (.row true o (splice vs (m * s) ys) room))) : eApp P t t1 (.slice (some ⟨q, o, none⟩) m cap) x H K := by
  refine .inr (.inl ?_)
  unfold eAppIn
  rw [hu]
  simp only [hs, hn, hz, hsrc, hrow]
  exact ⟨⟨hzs, hs0, hl, hone, hc, hb, Nat.le_refl _, by rw [Nat.sub_self]; omega⟩, by rw [Nat.sub_self, Nat.zero_add]; exact h⟩
/-- append to what has no room: a new row; what was there stays. -/
theorem app_full {P : Program} {H : Heap} {K : Kont} {t t1 e : TypeId} {x z : Value} {s nbs n m b o : Nat} {cs ys : List Value} (hu : und P t = .slice e) (hs : sz P e = some s) (hn : nb P e = some nbs) (hz : zeroV P e = some z)
    (hzs : (cellsV z).length = s) (hs0 : 0 < s) (h : SlA H (some ⟨b, o, none⟩) m s cs) (hsrc : srcOf P e t1 x H = some (n, ys)) (hl : ys.length = n * s) (hone : ys.all (·.oneCell') = true) (hn0 : 0 < n) (hb : (m + n) * (nbs + 1) ≤ 35184372088832)
    (hK : ∀ b' cap' room, H b' = none → m + n ≤ cap' → cap' * s = (m + n) * s + room → K (.slice (some ⟨b', 0, none⟩) (m + n) cap') (upd H b' (.row true 0 (cs ++ ys) room))) : eApp P t t1 (.slice (some ⟨b, o, none⟩) m m) x H K := by
  have hr : rdN H b o (m * s) = some cs := by
    by_cases h0 : m * s = 0
    · have : cs = [] := List.eq_nil_of_length_eq_zero (by rw [h.len, h0])
      unfold rdN; rw [if_pos h0, this]
    · have := h.getN 0 (m * s) (by omega) (by omega)
      rw [List.drop_zero, ← h.len, List.take_length, h.len] at this
      simpa [atN] using this
  exact .inr (.inr ⟨e, b, o, m, m, s, nbs, z, n, ys, cs, hu, rfl, hs, hn, hz, hsrc, hr, ⟨hzs, hs0, hl, hone, Nat.le_refl _, by omega, hb⟩, hK⟩)
/-- The same, of what may be nothing. -/
theorem app_whole {P : Program} {F H : Heap} {K : Kont} {t t1 e : TypeId} {x z : Value} {s nbs n m : Nat} {a : Option Addr} {cs ys : List Value} (hu : und P t = .slice e) (hs : sz P e = some s) (hn : nb P e = some nbs) (hz : zeroV P e = some z)
    (hzs : (cellsV z).length = s) (hs0 : 0 < s) (h : SlA F a m s cs) (hF : Heap.le F H) (hsrc : srcOf P e t1 x H = some (n, ys)) (hl : ys.length = n * s) (hone : ys.all (·.oneCell') = true) (hb : (m + n) * (nbs + 1) ≤ 35184372088832)
    (hK : ∀ a' c' H' B, Own H (fun _ => none) H' B → (SlA B a' (m + n) s (cs ++ ys) ∨ SlA F a' (m + n) s (cs ++ ys)) → m + n ≤ c' → K (.slice a' (m + n) c') H') : eApp P t t1 (.slice a m m) x H K := by
  by_cases hn0 : n = 0
  · subst hn0
    have hys : ys = [] := List.eq_nil_of_length_eq_zero (by simpa using hl)
    subst hys
    refine .inl ?_
    unfold eApp0
    rw [hu]
    simp only [hs, hn, hz, hsrc]
    exact ⟨⟨hzs, hs0, hl, hone, Nat.le_refl _, hb⟩, fun _ => hK a m H (fun _ => none) (Own.nil (Heap.le_refl H)) (.inr (by simpa using h)) (Nat.le_refl _), fun h0 => absurd rfl h0⟩
  · rcases Nat.eq_zero_or_pos m with hm | hm
    · subst hm
      have hcs : cs = [] := List.eq_nil_of_length_eq_zero (by rw [h.len]; simp)
      subst hcs
      cases a with
      | none =>
        refine app_nil hu hs hn hz hzs hs0 hsrc hl hone (by simpa using hb) (fun h0 => absurd h0 hn0) (fun b cap room hb' _ hown => ?_)
        have hlen : ([] ++ ys : List Value).length = (0 + n) * s := by simpa using hl
        have := hK (some ⟨b, 0, none⟩) cap _ _ (Own.new (Heap.le_refl H) hb') (.inl (SlA.row (upd_same (fun _ => none) b (.row true 0 ([] ++ ys) room)) (Nat.le_refl _) hlen (by rw [hlen]; omega) (by rw [Nat.sub_self, List.drop_zero, ← hlen, List.take_length]))) (by simpa using hown.capOk)
        simpa using this
      | some a =>
        obtain ⟨b, o, sp⟩ := a
        have hsp : sp = none := by have := h.plain; cases sp with
          | none => rfl
          | some y => simp [plainA] at this
        subst hsp
        refine app_full hu hs hn hz hzs hs0 (h.le hF) hsrc hl hone (by omega) hb fun b' cap' room hb' hc hr => ?_
        have hlen : ([] ++ ys : List Value).length = (0 + n) * s := by simpa using hl
        exact hK _ cap' _ _ (Own.new (Heap.le_refl H) hb') (.inl (SlA.row (upd_same _ _ _) (Nat.le_refl _) hlen (by rw [hlen]; omega) (by rw [Nat.sub_self, List.drop_zero, ← hlen, List.take_length]))) hc
    · obtain ⟨b, o, rfl⟩ := h.lit hm
      refine app_full hu hs hn hz hzs hs0 (h.le hF) hsrc hl hone (by omega) hb fun b' cap' room hb' hc hr => ?_
      have hlen : (cs ++ ys).length = (m + n) * s := by rw [List.length_append, h.len, hl, Nat.add_mul]
      exact hK _ cap' _ _ (Own.new (Heap.le_refl H) hb') (.inl (SlA.row (upd_same _ _ _) (Nat.le_refl _) hlen (by rw [hlen]; omega) (by rw [Nat.sub_self, List.drop_zero, ← hlen, List.take_length]))) hc
theorem clear_in {P : Program} {H : Heap} {K : Kont} {t e : TypeId} {z : Value} {s len q o off cap room : Nat} {vs : List Value} (hu : und P t = .slice e) (hs : sz P e = some s) (hz : zeroV P e = some z) (hzs : (cellsV z).length = s) (hone : (cellsV z).all (·.oneCell') = true)
    (hrow : H q = some (.row true off vs room)) (ho : off ≤ o) (hfit : o - off + len * s ≤ vs.length) (h0 : len ≠ 0) (h : K (.tuple #[]) (upd H q (.row true off (splice vs (o - off) (zeros (cellsV z) len)) room))) : eClear P t (.slice (some ⟨q, o, none⟩) len cap) H K := by
  unfold eClear
  rw [hu]
  simp only [hs, hz, hrow]
  exact ⟨⟨hzs, hone⟩, fun h1 => absurd h1 h0, fun _ => ⟨⟨ho, hfit⟩, h⟩⟩
theorem splice_mid {A B C D : List Value} {k : Nat} (hk : A.length = k) (hB : B.length = C.length) : splice (A ++ (B ++ D)) k C = A ++ (C ++ D) := by
  unfold splice
  subst hk
  rw [List.take_left', List.append_assoc]
  · congr 2
    rw [← hB, ← List.drop_drop, List.drop_left', List.drop_left'] <;> rfl
  · rfl
theorem rowsC_erase {α : Type} {f : α → List Value} {s : Nat} (hf : ∀ x, (f x).length = s) {ms : List α} {i : Nat} (hi : i < ms.length) (tail : List Value) : ∃ old, old.length = s ∧ splice (rowsC f ms ++ tail) (i * s) (rowsC f (ms.drop (i + 1))) = rowsC f (ms.eraseIdx i) ++ (old ++ tail) := by
  have h1 : rowsC f ms = rowsC f (ms.take i) ++ rowsC f (ms.drop i) := by rw [← rowsC_app, List.take_append_drop]
  have hl1 : (ms.drop i).length * s = (ms.length - (i + 1)) * s + s := by rw [← Nat.succ_mul, List.length_drop]; congr 1; omega
  refine ⟨(rowsC f (ms.drop i)).drop ((ms.length - (i + 1)) * s), ?_, ?_⟩
  · rw [List.length_drop, rowsC_len hf]; omega
  · have h2 : rowsC f (ms.drop i) = (rowsC f (ms.drop i)).take ((ms.length - (i + 1)) * s) ++ (rowsC f (ms.drop i)).drop ((ms.length - (i + 1)) * s) := (List.take_append_drop _ _).symm
    rw [h1]
    conv => lhs; rw [h2]
    rw [List.append_assoc, List.append_assoc, splice_mid (by rw [rowsC_len hf, List.length_take]; congr 1; omega) (by rw [List.length_take, rowsC_len hf, rowsC_len hf, List.length_drop, List.length_drop, Nat.min_eq_left]; exact Nat.mul_le_mul_right _ (by omega)), List.eraseIdx_eq_take_drop_succ, rowsC_app, List.append_assoc]
/-- One cell of an element is another one. -/
theorem rowsC_set1 {α : Type} {f : α → List Value} {s : Nat} (hf : ∀ x, (f x).length = s) {xs : List α} {k j : Nat} {x x' : α} {v : Value} (tail : List Value) (hk : xs[k]? = some x) (hj : j < s) (hx : f x' = (f x).set j v) : (rowsC f xs ++ tail).set (k * s + j) v = rowsC f (xs.set k x') ++ tail := by
  have hlt : k < xs.length := (List.getElem?_eq_some_iff.1 hk).1
  have hl := rowsC_len hf xs
  have hle : (k + 1) * s ≤ xs.length * s := Nat.mul_le_mul_right _ hlt
  rw [Nat.succ_mul] at hle
  have h1 := rowsC_part hf (j := j) (ys := [v]) hk (by rw [List.length_singleton]; omega) (by rw [hx, splice_one (by rw [hf]; exact hj)])
  rw [splice_one (by omega)] at h1
  rw [List.set_append_left _ _ (by omega), h1]
theorem Own.all {H H1 R1 : Heap} (a : Own H (fun _ => none) H1 R1) : Heap.le H H1 := fun b o h => (a.mv b o rfl h).2
theorem Own.off {H H1 R1 : Heap} (a : Own H (fun _ => none) H1 R1) : Off H R1 := fun b o h => (a.mv b o rfl h).1
theorem ewp_seq_cut {P : Program} {A B : Code} {K : Post} {s : St} {I : St → Prop} (h1 : ewp P A (Kseq I K) s) (h2 : ∀ s, I s → ewp P B K s) : ewp P (.seq A B) K s := by
  rw [w_seq]; exact w_cut I h1 h2
/-- Two objects side by side, beside what stays. -/
structure TwoO (F A B H : Heap) : Prop where
  fle : Heap.le F H
  ale : Heap.le A H
  ble : Heap.le B H
  fa : Off F A
  fb : Off F B
  ab : Off A B
section
variable {F A B H H' A' B' : Heap}
theorem TwoO.left (t : TwoO F A B H) (o : Own H A H' A') : TwoO F A' B H' :=
  ⟨(o.frame t.fle t.fa).1, o.le, (o.frame t.ble t.ab.symm).1, (o.frame t.fle t.fa).2, t.fb, (o.frame t.ble t.ab.symm).2.symm⟩
theorem TwoO.right (t : TwoO F A B H) (o : Own H B H' B') : TwoO F A B' H' :=
  ⟨(o.frame t.fle t.fb).1, (o.frame t.ale t.ab).1, o.le, t.fa, (o.frame t.fle t.fb).2, (o.frame t.ale t.ab).2⟩
theorem TwoO.grow (t : TwoO F A B H) (hl : Heap.le H H') : TwoO F A B H' := ⟨Heap.le_trans t.fle hl, Heap.le_trans t.ale hl, Heap.le_trans t.ble hl, t.fa, t.fb, t.ab⟩
theorem TwoO.keep (t : TwoO F A B H) {b : Nat} (hb : H b = none) (o : GObj) : TwoO (upd F b o) A B (upd H b o) :=
  ⟨le_upd2' o t.fle, Heap.le_trans t.ale (le_upd _ hb), Heap.le_trans t.ble (le_upd _ hb), fun i x e => by
    by_cases hi : i = b
    · subst hi; exact le_of_none t.ale hb
    · rw [upd_ne _ _ hi] at e; exact t.fa i x e, fun i x e => by
    by_cases hi : i = b
    · subst hi; exact le_of_none t.ble hb
    · rw [upd_ne _ _ hi] at e; exact t.fb i x e, t.ab⟩
theorem TwoO.new {F H0 H1 H2 A B : Heap} (h0 : Heap.le F H0) (a : Own H0 (fun _ => none) H1 A) (b : Own H1 (fun _ => none) H2 B) : TwoO F A B H2 :=
  ⟨Heap.le_trans h0 (Heap.le_trans a.all b.all), Heap.le_trans a.le b.all, b.le, fun i x e => a.off i x (h0 _ _ e), fun i x e => b.off i x (a.all _ _ (h0 _ _ e)), fun i x e => b.off i x (a.le _ _ e)⟩
end

end Go.Proofs.YtfpighmafofoeaaDoor.GL
