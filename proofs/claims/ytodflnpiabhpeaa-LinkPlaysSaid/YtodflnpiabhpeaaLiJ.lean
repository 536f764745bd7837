/- Layer 26: the net and the law's own list. -/
import Derived.Test.YtodflnpiabhpeaaLiI
import Derived.Test.YtodflnpiabhpeaaLiH
import Derived.Test.YtodflnpiabhpeaaGlZ
namespace Go.Proofs.Ytodflnpiabhpeaa.GL
open Go Go.RowKit
set_option maxRecDepth 10000
set_option pp.deepTerms.threshold 8
set_option pp.maxSteps 3000
set_option linter.unusedSimpArgs false
set_option linter.unusedVariables false

structure ActZ where
  w : Nat
  f : Int
  t : Int
  n : Int
  b : List UInt8
  a : Option Addr
  c : Nat
def ActZ.cells (x : ActZ) : List Value := [.int .u8 x.w, .int .i64 x.f, .int .i64 x.t, .int .i64 x.n, .slice x.a x.b.length x.c]
def ActZ.key (x : ActZ) : Int × Int × List UInt8 := (x.f, x.t, x.b)
theorem act5 (x : ActZ) : x.cells.length = 5 := rfl
theorem act1 (x : ActZ) : x.cells.all (·.oneCell') = true := rfl

theorem deleV_mono {D D' : Heap} (v : Value) (h : Heap.le D D') : Heap.le (deleV D v) (deleV D' v) := by
  unfold deleV
  split
  · rename_i a _ _
    intro i o e
    by_cases hi : i = a.block
    · subst hi; rw [dele_same] at e; cases e
    · rw [dele_ne _ hi] at e ⊢; exact h i o e
  · exact h
theorem Net.on {D D' H H' : Heap} {p : Nat} {ms : List MsgZ} (h : Net D H p ms) (hle : Heap.le D' H') (hp : D' p = none) (hp' : H' p = H p) (hd : ∀ m ∈ ms, SlA D' m.a m.b.length 1 (m.b.map u8V)) (hq : ∀ q o, q ≠ p → D q = none → H q = some o → D' q = none ∧ H' q = some o) : Net D' H' p ms := by
  refine ⟨hle, hp, fun m hm => ⟨hd m hm, (h.data m hm).2⟩, ?_⟩
  rcases h.list with ⟨e, h1⟩ | ⟨q, oq, cap, tail, room, hq0, hqp, h1, h2, h3, h4⟩
  · exact .inl ⟨e, by rw [hp', h1]⟩
  · obtain ⟨x, y⟩ := hq q _ hqp hq0 h2
    exact .inr ⟨q, oq, cap, tail, room, x, hqp, by rw [hp', h1], y, h3, h4⟩

structure Both (H0 D H : Heap) (p : Nat) (ms : List MsgZ) (wv : Value) (ws : List ActZ) : Prop where
  net : Net D H p ms
  w : TailA (deleV D wv) D wv 5 ws.length (rowsC ActZ.cells ws)
  old : Heap.le H0 (deleV D wv)
  data : ∀ m ∈ ms, SlA (deleV D wv) m.a m.b.length 1 (m.b.map u8V)
section
variable {H0 D H : Heap} {p : Nat} {ms : List MsgZ} {wv : Value} {ws : List ActZ}
theorem Both.new (h : Net D H p []) : Both D D H p [] (.slice none 0 0) [] := ⟨h, .inl ⟨rfl, rfl, rfl⟩, Heap.le_refl _, fun m hm => (by cases hm)⟩
theorem Both.le0 (h : Both H0 D H p ms wv ws) : Heap.le H0 D := Heap.le_trans h.old (deleV_le _ _)
theorem Both.le (h : Both H0 D H p ms wv ws) : Heap.le H0 H := Heap.le_trans h.le0 h.net.le
theorem Both.wsl (h : Both H0 D H p ms wv ws) : ∃ a c, wv = .slice a ws.length c ∧ SlA H a ws.length 5 (rowsC ActZ.cells ws) ∧ ws.length ≤ c := by
  obtain ⟨a, c, e, hs, hc⟩ := h.w.sl
  exact ⟨a, c, e, hs.le h.net.le, hc⟩
theorem Both.wat {a : Option Addr} {n c : Nat} (h : Both H0 D H p ms (.slice a n c) ws) : SlA H a ws.length 5 (rowsC ActZ.cells ws) ∧ ws.length ≤ c := by
  obtain ⟨a', c', e, hs, hc⟩ := h.wsl
  simp only [Value.slice.injEq] at e
  obtain ⟨rfl, _, rfl⟩ := e
  exact ⟨hs, hc⟩
theorem Both.grow (h : Both H0 D H p ms wv ws) {H' : Heap} (hl : Heap.le H H') : Both H0 D H' p ms wv ws := ⟨h.net.grow hl, h.w, h.old, h.data⟩
/-- More that stays as it is. -/
theorem Both.up (h : Both H0 D H p ms wv ws) {D' H' : Heap} {ms' : List MsgZ} (hD : Heap.le D D') (hn : Net D' H' p ms') (hd : ∀ m ∈ ms', m ∈ ms ∨ (SlA D' m.a m.b.length 1 (m.b.map u8V) ∧ ∀ q o, H q = some o → SlA (dele D' q) m.a m.b.length 1 (m.b.map u8V))) : Both H0 D' H' p ms' wv ws := by
  have hm := deleV_mono wv hD
  refine ⟨hn, ?_, Heap.le_trans h.old hm, fun m hm0 => ?_⟩
  · rcases h.w with h1 | ⟨q, o, cap, tail, room, e, hq, hr, h3, h4, h5⟩
    · exact .inl h1
    · subst e
      exact .inr ⟨q, o, cap, tail, room, rfl, dele_same _ _, hD _ _ hr, h3, h4, h5⟩
  · rcases hd m hm0 with h1 | ⟨h1, h2⟩
    · exact (h.data m h1).le hm
    · rcases h.w with ⟨e, _⟩ | ⟨q, o, cap, tail, room, e, hq, hr, _⟩
      · subst e; exact h1
      · subst e; exact h2 q _ (h.net.le _ _ hr)
theorem Both.keep (h : Both H0 D H p ms wv ws) {b : Nat} (hb : H b = none) (o : GObj) : Both H0 (upd D b o) (upd H b o) p ms wv ws := by
  obtain ⟨hn, hD⟩ := h.net.keep hb o
  exact h.up hD hn fun m hm => .inl hm
/-- Others of the messages, in the same memory. -/
theorem Both.took (h : Both H0 D H p ms wv ws) {H' : Heap} {ms' : List MsgZ} (hn : Net D H' p ms') (hs : ∀ m ∈ ms', m ∈ ms) : Both H0 D H' p ms' wv ws := h.up (Heap.le_refl _) hn fun m hm => .inl (hs m hm)
/-- The list is another one. -/
theorem Both.moved (h : Both H0 D H p ms wv ws) {H' : Heap} {v' : Value} {ws' : List ActZ} (hle : Heap.le (deleV H wv) H') (hw : TailA (deleV H wv) H' v' 5 ws'.length (rowsC ActZ.cells ws')) : ∃ D', Both H0 D' H' p ms v' ws' := by
  have hDH : Heap.le (deleV D wv) (deleV H wv) := deleV_mono wv h.net.le
  obtain ⟨a0, cap0, hp0, _, _⟩ := h.net.row
  have hkeep : ∀ q o, D q = none → H q = some o → (deleV H wv) q = some o := by
    intro q o h1 h2
    rcases h.w with ⟨e, _⟩ | ⟨r, o', cap, tail, room, e, _, hr, _⟩
    · subst e; exact h2
    · subst e
      show dele H r q = some o
      rw [dele_ne _ (fun e' => by subst e'; rw [h1] at hr; cases hr)]; exact h2
  have hnone : ∀ q, D q = none → (deleV D wv) q = none := fun q h1 => le_of_none (deleV_le D wv) h1
  have hpH := hkeep p _ h.net.here hp0
  rcases hw with ⟨e, h1, h2⟩ | ⟨r, o, cap, tail, room, e, hr, hrow, h3, h4, h5⟩
  · refine ⟨deleV D wv, h.net.on (Heap.le_trans hDH hle) (hnone p h.net.here) (by rw [hp0]; exact hle _ _ hpH) h.data fun q o hqp hq ho => ⟨hnone q hq, hle _ _ (hkeep q o hq ho)⟩, .inl ⟨e, h1, h2⟩, ?_, ?_⟩
    · subst e; exact h.old
    · subst e; exact h.data
  · have hDr : deleV D wv r = none := le_of_none hDH hr
    have hne : ∀ q o', (deleV H wv) q = some o' → q ≠ r := fun q o' hq e' => by subst e'; rw [hr] at hq; cases hq
    subst e
    have hdd : dele (upd (deleV D wv) r (.row true o (rowsC ActZ.cells ws' ++ tail) room)) r = deleV D wv := dele_fresh hDr
    refine ⟨upd (deleV D wv) r (.row true o (rowsC ActZ.cells ws' ++ tail) room), h.net.on ?_ ?_ (by rw [hp0]; exact hle _ _ hpH) (fun m hm => (h.data m hm).le (le_upd _ hDr)) ?_, .inr ⟨r, o, cap, tail, room, rfl, dele_same _ _, upd_same _ _ _, h3, h4, h5⟩, ?_, ?_⟩
    · intro i x hx
      by_cases hi : i = r
      · subst hi; rw [upd_same] at hx; rw [hrow]; exact hx
      · rw [upd_ne _ _ hi] at hx; exact hle _ _ (hDH _ _ hx)
    · rw [upd_ne _ _ (hne p _ hpH)]; exact hnone p h.net.here
    · intro q x hqp hq hx
      have hqx := hkeep q x hq hx
      exact ⟨by rw [upd_ne _ _ (hne q _ hqx)]; exact hnone q hq, hle _ _ hqx⟩
    · show Heap.le H0 (dele _ r)
      rw [hdd]; exact h.old
    · show ∀ m ∈ ms, SlA (dele _ r) m.a m.b.length 1 (m.b.map u8V)
      rw [hdd]; exact h.data
/-- One is taken out of the list. -/
theorem Both.cutOut {bw ow cw k : Nat} (h : Both H0 D H p ms (.slice (some ⟨bw, ow, none⟩) ws.length cw) ws) (hk : k < ws.length) (h80 : ws.length ≤ 1000) {K : Kont} (hK : ∀ v' H', (∃ D', Both H0 D' H' p ms v' (ws.eraseIdx k)) → K v' H') :
    eApp Try.prog 34 34 (.slice (some ⟨bw, ow, none⟩) k k) (.slice (if cw = k + 1 then some ⟨bw, ow, none⟩ else some ⟨bw, ow + (k + 1) * 5, none⟩) (ws.length - (k + 1)) (cw - (k + 1))) H K := by
  obtain ⟨hs, hc⟩ := h.wat
  have hsrc := src_tail (P := Try.prog) (e := 36) (t1 := 34) (e1 := 36) (z := .agg #[.int .u8 0, .int .i64 0, .int .i64 0, .int .i64 0, .slice none 0 0]) (l := k + 1) (by simp [facts]) (by simp [facts]) (by simp [facts]) hs (by omega) hc
  rw [rowsC_drop act5] at hsrc
  have hm : TailA (deleV H (.slice (some ⟨bw, ow, none⟩) ws.length cw)) H (.slice (some ⟨bw, ow, none⟩) ws.length cw) 5 ws.length (rowsC ActZ.cells ws) := (h.w.grow h.net.le).max
  have hcut := hm.cut (k := k) (by omega)
  rw [rowsC_take act5] at hcut
  refine TailA.app (e := 36) (s := 5) (nbs := 56) (z := .agg #[.int .u8 0, .int .i64 0, .int .i64 0, .int .i64 0, .slice none 0 0]) (by simp [facts]) (by simp [facts]) (by simp [facts]) (by simp [facts]) rfl (by decide) hcut (deleV_le _ _)
    (by simpa using hsrc) (by rw [rowsC_len act5, List.length_drop]) (rowsC_one act1 _) (by omega) ?_
  intro v' H' hle _ hta
  refine hK v' H' (h.moved hle ?_)
  rw [List.eraseIdx_eq_take_drop_succ, rowsC_app]
  have hl : (ws.take k ++ ws.drop (k + 1)).length = k + (ws.length - (k + 1)) := by rw [List.length_append, List.length_take, List.length_drop]; omega
  rw [hl]; exact hta
/-- One is added. -/
theorem Both.addOne (h : Both H0 D H p ms wv ws) (h80 : ws.length ≤ 1000) (x : ActZ) {b : Nat} (hb : H b = none) {K : Kont} (hK : ∀ v' H', (∃ D', Both H0 D' H' p ms v' (ws ++ [x])) → K v' H') :
    eApp Try.prog 34 34 wv (.slice (some ⟨b, 0, none⟩) 1 1) (upd H b (.row true 0 x.cells 0)) K := by
  have h2 := h.grow (le_upd (.row true 0 x.cells 0) hb)
  have hm := (h2.w.grow h2.net.le).max
  refine TailA.app (e := 36) (s := 5) (nbs := 56) (z := .agg #[.int .u8 0, .int .i64 0, .int .i64 0, .int .i64 0, .slice none 0 0]) (m := 1) (ys := x.cells) (by simp [facts]) (by simp [facts]) (by simp [facts]) (by simp [facts]) rfl (by decide) hm (deleV_le _ _)
    (srcOne (s := 5) (b := b) (e1 := 36) (z := .agg #[.int .u8 0, .int .i64 0, .int .i64 0, .int .i64 0, .slice none 0 0]) (by simp [facts]) (by simp [facts]) (by simp [facts]) rfl) rfl (act1 x) (by omega) ?_
  intro v' H' hle _ hta
  refine hK v' H' (h2.moved hle ?_)
  rw [rowsC_app, rowsC_single, List.length_append]
  exact hta
end
end Go.Proofs.Ytodflnpiabhpeaa.GL
