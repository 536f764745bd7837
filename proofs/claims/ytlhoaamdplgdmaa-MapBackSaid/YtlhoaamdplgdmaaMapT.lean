/- Layer 7: the contract of the reference's Put; the walk of MapBack. -/
import Derived.Test.YtlhoaamdplgdmaaMapS
namespace Go.Proofs.Ytlhoaamdplgdmaa.GL
open Go Go.RowKit
set_option maxRecDepth 10000
set_option pp.deepTerms.threshold 8
set_option pp.maxSteps 3000
set_option linter.unusedSimpArgs false
set_option linter.unusedVariables false

theorem or_shr128 (c : UInt8) (j : Int) (h0 : 0 ≤ j) (h1 : j ≤ 7) : orK .u8 (c.toNat : Int) (shrK .u8 128 j) = ((c ||| UInt8.ofNat (2 ^ (7 - j).toNat)).toNat : Int) := by
  have e : shrK .u8 128 j = shlK .u8 1 (7 - j) := by
    have hj : j = 0 ∨ j = 1 ∨ j = 2 ∨ j = 3 ∨ j = 4 ∨ j = 5 ∨ j = 6 ∨ j = 7 := by omega
    rcases hj with rfl | rfl | rfl | rfl | rfl | rfl | rfl | rfl <;> decide +kernel
  rw [e]
  exact or_shl c (7 - j) (by omega) (by omega)

/-- How the reference's sixteen bytes stand to Put's. -/
def RelB (bs rb : List UInt8) (last : Int) : Prop :=
  rb.length = 16 ∧ ((bs.length = 8 ∧ last ≤ 64 ∧ rb = bs ++ List.replicate 8 0) ∨ (bs.length = 16 ∧ 64 < last ∧ bs = rb.set 0 (rb.getD 0 0 ||| 128)))
theorem rel_step {bs rb : List UInt8} {last x : Int} (h : RelB bs rb last) (h0 : 1 ≤ last) (h1 : last < x) (h2 : x ≤ 128) : RelB (setBit (grow8 bs x) x) (setBit rb x) x := by
  obtain ⟨hr, h⟩ := h
  refine ⟨by rw [setBit_len, hr], ?_⟩
  rcases h with ⟨hb, hl, hrb⟩ | ⟨hb, hl, hbs⟩
  · by_cases hx : 64 < x
    · right
      have e : grow8 bs x = rb.set 0 (rb.getD 0 0 ||| 128) := by
        rw [hrb]
        have : (bs ++ List.replicate 8 (0 : UInt8)).getD 0 0 = bs.getD 0 0 := by
          cases bs with
          | nil => simp at hb
          | cons q r => rfl
        rw [this]
        simp [grow8, hx, hb]
      rw [e]
      refine ⟨by rw [setBit_len]; simp [hr], hx, ?_⟩
      have hj : ((x - 1) / 8).toNat ≠ 0 := by omega
      have g1 : (rb.set 0 (rb.getD 0 0 ||| 128)).getD ((x - 1) / 8).toNat 0 = rb.getD ((x - 1) / 8).toNat 0 := by
        simp only [List.getD_eq_getElem?_getD, List.getElem?_set_ne (Ne.symm hj)]
      have g2 : (setBit rb x).getD 0 0 = rb.getD 0 0 := by
        unfold setBit
        simp only [List.getD_eq_getElem?_getD, List.getElem?_set_ne hj]
      rw [g2]
      unfold setBit
      rw [g1, List.set_comm _ _ hj]
    · left
      have e : grow8 bs x = bs := by simp [grow8, hx]
      rw [e]
      have hj : ((x - 1) / 8).toNat < bs.length := by omega
      refine ⟨by rw [setBit_len, hb], by omega, ?_⟩
      rw [hrb]
      unfold setBit
      rw [List.set_append_left _ _ hj]
      congr 2
      simp only [List.getD_eq_getElem?_getD, List.getElem?_append_left hj]
  · right
    have e : grow8 bs x = bs := by simp [grow8, hb]
    rw [e]
    refine ⟨by rw [setBit_len, hb], by omega, ?_⟩
    have hj : ((x - 1) / 8).toNat ≠ 0 := by omega
    have g1 : bs.getD ((x - 1) / 8).toNat 0 = rb.getD ((x - 1) / 8).toNat 0 := by
      rw [hbs]; simp only [List.getD_eq_getElem?_getD, List.getElem?_set_ne (Ne.symm hj)]
    have g2 : (setBit rb x).getD 0 0 = rb.getD 0 0 := by
      unfold setBit
      simp only [List.getD_eq_getElem?_getD, List.getElem?_set_ne hj]
    rw [g2]
    unfold setBit
    rw [g1, hbs, List.set_comm _ _ hj]

theorem set_map8 (l : List UInt8) (j : Nat) (c : UInt8) : (l.map u8V).set j (.int .u8 (c.toNat : Int)) = (l.set j c).map u8V := by rw [List.map_set]; rfl
def PutRPost (zs : List Int) (H : Heap) (v : Value) (H' : Heap) : Prop :=
  Heap.le H H' ∧ match putB zs with
  | none => v = .tuple #[.slice none 0 0, .bool false]
  | some bs => ∃ a c, v = .tuple #[.slice a bs.length c, .bool true] ∧ SlA H' a bs.length 1 (bs.map u8V)

theorem mapPutR_c (a : Option Addr) (n c : Nat) (zs : List Int) (H : Heap) (h : SlA H a n 1 (zs.map i64V)) (hn : n ≤ 140737488351232) :
    ECalls Try.prog 8 #[.slice a n c] H (PutRPost zs H) := by
  refine ecalls_of_ewp (args := [_]) Try.func8 rfl rfl rfl (by simp [Try.ntmps8]) (by kernel_rfl) ?_
  have hl' : zs.length = n := by simpa using h.len
  simp (disch := first | omega | assumption | decide | (simp <;> omega) | fail) [facts, ]
  refine fresh_intro fun b hb => ?_
  simp (disch := first | omega | assumption | decide | (simp <;> omega) | fail) [facts, ]
  refine w_loop (fun s => ∃ k : Nat, k ≤ n ∧ s.env 0 = .slice a n c ∧ s.env 4 = .slice (some ⟨b, 0, none⟩) 16 16 ∧ s.env 6 = .int .i64 k ∧ ∃ last : Int, s.env 5 = .int .i64 last ∧ 1 ≤ last ∧ last ≤ 128 ∧ ∃ bs rb, RelB bs rb last ∧ putGo (zs.drop k) last bs = putB zs ∧ s.heap = upd H b (.row true 0 (rb.map u8V) 0)) (fun s => n - (intOf (s.env 6)).toNat) ?_ ?_
  · exact ⟨0, Nat.zero_le _, by simp, by simp, by simp, 1, by simp, by decide, by decide, List.replicate 8 0, List.replicate 16 0, ⟨rfl, .inl ⟨rfl, by decide, rfl⟩⟩, rfl, rfl⟩
  · rintro ⟨e, H1⟩ ⟨k, hk, e0, e4, e6, last, e5, hl1, hl2, bs, rb, hrel, hgo, hH⟩
    simp only at e0 e4 e5 e6 hH
    subst hH
    have hrl : rb.length = 16 := hrel.1
    by_cases hlt : (k : Int) < n
    · obtain ⟨x, hx⟩ : ∃ x, zs[k]? = some x := ⟨_, List.getElem?_eq_getElem (by omega)⟩
      have hdrop : zs.drop k = x :: zs.drop (k + 1) := by
        rw [List.drop_eq_getElem_cons (by omega)]
        congr 1
        rw [List.getElem?_eq_getElem (by omega)] at hx
        exact Option.some.inj hx
      rw [hdrop] at hgo
      have gx := (h.le (le_upd (.row true 0 (rb.map u8V) 0) hb)).at hx
      rw [i64V_def] at gx
      have px := h.plain
      have tx := h.there (by omega)
      by_cases hx1 : x ≤ last
      · simp (disch := first | omega | assumption | decide | (simp <;> omega) | fail) [facts, e0, e4, e5, e6, hlt, gx, hx1]
        have : putB zs = none := by rw [← hgo]; simp [putGo, hx1]
        exact ⟨_, Heap.le_refl _, by simp only [PutRPost, this]; exact ⟨le_upd _ hb, trivial⟩⟩
      · by_cases hx2 : 128 < x
        · simp (disch := first | omega | assumption | decide | (simp <;> omega) | fail) [facts, e0, e4, e5, e6, hlt, gx, hx1, hx2]
          have : putB zs = none := by rw [← hgo]; simp [putGo, hx2]
          exact ⟨_, Heap.le_refl _, by simp only [PutRPost, this]; exact ⟨le_upd _ hb, trivial⟩⟩
        · have hgo' : putGo (zs.drop (k + 1)) x (setBit (grow8 bs x) x) = putB zs := by
            rw [← hgo]; simp [putGo, hx1, hx2]
          have hstep := rel_step hrel hl1 (by omega) (show x ≤ 128 by omega)
          simp (disch := first | omega | assumption | decide | (simp <;> omega) | fail) [facts, e0, e4, e5, e6, hlt, gx, hx1, hx2]
          refine w_plan (P := Try.prog) (by simp [facts]) (opsP [0,1,2,3,4,5,6,7,8,9,10,11,12] .done) ?_ ?_
          · decide +kernel
          have hj : ((x - 1) / 8).toNat < rb.length := by omega
          have hor := or_shr128 rb[((x - 1) / 8).toNat] ((x - 1) % 8) (by omega) (by omega)
          obtain ⟨w, hw⟩ : ∃ w : UInt8, w = rb[((x - 1) / 8).toNat] ||| UInt8.ofNat (2 ^ (7 - (x - 1) % 8).toNat) := ⟨_, rfl⟩
          rw [← hw] at hor
          simp (disch := first | omega | assumption | decide | (simp <;> omega) | fail) [facts, e0, e4, e5, e6, hlt, gx, hx1, hx2, hor]
          refine ⟨_, Heap.le_refl _, ⟨k + 1, by omega, by simp [e0], by simp [e4], by simp, x, by simp, by omega, by omega, _, setBit rb x, hstep, hgo', ?_⟩, by simp [intOf, e6]; omega⟩
          simp only [upd_upd, set_map8]
          rw [setBit_at rb x hj, hw]
    · have hkn : k = n := by omega
      have hpb : putB zs = some bs := by rw [← hgo, hkn, ← hl', List.drop_length]; rfl
      rcases hrel.2 with ⟨hb8, h64, hrb⟩ | ⟨hb16, h64, hbs⟩
      · simp (disch := first | omega | assumption | decide | (simp <;> omega) | fail) [facts, e0, e4, e5, e6, hlt, show ¬ 64 < last by omega]
        refine ⟨_, Heap.le_refl _, le_upd _ hb, ?_⟩
        simp only [hpb]
        refine ⟨_, _, by rw [hb8], SlA.row (upd_same _ _ _) (Nat.le_refl _) (by simp) (by simp [hb8, hrl]) ?_⟩
        rw [Nat.sub_self, List.drop_zero, Nat.mul_one, hrb, List.map_append, List.take_left' (by simp)]
      · have hr0 : 0 < rb.length := by omega
        have hor := or_128 rb[0]
        obtain ⟨w, hw⟩ : ∃ w : UInt8, w = rb[0] ||| 128 := ⟨_, rfl⟩
        rw [← hw] at hor
        simp (disch := first | omega | assumption | decide | (simp <;> omega) | fail) [facts, e0, e4, e5, e6, hlt, h64, hor]
        simp only [upd_upd, set_map8]
        have hbs2 : bs = rb.set 0 (rb[0] ||| 128) := by rw [hbs, List.getD_eq_getElem?_getD, List.getElem?_eq_getElem hr0]; rfl
        rw [hw, ← hbs2]
        refine ⟨_, Heap.le_refl _, le_upd _ hb, ?_⟩
        simp only [hpb]
        refine ⟨_, _, by rw [hb16], SlA.row (upd_same _ _ _) (Nat.le_refl _) (by simp) (by simp) ?_⟩
        rw [Nat.sub_self, List.drop_zero, Nat.mul_one, List.take_of_length_le (by simp)]

def SlRowI (H : Heap) (row : List Value) : Prop := ∀ (k : Nat) (v : Value), row[k]? = some v → ∃ a n c zs, v = .slice a n c ∧ SlA H a n 1 (List.map i64V zs) ∧ n ≤ 200
theorem SlRowI.nil (H : Heap) : SlRowI H [] := fun k v h => by cases h
theorem SlRowI.cons {H : Heap} {a : Option Addr} {n c : Nat} {zs : List Int} {row : List Value} (h : SlA H a n 1 (zs.map i64V)) (hn : n ≤ 200) (hr : SlRowI H row) : SlRowI H (.slice a n c :: row) := fun k v hk => by
  cases k with
  | zero => cases hk; exact ⟨_, _, _, _, rfl, h, hn⟩
  | succ k => exact hr k v (by simpa using hk)
theorem SlRowI.le {H H' : Heap} {row : List Value} (h : SlRowI H row) (hl : Heap.le H H') : SlRowI H' row := fun k v hk => by
  obtain ⟨a, n, c, zs, h1, h2, h3⟩ := h k v hk
  exact ⟨a, n, c, zs, h1, h2.le hl, h3⟩

set_option maxHeartbeats 4000000 in
theorem mapBack_c (a : Option Addr) (n c : Nat) (zs : List Int) (ms : List Int) (a2 : Option Addr) (n2 c2 : Nat) (more : List UInt8) (H : Heap) (h : SlA H a n 1 (zs.map i64V)) (lm : ms.length = 2) (h2 : SlA H a2 n2 1 (more.map u8V)) :
    ECalls Try.prog 3 #[.slice a n c, .agg (ms.map (Value.int .u64)).toArray, .slice a2 n2 c2] H fun r _ => r = .bool true := by
  refine ecalls_of_ewp (args := [_, _, _]) Try.func3 rfl rfl rfl (by simp [Try.ntmps3]) (by kernel_rfl) ?_
  have hl : zs.length = n := by simpa using h.len
  have hl2 : more.length = n2 := by simpa using h2.len
  simp (disch := first | omega | assumption | decide | (simp <;> omega) | fail) [facts, ]
  refine fresh_intro fun b4 hb4 => ?_
  have hb := upd_same H b4 (.row true 0 (ms.map (Value.int .u64)) 0)
  have hle0 := le_upd (.row true 0 (ms.map (Value.int .u64)) 0) hb4
  generalize upd H b4 (.row true 0 (ms.map (Value.int .u64)) 0) = H0 at *
  simp (disch := first | omega | assumption | decide | (simp <;> omega) | fail) [facts, ]
  refine (known_c H0).mono ?_
  rintro r H1 ⟨rfl, hle1⟩
  replace hb := hle1 _ _ hb
  have hs1 := (h.le hle0).le hle1
  have hs2 := (h2.le hle0).le hle1
  by_cases t1 : (130 : Int) < n
  · simp (disch := first | omega | assumption | decide | (simp <;> omega) | fail) [facts, t1]
    exact ⟨_, Heap.le_refl _⟩
  by_cases t2 : (60 : Int) < n2
  · simp (disch := first | omega | assumption | decide | (simp <;> omega) | fail) [facts, t1, t2]
    exact ⟨_, Heap.le_refl _⟩
  simp (disch := first | omega | assumption | decide | (simp <;> omega) | fail) [facts, t1, t2]
  refine w_cutB (fun s => s.env 0 = .slice a n c ∧ s.env 2 = .slice a2 n2 c2 ∧ Heap.le H1 s.heap ∧ ∃ l : List Int, l.length ≤ 127 ∧ ∃ a7 c7, s.env 7 = .slice a7 l.length c7 ∧ SlA s.heap a7 l.length 1 (l.map i64V)) ?_ ?_
  · refine w_loop (fun s => ∃ k : Nat, k ≤ 127 ∧ s.env 0 = .slice a n c ∧ s.env 2 = .slice a2 n2 c2 ∧ s.env 4 = .pointer (some ⟨b4, 0, none⟩) ∧ s.env 8 = .int .i64 (k + 2) ∧ Heap.le H1 s.heap ∧ ∃ l : List Int, l.length ≤ k ∧ Out H1 s.heap (s.env 7) 1 l.length (l.map i64V)) (fun s => 129 - (intOf (s.env 8)).toNat) ?_ ?_
    · exact ⟨0, by decide, by simp, by simp, by simp, by simp, by simp [Heap.le_refl], [], by simp, by simp [Out.nil]⟩
    · rintro ⟨e, H2⟩ ⟨k, hk, e0, e2, e4, e8, hle, l, hlk, hout⟩
      simp only at e0 e2 e4 e8 hle hout
      generalize e7 : e 7 = sv at hout
      by_cases hlt : (k : Int) + 2 ≤ 128
      · obtain ⟨q, hq, hq2⟩ : ∃ q : Nat, ((k : Int) + 1) / 64 = q ∧ q < 2 := ⟨(k + 1) / 64, by omega, by omega⟩
        obtain ⟨r, hr, hr2⟩ : ∃ r : Nat, ((k : Int) + 1) % 64 = r ∧ r < 64 := ⟨(k + 1) % 64, by omega, by omega⟩
        obtain ⟨w, hw⟩ : ∃ w, ms[q]? = some w := ⟨_, List.getElem?_eq_getElem (by omega)⟩
        obtain ⟨hqm, hw'⟩ := List.getElem?_eq_some_iff.1 hw
        have hb2 := hle _ _ hb
        have hk1 : (k : Int) + 2 - 1 = k + 1 := by omega
        by_cases hT : andK .u64 (shrK .u64 w (r : Int)) 1 = 1
        · simp (disch := first | omega | assumption | decide | (simp <;> omega) | fail) [facts, e0, e2, e4, e7, e8, hlt, hk1, hq, hr, hb2, hw, hw', lm, hT]
          refine fresh_intro fun b hb9 => ?_
          simp (disch := first | omega | assumption | decide | (simp <;> omega) | fail) [facts, e0, e2, e4, e7, e8]
          refine Out.app (e := 3) (s := 1) (nbs := 8) (z := .int .i64 0) (H := H1) (by simp [facts]) (by simp [facts]) (by simp [facts]) (by simp [facts]) rfl (by decide) (Heap.le_trans hle (le_upd _ hb9)) (hout.up (le_upd _ hb9))
            (srcOne (e1 := 3) (z := .int .i64 0) (by simp [facts]) (by simp [facts]) (by simp [facts]) rfl) (by simp) (by simp [Value.oneCell']) (by omega) ?_
          intro sv2 H3 hle3 _ hout3
          simp (disch := first | omega | assumption | decide | (simp <;> omega) | fail) [facts, e0, e2, e4, e7, e8]
          refine ⟨_, Heap.le_refl _, ⟨k + 1, by omega, by simp [e0], by simp [e2], by simp [e4], by simp; omega, by simpa using hle3, l ++ [(k : Int) + 2], by simp; omega, ?_⟩, by simp [intOf, e8]; omega⟩
          simpa using hout3
        · simp (disch := first | omega | assumption | decide | (simp <;> omega) | fail) [facts, e0, e2, e4, e7, e8, hlt, hk1, hq, hr, hb2, hw, hw', lm, hT]
          exact ⟨_, Heap.le_refl _, ⟨k + 1, by omega, by simp [e0], by simp [e2], by simp [e4], by simp; omega, by simpa using hle, l, by omega, by simpa [e7] using hout⟩, by simp [intOf, e8]; omega⟩
      · obtain ⟨a7, c7, rfl, hsl⟩ := hout.sl
        simp (disch := first | omega | assumption | decide | (simp <;> omega) | fail) [facts, e0, e2, e4, e7, e8, hlt]
        exact ⟨hle, l, by omega, _, ⟨rfl, rfl⟩, hsl⟩
  · rintro ⟨e, H2⟩ ⟨e0, e2, hle, l, hll, a7, c7, e7, hs7⟩
    simp only at e0 e2 e7 hle hs7
    have hsa := hs1.le hle
    have hsm := hs2.le hle
    simp (disch := first | omega | assumption | decide | (simp <;> omega) | fail) [facts, e0, e2, e7]
    refine fresh_intro fun b49 hb49 => ?_
    have hle3 := le_upd (.row true 0 [Value.slice a n c, Value.slice a7 l.length c7] 0) hb49
    have hsr : SlRowI (upd H2 b49 (.row true 0 [Value.slice a n c, Value.slice a7 l.length c7] 0)) [Value.slice a n c, Value.slice a7 l.length c7] := .cons (hsa.le hle3) (by omega) (.cons (hs7.le hle3) (by omega) (.nil _))
    obtain ⟨row, hrow⟩ : ∃ row, row = [Value.slice a n c, Value.slice a7 l.length c7] := ⟨_, rfl⟩
    rw [← hrow] at hsr hle3 ⊢
    have hrl : row.length = 2 := by rw [hrow]; rfl
    have hbr := upd_same H2 b49 (.row true 0 row 0)
    replace hsm := hsm.le hle3
    generalize upd H2 b49 (.row true 0 row 0) = H3 at *
    clear hrow
    simp (disch := first | omega | assumption | decide | (simp <;> omega) | fail) [facts, e0, e2, e7]
    refine w_loop (fun s => ∃ k : Nat, k ≤ 2 ∧ s.env 2 = .slice a2 n2 c2 ∧ s.env 49 = .slice (some ⟨b49, 0, none⟩) 2 2 ∧ s.env 50 = .int .i64 2 ∧ s.env 51 = .int .i64 k ∧ Heap.le H3 s.heap) (fun s => 2 - (intOf (s.env 51)).toNat) ?_ ?_
    · exact ⟨0, by decide, by simp [e2], by simp, by simp, by simp, by simp [Heap.le_refl]⟩
    · rintro ⟨e, H4⟩ ⟨k, hk, e2, e49, e50, e51, hle4⟩
      simp only at e2 e49 e50 e51 hle4
      by_cases hlt : (k : Int) < 2
      · have hk2 : k < row.length := by omega
        obtain ⟨ax, nx, cx, zx, hrx, hsx, hnx⟩ := (hsr.le hle4) k _ (List.getElem?_eq_getElem hk2)
        have hrx2 : row[k]? = some (.slice ax nx cx) := by rw [List.getElem?_eq_getElem hk2, hrx]
        have hbr4 := hle4 _ _ hbr
        have hsm4 := hsm.le hle4
        cases hp : putB zx with
        | none =>
          simp (disch := first | omega | assumption | decide | (simp <;> omega) | fail) [facts, e2, e49, e50, e51, hlt, hbr4, hrx, hrx2, hrl]
          refine (mapPut_none ax nx cx zx _ hsx (by omega) hp).mono ?_
          rintro r H5 ⟨rfl, rfl⟩
          simp (disch := first | omega | assumption | decide | (simp <;> omega) | fail) [facts, e2, e49, e50, e51]
          refine (mapPutR_c ax nx cx zx _ hsx (by omega)).mono ?_
          rintro r H6 ⟨hle6, hpost⟩
          simp only [hp] at hpost
          subst hpost
          have hnil : SlA H6 none 0 1 (([] : List UInt8).map u8V) := SlA.nil _ _
          simp (disch := first | omega | assumption | decide | (simp <;> omega) | fail) [facts, e2, e49, e50, e51, conv_bytes (P := Try.prog) (el := 5) (by simp [facts]) hnil]
          exact ⟨_, Heap.le_refl _, ⟨k + 1, by omega, by simp [e2], by simp [e49], by simp [e50], by simp, by simpa using Heap.le_trans hle4 hle6⟩, by simp [intOf, e51]; omega⟩
        | some bs =>
          obtain ⟨hrd, hsz, hb16⟩ := read_put zx bs more hp
          simp (disch := first | omega | assumption | decide | (simp <;> omega) | fail) [facts, e2, e49, e50, e51, hlt, hbr4, hrx, hrx2, hrl]
          refine (mapPut_some ax nx cx zx bs _ hsx (by omega) hp).mono ?_
          rintro r H5 ⟨a5, c5, rfl, hs5, hc5, hle5⟩
          simp (disch := first | omega | assumption | decide | (simp <;> omega) | fail) [facts, e2, e49, e50, e51]
          refine (mapPutR_c ax nx cx zx _ (hsx.le hle5) (by omega)).mono ?_
          rintro r H6 ⟨hle6, hpost⟩
          simp only [hp] at hpost
          obtain ⟨a6, c6, rfl, hs6⟩ := hpost
          replace hs5 := hs5.le hle6
          simp (disch := first | omega | assumption | decide | (simp <;> omega) | fail) [facts, e2, e49, e50, e51, conv_bytes (P := Try.prog) (el := 5) (by simp [facts]) hs5, conv_bytes (P := Try.prog) (el := 5) (by simp [facts]) hs6]
          refine Out.app (e := 5) (s := 1) (nbs := 1) (z := .int .u8 0) (H := H6) (by simp [facts]) (by simp [facts]) (by simp [facts]) (by simp [facts]) rfl (by decide) (Heap.le_refl _) (Out.nil _ _ _)
            (src_sl (e1 := 5) (z := .int .u8 0) (by simp [facts]) (by simp [facts]) (by simp [facts]) hs5) (by simp) (all_u8 _) (by omega) ?_
          intro sv7 H7 hle7 _ hout7
          rw [List.nil_append, Nat.zero_add] at hout7
          have hsm7 := hsm4.le (Heap.le_trans hle5 (Heap.le_trans hle6 hle7))
          simp (disch := first | omega | assumption | decide | (simp <;> omega) | fail) [facts, e2, e49, e50, e51]
          refine Out.app (e := 5) (s := 1) (nbs := 1) (z := .int .u8 0) (H := H6) (by simp [facts]) (by simp [facts]) (by simp [facts]) (by simp [facts]) rfl (by decide) hle7 hout7
            (src_sl (e1 := 5) (z := .int .u8 0) (by simp [facts]) (by simp [facts]) (by simp [facts]) hsm7) (by simp [hl2]) (all_u8 _) (by omega) ?_
          intro sv8 H8 hle8 _ hout8
          rw [← List.map_append] at hout8
          obtain ⟨a8, c8, rfl, hs8, hc8⟩ := hout8.sl2
          simp (disch := first | omega | assumption | decide | (simp <;> omega) | fail) [facts, e2, e49, e50, e51]
          refine (read_some a8 _ c8 (bs ++ more) zx _ hs8 (by omega) hc8 hrd).mono ?_
          rintro r H9 ⟨a9, c9, rfl, hs9, hle9⟩
          rw [hsz]
          have hzl : zx.length = nx := by simpa using hsx.len
          simp (disch := first | omega | assumption | decide | (simp <;> omega) | fail) [facts, e2, e49, e50, e51]
          refine (ints_c a9 ax _ nx c9 cx zx zx _ hs9 (hsx.le (Heap.le_trans hle5 (Heap.le_trans hle6 (Heap.le_trans hle8 hle9)))) (by omega) (by omega)).mono ?_
          rintro r H10 ⟨rfl, rfl⟩
          simp (disch := first | omega | assumption | decide | (simp <;> omega) | fail) [facts, e2, e49, e50, e51]
          exact ⟨_, Heap.le_refl _, ⟨k + 1, by omega, by simp [e2], by simp [e49], by simp [e50], by simp, by simpa using Heap.le_trans hle4 (Heap.le_trans hle5 (Heap.le_trans hle6 (Heap.le_trans hle8 hle9)))⟩, by simp [intOf, e51]; omega⟩
      · simp (disch := first | omega | assumption | decide | (simp <;> omega) | fail) [facts, e2, e49, e50, e51, hlt]
        exact ⟨_, Heap.le_refl _⟩
end Go.Proofs.Ytlhoaamdplgdmaa.GL
