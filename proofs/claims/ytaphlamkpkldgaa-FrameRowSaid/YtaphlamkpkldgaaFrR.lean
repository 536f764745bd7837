/- Layer 4: FrameTurned. -/
import Derived.Test.YtaphlamkpkldgaaFrQ
namespace Go.Proofs.Ytaphlamkpkldgaa.GL
open Go Go.RowKit
set_option maxRecDepth 10000
set_option pp.deepTerms.threshold 8
set_option pp.maxSteps 3000
set_option linter.unusedSimpArgs false
set_option linter.unusedVariables false

theorem numGo_inj : ∀ (l l' : List UInt8) (v v' w : Nat), l.length = l'.length → numGo l v = some w → numGo l' v' = some w → v = v' ∧ l = l'
  | [], [], v, v', w, _, h, h' => by
    simp only [numGo, Option.some.injEq] at h h'
    exact ⟨by omega, rfl⟩
  | [], c :: r, _, _, _, hl, _, _ => by simp at hl
  | c :: r, [], _, _, _, hl, _, _ => by simp at hl
  | c :: r, c' :: r', v, v', w, hl, h, h' => by
    simp only [numGo] at h h'
    split at h
    · cases h
    split at h'
    · cases h'
    obtain ⟨e, er⟩ := numGo_inj r r' _ _ w (by simpa using hl) h h'
    have h1 := c.toNat_lt
    have h2 := c'.toNat_lt
    have hc : c = c' := UInt8.toNat_inj.1 (by omega)
    exact ⟨by omega, by rw [hc, er]⟩
theorem numN_inj {l l' : List UInt8} (hl : l.length = l'.length) (h8 : l.length ≤ 8) (h : numN l = numN l') : l = l' := by
  have h1 := (numB_small h8).1
  have h2 := (numB_small (bs := l') (by omega)).1
  rw [h] at h1
  exact (numGo_inj l l' 0 0 _ hl h1 h2).2
theorem readZ_eq (m l : UInt8) (X C : List UInt8) (hX : X.length = l.toNat) (hC : C.length = 4) : readZ (m :: l :: (X ++ C)) =
    (if m.toNat ≠ 165 ∨ l.toNat < 36 then (zeroZ, 0, 23) else if numN ((X.drop 35).take 1) ≠ l.toNat - 36 ∨ (recOf X).right = false then (zeroZ, 0, 23) else if numN C ≠ crcN X then (zeroZ, 0, 24) else (recOf X, 6 + l.toNat, 0)) := by
  have hx : bodyOf (m :: l :: (X ++ C)) l.toNat = X := by unfold bodyOf; simp [← hX]
  have hc : ((m :: l :: (X ++ C)).drop (2 + l.toNat)).take 4 = C := by
    have := mid3 (A := m :: l :: X) (B := C) (C := []) (X := m :: l :: (X ++ C)) (i := 2 + l.toNat) (k := 4) (by simp) (by simp; omega) hC
    exact this
  have hl : (m :: l :: (X ++ C)).length = 6 + l.toNat := by simp; omega
  unfold readZ
  simp only [hx, hc, hl]
  have e : (m.toNat ≠ 165 ∨ 6 + l.toNat < 6 + l.toNat ∨ l.toNat < 36) ↔ (m.toNat ≠ 165 ∨ l.toNat < 36) := by
    constructor
    · rintro (h | h | h)
      · exact .inl h
      · omega
      · exact .inr h
    · rintro (h | h)
      · exact .inl h
      · exact .inr (.inr h)
  simp only [e]
/-- A record of which one byte is another one is none. -/
theorem read_turned (r : RZ) (hr : r.right = true) (hw : r.wf) (i : Nat) (c d : UInt8) (hi : (putB r)[i]? = some c) (hd : d ≠ c) : ∃ e, readZ ((putB r).set i d) = (zeroZ, 0, e) ∧ e ≠ 0 := by
  obtain ⟨h1, h2⟩ := recOf_body r hr hw
  have hbl := bodyB_len r
  have hp := pan_le hr
  have hlen := putB_len r
  have hcl := bytesL_len (crcN (bodyB r)) 4
  have hcn := numN_bytes (crcN (bodyB r)) 4 (by decide) (crcN_lt (bodyB r))
  have hn : (UInt8.ofNat (bodyB r).length).toNat = (bodyB r).length := by rw [UInt8.toNat_ofNat']; omega
  have e : putB r = 165 :: UInt8.ofNat (bodyB r).length :: (bodyB r ++ bytesL (crcN (bodyB r)) 4) := by simp [putB]
  generalize hX : bodyB r = X at *
  generalize hC : bytesL (crcN X) 4 = C at *
  generalize hlb : UInt8.ofNat X.length = lb at *
  rw [e] at hi ⊢
  have h165 : (165 : UInt8).toNat = 165 := rfl
  match i, hi with
  | 0, hi =>
    simp at hi
    subst hi
    have hne : d.toNat ≠ 165 := fun h => hd (UInt8.toNat_inj.1 (by rw [h]; rfl))
    rw [List.set_cons_zero, readZ_eq _ _ _ _ (by omega) hcl, if_pos (.inl hne)]
    exact ⟨23, rfl, by decide⟩
  | 1, hi =>
    simp at hi
    subst hi
    rw [List.set_cons_succ, List.set_cons_zero]
    have hne : d.toNat ≠ lb.toNat := fun h => hd (UInt8.toNat_inj.1 h)
    have hl2 : (165 :: d :: (X ++ C)).length = 6 + X.length := by simp; omega
    unfold readZ
    simp only [hl2]
    by_cases ha : (165 : UInt8).toNat ≠ 165 ∨ 6 + X.length < 6 + d.toNat ∨ d.toNat < 36
    · rw [if_pos ha]; exact ⟨23, rfl, by decide⟩
    · rw [if_neg ha]
      have hlt : d.toNat < X.length ∧ 36 ≤ d.toNat := by omega
      have hbo : bodyOf (165 :: d :: (X ++ C)) d.toNat = X.take d.toNat := by
        unfold bodyOf
        simp only [List.drop_succ_cons, List.drop_zero]
        exact List.take_append_of_le_length (by omega)
      have hq : (((X.take d.toNat).drop 35).take 1) = (X.drop 35).take 1 := by
        rw [List.drop_take, List.take_take, Nat.min_eq_left (by omega)]
      rw [if_pos (.inl (by rw [hbo, hq, h2]; omega))]
      exact ⟨23, rfl, by decide⟩
  | j + 2, hi =>
    simp only [List.getElem?_cons_succ] at hi
    rw [List.set_cons_succ, List.set_cons_succ]
    by_cases hj : j < X.length
    · rw [List.getElem?_append_left hj] at hi
      rw [List.set_append_left _ _ hj, readZ_eq _ _ _ _ (by rw [List.length_set]; omega) hcl]
      split
      · exact ⟨23, rfl, by decide⟩
      split
      · exact ⟨23, rfl, by decide⟩
      · rw [if_pos (by rw [hcn]; exact fun h => crc_one hi hd h.symm)]
        exact ⟨24, rfl, by decide⟩
    · rw [List.getElem?_append_right (by omega)] at hi
      rw [List.set_append_right _ _ (by omega), readZ_eq _ _ _ _ (by omega) (by rw [List.length_set]; exact hcl)]
      split
      · exact ⟨23, rfl, by decide⟩
      split
      · exact ⟨23, rfl, by decide⟩
      · rw [if_pos (fun h => by
          rw [← hcn] at h
          have := numN_inj (by simp) (by rw [List.length_set, hcl]; decide) h
          have h3 := congrArg (fun l => l[j - X.length]?) this
          rw [hi, List.getElem?_set_self (List.getElem?_eq_some_iff.1 hi).1] at h3
          exact hd (Option.some.inj h3))]
        exact ⟨24, rfl, by decide⟩
theorem shl_one (m : Nat) (hm : m < 8) : shlK .u8 1 (m : Int) = ((2 ^ m : Nat) : Int) := by
  have : m = 0 ∨ m = 1 ∨ m = 2 ∨ m = 3 ∨ m = 4 ∨ m = 5 ∨ m = 6 ∨ m = 7 := by omega
  rcases this with rfl | rfl | rfl | rfl | rfl | rfl | rfl | rfl <;> rfl
set_option maxHeartbeats 2000000 in
theorem frameTurned_c (kind k stan amount at' : Nat) (H : Heap) (h1 : kind < 256) (h2 : k < 256) (h3 : stan < 256) (h4 : amount < 65536) (h5 : at' < 65536) :
    ECalls Try.prog 5 #[.int .u8 kind, .int .u8 k, .int .u8 stan, .int .u16 amount, .int .u16 at'] H fun v _ => v = .bool true := by
  refine ecalls_of_ewp (args := [_, _, _, _, _]) Try.func5 rfl rfl rfl (by simp [Try.ntmps5]) (by kernel_rfl) ?_
  simp (disch := first | omega | assumption | decide | (simp <;> omega) | fail) [facts, ]
  refine (known_c H).mono ?_
  rintro v H2 ⟨rfl, hl2⟩
  simp (disch := first | omega | assumption | decide | (simp <;> omega) | fail) [facts, ]
  obtain ⟨s, hs⟩ : ∃ s, s = recS kind k stan amount := ⟨_, rfl⟩
  have hsr : s.right = true := by rw [hs]; exact (recS_right kind k stan amount h2 h3).1
  have hsw : s.wf := by rw [hs]; exact (recS_right kind k stan amount h2 h3).2
  have hsp := pan_le hsr
  have hE : putE s = 0 := by simp [putE, hsr]
  have hX : putX s = putB s := by simp [putX, hsr]
  have hlen := putB_len s
  refine (rec_c kind k stan amount h1 h2 h3 h4 H2 s hs).mono ?_
  rintro v H3 ⟨rfl, hl3⟩
  simp (disch := first | omega | assumption | decide | (simp <;> omega) | fail) [facts, ]
  refine (fputA_c s H3 hsw (by omega)).mono ?_
  rintro v H4 ⟨sv, rfl, R, ow, hlb⟩
  rw [hE]
  rw [hX] at hlb
  obtain ⟨q, o, cb, rfl, hb, hcb, hRq⟩ := hlb.row ow.le (by omega)
  obtain ⟨j, hj⟩ : ∃ j, j = at' / 8 := ⟨_, rfl⟩
  have hjI : (at' : Int) / 8 = (j : Int) := by omega
  obtain ⟨i, hi⟩ : ∃ i, i = j % (putB s).length := ⟨_, rfl⟩
  have hil : i < (putB s).length := by rw [hi]; exact Nat.mod_lt _ (by omega)
  have hiI : (j : Int) % ((putB s).length : Int) = (i : Int) := by rw [hi]; omega
  obtain ⟨m, hm⟩ : ∃ m, m = at' % 8 := ⟨_, rfl⟩
  have hmI : (at' : Int) % 8 = (m : Int) := by omega
  have hm8 : m < 8 := by omega
  obtain ⟨d, hd⟩ : ∃ d, (putB s)[i]? = some d := ⟨_, List.getElem?_eq_getElem hil⟩
  have gd : rd1U (H4 q) (o + i) = some (.int .u8 d.toNat) := hb.sl.at hd
  have hsh := shl_one m hm8
  have hpw : 2 ^ m < 256 ∧ 0 < 2 ^ m := ⟨Nat.pow_lt_pow_right (n := 8) (by decide) hm8, Nat.pow_pos (by decide)⟩
  have hx := xorB_nat d (2 ^ m) hpw.1
  generalize 2 ^ m = P at *
  have hne : xorB d P ≠ d := fun e => by
    have h6 := congrArg UInt8.toNat e
    unfold xorB at h6
    have : d.toNat ^^^ P < 2 ^ 8 := Nat.xor_lt_two_pow d.toNat_lt (by omega)
    rw [UInt8.toNat_ofNat', Nat.mod_eq_of_lt this] at h6
    have h7 := congrArg (d.toNat ^^^ ·) h6
    simp only [← Nat.xor_assoc, Nat.xor_self, Nat.zero_xor] at h7
    omega
  obtain ⟨ee, hrd, he0⟩ := read_turned s hsr hsw i d (xorB d P) hd hne
  have hL0 : ¬ putB s = [] := fun e => by rw [e] at hlen; simp at hlen; omega
  simp (disch := first | omega | assumption | decide | (simp <;> omega) | fail) [facts, hL0, hjI, hiI, hmI, gd, hsh, hx]
  refine hb.store (xorB d P) rfl hil rfl ?_
  intro H5 hb5 hk5
  have hs5 := hb5.sl
  rw [List.length_set] at hs5
  simp (disch := first | omega | assumption | decide | (simp <;> omega) | fail) [facts, ]
  refine (fread_c _ _ cb _ H5 hs5 hcb (by omega) zeroZ 0 ee hrd).mono ?_
  rintro v H6 ⟨rfl, hl6⟩
  simp (disch := first | omega | assumption | decide | (simp <;> omega) | fail) [facts, ]
  refine fresh_intro fun b13 hb13 => ?_
  simp (disch := first | omega | assumption | decide | (simp <;> omega) | fail) [facts, he0]
  exact ⟨_, Heap.le_refl _⟩
end Go.Proofs.Ytaphlamkpkldgaa.GL
