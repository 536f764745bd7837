import Derived.Test.YtlhoaamdplgdmaaMapA
import Derived.Test.YtlhoaamdplgdmaaGlJ
namespace Go.Proofs.Ytlhoaamdplgdmaa.GL
open Go Go.RowKit
set_option linter.unusedSimpArgs false
set_option linter.unusedVariables false
set_option maxRecDepth 10000
set_option pp.deepTerms.threshold 6
set_option pp.maxSteps 3000

def setBit (b : List UInt8) (x : Int) : List UInt8 := b.set ((x - 1) / 8).toNat (b.getD ((x - 1) / 8).toNat 0 ||| UInt8.ofNat (2 ^ (7 - (x - 1) % 8).toNat))
def grow8 (b : List UInt8) (x : Int) : List UInt8 := if 64 < x ∧ b.length = 8 then (b ++ List.replicate 8 0).set 0 (b.getD 0 0 ||| 128) else b
def putGo : List Int → Int → List UInt8 → Option (List UInt8)
  | [], _, b => some b
  | x :: r, last, b => if x ≤ last ∨ 128 < x then none else putGo r x (setBit (grow8 b x) x)
def putB (l : List Int) : Option (List UInt8) := putGo l 1 (List.replicate 8 0)

theorem or_shl (c : UInt8) (j : Int) (h0 : 0 ≤ j) (h1 : j ≤ 7) : orK .u8 (c.toNat : Int) (shlK .u8 1 j) = ((c ||| UInt8.ofNat (2 ^ j.toNat)).toNat : Int) := by
  have h2 : (2 : Nat) ^ j.toNat < 256 := Nat.lt_of_le_of_lt (Nat.pow_le_pow_right (by decide) (show j.toNat ≤ 7 by omega)) (by decide)
  have e : shlK .u8 1 j = ((2 ^ j.toNat : Nat) : Int) := by
    unfold shlK
    rw [Nat.min_eq_left (by simp [IntKind.bits]; omega)]
    have : (1 : Int) * 2 ^ j.toNat = ((2 ^ j.toNat : Nat) : Int) := by simp
    rw [this]
    exact wrap_nat _ _ (by simpa [IntKind.bits] using h2) rfl
  rw [e, orK_nat _ _ _ (by simpa [IntKind.bits] using c.toNat_lt) (by simpa [IntKind.bits] using h2) rfl]
  rw [UInt8.toNat_or]
  congr 2
  rw [UInt8.toNat_ofNat', Nat.mod_eq_of_lt h2]

theorem or_128 (c : UInt8) : orK .u8 (c.toNat : Int) 128 = ((c ||| 128).toNat : Int) := by
  have := orK_nat .u8 c.toNat 128 (by simpa [IntKind.bits] using c.toNat_lt) (by decide) rfl
  simpa using this

theorem setBit_len (b : List UInt8) (x : Int) : (setBit b x).length = b.length := by simp [setBit]
theorem setBit_at (b : List UInt8) (x : Int) (h : ((x - 1) / 8).toNat < b.length) : setBit b x = b.set ((x - 1) / 8).toNat (b[((x - 1) / 8).toNat] ||| UInt8.ofNat (2 ^ (7 - (x - 1) % 8).toNat)) := by
  simp [setBit, List.getD_eq_getElem?_getD, List.getElem?_eq_getElem h]

/-- What Put leaves: its map in a new row, or nothing. -/
def PutPost (l : List Int) (H : Heap) (v : Value) (H' : Heap) : Prop :=
  match putB l with
  | none => v = .tuple #[.slice none 0 0, .bool false] ∧ H' = H
  | some bs => ∃ b o cap room sv, H b = none ∧ H' = upd H b (.row true o (bs.map u8V) room) ∧ OwnA H' sv 1 bs.length b o cap (bs.map u8V) room ∧ v = .tuple #[sv, .bool true]

def PutI (zs : List Int) (a : Option Addr) (n c : Nat) (H : Heap) (s : St) : Prop :=
  ∃ (k : Nat) (last : Int) (bs : List UInt8) (b o cap room : Nat) (sv : Value), k ≤ n ∧ s.env 9 = .slice a n c ∧ s.env 10 = .int .i64 n ∧ s.env 11 = .int .i64 k ∧ s.env 5 = .int .i64 last ∧ s.env 4 = sv ∧
    H b = none ∧ s.heap = upd H b (.row true o (bs.map u8V) room) ∧ OwnA s.heap sv 1 bs.length b o cap (bs.map u8V) room ∧
    (bs.length = 8 ∨ bs.length = 16) ∧ putGo (zs.drop k) last bs = putB zs ∧ (last ≤ 64 ∨ bs.length = 16) ∧ 1 ≤ last ∧ last ≤ 128

theorem put_c (a : Option Addr) (n c : Nat) (zs : List Int) (H : Heap) (h : SlA H a n 1 (zs.map i64V)) (hn : n ≤ 140737488351232) :
    ECalls Try.prog 7 #[.slice a n c] H (PutPost zs H) := by
  refine ecalls_of_ewp (args := [_]) Try.func7 rfl rfl rfl (by simp [Try.ntmps7]) (by kernel_rfl) ?_
  have hl' : zs.length = n := by simpa using h.len
  simp (disch := first | omega | assumption | decide | (simp <;> omega)) [facts]
  refine fresh_intro fun b hb => ?_
  simp (disch := first | omega | assumption | decide | (simp <;> omega)) [facts]
  refine w_loop (PutI zs a n c H) (fun s => n - (intOf (s.env 11)).toNat) ?_ ?_
  · refine ⟨0, 1, List.replicate 8 0, b, 0, 8, 0, .slice (some ⟨b, 0, none⟩) 8 8, Nat.zero_le _, ?_⟩
    refine ⟨by simp, by simp, by simp, by simp, by simp, hb, rfl, ⟨rfl, upd_same _ _ _, rfl, by decide, by decide⟩, by decide, by simp [putB], by decide, by decide, by decide⟩
  · rintro ⟨e, H1⟩ ⟨k, last, bs, b1, o, cap, room, sv, hk, e9, e10, e11, e5, e4, hb1, hH, hown, hlen, hgo, hlast, hl1, hl2⟩
    simp only [env_mk, heap_mk] at e9 e10 e11 e5 e4 hH hown
    subst hH
    by_cases hlt : k < n
    · have hz : zs[k]? = some (zs[k]'(by omega)) := List.getElem?_eq_getElem (by omega)
      have hdrop : zs.drop k = zs[k]'(by omega) :: zs.drop (k + 1) := List.drop_eq_getElem_cons (by omega)
      generalize zs[k]'(by omega) = x at hz hdrop
      rw [hdrop] at hgo
      obtain ⟨hp, hth, hl, hg, hgN⟩ := h.le (le_upd (.row true o (bs.map u8V) room) hb1)
      have hgx : at1 (upd H b1 (.row true o (bs.map u8V) room)) a k = some (.int .i64 x) := by rw [hg k (by omega), List.getElem?_map, hz]; rfl
      clear hg hgN
      by_cases hx1 : x ≤ last
      · simp (disch := first | omega | assumption | (apply hth; omega) | decide | (simp <;> omega)) [e9, e10, e11, e5, e4, hlt, hgx, hx1, facts]
        refine ⟨H, le_upd _ hb1, ?_⟩
        have : putB zs = none := by rw [← hgo]; simp [putGo, hx1]
        simp [PutPost, this]
      · by_cases hx2 : 128 < x
        · simp (disch := first | omega | assumption | (apply hth; omega) | decide | (simp <;> omega)) [e9, e10, e11, e5, e4, hlt, hgx, hx1, hx2, facts]
          refine ⟨H, le_upd _ hb1, ?_⟩
          have : putB zs = none := by rw [← hgo]; simp [putGo, hx2]
          simp [PutPost, this]
        · have hgo' : putGo (zs.drop (k + 1)) x (setBit (grow8 bs x) x) = putB zs := by
            rw [← hgo]; simp [putGo, hx1, hx2]
          by_cases hx3 : 64 < x ∧ bs.length = 8
          · obtain ⟨hx3, hx4⟩ := hx3
            simp (disch := first | omega | assumption | (apply hth; omega) | decide | (simp <;> omega)) [e9, e10, e11, e5, e4, hlt, hgx, hx1, hx2, hx3, hown.is, hx4, facts]
            rw [hx4] at hown
            have hg8 : grow8 bs x = (bs ++ List.replicate 8 0).set 0 (bs.getD 0 0 ||| 128) := by simp [grow8, hx3, hx4]
            refine app_own (e := 5) (s := 1) (nbs := 1) (z := .int .u8 0) (by simp [facts]) (by simp [facts]) (by simp [facts]) (by simp [facts]) rfl (by decide) ⟨rfl, hown.row, hown.len, hown.capOk, hown.fits⟩
              (src_zeros (k := .i64) (s := 1) (z := .int .u8 0) (by simp [facts]) (by simp [facts]) (by simp [facts]) (by decide) (by decide)) (by decide) (by decide) (by decide) ?_
            intro b2 o2 cap2 room2 H2 hb2 hH2 hown2
            rw [dele_fresh hb1] at hb2 hH2
            have hcs : bs.map u8V ++ zeros (cellsV (.int .u8 0)) (Int.toNat 8) = (bs ++ List.replicate 8 0).map u8V := by rw [List.map_append]; rfl
            rw [hcs] at hH2 hown2
            subst hH2
            have hb8 : (bs ++ List.replicate 8 (0 : UInt8)).length = 16 := by simp [hx4]
            generalize hbb : bs ++ List.replicate 8 (0 : UInt8) = b8 at hown2 hg8 hb8
            simp (disch := first | omega | assumption | (apply hth; omega) | decide | (simp <;> omega)) [e9, e10, e11, e5, e4, hx1, hx2, hx3, facts, upd_upd]
            rw [store_u8 (i := 0) (b8[0]'(by omega) ||| 128) (by omega) (by omega) (or_128 _)]
            have hb9 : b8.set 0 (b8[0]'(by omega) ||| 128) = grow8 bs x := by
              rw [hg8]
              congr 2
              subst hbb
              cases bs with
              | nil => simp at hx4
              | cons q r => rfl
            rw [hb9]
            have hl9 : (grow8 bs x).length = 16 := by rw [← hb9]; simp [hb8]
            generalize grow8 bs x = b9 at hgo' hl9
            simp (disch := first | omega | assumption | (apply hth; omega) | decide | (simp <;> omega)) [e9, e10, e11, e5, e4, hx1, hx2, hx3, facts, upd_upd]
            rw [store_u8 (i := ((x - 1) / 8).toNat) _ rfl (by omega) (or_shl _ _ (by omega) (by omega)), ← setBit_at _ _ (by omega)]
            simp (disch := first | omega | assumption | (apply hth; omega) | decide | (simp <;> omega)) [e9, e10, e11, e5, e4, hx1, hx2, hx3, facts, upd_upd]
            refine ⟨_, Heap.le_refl _, ⟨k + 1, x, setBit b9 x, b2, o2, cap2, room2, .slice (some ⟨b2, o2, none⟩) 16 cap2, by omega, ?_⟩, ?_⟩
            · refine ⟨by simp [e9], by simp [e10], by simp, by simp, by simp, hb2, rfl, ⟨by rw [setBit_len, hl9], upd_same _ _ _, by simp, by rw [setBit_len, hl9]; exact hown2.capOk, by rw [setBit_len, hl9]; exact hown2.fits⟩, by rw [setBit_len]; omega, hgo', by rw [setBit_len]; omega, by omega, by omega⟩
            · simp [intOf, e11]; omega
          · have hg8 : grow8 bs x = bs := by simp only [grow8, if_neg hx3]
            rw [hg8] at hgo'
            by_cases h64 : 64 < x
            · have h16 : bs.length = 16 := by omega
              simp (disch := first | omega | assumption | (apply hth; omega) | decide | (simp <;> omega)) [e9, e10, e11, e5, e4, hlt, hgx, hx1, hx2, h64, hown.is, h16, facts, upd_upd]
              rw [store_u8 (i := ((x - 1) / 8).toNat) _ rfl (by omega) (or_shl _ _ (by omega) (by omega)), ← setBit_at _ _ (by omega)]
              simp (disch := first | omega | assumption | (apply hth; omega) | decide | (simp <;> omega)) [e9, e10, e11, e5, e4, hx1, hx2, hx3, facts, upd_upd]
              refine ⟨_, Heap.le_refl _, ⟨k + 1, x, setBit bs x, b1, o, cap, room, sv, by omega, ?_⟩, ?_⟩
              · refine ⟨by simp [e9], by simp [e10], by simp, by simp, by simp [e4], hb1, rfl, ⟨by rw [setBit_len]; exact hown.is, upd_same _ _ _, by simp, by rw [setBit_len]; exact hown.capOk, by rw [setBit_len]; exact hown.fits⟩, by rw [setBit_len]; omega, hgo', by rw [setBit_len]; omega, by omega, by omega⟩
              · simp [intOf, e11]; omega
            · simp (disch := first | omega | assumption | (apply hth; omega) | decide | (simp <;> omega)) [e9, e10, e11, e5, e4, hlt, hgx, hx1, hx2, h64, hown.is, facts, upd_upd]
              rw [store_u8 (i := ((x - 1) / 8).toNat) _ rfl (by omega) (or_shl _ _ (by omega) (by omega)), ← setBit_at _ _ (by omega)]
              simp (disch := first | omega | assumption | (apply hth; omega) | decide | (simp <;> omega)) [e9, e10, e11, e5, e4, hx1, hx2, hx3, facts, upd_upd]
              refine ⟨_, Heap.le_refl _, ⟨k + 1, x, setBit bs x, b1, o, cap, room, sv, by omega, ?_⟩, ?_⟩
              · refine ⟨by simp [e9], by simp [e10], by simp, by simp, by simp [e4], hb1, rfl, ⟨by rw [setBit_len]; exact hown.is, upd_same _ _ _, by simp, by rw [setBit_len]; exact hown.capOk, by rw [setBit_len]; exact hown.fits⟩, by rw [setBit_len]; omega, hgo', by rw [setBit_len]; omega, by omega, by omega⟩
              · simp [intOf, e11]; omega
    · have hkn : k = n := by omega
      simp (disch := first | omega | assumption | decide | (simp <;> omega)) [e9, e10, e11, e5, e4, hlt, facts]
      refine ⟨_, Heap.le_refl _, ?_⟩
      have : putB zs = some bs := by rw [← hgo, hkn, ← hl', List.drop_length]; rfl
      simp only [PutPost, this]
      exact ⟨b1, o, cap, room, sv, hb1, rfl, hown, rfl⟩
end Go.Proofs.Ytlhoaamdplgdmaa.GL
