/- More rules: what makes memory stands still behind one word ('eFresh', 'eGrown'), so that its new block is met by name. -/
import Derived.Test.YtfpighmafofoeaaDoorGlH
namespace Go.Proofs.YtfpighmafofoeaaDoor.GL
set_option linter.unusedSimpArgs false
set_option linter.unusedVariables false

open Go Go.RowKit

def eFresh (f : Nat → Value) (g : GObj) (H : Heap) (K : Kont) : Prop := ∀ b, H b = none → K (f b) (upd H b g)
theorem fresh_intro {f : Nat → Value} {g : GObj} {H : Heap} {K : Kont} (h : ∀ b, H b = none → K (f b) (upd H b g)) : eFresh f g H K := h
theorem e_new {cs : List Value} {H : Heap} {K : Kont} : eNew cs H K = eFresh (fun b => .pointer (some ⟨b, 0, none⟩)) (.row true 0 cs 0) H K := Eq.trans rfl rfl

section
variable {P : Program} {H : Heap} {K : Kont} {t el : TypeId} {k k' : IntKind} {l c : Int} {z : Value} {s n : Nat}
def makeU (P : Program) (u : Und) (l c : Int) (H : Heap) (K : Kont) : Prop :=
  match u with
  | .slice e => match zeroV P e, sz P e, nb P e with
    | some z, some s, some n => (0 ≤ l ∧ l ≤ c ∧ (n : Int) * c ≤ 281474976710656 ∧ c ≤ 281474976710656 ∧ (cellsV z).length = s ∧ 0 < s) ∧
        ∀ b, H b = none → K (.slice (some ⟨b, 0, none⟩) l.toNat c.toNat) (upd H b (.row true 0 (zeros (cellsV z) l.toNat) ((c.toNat - l.toNat) * s)))
    | _, _, _ => False
  | _ => False
theorem e_make : eMake P t (.int k l) (.int k' c) H K = makeU P (und P t) l c H K := by
  unfold eMake makeU; cases und P t <;> rfl
def makeS (z : Option Value) (s n : Option Nat) (l c : Int) (H : Heap) (K : Kont) : Prop :=
  match z, s, n with
  | some z, some s, some n => (0 ≤ l ∧ l ≤ c ∧ (n : Int) * c ≤ 281474976710656 ∧ c ≤ 281474976710656 ∧ (cellsV z).length = s ∧ 0 < s) ∧
        ∀ b, H b = none → K (.slice (some ⟨b, 0, none⟩) l.toNat c.toNat) (upd H b (.row true 0 (zeros (cellsV z) l.toNat) ((c.toNat - l.toNat) * s)))
  | _, _, _ => False
theorem makeU_slice : makeU P (.slice el) l c H K = makeS (zeroV P el) (sz P el) (nb P el) l c H K := Eq.trans rfl rfl
theorem makeS_one (h0 : 0 ≤ l) (h1 : l ≤ c) (h2 : (n : Int) * c ≤ 281474976710656) (h3 : c ≤ 281474976710656) (hz : (cellsV z).length = s) (hs : 0 < s) :
    makeS (some z) (some s) (some n) l c H K = eFresh (fun b => .slice (some ⟨b, 0, none⟩) l.toNat c.toNat) (.row true 0 (zeros (cellsV z) l.toNat) ((c.toNat - l.toNat) * s)) H K := by
  simp only [makeS, eFresh]
  exact propext ⟨fun h => h.2, fun h => ⟨⟨h0, h1, h2, h3, hz, hs⟩, h⟩⟩

def bslU (P : Program) (u : Und) (len : Nat) (ps : List (Nat × Value)) (H : Heap) (K : Kont) : Prop :=
  match u with
  | .slice e => match zeroV P e, sz P e with
    | some z, some s => (len * s ≤ 16777216 ∧ (cellsV z).length = s ∧ 0 < s) ∧ match buildF (fun i => some (i * s, s)) ps (zeros (cellsV z) len) with
      | some cs => ∀ b, H b = none → K (.slice (some ⟨b, 0, none⟩) len len) (upd H b (.row true 0 cs 0))
      | none => False
    | _, _ => False
  | _ => False
theorem e_bsl {len : Nat} {ps : List (Nat × Value)} : eBuildSlice P t len ps H K = bslU P (und P t) len ps H K := Eq.trans rfl rfl
def bslS (z : Option Value) (s : Option Nat) (len : Nat) (ps : List (Nat × Value)) (H : Heap) (K : Kont) : Prop :=
  match z, s with
  | some z, some s => (len * s ≤ 16777216 ∧ (cellsV z).length = s ∧ 0 < s) ∧ match buildF (fun i => some (i * s, s)) ps (zeros (cellsV z) len) with
    | some cs => ∀ b, H b = none → K (.slice (some ⟨b, 0, none⟩) len len) (upd H b (.row true 0 cs 0))
    | none => False
  | _, _ => False
theorem bslU_slice {len : Nat} {ps : List (Nat × Value)} : bslU P (.slice el) len ps H K = bslS (zeroV P el) (sz P el) len ps H K := Eq.trans rfl rfl
def bslC (cs : Option (List Value)) (len : Nat) (H : Heap) (K : Kont) : Prop :=
  match cs with
  | some cs => ∀ b, H b = none → K (.slice (some ⟨b, 0, none⟩) len len) (upd H b (.row true 0 cs 0))
  | none => False
theorem bslS_some {len : Nat} {ps : List (Nat × Value)} (h1 : len * s ≤ 16777216) (hz : (cellsV z).length = s) (hs : 0 < s) :
    bslS (some z) (some s) len ps H K = bslC (buildF (fun i => some (i * s, s)) ps (zeros (cellsV z) len)) len H K := by
  simp only [bslS, bslC]
  exact propext ⟨fun h => h.2, fun h => ⟨⟨h1, hz, hs⟩, h⟩⟩
theorem bslC_some {cs : List Value} {len : Nat} : bslC (some cs) len H K = eFresh (fun b => .slice (some ⟨b, 0, none⟩) len len) (.row true 0 cs 0) H K := Eq.trans rfl rfl

theorem e_bytes {x : ByteArray} : eStrBytes x H K = ∀ room, eFresh (fun b => .slice (some ⟨b, 0, none⟩) x.size (x.size + room)) (.row true 0 (x.data.toList.map u8V) room) H K := by
  apply propext
  exact ⟨fun h room b hb => h b room hb, fun h b room hb => h room b hb⟩
end

/-! ### append -/
/-- A slice that is nobody else's: its block, where it begins, its cells, what room there is behind. -/
structure OwnA (H : Heap) (v : Value) (s n : Nat) (b o cap : Nat) (cs : List Value) (room : Nat) : Prop where
  is : v = .slice (some ⟨b, o, none⟩) n cap
  row : H b = some (.row true o cs room)
  len : cs.length = n * s
  capOk : n ≤ cap
  fits : cap * s ≤ n * s + room

theorem OwnA.slA {H : Heap} {v : Value} {s n b o cap room : Nat} {cs : List Value} (h : OwnA H v s n b o cap cs room) : SlA H (some ⟨b, o, none⟩) n s cs :=
  SlA.row h.row (Nat.le_refl _) h.len (by rw [Nat.sub_self, h.len]; omega) (by rw [Nat.sub_self, List.drop_zero, ← h.len, List.take_length])

theorem src_sl {P : Program} {H : Heap} {e t1 e1 : TypeId} {a : Option Addr} {n c s : Nat} {z : Value} {ys : List Value} (hu : und P t1 = .slice e1) (hs : sz P e = some s) (hz : zeroV P e = some z) (h : SlA H a n s ys) :
    srcOf P e t1 (.slice a n c) H = some (n, ys) := by
  unfold srcOf
  rw [hs, hz]
  simp only [hu]
  cases a with
  | none =>
    have : n = 0 := by
      rcases Nat.eq_zero_or_pos n with h0 | h0
      · exact h0
      · have := h.there h0; cases this
    subst this
    have : ys = [] := List.eq_nil_of_length_eq_zero (by rw [h.len]; simp)
    subst this
    rfl
  | some a =>
    obtain ⟨b, o, sp⟩ := a
    cases sp with
    | some x => have := h.plain; simp [plainA] at this
    | none =>
      simp only
      have hr : rdN H b o (n * s) = some ys := by
        by_cases h0 : n * s = 0
        · have : ys = [] := List.eq_nil_of_length_eq_zero (by rw [h.len, h0])
          subst this
          simp [rdN, h0]
        · have := h.getN 0 (n * s) (by omega) (by omega)
          simp only [atN, Nat.add_zero, List.drop_zero] at this
          rw [this, List.take_of_length_le (by rw [h.len]; exact Nat.le_refl _)]
      rw [hr]; rfl

theorem src_str {P : Program} {H : Heap} {e t1 : TypeId} {x : ByteArray} {z : Value} (hu : und P t1 = .str) (hs : sz P e = some 1) (hz : zeroV P e = some z) : srcOf P e t1 (.string x) H = some (x.size, x.data.toList.map u8V) := by
  unfold srcOf; rw [hs, hz]; simp [hu]

theorem src_zeros {P : Program} {H : Heap} {e t1 : TypeId} {k k' : IntKind} {l : Int} {z : Value} {s : Nat} (hu : und P t1 = .int k) (hs : sz P e = some s) (hz : zeroV P e = some z) (h0 : 0 ≤ l) (h1 : l ≤ 1099511627776) :
    srcOf P e t1 (.int k' l) H = some (l.toNat, zeros (cellsV z) l.toNat) := by
  unfold srcOf; rw [hs, hz]; simp [hu, h0, h1]

/-- append onto nil. -/
theorem app_nil {P : Program} {H : Heap} {K : Kont} {t t1 e : TypeId} {x z : Value} {s nbs n : Nat} {ys : List Value} (hu : und P t = .slice e) (hs : sz P e = some s) (hn : nb P e = some nbs) (hz : zeroV P e = some z)
    (hzs : (cellsV z).length = s) (hs0 : 0 < s) (hsrc : srcOf P e t1 x H = some (n, ys)) (hl : ys.length = n * s) (hone : ys.all (·.oneCell') = true) (hb : n * (nbs + 1) ≤ 35184372088832)
    (h0 : n = 0 → K (.slice none 0 0) H)
    (h : ∀ b cap room, H b = none → n ≠ 0 → OwnA (upd H b (.row true 0 ys room)) (.slice (some ⟨b, 0, none⟩) n cap) s n b 0 cap ys room → K (.slice (some ⟨b, 0, none⟩) n cap) (upd H b (.row true 0 ys room))) :
    eApp P t t1 (.slice none 0 0) x H K := by
  refine .inl ?_
  unfold eApp0
  rw [hu]
  simp only [hs, hn, hz, hsrc]
  refine ⟨⟨hzs, hs0, hl, hone, Nat.le_refl _, by simpa using hb⟩, h0, fun hn0 => ⟨by trivial, fun b cap room hb hcap hfit => ?_⟩⟩
  exact h b cap room hb hn0 ⟨rfl, upd_same _ _ _, hl, hcap, by omega⟩

/-- append onto a slice of the call's own. -/
theorem app_own {P : Program} {H : Heap} {K : Kont} {t t1 e : TypeId} {v x z : Value} {s nbs n m b o cap room : Nat} {cs ys : List Value} (hu : und P t = .slice e) (hs : sz P e = some s) (hn : nb P e = some nbs) (hz : zeroV P e = some z)
    (hzs : (cellsV z).length = s) (hs0 : 0 < s) (hown : OwnA H v s m b o cap cs room) (hsrc : srcOf P e t1 x H = some (n, ys)) (hl : ys.length = n * s) (hone : ys.all (·.oneCell') = true) (hb : (m + n) * (nbs + 1) ≤ 35184372088832)
    (h : ∀ b' o' cap' room' H', (dele H b) b' = none → H' = upd (dele H b) b' (.row true o' (cs ++ ys) room') → OwnA H' (.slice (some ⟨b', o', none⟩) (m + n) cap') s (m + n) b' o' cap' (cs ++ ys) room' →
      K (.slice (some ⟨b', o', none⟩) (m + n) cap') H') :
    eApp P t t1 v x H K := by
  obtain ⟨hv, hrow, hlen, hc, hfit⟩ := hown
  subst hv
  refine .inl ?_
  unfold eApp0
  rw [hu]
  simp only [hs, hn, hz, hsrc, hrow]
  refine ⟨⟨hzs, hs0, hl, hone, hc, hb⟩, fun hn0 => ?_, fun hn0 => ⟨⟨Nat.le_refl _, by rw [Nat.sub_self, hlen]; omega, by rw [Nat.sub_self, hlen]; omega⟩, fun b' o' cap' room' hb' hcap hfit' => ?_⟩⟩
  · subst hn0
    have hys : ys = [] := List.eq_nil_of_length_eq_zero (by simpa using hl)
    subst hys
    have := h b o cap room H (dele_same H b) (by rw [upd_dele, List.append_nil]; funext i; unfold upd; split <;> simp_all) ⟨rfl, by simpa using hrow, by simpa using hlen, by simpa using hc, by simpa using hfit⟩
    simpa using this
  · have hct : (cs.drop (o - o)).take (m * s) = cs := by rw [Nat.sub_self, List.drop_zero, ← hlen, List.take_length]
    rw [hct]
    exact h b' o' cap' room' _ hb' rfl ⟨rfl, upd_same _ _ _, by rw [List.length_append, hlen, hl, Nat.add_mul], hcap, hfit'⟩

theorem dele_fresh {H : Heap} {b : Nat} {g : GObj} (h : H b = none) : dele (upd H b g) b = H := by
  funext i; unfold dele upd; split
  · rename_i e; rw [e, h]
  · rfl
theorem all_u8 (bs : List UInt8) : (bs.map u8V).all (·.oneCell') = true := by
  rw [List.all_eq_true]; intro v hv; obtain ⟨c, _, rfl⟩ := List.mem_map.1 hv; rfl
def i64V (n : Int) : Value := .int .i64 n
theorem all_i64 (ns : List Int) : (ns.map i64V).all (·.oneCell') = true := by
  rw [List.all_eq_true]; intro v hv; obtain ⟨c, _, rfl⟩ := List.mem_map.1 hv; rfl
theorem i64V_def (n : Int) : i64V n = .int .i64 n := Eq.trans rfl rfl
theorem zeros_u8 (n : Nat) : zeros [.int .u8 0] n = (List.replicate n (0 : UInt8)).map u8V := by rw [zeros_one, List.map_replicate]; rfl
theorem zeros_i64 (n : Nat) : zeros [.int .i64 0] n = (List.replicate n (0 : Int)).map i64V := by rw [zeros_one, List.map_replicate]; rfl
theorem add_mid' (b o j : Nat) : (⟨b, o, none⟩ : Addr).add j = ⟨b, o + j, none⟩ := Addr.add_mid b o j

attribute [simp] e_new e_make makeU_slice makeS_one e_bsl bslU_slice bslS_some bslC_some i64V_def add_mid' upd_same zeros_one

end Go.Proofs.YtfpighmafofoeaaDoor.GL
