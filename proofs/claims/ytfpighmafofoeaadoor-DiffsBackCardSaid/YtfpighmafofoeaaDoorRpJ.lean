/- Layer 23: DiffsBack: the walk. -/
import Derived.Test.YtfpighmafofoeaaDoorRpG
import Derived.Test.YtfpighmafofoeaaDoorRpK
namespace Go.Proofs.YtfpighmafofoeaaDoor.GL
open Go Go.RowKit
open Ca (Cs S4)
set_option maxRecDepth 10000
set_option pp.deepTerms.threshold 8
set_option pp.maxSteps 3000
set_option linter.unusedSimpArgs false
set_option linter.unusedVariables false

/-- A number below 100000, either way. -/
def Low (z : Int) : Prop := -100000 < z ∧ z < 100000
theorem low_mod (g : Int) : Low (Int.tmod g 100000) := ⟨Int.lt_tmod_of_pos g (by decide), Int.tmod_lt_of_pos g (by decide)⟩
theorem low_less {a b : Int} (ha : Low a) (hb : Low b) : lessZ a b = a - b := by
  unfold Low at ha hb
  unfold lessZ
  rw [if_pos (by unfold Su.i64In; omega)]
def lowC (a b : Int) : Cs := ⟨0, 0, a, b⟩
def zipC (xa xb : List Int) : List Cs := List.zipWith lowC xa xb
theorem zipC_at {xa xb : List Int} {k : Nat} {a b : Int} (h1 : xa[k]? = some a) (h2 : xb[k]? = some b) : (zipC xa xb)[k]? = some (lowC a b) := by
  simp [zipC, List.getElem?_zipWith, h1, h2]
/-- What the first differences told make of what was counted. -/
def upTo (D : List Df) (xa : List Int) (f : Df → Int) : List Int := D.foldl (fun l d => l.set d.i ((l[d.i]?).getD 0 + f d)) xa
theorem upTo_snoc (D : List Df) (d : Df) (xa : List Int) (f : Df → Int) : upTo (D ++ [d]) xa f = (upTo D xa f).set d.i (((upTo D xa f)[d.i]?).getD 0 + f d) := by
  simp [upTo]
theorem upTo_len (f : Df → Int) : ∀ (D : List Df) (xa : List Int), (upTo D xa f).length = xa.length
  | [], _ => rfl
  | d :: D, xa => by
    have := upTo_len f D (xa.set d.i ((xa[d.i]?).getD 0 + f d))
    rw [List.length_set] at this
    exact this
/-- What is told, place by place. -/
theorem dfTo_mem {cs : List Cs} {gs rs : List Int} : ∀ {k : Nat} {d : Df}, d ∈ dfTo cs gs rs k → d.i < k
  | 0, d, h => by simp [dfTo] at h
  | k + 1, d, h => by
    rw [dfTo_succ] at h
    rcases List.mem_append.1 h with h | h
    · exact Nat.lt_succ_of_lt (dfTo_mem h)
    · unfold dfAt at h
      split at h
      · split at h
        · cases h
        · obtain rfl := List.mem_singleton.1 h
          exact Nat.lt_succ_self k
      · cases h
/-- The first k places are as told, the others as counted. -/
theorem upTo_g {xa xb gs rs : List Int} (h1 : xa.length = 4) (h2 : xb.length = 4) (h3 : gs.length = 4) (h4 : rs.length = 4) (la : ∀ z ∈ xa, Low z) (lb : ∀ z ∈ xb, Low z) (lg : ∀ z ∈ gs, Low z) (lr : ∀ z ∈ rs, Low z) :
    ∀ k, k ≤ 4 → upTo (dfTo (zipC xa xb) gs rs k) xa (·.g) = gs.take k ++ xa.drop k ∧ upTo (dfTo (zipC xa xb) gs rs k) xb (·.r) = rs.take k ++ xb.drop k
  | 0, _ => by simp [dfTo, upTo]
  | k + 1, hk => by
    obtain ⟨i1, i2⟩ := upTo_g h1 h2 h3 h4 la lb lg lr k (by omega)
    obtain ⟨a, ha⟩ : ∃ a, xa[k]? = some a := ⟨_, List.getElem?_eq_getElem (by omega)⟩
    obtain ⟨b, hb⟩ : ∃ b, xb[k]? = some b := ⟨_, List.getElem?_eq_getElem (by omega)⟩
    obtain ⟨g, hg⟩ : ∃ g, gs[k]? = some g := ⟨_, List.getElem?_eq_getElem (by omega)⟩
    obtain ⟨r, hr⟩ : ∃ r, rs[k]? = some r := ⟨_, List.getElem?_eq_getElem (by omega)⟩
    have hz := zipC_at ha hb
    have hda : dfAt (zipC xa xb) gs rs k = if g = a ∧ r = b then [] else [⟨k, g - a, r - b⟩] := by
      have hz2 : dfAt (zipC xa xb) gs rs k = if g = (lowC a b).g ∧ r = (lowC a b).r then [] else [⟨k, lessZ g (lowC a b).g, lessZ r (lowC a b).r⟩] := by
        unfold dfAt
        rw [hz, hg, hr]
      rw [hz2]
      by_cases h : g = a ∧ r = b
      · rw [if_pos h, if_pos (show g = (lowC a b).g ∧ r = (lowC a b).r from h)]
      · rw [if_neg h, if_neg (show ¬ (g = (lowC a b).g ∧ r = (lowC a b).r) from h)]
        show [Df.mk k (lessZ g a) (lessZ r b)] = _
        rw [low_less (lg g (List.mem_of_getElem? hg)) (la a (List.mem_of_getElem? ha)), low_less (lr r (List.mem_of_getElem? hr)) (lb b (List.mem_of_getElem? hb))]
    have step : ∀ (xs ys : List Int) (x y : Int), xs.length = 4 → ys.length = 4 → xs[k]? = some x → ys[k]? = some y → (ys.take k ++ xs.drop k).set k y = ys.take (k + 1) ++ xs.drop (k + 1) ∧ (ys.take k ++ xs.drop k)[k]? = some x ∧ (x = y → ys.take k ++ xs.drop k = ys.take (k + 1) ++ xs.drop (k + 1)) := fun xs ys x y hx hy h5 h6 => by
      have hlt : k < xs.length := by omega
      have hlt2 : k < ys.length := by omega
      have e1 : xs.drop k = x :: xs.drop (k + 1) := by
        rw [List.drop_eq_getElem_cons hlt]
        congr 1
        rw [List.getElem?_eq_getElem hlt] at h5
        exact Option.some.inj h5
      have e2 : ys.take (k + 1) = ys.take k ++ [y] := by rw [List.take_add_one, h6]; rfl
      have hl : (ys.take k).length = k := by rw [List.length_take]; omega
      refine ⟨?_, ?_, fun e => ?_⟩
      · rw [e1, e2, List.set_append_right _ _ (by omega), hl, Nat.sub_self, List.set_cons_zero, List.append_assoc]
        rfl
      · rw [e1, List.getElem?_append_right (by omega), hl, Nat.sub_self]
        rfl
      · rw [e1, e2, e, List.append_assoc]
        rfl
    obtain ⟨s1, s2, s3⟩ := step xa gs a g h1 h3 ha hg
    obtain ⟨t1, t2, t3⟩ := step xb rs b r h2 h4 hb hr
    rw [dfTo_succ, hda]
    by_cases he : g = a ∧ r = b
    · rw [if_pos he, List.append_nil, i1, i2]
      exact ⟨s3 he.1.symm, t3 he.2.symm⟩
    · rw [if_neg he, upTo_snoc, upTo_snoc, i1, i2, s2, t2]
      simp only [Option.getD_some]
      rw [show a + (g - a) = g by omega, show b + (r - b) = r by omega]
      exact ⟨s1, t1⟩
/-- The places rise. -/
theorem dfTo_rise (cs : List Cs) (gs rs : List Int) : ∀ k, (dfTo cs gs rs k).Pairwise (fun x y => x.i < y.i)
  | 0 => by simp [dfTo]
  | k + 1 => by
    rw [dfTo_succ]
    refine List.pairwise_append.2 ⟨dfTo_rise cs gs rs k, ?_, fun x hx y hy => ?_⟩
    · have := dfAt_len cs gs rs k
      match h : dfAt cs gs rs k with
      | [] => exact List.Pairwise.nil
      | [z] => exact List.pairwise_singleton _ _
      | a :: b :: l => rw [h] at this; simp at this
    · have h1 := dfTo_mem hx
      have h2 : y.i = k := by
        unfold dfAt at hy
        split at hy
        · split at hy
          · cases hy
          · obtain rfl := List.mem_singleton.1 hy
            rfl
        · cases hy
      omega
theorem dfTo_not0 {xa xb gs rs : List Int} (la : ∀ z ∈ xa, Low z) (lb : ∀ z ∈ xb, Low z) (lg : ∀ z ∈ gs, Low z) (lr : ∀ z ∈ rs, Low z) : ∀ {k : Nat} {d : Df}, d ∈ dfTo (zipC xa xb) gs rs k → ¬ (d.g = 0 ∧ d.r = 0) ∧ (-200000 < d.g ∧ d.g < 200000) ∧ -200000 < d.r ∧ d.r < 200000
  | 0, d, h => by simp [dfTo] at h
  | k + 1, d, h => by
    rw [dfTo_succ] at h
    rcases List.mem_append.1 h with h | h
    · exact dfTo_not0 la lb lg lr h
    · unfold dfAt at h
      split at h
      · rename_i c g r hc hg hr
        split at h
        · cases h
        · rename_i hne
          obtain rfl := List.mem_singleton.1 h
          unfold zipC at hc
          rw [List.getElem?_zipWith] at hc
          cases ha : xa[k]? with
          | none => rw [ha] at hc; simp at hc
          | some a =>
            cases hb : xb[k]? with
            | none => rw [ha, hb] at hc; simp at hc
            | some b =>
              rw [ha, hb] at hc
              obtain rfl : lowC a b = c := by simpa using hc
              have l1 := la a (List.mem_of_getElem? ha)
              have l2 := lb b (List.mem_of_getElem? hb)
              have l3 := lg g (List.mem_of_getElem? hg)
              have l4 := lr r (List.mem_of_getElem? hr)
              simp only [lowC] at hne ⊢
              rw [low_less l3 l1, low_less l4 l2]
              unfold Low at l1 l2 l3 l4
              omega
      · cases h
theorem dfAt_at {cs : List Cs} {gs rs : List Int} {k i : Nat} {x : Df} (h : (dfAt cs gs rs k)[i]? = some x) : i = 0 ∧ x.i = k ∧ dfAt cs gs rs k = [x] := by
  have hl := dfAt_len cs gs rs k
  have hi : i < (dfAt cs gs rs k).length := (List.getElem?_eq_some_iff.1 h).1
  have hi0 : i = 0 := by omega
  subst hi0
  unfold dfAt at h ⊢
  split at h
  · rename_i c g r h1 h2 h3
    split at h
    · cases h
    · rename_i hne
      rw [if_neg hne]
      simp only [List.getElem?_cons_zero, Option.some.injEq] at h
      subst h
      exact ⟨rfl, rfl, rfl⟩
  · cases h
theorem dfTo_take (cs : List Cs) (gs rs : List Int) : ∀ (k i : Nat) (x : Df), (dfTo cs gs rs k)[i]? = some x → x.i < k ∧ (dfTo cs gs rs k).take i = dfTo cs gs rs x.i
  | 0, i, x, h => by simp [dfTo] at h
  | k + 1, i, x, h => by
    rw [dfTo_succ] at h ⊢
    by_cases hi : i < (dfTo cs gs rs k).length
    · rw [List.getElem?_append_left hi] at h
      obtain ⟨h1, h2⟩ := dfTo_take cs gs rs k i x h
      exact ⟨by omega, by rw [List.take_append_of_le_length (by omega), h2]⟩
    · rw [List.getElem?_append_right (by omega)] at h
      obtain ⟨h1, h2, _⟩ := dfAt_at h
      have e : i = (dfTo cs gs rs k).length := by omega
      refine ⟨by omega, ?_⟩
      rw [h2, e, List.take_left']
      rfl
def tm (z : Int) : Int := Int.tmod z 100000
def tmL (i : Nat) (xs : List Int) : List Int := (xs.take i).map tm ++ xs.drop i
theorem tmL_len (i : Nat) (xs : List Int) : (tmL i xs).length = xs.length := by
  unfold tmL
  rw [List.length_append, List.length_map, List.length_take, List.length_drop]; omega
theorem tmL_at {i : Nat} {xs : List Int} {x : Int} (h : xs[i]? = some x) : (tmL i xs)[i]? = some x ∧ (tmL i xs).set i (tm x) = tmL (i + 1) xs := by
  have hlt : i < xs.length := (List.getElem?_eq_some_iff.1 h).1
  have hl : ((xs.take i).map tm).length = i := by rw [List.length_map, List.length_take]; omega
  have e1 : xs.drop i = x :: xs.drop (i + 1) := by
    rw [List.drop_eq_getElem_cons hlt]
    congr 1
    rw [List.getElem?_eq_getElem hlt] at h
    exact Option.some.inj h
  have e2 : xs.take (i + 1) = xs.take i ++ [x] := by rw [List.take_add_one, h]; rfl
  unfold tmL
  refine ⟨?_, ?_⟩
  · rw [e1, List.getElem?_append_right (by omega), hl, Nat.sub_self]; rfl
  · rw [e1, e2, List.set_append_right _ _ (by omega), hl, Nat.sub_self, List.set_cons_zero, List.map_append, List.append_assoc]; rfl
def cL (i : Nat) (xa xb : List Int) : List Cs := (zipC (xa.map tm) (xb.map tm)).take i ++ List.replicate (4 - i) (lowC 0 0)
theorem zipC_len {xa xb : List Int} (h1 : xa.length = 4) (h2 : xb.length = 4) : (zipC (xa.map tm) (xb.map tm)).length = 4 := by
  unfold zipC
  rw [List.length_zipWith, List.length_map, List.length_map, h1, h2]; rfl
theorem cL_set {xa xb : List Int} (h1 : xa.length = 4) (h2 : xb.length = 4) {i : Nat} (hi : i < 4) {a b : Int} (ha : xa[i]? = some a) (hb : xb[i]? = some b) : (cL i xa xb).set i (lowC (tm a) (tm b)) = cL (i + 1) xa xb := by
  have hz : (zipC (xa.map tm) (xb.map tm))[i]? = some (lowC (tm a) (tm b)) := zipC_at (by rw [List.getElem?_map, ha]; rfl) (by rw [List.getElem?_map, hb]; rfl)
  have hl := zipC_len h1 h2
  have hlt : ((zipC (xa.map tm) (xb.map tm)).take i).length = i := by rw [List.length_take]; omega
  have e2 : (zipC (xa.map tm) (xb.map tm)).take (i + 1) = (zipC (xa.map tm) (xb.map tm)).take i ++ [lowC (tm a) (tm b)] := by rw [List.take_add_one, hz]; rfl
  unfold cL
  rw [show 4 - i = (4 - (i + 1)) + 1 by omega, List.replicate_succ, List.set_append_right _ _ (by omega), hlt, Nat.sub_self, List.set_cons_zero, e2, List.append_assoc]
  rfl
theorem cL_len {xa xb : List Int} (h1 : xa.length = 4) (h2 : xb.length = 4) {i : Nat} (hi : i ≤ 4) : (cL i xa xb).length = 4 := by
  have hl := zipC_len h1 h2
  unfold cL
  rw [List.length_append, List.length_take, List.length_replicate]; omega
theorem low_map (xs : List Int) : ∀ z ∈ xs.map tm, Low z := by
  intro z hz
  obtain ⟨y, _, rfl⟩ := List.mem_map.1 hz
  exact low_mod y
theorem low_in {z : Int} (h : Low z) : i64In z := by unfold Low at h; unfold i64In; omega
theorem eq4 {xs : List Int} (h : xs.length = 4) : eqCells [.int, .int, .int, .int] (xs.map i64V) (xs.map i64V) = some true := by
  match xs, h with
  | [a, b, c, d], _ => simp [i64V, eqC_int, eqC_nil]
theorem SlA.off2 {H H2 : Heap} {a : Option Addr} {n s : Nat} {cs : List Value} (h : SlA H a n s cs) (ha : ∀ b o, a = some ⟨b, o, none⟩ → 0 < n → H2 b = H b) : SlA H2 a n s cs := by
  rcases Nat.eq_zero_or_pos n with hn | hn
  · subst hn
    exact ⟨h.plain, h.there, h.len, fun k hk => by omega, fun k m hm hk => by omega⟩
  · obtain ⟨b, o, rfl⟩ := h.lit hn
    have e := ha b o rfl hn
    refine ⟨h.plain, h.there, h.len, fun k hk => ?_, fun k m hm hk => ?_⟩
    · rw [← h.get k hk]
      simp only [at1, rd1, e]
    · rw [← h.getN k m hm hk]
      simp only [atN, rdN, e]
theorem tmL_new {i : Nat} {xs : List Int} {x : Int} (h : xs[i]? = some x) : (tmL (i + 1) xs)[i]? = some (tm x) := by
  have hlt : i < xs.length := (List.getElem?_eq_some_iff.1 h).1
  rw [← (tmL_at h).2, List.getElem?_set_self (by rw [tmL_len]; exact hlt)]
theorem tmL_all {xs : List Int} (h : xs.length = 4) : tmL 4 xs = xs.map tm := by
  unfold tmL
  rw [List.take_of_length_le (by omega), List.drop_eq_nil_of_le (by omega), List.append_nil]
theorem cL_all {xa xb : List Int} (h1 : xa.length = 4) (h2 : xb.length = 4) : cL 4 xa xb = zipC (xa.map tm) (xb.map tm) := by
  unfold cL
  rw [List.take_of_length_le (by rw [zipC_len h1 h2]; exact Nat.le_refl 4)]
  simp
theorem zipC_in {xa xb : List Int} (la : ∀ z ∈ xa, Low z) (lb : ∀ z ∈ xb, Low z) : ∀ c ∈ zipC xa xb, i64In c.g ∧ i64In c.r := by
  intro c hc
  obtain ⟨i, hi⟩ := List.getElem?_of_mem hc
  unfold zipC at hi
  rw [List.getElem?_zipWith] at hi
  cases ha : xa[i]? with
  | none => rw [ha] at hi; simp at hi
  | some a =>
    cases hb : xb[i]? with
    | none => rw [ha, hb] at hi; simp at hi
    | some b =>
      rw [ha, hb] at hi
      obtain rfl : lowC a b = c := by simpa using hi
      exact ⟨low_in (la a (List.mem_of_getElem? ha)), low_in (lb b (List.mem_of_getElem? hb))⟩
def rw4 (l : List Int) : GObj := .row true 0 (l.map i64V) 0
def dbInv (b4 b5 b6 b7 b9 : Nat) (gs rs xa xb : List Int) (s : St) : Prop :=
  ∃ i : Nat, i ≤ 4 ∧ s.env 4 = .pointer (some ⟨b4, 0, none⟩) ∧ s.env 5 = .pointer (some ⟨b5, 0, none⟩) ∧ s.env 6 = .pointer (some ⟨b6, 0, none⟩) ∧ s.env 7 = .pointer (some ⟨b7, 0, none⟩) ∧ s.env 9 = .pointer (some ⟨b9, 0, none⟩) ∧ s.env 10 = .int .i64 i ∧
    s.heap b4 = some (.row true 0 ((tmL i gs).map i64V) 0) ∧ s.heap b5 = some (.row true 0 ((tmL i rs).map i64V) 0) ∧ s.heap b6 = some (.row true 0 ((tmL i xa).map i64V) 0) ∧ s.heap b7 = some (.row true 0 ((tmL i xb).map i64V) 0) ∧ s.heap b9 = some (.row true 0 (rowsC csC (cL i xa xb)) 0)
def db2Inv (b4 b5 b6 b7 : Nat) (a : Option Addr) (n c : Nat) (D : List Df) (gs rs xa xb : List Int) (s : St) : Prop :=
  ∃ i : Nat, i ≤ n ∧ s.env 4 = .pointer (some ⟨b4, 0, none⟩) ∧ s.env 5 = .pointer (some ⟨b5, 0, none⟩) ∧ s.env 6 = .pointer (some ⟨b6, 0, none⟩) ∧ s.env 7 = .pointer (some ⟨b7, 0, none⟩) ∧ s.env 11 = .slice a n c ∧ s.env 12 = .int .i64 i ∧
    s.heap b4 = some (.row true 0 (gs.map i64V) 0) ∧ s.heap b5 = some (.row true 0 (rs.map i64V) 0) ∧ s.heap b6 = some (.row true 0 ((upTo (D.take i) xa (·.g)).map i64V) 0) ∧ s.heap b7 = some (.row true 0 ((upTo (D.take i) xb (·.r)).map i64V) 0) ∧ SlA s.heap a n 3 (rowsC Df.cells D)
theorem map_set64 (l : List Int) (i : Nat) (z : Int) : (l.map i64V).set i (.int .i64 z) = (l.set i z).map i64V := by
  rw [List.map_set]; rfl
set_option maxHeartbeats 8000000 in
theorem diffsBack_l (gs rs xa xb : List Int) (H : Heap) (h1 : gs.length = 4) (h2 : rs.length = 4) (h3 : xa.length = 4) (h4 : xb.length = 4) (hg : ∀ z ∈ gs, i64In z) (hr : ∀ z ∈ rs, i64In z) (ha : ∀ z ∈ xa, i64In z) (hb : ∀ z ∈ xb, i64In z) :
    ECalls Tryd.prog 5 #[.agg (gs.map i64V).toArray, .agg (rs.map i64V).toArray, .agg (xa.map i64V).toArray, .agg (xb.map i64V).toArray] H fun v _ => v = .bool true := by
  refine ecalls_of_ewp (args := [_, _, _, _]) Tryd.func5 rfl rfl rfl (by simp [Tryd.ntmps5]) (by kernel_rfl) ?_
  simp (disch := first | omega | assumption | decide | (simp <;> omega) | fail) [facts, ]
  refine fresh_intro fun b4 hb4 => ?_
  have r4 := upd_same H b4 (.row true 0 (gs.map i64V) 0)
  generalize upd H b4 _ = H1 at *
  simp (disch := first | omega | assumption | decide | (simp <;> omega) | fail) [facts, ]
  refine fresh_intro fun b5 hb5 => ?_
  have n54 : b4 ≠ b5 := ne_of_fresh hb5 r4
  have r5 := upd_same H1 b5 (.row true 0 (rs.map i64V) 0)
  replace r4 := upd_other (o := .row true 0 (rs.map i64V) 0) hb5 r4
  generalize upd H1 b5 _ = H2 at *
  simp (disch := first | omega | assumption | decide | (simp <;> omega) | fail) [facts, ]
  refine fresh_intro fun b6 hb6 => ?_
  have n64 : b4 ≠ b6 := ne_of_fresh hb6 r4
  have n65 : b5 ≠ b6 := ne_of_fresh hb6 r5
  have r6 := upd_same H2 b6 (.row true 0 (xa.map i64V) 0)
  replace r4 := upd_other (o := .row true 0 (xa.map i64V) 0) hb6 r4
  replace r5 := upd_other (o := .row true 0 (xa.map i64V) 0) hb6 r5
  generalize upd H2 b6 _ = H3 at *
  simp (disch := first | omega | assumption | decide | (simp <;> omega) | fail) [facts, ]
  refine fresh_intro fun b7 hb7 => ?_
  have n74 : b4 ≠ b7 := ne_of_fresh hb7 r4
  have n75 : b5 ≠ b7 := ne_of_fresh hb7 r5
  have n76 : b6 ≠ b7 := ne_of_fresh hb7 r6
  have r7 := upd_same H3 b7 (.row true 0 (xb.map i64V) 0)
  replace r4 := upd_other (o := .row true 0 (xb.map i64V) 0) hb7 r4
  replace r5 := upd_other (o := .row true 0 (xb.map i64V) 0) hb7 r5
  replace r6 := upd_other (o := .row true 0 (xb.map i64V) 0) hb7 r6
  generalize upd H3 b7 _ = H4 at *
  simp (disch := first | omega | assumption | decide | (simp <;> omega) | fail) [facts, ]
  refine (known23_c H4).mono ?_
  rintro v H5 ⟨rfl, hle5⟩
  replace r4 := hle5 _ _ r4
  replace r5 := hle5 _ _ r5
  replace r6 := hle5 _ _ r6
  replace r7 := hle5 _ _ r7
  clear hle5 hb4 hb5 hb6 hb7
  simp (disch := first | omega | assumption | decide | (simp <;> omega) | fail) [facts, ]
  refine fresh_intro fun b9 hb9 => ?_
  have n94 : b4 ≠ b9 := ne_of_fresh hb9 r4
  have n95 : b5 ≠ b9 := ne_of_fresh hb9 r5
  have n96 : b6 ≠ b9 := ne_of_fresh hb9 r6
  have n97 : b7 ≠ b9 := ne_of_fresh hb9 r7
  have r9 := upd_same H5 b9 (.row true 0 (rowsC csC (cL 0 xa xb)) 0)
  replace r4 := upd_other (o := .row true 0 (rowsC csC (cL 0 xa xb)) 0) hb9 r4
  replace r5 := upd_other (o := .row true 0 (rowsC csC (cL 0 xa xb)) 0) hb9 r5
  replace r6 := upd_other (o := .row true 0 (rowsC csC (cL 0 xa xb)) 0) hb9 r6
  replace r7 := upd_other (o := .row true 0 (rowsC csC (cL 0 xa xb)) 0) hb9 r7
  have hz9 : rowsC csC (cL 0 xa xb) = [.int .i64 0, .int .i64 0, .int .i64 0, .int .i64 0, .int .i64 0, .int .i64 0, .int .i64 0, .int .i64 0, .int .i64 0, .int .i64 0, .int .i64 0, .int .i64 0, .int .i64 0, .int .i64 0, .int .i64 0, .int .i64 0] := rfl
  rw [← hz9]
  clear hz9
  generalize upd H5 b9 _ = H6 at *
  simp (disch := first | omega | assumption | decide | (simp <;> omega) | fail) [facts, ]
  obtain ⟨I, hI⟩ : ∃ I : St → Prop, I = (fun s => s.env 4 = .pointer (some ⟨b4, 0, none⟩) ∧ s.env 5 = .pointer (some ⟨b5, 0, none⟩) ∧ s.env 6 = .pointer (some ⟨b6, 0, none⟩) ∧ s.env 7 = .pointer (some ⟨b7, 0, none⟩) ∧ s.env 9 = .pointer (some ⟨b9, 0, none⟩) ∧
    s.heap b4 = some (.row true 0 ((gs.map tm).map i64V) 0) ∧ s.heap b5 = some (.row true 0 ((rs.map tm).map i64V) 0) ∧ s.heap b6 = some (.row true 0 ((xa.map tm).map i64V) 0) ∧ s.heap b7 = some (.row true 0 ((xb.map tm).map i64V) 0) ∧ s.heap b9 = some (.row true 0 (rowsC csC (zipC (xa.map tm) (xb.map tm))) 0)) := ⟨_, rfl⟩
  refine w_cutB I ?_ ?_
  · refine w_loop (dbInv b4 b5 b6 b7 b9 gs rs xa xb) (fun s => 4 - (intOf (s.env 10)).toNat) ?_ ?_
    · exact ⟨0, by decide, by simp, by simp, by simp, by simp, by simp, by simp, by simpa [tmL] using r4, by simpa [tmL] using r5, by simpa [tmL] using r6, by simpa [tmL] using r7, r9⟩
    clear r4 r5 r6 r7 r9
    rintro ⟨e, G⟩ ⟨i, hi, e4, e5, e6, e7, e9, e10, r4, r5, r6, r7, r9⟩
    simp only at e4 e5 e6 e7 e9 e10 r4 r5 r6 r7 r9
    by_cases hlt : i < 4
    · have hltI : (i : Int) < 4 := by omega
      obtain ⟨x4, hx4⟩ : ∃ x, gs[i]? = some x := ⟨_, List.getElem?_eq_getElem (by omega)⟩
      obtain ⟨x5, hx5⟩ : ∃ x, rs[i]? = some x := ⟨_, List.getElem?_eq_getElem (by omega)⟩
      obtain ⟨x6, hx6⟩ : ∃ x, xa[i]? = some x := ⟨_, List.getElem?_eq_getElem (by omega)⟩
      obtain ⟨x7, hx7⟩ : ∃ x, xb[i]? = some x := ⟨_, List.getElem?_eq_getElem (by omega)⟩
      have hcs := cL_set h3 h4 hlt hx6 hx7
      have hcl := cL_len h3 h4 hi
      obtain ⟨g4, s4⟩ := tmL_at hx4
      obtain ⟨g5, s5⟩ := tmL_at hx5
      obtain ⟨g6, s6⟩ := tmL_at hx6
      obtain ⟨g7, s7⟩ := tmL_at hx7
      have k4 : (tmL i gs).length = 4 := by rw [tmL_len, h1]
      have k5 : (tmL i rs).length = 4 := by rw [tmL_len, h2]
      have k6 : (tmL i xa).length = 4 := by rw [tmL_len, h3]
      have k7 : (tmL i xb).length = 4 := by rw [tmL_len, h4]
      have y6 := tmL_new hx6
      have y7 := tmL_new hx7
      have j6 : (tmL (i + 1) xa).length = 4 := by rw [tmL_len, h3]
      have j7 : (tmL (i + 1) xb).length = 4 := by rw [tmL_len, h4]
      generalize tmL i gs = l4 at r4 g4 s4 k4
      generalize tmL i rs = l5 at r5 g5 s5 k5
      generalize tmL i xa = l6 at r6 g6 s6 k6
      generalize tmL i xb = l7 at r7 g7 s7 k7
      obtain ⟨m4, hm4⟩ : ∃ m4, m4 = tmL (i + 1) gs := ⟨_, rfl⟩
      obtain ⟨m5, hm5⟩ : ∃ m4, m4 = tmL (i + 1) rs := ⟨_, rfl⟩
      obtain ⟨m6, hm6⟩ : ∃ m4, m4 = tmL (i + 1) xa := ⟨_, rfl⟩
      obtain ⟨m7, hm7⟩ : ∃ m4, m4 = tmL (i + 1) xb := ⟨_, rfl⟩
      rw [← hm4] at s4
      rw [← hm5] at s5
      rw [← hm6] at s6 y6 j6
      rw [← hm7] at s7 y7 j7
      unfold tm at s4 s5 s6 s7 y6 y7 hcs
      obtain ⟨t4, ht4⟩ : ∃ t, Int.tmod x4 100000 = t := ⟨_, rfl⟩
      obtain ⟨t5, ht5⟩ : ∃ t, Int.tmod x5 100000 = t := ⟨_, rfl⟩
      obtain ⟨t6, ht6⟩ : ∃ t, Int.tmod x6 100000 = t := ⟨_, rfl⟩
      obtain ⟨t7, ht7⟩ : ∃ t, Int.tmod x7 100000 = t := ⟨_, rfl⟩
      rw [ht4] at s4
      rw [ht5] at s5
      rw [ht6] at s6 y6 hcs
      rw [ht7] at s7 y7 hcs
      obtain ⟨q4, g4'⟩ := List.getElem?_eq_some_iff.1 g4
      obtain ⟨q5, g5'⟩ := List.getElem?_eq_some_iff.1 g5
      obtain ⟨q6, g6'⟩ := List.getElem?_eq_some_iff.1 g6
      obtain ⟨q7, g7'⟩ := List.getElem?_eq_some_iff.1 g7
      obtain ⟨_, y6'⟩ := List.getElem?_eq_some_iff.1 y6
      obtain ⟨_, y7'⟩ := List.getElem?_eq_some_iff.1 y7
      have z4 : (l4.map i64V).set i (.int .i64 t4) = m4.map i64V := by rw [map_set64, s4]
      have z5 : (l5.map i64V).set i (.int .i64 t5) = m5.map i64V := by rw [map_set64, s5]
      have z6 : (l6.map i64V).set i (.int .i64 t6) = m6.map i64V := by rw [map_set64, s6]
      have z7 : (l7.map i64V).set i (.int .i64 t7) = m7.map i64V := by rw [map_set64, s7]
      have p5 : (upd G b4 (.row true 0 (m4.map i64V) 0)) b5 = some (.row true 0 (l5.map i64V) 0) := by rw [upd_ne _ _ n54.symm]; exact r5
      have p6 : (upd G b4 (.row true 0 (m4.map i64V) 0)) b6 = some (.row true 0 (l6.map i64V) 0) := by rw [upd_ne _ _ n64.symm]; exact r6
      have p7 : (upd G b4 (.row true 0 (m4.map i64V) 0)) b7 = some (.row true 0 (l7.map i64V) 0) := by rw [upd_ne _ _ n74.symm]; exact r7
      have p6b : (upd (upd G b4 (.row true 0 (m4.map i64V) 0)) b5 (.row true 0 (m5.map i64V) 0)) b6 = some (.row true 0 (l6.map i64V) 0) := by rw [upd_ne _ _ n65.symm]; exact p6
      have p7b : (upd (upd G b4 (.row true 0 (m4.map i64V) 0)) b5 (.row true 0 (m5.map i64V) 0)) b7 = some (.row true 0 (l7.map i64V) 0) := by rw [upd_ne _ _ n75.symm]; exact p7
      have p7c : (upd (upd (upd G b4 (.row true 0 (m4.map i64V) 0)) b5 (.row true 0 (m5.map i64V) 0)) b6 (.row true 0 (m6.map i64V) 0)) b7 = some (.row true 0 (l7.map i64V) 0) := by rw [upd_ne _ _ n76.symm]; exact p7b
      obtain ⟨J, hJ⟩ : ∃ J : St → Prop, J = (fun s => s.env 4 = .pointer (some ⟨b4, 0, none⟩) ∧ s.env 5 = .pointer (some ⟨b5, 0, none⟩) ∧ s.env 6 = .pointer (some ⟨b6, 0, none⟩) ∧ s.env 7 = .pointer (some ⟨b7, 0, none⟩) ∧ s.env 9 = .pointer (some ⟨b9, 0, none⟩) ∧ s.env 10 = .int .i64 i ∧ s.heap = upd (upd (upd (upd G b4 (.row true 0 (m4.map i64V) 0)) b5 (.row true 0 (m5.map i64V) 0)) b6 (.row true 0 (m6.map i64V) 0)) b7 (.row true 0 (m7.map i64V) 0)) := ⟨_, rfl⟩
      simp (disch := first | omega | assumption | decide | (simp <;> omega) | fail) [facts, e10, hltI]
      refine w_cut J ?_ ?_
      · refine w_plan (P := Tryd.prog) (by simp [facts]) (opsP [0,1,2,3,4,5,6,7,8,9,12,13,16,17,20] (.both (opsP [10,11] (.both (opsP [14,15] (.both (opsP [18,19,21,22,23,24,25,26,27] .done) (opsP [21,22] (.both (opsP [18,19,23,24,25,26,27] .done) (opsP [23,24] (.both (opsP [18,19,25,26,27] .done) (opsP [25,18,19,26,27] .done))))))) (.both (opsP [18,19] (.both (opsP [14,15,21,22,23,24,25,26,27] .done) (opsP [21,22] (.both (opsP [14,15,23,24,25,26,27] .done) (opsP [23,14,15,24,25,26,27] .done))))) (opsP [21,22] (.both (opsP [14,15] (.both (opsP [18,19,23,24,25,26,27] .done) (opsP [23,24] (.both (opsP [18,19,25,26,27] .done) (opsP [25,18,19,26,27] .done))))) (.both (opsP [18,19] (.both (opsP [14,15,23,24,25,26,27] .done) (opsP [23,14,15,24,25,26,27] .done))) (opsP [23] (.both (opsP [14,15,24] (.both (opsP [18,19,25,26,27] .done) (opsP [25,18,19,26,27] .done))) (opsP [18,19,14,15,24,25,26,27] .done))))))))) (.both (opsP [14,15] (.both (opsP [10,11] (.both (opsP [18,19,21,22,23,24,25,26,27] .done) (opsP [21,22] (.both (opsP [18,19,23,24,25,26,27] .done) (opsP [23,24] (.both (opsP [18,19,25,26,27] .done) (opsP [25,18,19,26,27] .done))))))) (.both (opsP [18,19] (.both (opsP [10,11,21,22,23,24,25,26,27] .done) (opsP [21,10,11,22,23,24,25,26,27] .done))) (opsP [21] (.both (opsP [10,11,22] (.both (opsP [18,19,23,24,25,26,27] .done) (opsP [23,24] (.both (opsP [18,19,25,26,27] .done) (opsP [25,18,19,26,27] .done))))) (opsP [18,19,10,11,22,23,24,25,26,27] .done)))))) (.both (opsP [18,19] (.both (opsP [10,11] (.both (opsP [14,15,21,22,23,24,25,26,27] .done) (opsP [21,22] (.both (opsP [14,15,23,24,25,26,27] .done) (opsP [23,14,15,24,25,26,27] .done))))) (.both (opsP [14,15] (.both (opsP [10,11,21,22,23,24,25,26,27] .done) (opsP [21,10,11,22,23,24,25,26,27] .done))) (opsP [21] (.both (opsP [10,11,22] (.both (opsP [14,15,23,24,25,26,27] .done) (opsP [23,14,15,24,25,26,27] .done))) (opsP [14,15,10,11,22,23,24,25,26,27] .done)))))) (opsP [21] (.both (opsP [10,11,22] (.both (opsP [14,15] (.both (opsP [18,19,23,24,25,26,27] .done) (opsP [23,24] (.both (opsP [18,19,25,26,27] .done) (opsP [25,18,19,26,27] .done))))) (.both (opsP [18,19] (.both (opsP [14,15,23,24,25,26,27] .done) (opsP [23,14,15,24,25,26,27] .done))) (opsP [23] (.both (opsP [14,15,24] (.both (opsP [18,19,25,26,27] .done) (opsP [25,18,19,26,27] .done))) (opsP [18,19,14,15,24,25,26,27] .done)))))) (.both (opsP [14,15] (.both (opsP [10,11,22] (.both (opsP [18,19,23,24,25,26,27] .done) (opsP [23,24] (.both (opsP [18,19,25,26,27] .done) (opsP [25,18,19,26,27] .done))))) (opsP [18,19,10,11,22,23,24,25,26,27] .done))) (opsP [18,19] (.both (opsP [10,11,22] (.both (opsP [14,15,23,24,25,26,27] .done) (opsP [23,14,15,24,25,26,27] .done))) (opsP [14,15,10,11,22,23,24,25,26,27] .done)))))))))) ?_ ?_
        · decide +kernel
        simp (disch := first | omega | assumption | decide | (simp <;> omega) | fail) [facts, e4, e5, e6, e7, e10, r4, r5, r6, r7, p5, p6, p7, p6b, p7b, p7c, g4, g5, g6, g7, g4', g5', g6', g7', k4, k5, k6, k7, ht4, ht5, ht6, ht7, z4, z5, z6, z7, hltI]
        subst hJ
        try (repeat' apply And.intro)
        all_goals simp [e4, e5, e6, e7, e9, e10]
      have f4 : (upd (upd (upd (upd G b4 (.row true 0 (m4.map i64V) 0)) b5 (.row true 0 (m5.map i64V) 0)) b6 (.row true 0 (m6.map i64V) 0)) b7 (.row true 0 (m7.map i64V) 0)) b4 = some (.row true 0 (m4.map i64V) 0) := by rw [upd_ne _ _ n74, upd_ne _ _ n64, upd_ne _ _ n54, upd_same]
      have f5 : (upd (upd (upd (upd G b4 (.row true 0 (m4.map i64V) 0)) b5 (.row true 0 (m5.map i64V) 0)) b6 (.row true 0 (m6.map i64V) 0)) b7 (.row true 0 (m7.map i64V) 0)) b5 = some (.row true 0 (m5.map i64V) 0) := by rw [upd_ne _ _ n75, upd_ne _ _ n65, upd_same]
      have f6 : (upd (upd (upd (upd G b4 (.row true 0 (m4.map i64V) 0)) b5 (.row true 0 (m5.map i64V) 0)) b6 (.row true 0 (m6.map i64V) 0)) b7 (.row true 0 (m7.map i64V) 0)) b6 = some (.row true 0 (m6.map i64V) 0) := by rw [upd_ne _ _ n76, upd_same]
      have f7 : (upd (upd (upd (upd G b4 (.row true 0 (m4.map i64V) 0)) b5 (.row true 0 (m5.map i64V) 0)) b6 (.row true 0 (m6.map i64V) 0)) b7 (.row true 0 (m7.map i64V) 0)) b7 = some (.row true 0 (m7.map i64V) 0) := upd_same _ _ _
      have f9 : (upd (upd (upd (upd G b4 (.row true 0 (m4.map i64V) 0)) b5 (.row true 0 (m5.map i64V) 0)) b6 (.row true 0 (m6.map i64V) 0)) b7 (.row true 0 (m7.map i64V) 0)) b9 = some (.row true 0 (rowsC csC (cL i xa xb)) 0) := by rw [upd_ne _ _ n97.symm, upd_ne _ _ n96.symm, upd_ne _ _ n95.symm, upd_ne _ _ n94.symm]; exact r9
      clear e4 e5 e6 e7 e9 e10 r4 r5 r6 r7 r9 p5 p6 p7 p6b p7b p7c
      rintro ⟨e, G2⟩ hII
      subst hJ
      obtain ⟨e4, e5, e6, e7, e9, e10, hG⟩ := hII
      simp only at e4 e5 e6 e7 e9 e10 hG
      rw [← hG] at f4 f5 f6 f7 f9
      clear hG
      have hc16 : (rowsC csC (cL i xa xb)).length = 16 := by rw [rowsC_len csC4, hcl]
      have hsp := rowsC_set csC4 (cL i xa xb) i (lowC t6 t7) (by omega)
      rw [hcs] at hsp
      have hcsC : csC (lowC t6 t7) = [.int .i64 0, .int .i64 0, .int .i64 t6, .int .i64 t7] := rfl
      rw [hcsC] at hsp
      generalize rowsC csC (cL i xa xb) = yl at f9 hc16 hsp
      refine w_plan (P := Tryd.prog) (by simp [facts]) (opsP [0,1,2,3,4,5,6,7,8,9] .done) ?_ ?_
      · decide +kernel
      simp (disch := first | omega | assumption | decide | (simp <;> omega) | fail) [facts, e6, e7, e9, e10, f6, f7, f9, y6, y7, y6', y7', j6, j7, hltI, hc16, hsp]
      refine ⟨_, Heap.le_refl _, ⟨i + 1, by omega, by simp [e4], by simp [e5], by simp [e6], by simp [e7], by simp [e9], by simp, ?_, ?_, ?_, ?_, ?_⟩, by simp [intOf, e10]; omega⟩
      · rw [← hm4]; simp only [upd_ne _ _ n94]; exact f4
      · rw [← hm5]; simp only [upd_ne _ _ n95]; exact f5
      · rw [← hm6]; simp only [upd_ne _ _ n96]; exact f6
      · rw [← hm7]; simp only [upd_ne _ _ n97]; exact f7
      · exact upd_same _ _ _
    · have hltI : ¬ (i : Int) < 4 := by omega
      have hi4 : i = 4 := by omega
      subst hi4
      rw [tmL_all h1] at r4
      rw [tmL_all h2] at r5
      rw [tmL_all h3] at r6
      rw [tmL_all h4] at r7
      rw [cL_all h3 h4] at r9
      simp (disch := first | omega | assumption | decide | (simp <;> omega) | fail) [facts, e10]
      subst hI
      exact ⟨by simp [e4], by simp [e5], by simp [e6], by simp [e7], by simp [e9], r4, r5, r6, r7, r9⟩
  · clear r4 r5 r6 r7 r9
    rintro ⟨e, G⟩ hII
    subst hI
    obtain ⟨e4, e5, e6, e7, e9, r4, r5, r6, r7, r9⟩ := hII
    simp only at e4 e5 e6 e7 e9 r4 r5 r6 r7 r9
    have lg := low_map gs
    have lr := low_map rs
    have la := low_map xa
    have lb := low_map xb
    have j1 : (gs.map tm).length = 4 := by rw [List.length_map, h1]
    have j2 : (rs.map tm).length = 4 := by rw [List.length_map, h2]
    have j3 : (xa.map tm).length = 4 := by rw [List.length_map, h3]
    have j4 : (xb.map tm).length = 4 := by rw [List.length_map, h4]
    have hzl := zipC_len h3 h4
    clear hg hr ha hb h1 h2 h3 h4
    generalize gs.map tm = gs2 at *
    generalize rs.map tm = rs2 at *
    generalize xa.map tm = xa2 at *
    generalize xb.map tm = xb2 at *
    have kg : List.take 4 (gs2.map i64V) = gs2.map i64V := List.take_of_length_le (by simp [j1])
    have kr : List.take 4 (rs2.map i64V) = rs2.map i64V := List.take_of_length_le (by simp [j2])
    have co := fun H => diffs_o (zipC xa2 xb2) gs2 rs2 H hzl j1 j2 (zipC_in la lb) (fun z hz => low_in (lg z hz)) (fun z hz => low_in (lr z hz))
    have hDt := dfTo_take (zipC xa2 xb2) gs2 rs2 4
    have hDr := dfTo_rise (zipC xa2 xb2) gs2 rs2 4
    have hDn := fun d hd => dfTo_not0 la lb lg lr (k := 4) (d := d) hd
    have hDl := dfTo_len (zipC xa2 xb2) gs2 rs2 4
    have hup := upTo_g j3 j4 j1 j2 la lb lg lr
    obtain ⟨D, hD⟩ : ∃ D, D = dfTo (zipC xa2 xb2) gs2 rs2 4 := ⟨_, rfl⟩
    rw [← hD] at co hDt hDr hDn hDl
    unfold cssV notV at co
    obtain ⟨yl, hyl⟩ : ∃ yl, yl = rowsC csC (zipC xa2 xb2) := ⟨_, rfl⟩
    have yl16 : yl.length = 16 := by rw [hyl, rowsC_len csC4, hzl]
    have k16 : List.take 16 yl = yl := List.take_of_length_le (by omega)
    rw [← hyl] at r9
    simp only [← hyl] at co
    simp (disch := first | omega | assumption | decide | (simp <;> omega) | fail) [facts, e4, e5, e9, r4, r5, r9, k16, kg, kr]
    refine (co G).mono ?_
    rintro v G2 ⟨hle, ho⟩
    obtain ⟨a, c, rfl, hsl⟩ := ho.sl
    have hfr : ∀ b o, a = some ⟨b, o, none⟩ → 0 < D.length → b ≠ b6 ∧ b ≠ b7 := fun b o hab hn => by
      rcases ho with ⟨h0, _, _⟩ | ⟨b', o', cap, room, hb', hown⟩
      · omega
      · have his := hown.is
        rw [hab] at his
        injection his with his1 _ _
        injection his1 with his1
        injection his1 with his1 _ _
        subst his1
        exact ⟨fun he => (by rw [he, r6] at hb'; cases hb'), fun he => (by rw [he, r7] at hb'; cases hb')⟩
    replace r4 := hle _ _ r4
    replace r5 := hle _ _ r5
    replace r6 := hle _ _ r6
    replace r7 := hle _ _ r7
    clear ho co
    obtain ⟨n, hn⟩ : ∃ n, D.length = n := ⟨_, rfl⟩
    rw [hn] at hsl hfr hDl ⊢
    simp (disch := first | omega | assumption | decide | (simp <;> omega) | fail) [facts, ]
    refine w_loop (db2Inv b4 b5 b6 b7 a n c D gs2 rs2 xa2 xb2) (fun s => n - (intOf (s.env 12)).toNat) ?_ ?_
    · exact ⟨0, Nat.zero_le _, by simp [e4], by simp [e5], by simp [e6], by simp [e7], by simp, by simp, r4, r5, by simpa [upTo] using r6, by simpa [upTo] using r7, hsl⟩
    clear e4 e5 e6 e7 e9 r4 r5 r6 r7 r9 hsl
    rintro ⟨e, G⟩ ⟨i, hi, e4, e5, e6, e7, e11, e12, r4, r5, r6, r7, hsl⟩
    simp only at e4 e5 e6 e7 e11 e12 r4 r5 r6 r7 hsl
    by_cases hlt : i < n
    · have hltI : (i : Int) < (n : Int) := by omega
      obtain ⟨x, hx⟩ : ∃ x, D[i]? = some x := ⟨_, List.getElem?_eq_getElem (by omega)⟩
      obtain ⟨hx4, hxt⟩ := hDt i x hx
      have hxm := List.mem_of_getElem? hx
      obtain ⟨hx0, hxg, hxr⟩ := hDn x hxm
      obtain ⟨u1, u2⟩ := hup x.i (by omega)
      rw [← hxt] at u1 u2
      have hsn : D.take (i + 1) = D.take i ++ [x] := by rw [List.take_add_one, hx]; rfl
      obtain ⟨av, hav⟩ : ∃ v, xa2[x.i]? = some v := ⟨_, List.getElem?_eq_getElem (by omega)⟩
      obtain ⟨bv, hbv⟩ : ∃ v, xb2[x.i]? = some v := ⟨_, List.getElem?_eq_getElem (by omega)⟩
      have lav := la av (List.mem_of_getElem? hav)
      have lbv := lb bv (List.mem_of_getElem? hbv)
      have g6 : (upTo (D.take i) xa2 (·.g))[x.i]? = some av := by
        rw [u1, List.getElem?_append_right (by rw [List.length_take]; omega), List.length_take, Nat.min_eq_left (by omega), Nat.sub_self, List.getElem?_drop, Nat.add_zero, hav]
      have g7 : (upTo (D.take i) xb2 (·.r))[x.i]? = some bv := by
        rw [u2, List.getElem?_append_right (by rw [List.length_take]; omega), List.length_take, Nat.min_eq_left (by omega), Nat.sub_self, List.getElem?_drop, Nat.add_zero, hbv]
      have v6 : upTo (D.take (i + 1)) xa2 (·.g) = (upTo (D.take i) xa2 (·.g)).set x.i (av + x.g) := by rw [hsn, upTo_snoc, g6]; rfl
      have v7 : upTo (D.take (i + 1)) xb2 (·.r) = (upTo (D.take i) xb2 (·.r)).set x.i (bv + x.r) := by rw [hsn, upTo_snoc, g7]; rfl
      have k6 : (upTo (D.take i) xa2 (·.g)).length = 4 := by rw [upTo_len, j3]
      have k7 : (upTo (D.take i) xb2 (·.r)).length = 4 := by rw [upTo_len, j4]
      obtain ⟨m6, hm6⟩ : ∃ m, m = upTo (D.take (i + 1)) xa2 (·.g) := ⟨_, rfl⟩
      obtain ⟨m7, hm7⟩ : ∃ m, m = upTo (D.take (i + 1)) xb2 (·.r) := ⟨_, rfl⟩
      rw [← hm6] at v6
      rw [← hm7] at v7
      clear u1 u2 hxt
      generalize upTo (D.take i) xa2 (·.g) = l6 at r6 g6 v6 k6
      generalize upTo (D.take i) xb2 (·.r) = l7 at r7 g7 v7 k7
      have w6 : IntKind.wrap .i64 (av + x.g) = av + x.g := by rw [IntKind.wrap_i64]; unfold Low at lav; omega
      have w7 : IntKind.wrap .i64 (bv + x.r) = bv + x.r := by rw [IntKind.wrap_i64]; unfold Low at lbv; omega
      have z6 : (l6.map i64V).set x.i (.int .i64 (av + x.g)) = m6.map i64V := by rw [map_set64, v6]
      have z7 : (l7.map i64V).set x.i (.int .i64 (bv + x.r)) = m7.map i64V := by rw [map_set64, v7]
      obtain ⟨ab, ao, rfl⟩ := hsl.lit (by omega)
      obtain ⟨nf6, nf7⟩ := hfr ab ao rfl (by omega)
      have x0 : rd1U (G ab) (ao + i * 3) = some (.int .i64 x.i) := hsl.el1 df3 hx (j := 0) (by decide)
      have x1 : rd1U (G ab) (ao + i * 3 + 1) = some (.int .i64 x.g) := hsl.el1 df3 hx (j := 1) (by decide)
      have x2 : rd1U (G ab) (ao + i * 3 + 2) = some (.int .i64 x.r) := hsl.el1 df3 hx (j := 2) (by decide)
      have x2b : rd1U ((upd G b6 (.row true 0 (m6.map i64V) 0)) ab) (ao + i * 3 + 2) = some (.int .i64 x.r) := by rw [upd_ne _ _ nf6]; exact x2
      have p7 : (upd G b6 (.row true 0 (m6.map i64V) 0)) b7 = some (.row true 0 (l7.map i64V) 0) := by rw [upd_ne _ _ n76.symm]; exact r7
      have hprev : i = 0 ∨ ∃ (j : Nat) (y : Df), i = j + 1 ∧ D[j]? = some y ∧ y.i < x.i := by
        cases i with
        | zero => exact .inl rfl
        | succ j =>
          obtain ⟨y, hy⟩ : ∃ y, D[j]? = some y := ⟨_, List.getElem?_eq_getElem (by omega)⟩
          refine .inr ⟨j, y, rfl, hy, ?_⟩
          obtain ⟨q1, q2⟩ := List.getElem?_eq_some_iff.1 hy
          obtain ⟨q3, q4⟩ := List.getElem?_eq_some_iff.1 hx
          have := List.pairwise_iff_getElem.1 hDr j (j + 1) q1 q3 (by omega)
          rw [q2, q4] at this
          exact this
      obtain ⟨xc, hxc⟩ : ∃ xc, x.i = xc := ⟨_, rfl⟩
      obtain ⟨xg, hxg'⟩ : ∃ xc, x.g = xc := ⟨_, rfl⟩
      obtain ⟨xr, hxr'⟩ : ∃ xc, x.r = xc := ⟨_, rfl⟩
      rw [hxc] at x0 hx4 g6 g7 z6 z7
      simp only [hxc] at hprev
      rw [hxg'] at x1 w6 z6 hx0
      rw [hxr'] at x2 x2b w7 z7 hx0
      obtain ⟨_, g6'⟩ := List.getElem?_eq_some_iff.1 g6
      obtain ⟨_, g7'⟩ := List.getElem?_eq_some_iff.1 g7
      have hc0 : ¬ (xc : Int) < 0 := by omega
      have hc4 : ¬ (4 : Int) ≤ (xc : Int) := by omega
      have hc4b : (xc : Int) < 4 := by omega
      have hinv : ∀ e2 : Nat → Value, e2 4 = .pointer (some ⟨b4, 0, none⟩) → e2 5 = .pointer (some ⟨b5, 0, none⟩) → e2 6 = .pointer (some ⟨b6, 0, none⟩) → e2 7 = .pointer (some ⟨b7, 0, none⟩) → e2 11 = .slice (some ⟨ab, ao, none⟩) n c → e2 12 = .int .i64 ((i + 1 : Nat) : Int) → db2Inv b4 b5 b6 b7 (some ⟨ab, ao, none⟩) n c D gs2 rs2 xa2 xb2 ⟨e2, upd (upd G b6 (.row true 0 (m6.map i64V) 0)) b7 (.row true 0 (m7.map i64V) 0)⟩ := fun e2 a4 a5 a6 a7 a11 a12 => by
        refine ⟨i + 1, by omega, a4, a5, a6, a7, a11, a12, ?_, ?_, ?_, ?_, ?_⟩
        · simp only [upd_ne _ _ n74, upd_ne _ _ n64]; exact r4
        · simp only [upd_ne _ _ n75, upd_ne _ _ n65]; exact r5
        · rw [← hm6]; simp only [upd_ne _ _ n76]; exact upd_same _ _ _
        · rw [← hm7]; exact upd_same _ _ _
        · refine hsl.off2 fun b o hb _ => ?_
          simp only [Option.some.injEq, Addr.mk.injEq] at hb
          obtain ⟨rfl, _, _⟩ := hb
          simp only [upd_ne _ _ nf7, upd_ne _ _ nf6]
      rcases hprev with h0 | ⟨j, y, hj, hy, hyx⟩
      · have hp0 : ¬ (0 : Int) < (i : Int) := by omega
        have hp1 : ¬ 0 < i := by omega
        by_cases hg0 : xg = 0
        · have hr0 : ¬ xr = 0 := fun h => hx0 ⟨hg0, h⟩
          simp (disch := first | omega | assumption | decide | (simp <;> omega) | fail) [facts, e11, e12, hltI, x0, x1, x2, hc0, hc4, hc4b, hp0, hp1, eq_true hg0, hr0]
          refine w_plan (P := Tryd.prog) (by simp [facts]) (opsP [0,1,2,3,4,5,6,7,8,9,10,11,12,14,15,16,17,20] (.both (opsP [13] (.both (opsP [18,19,21,22,23] .done) (opsP [21,18,19,22,23] .done))) (.both (opsP [18] (.both (opsP [13,19,21,22,23] .done) (opsP [21,13,19,22,23] .done))) (opsP [21] (.both (opsP [13,18,19,22,23] .done) (opsP [18,13,19,22,23] .done)))))) ?_ ?_
          · decide +kernel
          simp (disch := first | omega | assumption | decide | (simp <;> omega) | fail) [facts, e6, e7, e11, e12, hltI, r6, r7, p7, g6, g6', g7, g7', k6, k7, x1, x2, x2b, w6, w7, z6, z7, hc4b]
          try (repeat' apply And.intro)
          all_goals exact ⟨_, Heap.le_refl _, hinv _ (by simp [e4]) (by simp [e5]) (by simp [e6]) (by simp [e7]) (by simp [e11]) (by simp), by simp [intOf, e12]; omega⟩
        · simp (disch := first | omega | assumption | decide | (simp <;> omega) | fail) [facts, e11, e12, hltI, x0, x1, x2, hc0, hc4, hc4b, hp0, hp1, hg0]
          refine w_plan (P := Tryd.prog) (by simp [facts]) (opsP [0,1,2,3,4,5,6,7,8,9,10,11,12,14,15,16,17,20] (.both (opsP [13] (.both (opsP [18,19,21,22,23] .done) (opsP [21,18,19,22,23] .done))) (.both (opsP [18] (.both (opsP [13,19,21,22,23] .done) (opsP [21,13,19,22,23] .done))) (opsP [21] (.both (opsP [13,18,19,22,23] .done) (opsP [18,13,19,22,23] .done)))))) ?_ ?_
          · decide +kernel
          simp (disch := first | omega | assumption | decide | (simp <;> omega) | fail) [facts, e6, e7, e11, e12, hltI, r6, r7, p7, g6, g6', g7, g7', k6, k7, x1, x2, x2b, w6, w7, z6, z7, hc4b]
          try (repeat' apply And.intro)
          all_goals exact ⟨_, Heap.le_refl _, hinv _ (by simp [e4]) (by simp [e5]) (by simp [e6]) (by simp [e7]) (by simp [e11]) (by simp), by simp [intOf, e12]; omega⟩
      · have hp0 : (0 : Int) < (i : Int) := by omega
        have hp1 : 0 < i := by omega
        have hj1 : (i : Int) - 1 = (j : Int) := by omega
        have hjn : (j : Int) < (n : Int) := by omega
        have y0 : rd1U (G ab) (ao + j * 3) = some (.int .i64 y.i) := hsl.el1 df3 hy (j := 0) (by decide)
        have hyx2 : ¬ (xc : Int) ≤ (y.i : Int) := by omega
        by_cases hg0 : xg = 0
        · have hr0 : ¬ xr = 0 := fun h => hx0 ⟨hg0, h⟩
          simp (disch := first | omega | assumption | decide | (simp <;> omega) | fail) [facts, e11, e12, hltI, x0, x1, x2, hc0, hc4, hc4b, hp0, hp1, hj1, hjn, y0, hyx2, eq_true hg0, hr0]
          refine w_plan (P := Tryd.prog) (by simp [facts]) (opsP [0,1,2,3,4,5,6,7,8,9,10,11,12,14,15,16,17,20] (.both (opsP [13] (.both (opsP [18,19,21,22,23] .done) (opsP [21,18,19,22,23] .done))) (.both (opsP [18] (.both (opsP [13,19,21,22,23] .done) (opsP [21,13,19,22,23] .done))) (opsP [21] (.both (opsP [13,18,19,22,23] .done) (opsP [18,13,19,22,23] .done)))))) ?_ ?_
          · decide +kernel
          simp (disch := first | omega | assumption | decide | (simp <;> omega) | fail) [facts, e6, e7, e11, e12, hltI, r6, r7, p7, g6, g6', g7, g7', k6, k7, x1, x2, x2b, w6, w7, z6, z7, hc4b]
          try (repeat' apply And.intro)
          all_goals exact ⟨_, Heap.le_refl _, hinv _ (by simp [e4]) (by simp [e5]) (by simp [e6]) (by simp [e7]) (by simp [e11]) (by simp), by simp [intOf, e12]; omega⟩
        · simp (disch := first | omega | assumption | decide | (simp <;> omega) | fail) [facts, e11, e12, hltI, x0, x1, x2, hc0, hc4, hc4b, hp0, hp1, hj1, hjn, y0, hyx2, hg0]
          refine w_plan (P := Tryd.prog) (by simp [facts]) (opsP [0,1,2,3,4,5,6,7,8,9,10,11,12,14,15,16,17,20] (.both (opsP [13] (.both (opsP [18,19,21,22,23] .done) (opsP [21,18,19,22,23] .done))) (.both (opsP [18] (.both (opsP [13,19,21,22,23] .done) (opsP [21,13,19,22,23] .done))) (opsP [21] (.both (opsP [13,18,19,22,23] .done) (opsP [18,13,19,22,23] .done)))))) ?_ ?_
          · decide +kernel
          simp (disch := first | omega | assumption | decide | (simp <;> omega) | fail) [facts, e6, e7, e11, e12, hltI, r6, r7, p7, g6, g6', g7, g7', k6, k7, x1, x2, x2b, w6, w7, z6, z7, hc4b]
          try (repeat' apply And.intro)
          all_goals exact ⟨_, Heap.le_refl _, hinv _ (by simp [e4]) (by simp [e5]) (by simp [e6]) (by simp [e7]) (by simp [e11]) (by simp), by simp [intOf, e12]; omega⟩
    · have hltI : ¬ (i : Int) < (n : Int) := by omega
      have hin : i = n := by omega
      subst hin
      have htk : D.take i = D := List.take_of_length_le (by omega)
      obtain ⟨u1, u2⟩ := hup 4 (Nat.le_refl 4)
      rw [← hD, List.take_of_length_le (by omega), List.drop_eq_nil_of_le (by omega), List.append_nil] at u1 u2
      rw [htk, u1] at r6
      rw [htk, u2] at r7
      have q1 := eq4 j1
      have q2 := eq4 j2
      simp (disch := first | omega | assumption | decide | (simp <;> omega) | fail) [facts, e4, e5, e6, e7, e11, e12, hltI, r4, r5, r6, r7, kg, kr, q1, q2]
      exact ⟨_, Heap.le_refl _⟩
end Go.Proofs.YtfpighmafofoeaaDoor.GL
