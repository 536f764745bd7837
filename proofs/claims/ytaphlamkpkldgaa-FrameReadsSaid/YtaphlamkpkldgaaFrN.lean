/- Layer 4: what is written is read. -/
import Derived.Test.YtaphlamkpkldgaaFrM
namespace Go.Proofs.Ytaphlamkpkldgaa.GL
open Go Go.RowKit
set_option maxRecDepth 10000
set_option pp.deepTerms.threshold 8
set_option pp.maxSteps 3000
set_option linter.unusedSimpArgs false
set_option linter.unusedVariables false

theorem bytesL_succ (v m : Nat) : bytesL v (m + 1) = byteAt v m :: bytesL v m := by
  unfold bytesL
  rw [List.range_succ_eq_map, List.map_cons, List.map_map]
  congr 1
  apply List.map_congr_left
  intro j _
  simp only [Function.comp]
  congr 1
  omega
theorem byteAt_nat (v i : Nat) (h : i < 8) : (byteAt v i).toNat = v / 256 ^ i % 256 := by
  unfold byteAt
  rw [if_pos h, UInt8.toNat_ofNat', Nat.pow_mul]
theorem numGo_bytes (v : Nat) : ∀ (m acc : Nat), m ≤ 8 → acc * 256 ^ m < 2 ^ 64 → numGo (bytesL v m) acc = some (acc * 256 ^ m + v % 256 ^ m)
  | 0, acc, _, _ => by simp [bytesL, numGo, Nat.mod_one]
  | m + 1, acc, hm, ha => by
    have hp : 0 < 256 ^ m := Nat.pow_pos (by decide)
    have hpow : 256 ^ (m + 1) = 256 ^ m * 256 := Nat.pow_succ ..
    rw [hpow] at ha ⊢
    have h1 : acc < 2 ^ 56 := by
      have h2 : acc * 256 ≤ acc * (256 ^ m * 256) := Nat.mul_le_mul_left _ (Nat.le_mul_of_pos_left _ hp)
      omega
    rw [bytesL_succ]
    simp only [numGo]
    rw [if_neg (by omega), byteAt_nat v m (by omega)]
    have hb : v / 256 ^ m % 256 < 256 := Nat.mod_lt _ (by decide)
    have hmod : v % (256 ^ m * 256) = v % 256 ^ m + 256 ^ m * (v / 256 ^ m % 256) := Nat.mod_mul
    have hlt : (acc * 256 + v / 256 ^ m % 256) * 256 ^ m < 2 ^ 64 := by
      have e : 2 ^ 64 = 256 ^ (m + 1) * 256 ^ (7 - m) := by
        rw [← Nat.pow_add, show m + 1 + (7 - m) = 8 by omega]
      have hq : 0 < 256 ^ (7 - m) := Nat.pow_pos (by decide)
      rw [hpow] at e
      have h3 : acc < 256 ^ (7 - m) := by
        rw [e, Nat.mul_comm] at ha
        exact Nat.lt_of_mul_lt_mul_left ha
      calc (acc * 256 + v / 256 ^ m % 256) * 256 ^ m < (acc * 256 + 256) * 256 ^ m := Nat.mul_lt_mul_of_pos_right (by omega) hp
        _ = (acc + 1) * (256 ^ m * 256) := by rw [show acc * 256 + 256 = (acc + 1) * 256 by omega, Nat.mul_assoc, Nat.mul_comm 256]
        _ ≤ 256 ^ (7 - m) * (256 ^ m * 256) := Nat.mul_le_mul_right _ h3
        _ = 2 ^ 64 := by rw [e, Nat.mul_comm]
    rw [numGo_bytes v m _ (by omega) hlt, hmod, Nat.add_mul, Nat.mul_assoc acc 256, Nat.mul_comm 256 (256 ^ m), Nat.mul_comm (v / 256 ^ m % 256)]
    congr 1
    omega
theorem numB_bytes (v m : Nat) (h : m ≤ 8) : numB (bytesL v m) = some (v % 256 ^ m) := by
  have := numGo_bytes v m 0 h (by simp)
  simpa [numB] using this

theorem numN_bytes (v m : Nat) (h : m ≤ 8) (hv : v < 256 ^ m) : numN (bytesL v m) = v := by
  unfold numN
  rw [numB_bytes v m h, Nat.mod_eq_of_lt hv]; rfl
theorem mid3 {α : Type} {A B C X : List α} {i k : Nat} (e : X = A ++ (B ++ C)) (hi : A.length = i) (hk : B.length = k) : (X.drop i).take k = B := by
  subst e hi hk; simp
theorem bodyB_eq (r : RZ) : bodyB r = [kB r] ++ (bytesL r.t.toNat 2 ++ (bytesL r.s.toNat 4 ++ (bytesL r.am.toNat 4 ++ (catI r.ns.l ++ (catI r.rs.l ++ (catI r.ls.l ++ ([UInt8.ofNat r.pan.size] ++ r.pan.data.toList))))))) := by
  simp [bodyB, headB, catN, List.append_assoc]
theorem catI_l (x : NZ) : catI x.l = bytesL x.a.toNat 2 ++ (bytesL x.b.toNat 2 ++ (bytesL x.c.toNat 2 ++ bytesL x.d.toNat 2)) := by
  simp [catI, NZ.l]
theorem catI_8 (x : NZ) : (catI x.l).length = 8 := by rw [catI_len]; rfl
theorem nzAt_cat (x : NZ) (h : x.ok = true) (rest : List UInt8) : nzAt (catI x.l ++ rest) = x := by
  have ha := inC_of h (z := x.a) (by simp [NZ.l])
  have hb := inC_of h (z := x.b) (by simp [NZ.l])
  have hc := inC_of h (z := x.c) (by simp [NZ.l])
  have hd := inC_of h (z := x.d) (by simp [NZ.l])
  rw [catI_l]
  have e0 : ((bytesL x.a.toNat 2 ++ (bytesL x.b.toNat 2 ++ (bytesL x.c.toNat 2 ++ bytesL x.d.toNat 2)) ++ rest)).take 2 = bytesL x.a.toNat 2 := by
    have := mid3 (A := []) (B := bytesL x.a.toNat 2) (C := (bytesL x.b.toNat 2 ++ (bytesL x.c.toNat 2 ++ bytesL x.d.toNat 2)) ++ rest) (i := 0) (k := 2) (X := (bytesL x.a.toNat 2 ++ (bytesL x.b.toNat 2 ++ (bytesL x.c.toNat 2 ++ bytesL x.d.toNat 2)) ++ rest)) (by simp) rfl (bytesL_len _ _)
    simpa using this
  have e1 := mid3 (A := bytesL x.a.toNat 2) (B := bytesL x.b.toNat 2) (C := (bytesL x.c.toNat 2 ++ bytesL x.d.toNat 2) ++ rest) (i := 2) (k := 2) (X := (bytesL x.a.toNat 2 ++ (bytesL x.b.toNat 2 ++ (bytesL x.c.toNat 2 ++ bytesL x.d.toNat 2)) ++ rest)) (by simp) (bytesL_len _ _) (bytesL_len _ _)
  have e2 := mid3 (A := bytesL x.a.toNat 2 ++ bytesL x.b.toNat 2) (B := bytesL x.c.toNat 2) (C := bytesL x.d.toNat 2 ++ rest) (i := 4) (k := 2) (X := (bytesL x.a.toNat 2 ++ (bytesL x.b.toNat 2 ++ (bytesL x.c.toNat 2 ++ bytesL x.d.toNat 2)) ++ rest)) (by simp) (by simp [bytesL_len]) (bytesL_len _ _)
  have e3 := mid3 (A := bytesL x.a.toNat 2 ++ bytesL x.b.toNat 2 ++ bytesL x.c.toNat 2) (B := bytesL x.d.toNat 2) (C := rest) (i := 6) (k := 2) (X := (bytesL x.a.toNat 2 ++ (bytesL x.b.toNat 2 ++ (bytesL x.c.toNat 2 ++ bytesL x.d.toNat 2)) ++ rest)) (by simp) (by simp [bytesL_len]) (bytesL_len _ _)
  unfold nzAt
  rw [e0, e1, e2, e3, numN_bytes _ 2 (by decide) (by omega), numN_bytes _ 2 (by decide) (by omega), numN_bytes _ 2 (by decide) (by omega), numN_bytes _ 2 (by decide) (by omega)]
  obtain ⟨a, b, c, d⟩ := x
  simp only at ha hb hc hd ⊢
  rw [Int.toNat_of_nonneg ha.1, Int.toNat_of_nonneg hb.1, Int.toNat_of_nonneg hc.1, Int.toNat_of_nonneg hd.1]
theorem drop_at {α : Type} {A C X : List α} {i : Nat} (e : X = A ++ C) (hi : A.length = i) : X.drop i = C := by subst e hi; simp
theorem recOf_body (r : RZ) (hr : r.right = true) (hw : r.wf) : recOf (bodyB r) = r ∧ numN (((bodyB r).drop 35).take 1) = r.pan.size := by
  obtain ⟨⟨t1, t2⟩, ⟨s1', s2'⟩⟩ := hw
  have hrr := hr
  simp only [RZ.right, Bool.and_eq_true, decide_eq_true_eq] at hrr
  obtain ⟨⟨⟨⟨⟨⟨⟨⟨k1, k2⟩, k3⟩, k4⟩, k5⟩, k6⟩, k7⟩, k8⟩, k9⟩ := hrr
  have he := bodyB_eq r
  have l2 := bytesL_len r.t.toNat 2
  have l4 := bytesL_len r.s.toNat 4
  have l4' := bytesL_len r.am.toNat 4
  have c1 := catI_8 r.ns
  have c2 := catI_8 r.rs
  have c3 := catI_8 r.ls
  generalize hkB : kB r = kb at *
  have hkb : (kb.toNat : Int) = r.kind := by
    rw [← hkB]; unfold kB; rw [UInt8.toNat_ofNat']; omega
  have e0 : (bodyB r).take 1 = [kb] := by rw [he]; rfl
  have e1 := mid3 (i := 1) (k := 2) (A := [kb]) he rfl l2
  have e2 := mid3 (i := 3) (k := 4) (A := [kb] ++ bytesL r.t.toNat 2) (B := bytesL r.s.toNat 4) (X := bodyB r) (by rw [he, List.append_assoc]) (by simp [l2]) l4
  have e3 := mid3 (i := 7) (k := 4) (A := [kb] ++ bytesL r.t.toNat 2 ++ bytesL r.s.toNat 4) (B := bytesL r.am.toNat 4) (X := bodyB r) (by rw [he]; simp only [List.append_assoc] <;> rfl) (by simp [l2, l4]) l4'
  have e4 := drop_at (i := 11) (A := [kb] ++ bytesL r.t.toNat 2 ++ bytesL r.s.toNat 4 ++ bytesL r.am.toNat 4) (X := bodyB r) (by rw [he]; simp only [List.append_assoc] <;> rfl) (by simp [l2, l4, l4'])
  have e5 := drop_at (i := 19) (A := [kb] ++ bytesL r.t.toNat 2 ++ bytesL r.s.toNat 4 ++ bytesL r.am.toNat 4 ++ catI r.ns.l) (X := bodyB r) (by rw [he]; simp only [List.append_assoc] <;> rfl) (by simp [l2, l4, l4', c1])
  have e6 := drop_at (i := 27) (A := [kb] ++ bytesL r.t.toNat 2 ++ bytesL r.s.toNat 4 ++ bytesL r.am.toNat 4 ++ catI r.ns.l ++ catI r.rs.l) (X := bodyB r) (by rw [he]; simp only [List.append_assoc] <;> rfl) (by simp [l2, l4, l4', c1, c2])
  have e7 := mid3 (i := 35) (k := 1) (A := [kb] ++ bytesL r.t.toNat 2 ++ bytesL r.s.toNat 4 ++ bytesL r.am.toNat 4 ++ catI r.ns.l ++ catI r.rs.l ++ catI r.ls.l) (B := [UInt8.ofNat r.pan.size]) (X := bodyB r) (by rw [he]; simp only [List.append_assoc] <;> rfl) (by simp [l2, l4, l4', c1, c2, c3]) rfl
  have e8 := drop_at (i := 36) (A := [kb] ++ bytesL r.t.toNat 2 ++ bytesL r.s.toNat 4 ++ bytesL r.am.toNat 4 ++ catI r.ns.l ++ catI r.rs.l ++ catI r.ls.l ++ [UInt8.ofNat r.pan.size]) (C := r.pan.data.toList) (X := bodyB r) (by rw [he]; simp only [List.append_assoc] <;> rfl) (by simp [l2, l4, l4', c1, c2, c3])
  refine ⟨?_, ?_⟩
  · unfold recOf
    rw [e0, e1, e2, e3, e4, e5, e6, e8, numN_one, nzAt_cat r.ns k7, nzAt_cat r.rs k8, nzAt_cat r.ls k9, numN_bytes _ 2 (by decide) (by omega), numN_bytes _ 4 (by decide) (by omega), numN_bytes _ 4 (by decide) (by omega), mkS_of, hkb, Int.toNat_of_nonneg t1, Int.toNat_of_nonneg s1', Int.toNat_of_nonneg k5]
  · rw [e7, numN_one, UInt8.toNat_ofNat']; omega
/-- What is written is read, whatever stands behind. -/
theorem read_put (r : RZ) (hr : r.right = true) (hw : r.wf) (more : List UInt8) : readZ (putB r ++ more) = (r, (putB r).length, 0) := by
  obtain ⟨h1, h2⟩ := recOf_body r hr hw
  have hbl := bodyB_len r
  have hp : r.pan.size ≤ 19 := by
    simp only [RZ.right, Bool.and_eq_true, decide_eq_true_eq] at hr
    exact hr.1.1.1.1.1.1.2
  have hpl : (putB r).length = 6 + (bodyB r).length := by simp [putB, bytesL_len]; omega
  have e : putB r ++ more = 165 :: UInt8.ofNat (bodyB r).length :: (bodyB r ++ (bytesL (crcN (bodyB r)) 4 ++ more)) := by simp [putB, List.append_assoc]
  have hn : (UInt8.ofNat (bodyB r).length).toNat = (bodyB r).length := by rw [UInt8.toNat_ofNat']; omega
  have hx : bodyOf (165 :: UInt8.ofNat (bodyB r).length :: (bodyB r ++ (bytesL (crcN (bodyB r)) 4 ++ more))) (bodyB r).length = bodyB r := by
    unfold bodyOf; simp
  have hc : ((165 :: UInt8.ofNat (bodyB r).length :: (bodyB r ++ (bytesL (crcN (bodyB r)) 4 ++ more))).drop (2 + (bodyB r).length)).take 4 = bytesL (crcN (bodyB r)) 4 :=
    mid3 (A := 165 :: UInt8.ofNat (bodyB r).length :: bodyB r) (C := more) (by simp) (by simp; omega) (bytesL_len _ _)
  have hlen : (165 :: UInt8.ofNat (bodyB r).length :: (bodyB r ++ (bytesL (crcN (bodyB r)) 4 ++ more))).length = 6 + (bodyB r).length + more.length := by simp [bytesL_len]; omega
  rw [e]
  unfold readZ
  simp only [hn, hx, hc, hlen, h1, h2, numN_bytes _ 4 (by decide) (crcN_lt (bodyB r))]
  rw [if_neg (by
    have : (165 : UInt8).toNat = 165 := rfl
    omega), if_neg (by simp [hr]; omega), if_neg (by simp), hpl]
end Go.Proofs.Ytaphlamkpkldgaa.GL
