/- Layer 20: records of numbers. -/
import Derived.Test.YthaggpicjpkjiaaGreatBlA
namespace Go.Proofs.YthaggpicjpkjiaaGreat.GL
open Go Go.RowKit
open St (Txn txnL txnV zeroT RightT OkT Rec recV)
open Ca (S4 flat setV OkS)
set_option maxRecDepth 10000
set_option pp.deepTerms.threshold 8
set_option pp.maxSteps 3000
set_option linter.unusedSimpArgs false
set_option linter.unusedVariables false

def recN (kind k stan am : Nat) : Rec :=
  let s := recS kind k stan am
  ⟨s.kind, s.t, s.s, if kind % 9 = 0 then panL (k % 4) else [], s.am, s.ns.a, s.ns.b, s.ns.c, s.ns.d, s.rs.a, s.rs.b, s.rs.c, s.rs.d, s.ls.a, s.ls.b, s.ls.c, s.ls.d⟩
theorem recN_pan (kind k stan am : Nat) : mkS (recN kind k stan am).pan = (recS kind k stan am).pan := by
  unfold recN recS
  simp only
  split <;> rfl
theorem recN_len (kind k stan am : Nat) : (recN kind k stan am).pan.length ≤ 16 := by
  unfold recN
  simp only
  split
  · unfold panL
    repeat' split
    all_goals decide
  · simp
theorem recN_term (kind k stan am : Nat) : (recN kind k stan am).term = ((k % 3 : Nat) : Int) := rfl
theorem recN_kind (kind k stan am : Nat) : (recN kind k stan am).kind = ((kind % 9 + 1 : Nat) : Int) := rfl
theorem recN_c (kind k stan am : Nat) (h1 : kind < 256) (h2 : k < 256) (h3 : stan < 256) (h4 : am < 65536) (H : Heap) :
    ECalls Tryz.prog 31 #[.int .u8 kind, .int .u8 k, .int .u8 stan, .int .u16 am] H fun v H' => v = recV (recN kind k stan am) ∧ Heap.le H H' := by
  refine (rec_c kind k stan am h1 h2 h3 h4 H _ rfl).mono ?_
  rintro v H' ⟨rfl, hle⟩
  refine ⟨?_, hle⟩
  unfold recV
  rw [recN_pan]
  rfl
/-- A record of numbers, or a raw one. -/
structure In20 where
  kind : Nat
  k : Nat
  stan : Nat
  am : Nat
  raw : Rec
structure In20.wf (x : In20) : Prop where
  kind : x.kind < 256
  k : x.k < 256
  stan : x.stan < 256
  am : x.am < 65536
  term : 0 ≤ x.raw.term ∧ x.raw.term ≤ 65535
def In20.cells (x : In20) : List Value := [.int .u8 x.kind, .int .u8 x.k, .int .u8 x.stan, .int .u16 x.am] ++ recL x.raw
theorem in21 (x : In20) : x.cells.length = 21 := rfl
def recIn (x : In20) : Rec :=
  if 250 ≤ x.kind then x.raw else if x.kind % 9 = 5 then { recN x.kind x.k x.stan x.am with amount := ((x.am % 700 : Nat) : Int) } else recN x.kind x.k x.stan x.am
set_option maxHeartbeats 400000 in
theorem inrec_c (x : In20) (hx : x.wf) (H : Heap) : ECalls Tryz.prog 9 #[.agg x.cells.toArray] H fun v H' => v = recV (recIn x) ∧ Heap.le H H' := by
  refine ecalls_of_ewp (args := [_]) Tryz.func9 rfl rfl rfl (by simp [Tryz.ntmps9]) (by kernel_rfl) ?_
  obtain ⟨kind, k, stan, am, raw⟩ := x
  obtain ⟨h1, h2, h3, h4, _⟩ := hx
  simp only at h1 h2 h3 h4
  have er : recV raw = .agg (recL raw).toArray := rfl
  obtain ⟨res, hres⟩ : ∃ res : Rec, recIn ⟨kind, k, stan, am, raw⟩ = res := ⟨_, rfl⟩
  rw [hres]
  unfold recIn at hres
  simp only at hres
  have hc := fun H => recN_c kind k stan am h1 h2 h3 h4 H
  obtain ⟨r, hr⟩ : ∃ r, r = recN kind k stan am := ⟨_, rfl⟩
  have hrk : r.kind = ((kind % 9 + 1 : Nat) : Int) := by rw [hr]; rfl
  rw [← hr] at hc hres
  unfold In20.cells
  simp only
  obtain ⟨rl, hrl⟩ : ∃ rl, rl = recL raw := ⟨_, rfl⟩
  rw [← hrl] at er ⊢
  have rl17 : rl.length = 17 := by rw [hrl]; rfl
  have rl1 : rl.all (·.oneCell') = true := by rw [hrl]; rfl
  have k17 : List.take 17 rl = rl := List.take_of_length_le (by omega)
  obtain ⟨cl, hcl⟩ : ∃ cl, cl = [Value.int .u8 kind, .int .u8 k, .int .u8 stan, .int .u16 am] ++ rl := ⟨_, rfl⟩
  rw [← hcl]
  have c0 : cl[0]? = some (.int .u8 kind) := by rw [hcl]; rfl
  have c1 : cl[1]? = some (.int .u8 k) := by rw [hcl]; rfl
  have c2 : cl[2]? = some (.int .u8 stan) := by rw [hcl]; rfl
  have c3 : cl[3]? = some (.int .u16 am) := by rw [hcl]; rfl
  have c4 : List.take 17 (List.drop 4 cl) = rl := by rw [hcl]; exact k17
  have cl21 : cl.length = 21 := by rw [hcl, List.length_append, rl17]; rfl
  obtain ⟨_, c0b⟩ := List.getElem?_eq_some_iff.1 c0
  obtain ⟨_, c1b⟩ := List.getElem?_eq_some_iff.1 c1
  obtain ⟨_, c2b⟩ := List.getElem?_eq_some_iff.1 c2
  obtain ⟨_, c3b⟩ := List.getElem?_eq_some_iff.1 c3
  have hsp : splice [.int .i64 0, .int .u16 0, .int .u32 0, .string (mkS []), .int .i64 0, .int .i64 0, .int .i64 0, .int .i64 0, .int .i64 0, .int .i64 0, .int .i64 0, .int .i64 0, .int .i64 0, .int .i64 0, .int .i64 0, .int .i64 0, .int .i64 0] 0 rl = rl := splice_all (by rw [rl17]; rfl)
  simp (disch := first | omega | assumption | decide | (simp <;> omega) | fail) [facts, ]
  refine fresh_intro fun b1 hb1 => ?_
  have r1 := upd_same H b1 (.row true 0 cl 0)
  have hl1 := le_upd (.row true 0 cl 0) hb1
  generalize upd H b1 _ = H1 at *
  simp (disch := first | omega | assumption | decide | (simp <;> omega) | fail) [facts, ]
  refine fresh_intro fun b2 hb2 => ?_
  have r1b := upd_other (o := .row true 0 [.int .i64 0, .int .u16 0, .int .u32 0, .string (mkS []), .int .i64 0, .int .i64 0, .int .i64 0, .int .i64 0, .int .i64 0, .int .i64 0, .int .i64 0, .int .i64 0, .int .i64 0, .int .i64 0, .int .i64 0, .int .i64 0, .int .i64 0] 0) hb2 r1
  have r2 := upd_same H1 b2 (.row true 0 [.int .i64 0, .int .u16 0, .int .u32 0, .string (mkS []), .int .i64 0, .int .i64 0, .int .i64 0, .int .i64 0, .int .i64 0, .int .i64 0, .int .i64 0, .int .i64 0, .int .i64 0, .int .i64 0, .int .i64 0, .int .i64 0, .int .i64 0] 0)
  by_cases h250 : 250 ≤ kind
  · have h250I : (250 : Int) ≤ (kind : Int) := by omega
    rw [if_pos h250] at hres
    rw [← hres, er]
    simp (disch := first | omega | assumption | decide | (simp <;> omega) | fail) [facts, r1b, c0, c0b, c4, h250I, hsp, upd_upd]
    exact ⟨_, Heap.le_refl _, k17, Heap.le_trans hl1 (le_upd _ hb2)⟩
  · have h250I : ¬ (250 : Int) ≤ (kind : Int) := by omega
    rw [if_neg h250] at hres
    obtain ⟨rr, hrr⟩ : ∃ rr, rr = recL r := ⟨_, rfl⟩
    have er2 : recV r = .agg rr.toArray := by rw [hrr]; rfl
    have rr17 : rr.length = 17 := by rw [hrr]; rfl
    have rr1 : rr.all (·.oneCell') = true := by rw [hrr]; rfl
    have kr17 : List.take 17 rr = rr := List.take_of_length_le (by omega)
    have g0 : rr[0]? = some (.int .i64 r.kind) := by rw [hrr]; rfl
    obtain ⟨_, g0b⟩ := List.getElem?_eq_some_iff.1 g0
    have hspr : splice [.int .i64 0, .int .u16 0, .int .u32 0, .string (mkS []), .int .i64 0, .int .i64 0, .int .i64 0, .int .i64 0, .int .i64 0, .int .i64 0, .int .i64 0, .int .i64 0, .int .i64 0, .int .i64 0, .int .i64 0, .int .i64 0, .int .i64 0] 0 rr = rr := splice_all (by rw [rr17]; rfl)
    have hl2 := Heap.le_trans hl1 (le_upd (.row true 0 [.int .i64 0, .int .u16 0, .int .u32 0, .string (mkS []), .int .i64 0, .int .i64 0, .int .i64 0, .int .i64 0, .int .i64 0, .int .i64 0, .int .i64 0, .int .i64 0, .int .i64 0, .int .i64 0, .int .i64 0, .int .i64 0, .int .i64 0] 0) hb2)
    have hb2H : H b2 = none := le_of_none hl1 hb2
    simp (disch := first | omega | assumption | decide | (simp <;> omega) | fail) [facts, ]
    generalize upd H1 b2 _ = H2 at *
    simp (disch := first | omega | assumption | decide | (simp <;> omega) | fail) [facts, r1b, c0, c0b, c1, c1b, c2, c2b, c3, c3b, h250I]
    refine (hc H2).mono ?_
    rintro v H3 ⟨rfl, hl3⟩
    have r2' := hl3 _ _ r2
    have r1' := hl3 _ _ r1b
    rw [er2]
    simp (disch := first | omega | assumption | decide | (simp <;> omega) | fail) [facts, ]
    refine fresh_intro fun b3 hb3 => ?_
    have q23 : b2 ≠ b3 := ne_of_fresh hb3 r2'
    have q13 : b1 ≠ b3 := ne_of_fresh hb3 r1'
    have r2b := upd_other (o := .row true 0 rr 0) hb3 r2'
    have r1c := upd_other (o := .row true 0 rr 0) hb3 r1'
    have r3 := upd_same H3 b3 (.row true 0 rr 0)
    have hl4 := Heap.le_trans hl2 (Heap.le_trans hl3 (le_upd (.row true 0 rr 0) hb3))
    have hb3H : H b3 = none := le_of_none (Heap.le_trans hl2 hl3) hb3
    simp (disch := first | omega | assumption | decide | (simp <;> omega) | fail) [facts, hspr, upd_upd]
    generalize upd H3 b3 _ = H4 at *
    by_cases h6 : kind % 9 = 5
    · have h6I : r.kind = 6 := by rw [hrk]; omega
      rw [if_pos h6] at hres
      obtain ⟨w, hw⟩ : ∃ w, w = am % 700 := ⟨_, rfl⟩
      have hwI : (am : Int) % 700 = (w : Int) := by omega
      rw [← hw] at hres
      have hset : rr.set 4 (.int .i64 (w : Int)) = recL { r with amount := ((w : Nat) : Int) } := by rw [hrr]; rfl
      have hrv : recV { r with amount := ((w : Nat) : Int) } = .agg (recL { r with amount := ((w : Nat) : Int) }).toArray := rfl
      rw [← hres, hrv, ← hset]
      have hone2 : (rr.set 4 (.int .i64 (w : Int))).all (·.oneCell') = true := by rw [hset]; rfl
      have hlen2 : (rr.set 4 (.int .i64 (w : Int))).length = 17 := by rw [List.length_set]; exact rr17
      obtain ⟨xx, hxx⟩ : ∃ xx, rr.set 4 (.int .i64 (w : Int)) = xx := ⟨_, rfl⟩
      rw [hxx] at hone2 hlen2 ⊢
      have hk2 : List.take 17 xx = xx := List.take_of_length_le (by omega)
      have hsp2 : splice [.int .i64 0, .int .u16 0, .int .u32 0, .string (mkS []), .int .i64 0, .int .i64 0, .int .i64 0, .int .i64 0, .int .i64 0, .int .i64 0, .int .i64 0, .int .i64 0, .int .i64 0, .int .i64 0, .int .i64 0, .int .i64 0, .int .i64 0] 0 xx = xx := splice_all (by rw [hlen2]; rfl)
      simp (disch := first | omega | assumption | decide | (simp <;> omega) | fail) [facts, r3, g0, g0b, h6I, r1c, c3, c3b, hwI, hxx]
      have r2d : upd H4 b3 (.row true 0 xx 0) b2 = some (.row true 0 [.int .i64 0, .int .u16 0, .int .u32 0, .string (mkS []), .int .i64 0, .int .i64 0, .int .i64 0, .int .i64 0, .int .i64 0, .int .i64 0, .int .i64 0, .int .i64 0, .int .i64 0, .int .i64 0, .int .i64 0, .int .i64 0, .int .i64 0] 0) := by rw [upd_ne _ _ q23]; exact r2b
      simp (disch := first | omega | assumption | decide | (simp <;> omega) | fail) [facts, hk2, r2d, hsp2]
      exact ⟨_, Heap.le_refl _, le_updN (le_updN hl4 hb3H _) hb2H _⟩
    · have h6I : ¬ r.kind = 6 := by rw [hrk]; omega
      rw [if_neg h6] at hres
      rw [← hres, er2]
      simp (disch := first | omega | assumption | decide | (simp <;> omega) | fail) [facts, r3, g0, g0b, h6I, kr17, r2b, hspr]
      exact ⟨_, Heap.le_refl _, le_updN hl4 hb2H _⟩
end Go.Proofs.YthaggpicjpkjiaaGreat.GL
