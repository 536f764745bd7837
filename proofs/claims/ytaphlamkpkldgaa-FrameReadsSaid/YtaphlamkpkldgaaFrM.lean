/- Layer 4: the statements' records. -/
import Derived.Test.YtaphlamkpkldgaaFrL
namespace Go.Proofs.Ytaphlamkpkldgaa.GL
open Go Go.RowKit
set_option maxRecDepth 10000
set_option pp.deepTerms.threshold 8
set_option pp.maxSteps 3000
set_option linter.unusedSimpArgs false
set_option linter.unusedVariables false

def panL (k : Nat) : List UInt8 := if k = 0 then [52, 48, 48, 48, 49, 50, 51, 52, 49, 50, 51, 52, 49, 50, 51, 52] else if k = 1 then [53, 49] else if k = 2 then [57] else [54, 48, 49, 49, 48, 48, 48, 57, 57, 48, 49, 51, 57, 52, 50, 52]
def panS (k : Nat) : ByteArray := mkS (panL (k % 4))
theorem pan_c (k : Nat) (hk : k < 256) (H : Heap) : ECalls Try.prog 19 #[.int .u8 k] H fun v H' => v = .string (panS k) ∧ Heap.le H H' := by
  refine ecalls_of_ewp (args := [_]) Try.func19 rfl rfl rfl (by simp [Try.ntmps19]) (by kernel_rfl) ?_
  obtain ⟨q, hq⟩ : ∃ q : Nat, q = k % 4 := ⟨_, rfl⟩
  have hqI : (k : Int) % 4 = (q : Int) := by omega
  have hq4 : q < 4 := by omega
  unfold panS
  rw [← hq]
  simp (disch := first | omega | assumption | decide | (simp <;> omega) | fail) [facts, ]
  refine fresh_intro fun b hb => ?_
  have hcs : q = 0 ∨ q = 1 ∨ q = 2 ∨ q = 3 := by omega
  rcases hcs with rfl | rfl | rfl | rfl
  all_goals
    simp (disch := first | omega | assumption | decide | (simp <;> omega) | fail) [facts, hqI]
    exact ⟨_, Heap.le_refl _, rfl, le_upd _ hb⟩
def recS (kind k stan amount : Nat) : RZ :=
  ⟨(kind % 9 + 1 : Nat), (k % 3 : Nat), (stan % 4 + 1 : Nat), if kind % 9 = 0 then panS k else ByteArray.empty, (amount % 5000 : Nat),
   if kind % 9 = 4 ∨ kind % 9 = 5 then ⟨(k % 4 : Nat), (k / 4 % 4 : Nat), 0, 0⟩ else if kind % 9 = 7 then ⟨(k / 3 : Nat), (stan % 8 : Nat), 0, 0⟩ else zeroN,
   if kind % 9 = 4 ∨ kind % 9 = 5 then ⟨(k / 16 % 2 : Nat), 0, 0, 0⟩ else zeroN,
   if kind % 9 = 7 then ⟨(k : Nat), (k / 2 : Nat), 10000, (stan : Nat)⟩ else zeroN⟩
theorem rec_c (kind k stan amount : Nat) (h1 : kind < 256) (h2 : k < 256) (h3 : stan < 256) (h4 : amount < 65536) (H : Heap) (r : RZ) (hr : r = recS kind k stan amount) :
    ECalls Try.prog 9 #[.int .u8 kind, .int .u8 k, .int .u8 stan, .int .u16 amount] H fun v H' => v = .agg #[.int .i64 r.kind, .int .u16 r.t, .int .u32 r.s, .string r.pan, .int .i64 r.am, .int .i64 r.ns.a, .int .i64 r.ns.b, .int .i64 r.ns.c, .int .i64 r.ns.d, .int .i64 r.rs.a, .int .i64 r.rs.b, .int .i64 r.rs.c, .int .i64 r.rs.d, .int .i64 r.ls.a, .int .i64 r.ls.b, .int .i64 r.ls.c, .int .i64 r.ls.d] ∧ Heap.le H H' := by
  refine ecalls_of_ewp (args := [_, _, _, _]) Try.func9 rfl rfl rfl (by simp [Try.ntmps9]) (by kernel_rfl) ?_
  obtain ⟨kq, hkq⟩ : ∃ q : Nat, q = kind % 9 := ⟨_, rfl⟩
  have e1 : (kind : Int) % 9 = (kq : Int) := by omega
  obtain ⟨tt, htt⟩ : ∃ q : Nat, q = k % 3 := ⟨_, rfl⟩
  have e2 : (k : Int) % 3 = (tt : Int) := by omega
  obtain ⟨sq, hsq⟩ : ∃ q : Nat, q = stan % 4 := ⟨_, rfl⟩
  have e3 : (stan : Int) % 4 = (sq : Int) := by omega
  obtain ⟨am, ham⟩ : ∃ q : Nat, q = amount % 5000 := ⟨_, rfl⟩
  have e4 : (amount : Int) % 5000 = (am : Int) := by omega
  unfold recS at hr
  rw [← hkq, ← htt, ← hsq, ← ham] at hr
  simp (disch := first | omega | assumption | decide | (simp <;> omega) | fail) [facts, ]
  refine fresh_intro fun b8 hb8 => ?_
  simp (disch := first | omega | assumption | decide | (simp <;> omega) | fail) [facts, e1, e2, e3, e4]
  refine fresh_intro fun b9 hb9 => ?_
  have r8 := upd_other (o := .row true 0 [.int .i64 0, .int .u16 0, .int .u32 0, .string ByteArray.empty, .int .i64 0, .int .i64 0, .int .i64 0, .int .i64 0, .int .i64 0, .int .i64 0, .int .i64 0, .int .i64 0, .int .i64 0, .int .i64 0, .int .i64 0, .int .i64 0, .int .i64 0] 0) hb9 (upd_same H b8 (.row true 0 [.int .i64 0, .int .u16 0, .int .u32 0, .string ByteArray.empty, .int .i64 0, .int .i64 0, .int .i64 0, .int .i64 0, .int .i64 0, .int .i64 0, .int .i64 0, .int .i64 0, .int .i64 0, .int .i64 0, .int .i64 0, .int .i64 0, .int .i64 0] 0))
  have h89 : b8 ≠ b9 := ne_of_fresh hb9 (upd_same H b8 (.row true 0 [.int .i64 0, .int .u16 0, .int .u32 0, .string ByteArray.empty, .int .i64 0, .int .i64 0, .int .i64 0, .int .i64 0, .int .i64 0, .int .i64 0, .int .i64 0, .int .i64 0, .int .i64 0, .int .i64 0, .int .i64 0, .int .i64 0, .int .i64 0] 0))
  have hl9 := Heap.le_trans (le_upd (.row true 0 [.int .i64 0, .int .u16 0, .int .u32 0, .string ByteArray.empty, .int .i64 0, .int .i64 0, .int .i64 0, .int .i64 0, .int .i64 0, .int .i64 0, .int .i64 0, .int .i64 0, .int .i64 0, .int .i64 0, .int .i64 0, .int .i64 0, .int .i64 0] 0) hb8) (le_upd (.row true 0 [.int .i64 0, .int .u16 0, .int .u32 0, .string ByteArray.empty, .int .i64 0, .int .i64 0, .int .i64 0, .int .i64 0, .int .i64 0, .int .i64 0, .int .i64 0, .int .i64 0, .int .i64 0, .int .i64 0, .int .i64 0, .int .i64 0, .int .i64 0] 0) hb9)
  have hb9' : H b9 = none := le_of_none (le_upd (.row true 0 [.int .i64 0, .int .u16 0, .int .u32 0, .string ByteArray.empty, .int .i64 0, .int .i64 0, .int .i64 0, .int .i64 0, .int .i64 0, .int .i64 0, .int .i64 0, .int .i64 0, .int .i64 0, .int .i64 0, .int .i64 0, .int .i64 0, .int .i64 0] 0) hb8) hb9
  simp (disch := first | omega | assumption | decide | (simp <;> omega) | fail) [facts, upd_upd]
  have r9 := upd_same (upd H b8 (.row true 0 [.int .i64 0, .int .u16 0, .int .u32 0, .string ByteArray.empty, .int .i64 0, .int .i64 0, .int .i64 0, .int .i64 0, .int .i64 0, .int .i64 0, .int .i64 0, .int .i64 0, .int .i64 0, .int .i64 0, .int .i64 0, .int .i64 0, .int .i64 0] 0)) b9 (.row true 0 [.int .i64 ((kq : Int) + 1), .int .u16 tt, .int .u32 ((sq : Int) + 1), .string ByteArray.empty, .int .i64 am, .int .i64 0, .int .i64 0, .int .i64 0, .int .i64 0, .int .i64 0, .int .i64 0, .int .i64 0, .int .i64 0, .int .i64 0, .int .i64 0, .int .i64 0, .int .i64 0] 0)
  have r8' : upd (upd H b8 (.row true 0 [.int .i64 0, .int .u16 0, .int .u32 0, .string ByteArray.empty, .int .i64 0, .int .i64 0, .int .i64 0, .int .i64 0, .int .i64 0, .int .i64 0, .int .i64 0, .int .i64 0, .int .i64 0, .int .i64 0, .int .i64 0, .int .i64 0, .int .i64 0] 0)) b9 (.row true 0 [.int .i64 ((kq : Int) + 1), .int .u16 tt, .int .u32 ((sq : Int) + 1), .string ByteArray.empty, .int .i64 am, .int .i64 0, .int .i64 0, .int .i64 0, .int .i64 0, .int .i64 0, .int .i64 0, .int .i64 0, .int .i64 0, .int .i64 0, .int .i64 0, .int .i64 0, .int .i64 0] 0) b8 = _ := (upd_ne _ _ h89).trans (upd_same H b8 (.row true 0 [.int .i64 0, .int .u16 0, .int .u32 0, .string ByteArray.empty, .int .i64 0, .int .i64 0, .int .i64 0, .int .i64 0, .int .i64 0, .int .i64 0, .int .i64 0, .int .i64 0, .int .i64 0, .int .i64 0, .int .i64 0, .int .i64 0, .int .i64 0] 0))
  have hl9' : Heap.le H (upd (upd H b8 (.row true 0 [.int .i64 0, .int .u16 0, .int .u32 0, .string ByteArray.empty, .int .i64 0, .int .i64 0, .int .i64 0, .int .i64 0, .int .i64 0, .int .i64 0, .int .i64 0, .int .i64 0, .int .i64 0, .int .i64 0, .int .i64 0, .int .i64 0, .int .i64 0] 0)) b9 (.row true 0 [.int .i64 ((kq : Int) + 1), .int .u16 tt, .int .u32 ((sq : Int) + 1), .string ByteArray.empty, .int .i64 am, .int .i64 0, .int .i64 0, .int .i64 0, .int .i64 0, .int .i64 0, .int .i64 0, .int .i64 0, .int .i64 0, .int .i64 0, .int .i64 0, .int .i64 0, .int .i64 0] 0)) := le_updN (le_upd _ hb8) hb9' _
  clear r8 hl9
  generalize upd (upd H b8 (.row true 0 [.int .i64 0, .int .u16 0, .int .u32 0, .string ByteArray.empty, .int .i64 0, .int .i64 0, .int .i64 0, .int .i64 0, .int .i64 0, .int .i64 0, .int .i64 0, .int .i64 0, .int .i64 0, .int .i64 0, .int .i64 0, .int .i64 0, .int .i64 0] 0)) b9 (.row true 0 [.int .i64 ((kq : Int) + 1), .int .u16 tt, .int .u32 ((sq : Int) + 1), .string ByteArray.empty, .int .i64 am, .int .i64 0, .int .i64 0, .int .i64 0, .int .i64 0, .int .i64 0, .int .i64 0, .int .i64 0, .int .i64 0, .int .i64 0, .int .i64 0, .int .i64 0, .int .i64 0] 0) = H9 at *
  obtain ⟨q1, hq1⟩ : ∃ q : Nat, q = k % 4 := ⟨_, rfl⟩
  obtain ⟨q2, hq2⟩ : ∃ q : Nat, q = k / 4 % 4 := ⟨_, rfl⟩
  obtain ⟨q3, hq3⟩ : ∃ q : Nat, q = k / 16 % 2 := ⟨_, rfl⟩
  obtain ⟨q4, hq4⟩ : ∃ q : Nat, q = k / 3 := ⟨_, rfl⟩
  obtain ⟨q5, hq5⟩ : ∃ q : Nat, q = stan % 8 := ⟨_, rfl⟩
  obtain ⟨q6, hq6⟩ : ∃ q : Nat, q = k / 2 := ⟨_, rfl⟩
  have f1 : (k : Int) % 4 = (q1 : Int) := by omega
  have f2 : (k : Int) / 4 % 4 = (q2 : Int) := by omega
  have f3 : (k : Int) / 16 % 2 = (q3 : Int) := by omega
  have f4 : (k : Int) / 3 = (q4 : Int) := by omega
  have f5 : (stan : Int) % 8 = (q5 : Int) := by omega
  have f6 : (k : Int) / 2 = (q6 : Int) := by omega
  rw [← hq1, ← hq2, ← hq3, ← hq4, ← hq5, ← hq6] at hr
  have hcs : kq = 0 ∨ kq = 1 ∨ kq = 2 ∨ kq = 3 ∨ kq = 4 ∨ kq = 5 ∨ kq = 6 ∨ kq = 7 ∨ kq = 8 := by omega
  rcases hcs with rfl | rfl | rfl | rfl | rfl | rfl | rfl | rfl | rfl
  · simp [zeroN] at hr
    subst hr
    simp (disch := first | omega | assumption | decide | (simp <;> omega) | fail) [facts, ]
    refine (pan_c k h2 H9).mono ?_
    rintro v H10 ⟨rfl, hl10⟩
    have r9' := hl10 _ _ r9
    have r8'' := hl10 _ _ r8'
    have hlA := Heap.le_trans hl9' hl10
    simp (disch := first | omega | assumption | decide | (simp <;> omega) | fail) [facts, r9']
    have r8c : upd H10 b9 (.row true 0 [.int .i64 1, .int .u16 tt, .int .u32 ((sq : Int) + 1), .string (panS k), .int .i64 am, .int .i64 0, .int .i64 0, .int .i64 0, .int .i64 0, .int .i64 0, .int .i64 0, .int .i64 0, .int .i64 0, .int .i64 0, .int .i64 0, .int .i64 0, .int .i64 0] 0) b8 = _ := (upd_ne _ _ h89).trans r8''
    simp (disch := first | omega | assumption | decide | (simp <;> omega) | fail) [facts, r8c]
    exact ⟨_, Heap.le_refl _, le_updN (le_updN hlA hb9' _) hb8 _⟩
  all_goals
    simp [zeroN] at hr
    subst hr
  all_goals
    have h89u : ∀ o, upd H9 b9 o b8 = some (.row true 0 [.int .i64 0, .int .u16 0, .int .u32 0, .string ByteArray.empty, .int .i64 0, .int .i64 0, .int .i64 0, .int .i64 0, .int .i64 0, .int .i64 0, .int .i64 0, .int .i64 0, .int .i64 0, .int .i64 0, .int .i64 0, .int .i64 0, .int .i64 0] 0) := fun o => (upd_ne _ _ h89).trans r8'
    simp (disch := first | omega | assumption | decide | (simp <;> omega) | fail) [facts, r9, r8', h89u, e1, e2, e3, e4, f1, f2, f3, f4, f5, f6, upd_upd]
    exact ⟨_, Heap.le_refl _, by first | exact le_updN hl9' hb8 _ | exact le_updN (le_updN hl9' hb9' _) hb8 _⟩
theorem panL_len : ∀ k, k < 4 → (panL k).length ≤ 16 ∧ (panL k).all isD = true ∧ 0 < (panL k).length := by
  intro k hk
  have : k = 0 ∨ k = 1 ∨ k = 2 ∨ k = 3 := by omega
  rcases this with rfl | rfl | rfl | rfl <;> decide
theorem panS_ok (k : Nat) : (panS k).size ≤ 16 ∧ allD (panS k) = true ∧ 0 < (panS k).size := by
  have := panL_len (k % 4) (Nat.mod_lt _ (by decide))
  unfold panS
  rw [mkS_sz]
  refine ⟨this.1, ?_, this.2.2⟩
  unfold allD
  rw [mkS_list]; exact this.2.1
theorem nz_ok {a b c d : Int} (h1 : 0 ≤ a ∧ a ≤ 10000) (h2 : 0 ≤ b ∧ b ≤ 10000) (h3 : 0 ≤ c ∧ c ≤ 10000) (h4 : 0 ≤ d ∧ d ≤ 10000) : (NZ.mk a b c d).ok = true := by
  simp [NZ.ok, NZ.l, inC, h1, h2, h3, h4]
/-- Such a record may be. -/
theorem recS_right (kind k stan amount : Nat) (h2 : k < 256) (h3 : stan < 256) : (recS kind k stan amount).right = true ∧ (recS kind k stan amount).wf := by
  have hp := panS_ok k
  refine ⟨?_, ⟨⟨?_, ?_⟩, ⟨?_, ?_⟩⟩⟩
  · have p1 : (recS kind k stan amount).pan.size ≤ 16 ∧ allD (recS kind k stan amount).pan = true := by
      unfold recS
      simp only
      split
      · exact ⟨hp.1, hp.2.1⟩
      · exact ⟨by decide, by decide⟩
    have p2 : (recS kind k stan amount).ns.ok = true := by
      unfold recS
      simp only
      split
      · exact nz_ok (by omega) (by omega) (by omega) (by omega)
      · split
        · exact nz_ok (by omega) (by omega) (by omega) (by omega)
        · decide
    have p3 : (recS kind k stan amount).rs.ok = true := by
      unfold recS
      simp only
      split
      · exact nz_ok (by omega) (by omega) (by omega) (by omega)
      · decide
    have p4 : (recS kind k stan amount).ls.ok = true := by
      unfold recS
      simp only
      split
      · exact nz_ok (by omega) (by omega) (by omega) (by omega)
      · decide
    have k1 : (recS kind k stan amount).kind = (kind % 9 + 1 : Nat) := rfl
    have k2 : (recS kind k stan amount).am = (amount % 5000 : Nat) := rfl
    simp only [RZ.right, p1.2, p2, p3, p4, k1, k2, Bool.and_true, Bool.and_eq_true, decide_eq_true_eq]
    omega
  · show (0 : Int) ≤ ((k % 3 : Nat) : Int)
    omega
  · show ((k % 3 : Nat) : Int) ≤ 65535
    omega
  · show (0 : Int) ≤ ((stan % 4 + 1 : Nat) : Int)
    omega
  · show ((stan % 4 + 1 : Nat) : Int) ≤ 4294967295
    omega
end Go.Proofs.Ytaphlamkpkldgaa.GL
