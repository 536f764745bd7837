/- Layer 5: a journal opened. -/
import Derived.Test.YtnmbmccigpljnaaJoG
namespace Go.Proofs.Ytnmbmccigpljnaa.GL
open Go Go.RowKit
set_option maxRecDepth 10000
set_option pp.deepTerms.threshold 8
set_option pp.maxSteps 3000
set_option linter.unusedSimpArgs false
set_option linter.unusedVariables false

theorem TwoO.joinB {F A D B H : Heap} (t : TwoO F A D H) (hB : Heap.le B H) (h1 : Off A B) (h2 : Off D B) : TwoO (joinH B F) A D H := by
  have h1' := h1.symm
  have h2' := h2.symm
  refine ⟨fun b o h => ?_, t.ale, t.ble, fun b o h => ?_, fun b o h => ?_, t.ab⟩
  · unfold joinH at h
    cases hr : B b with
    | some x => rw [hr] at h; cases h; exact hB _ _ hr
    | none => rw [hr] at h; exact t.fle _ _ h
  · unfold joinH at h
    cases hr : B b with
    | some x => exact h1' b x hr
    | none => rw [hr] at h; exact t.fa b o h
  · unfold joinH at h
    cases hr : B b with
    | some x => exact h2' b x hr
    | none => rw [hr] at h; exact t.fb b o h
theorem join_right {B F : Heap} (h : Off F B) : Heap.le F (joinH B F) := fun b o e => by unfold joinH; rw [h b o e]; exact e
/-- What is nobody's may change. -/
theorem TwoO.touch {F A B H : Heap} (t : TwoO F A B H) {b : Nat} (h1 : F b = none) (h2 : A b = none) (h3 : B b = none) (o : GObj) : TwoO F A B (upd H b o) :=
  ⟨le_updN t.fle h1 o, le_updN t.ale h2 o, le_updN t.ble h3 o, t.fa, t.fb, t.ab⟩
/-- The half that is the journal's, its beginning; the greatest number. -/
def halfA (now : List Sec) : Sst := scanTo ((now.drop 0).take (now.length / 2)) (now.length / 2)
def halfB (now : List Sec) : Sst := scanTo ((now.drop (now.length / 2)).take (now.length / 2)) (now.length / 2)
def chosen (now : List Sec) : Sst := if (halfA now).first < (halfB now).first then halfB now else halfA now
def baseZ (now : List Sec) : Nat := if (halfA now).first < (halfB now).first then now.length / 2 else 0
def lastZ2 (now : List Sec) : Nat := lastTo ((now.drop (now.length / 2)).take (now.length / 2)) (lastTo ((now.drop 0).take (now.length / 2)) 0 (now.length / 2)) (now.length / 2)
theorem framesB_cons {rs : List RZ} {j : Nat} {r : RZ} (h : rs[j]? = some r) : framesB (rs.drop j) = putB r ++ framesB (rs.drop (j + 1)) := by
  obtain ⟨hj, he⟩ := List.getElem?_eq_some_iff.1 h
  unfold framesB
  rw [List.drop_eq_getElem_cons hj, he, List.map_cons, List.flatten_cons]
theorem framesB_61 : ∀ {rs : List RZ}, (∀ r ∈ rs, r.good) → (framesB rs).length ≤ 61 * rs.length
  | [], _ => by simp [framesB]
  | r :: rs, h => by
    have ih := framesB_61 (rs := rs) fun x hx => h x (by simp [hx])
    have := (putB_len (h r (by simp)).1).2
    have e : framesB (r :: rs) = putB r ++ framesB rs := by simp [framesB]
    rw [e, List.length_append, List.length_cons]
    omega
def lenS (v : Value) : Nat := match v with | .slice _ n _ => n | _ => 0
def opInv (G0 RD : Heap) (p pd half base used last : Nat) (rs : List RZ) (st : St) : Prop :=
  ∃ (j : Nat) (a9 : Option Addr) (m9 c9 : Nat) (A : Heap) (lv : Value), j ≤ rs.length ∧ st.env 5 = .pointer (some ⟨p, 0, none⟩) ∧ st.env 9 = .slice a9 m9 c9 ∧ TwoO G0 A RD st.heap ∧ A p = some (.row true 0 (lgRow pd half base used last lv) 0) ∧ LstR A lv 17 j (rowsC RZ.cells (rs.take j)) ∧ blkV lv ≠ some p ∧
    SlA G0 a9 m9 1 ((framesB (rs.drop j)).map u8V) ∧ m9 ≤ c9
set_option maxHeartbeats 4000000 in
theorem jopen_c {F0 RD H : Heap} {pd : Nat} {d : DZ} (t : TwoO F0 (fun _ => none) RD H) (hd : Dsk RD pd d) (hdn : d.down = false) (h8 : 8 ≤ d.now.length) (hbig : d.now.length ≤ 2400) {rs : List RZ} (hb : (chosen d.now).b = framesB rs) (hg : ∀ r ∈ rs, r.good) (hn : rs.length ≤ 1000) (hlst : lastZ2 d.now < 4294967295) :
    ECalls Try.prog 12 #[.pointer (some ⟨pd, 0, none⟩)] H fun v H' => ∃ p sv lv B RL, v = .tuple #[.pointer (some ⟨p, 0, none⟩), sv, .int .i64 0] ∧ TwoO (joinH B F0) RL RD H' ∧ Heap.le F0 (joinH B F0) ∧ LstR B sv 17 rs.length (rowsC RZ.cells rs) ∧ Lg RL p pd ⟨d.now.length / 2, baseZ d.now, (chosen d.now).used, lastZ2 d.now, rs⟩ lv := by
  refine ecalls_of_ewp (args := [_]) Try.func12 rfl rfl rfl (by simp [Try.ntmps12]) (by kernel_rfl) ?_
  have hsame : d.kept.length = d.now.length := by
    obtain ⟨_, _, _, _, _, _, _, _, _, hd'⟩ := hd
    exact hd'.same.symm
  have cs := diskSectors_c t.ble hd
  rw [hsame] at cs
  obtain ⟨half, hhf⟩ : ∃ x, x = d.now.length / 2 := ⟨_, rfl⟩
  have h8I : ¬ (d.now.length : Int) < 8 := by omega
  have hhI : (d.now.length : Int) / 2 = (half : Int) := by omega
  simp (disch := first | omega | assumption | decide | (simp <;> omega) | fail) [facts, ]
  refine cs.mono ?_
  rintro v H1 ⟨rfl, rfl⟩
  simp (disch := first | omega | assumption | decide | (simp <;> omega) | fail) [facts, h8I]
  refine cs.mono ?_
  rintro v H2 ⟨rfl, rfl⟩
  simp (disch := first | omega | assumption | decide | (simp <;> omega) | fail) [facts, hhI]
  refine fresh_intro fun p hp => ?_
  simp (disch := first | omega | assumption | decide | (simp <;> omega) | fail) [facts, ]
  have t1 := t.left ((Own.refl t.ale).add hp (.row true 0 (lgRow pd half 0 0 0 (.slice none 0 0)) 0))
  have hrow1 := upd_same (fun _ => none) p (.row true 0 (lgRow pd half 0 0 0 (.slice none 0 0)) 0)
  have hrest : Heap.le F0 (rest (upd H2 p (.row true 0 (lgRow pd half 0 0 0 (.slice none 0 0)) 0)) (upd (fun _ => none) p (.row true 0 (lgRow pd half 0 0 0 (.slice none 0 0)) 0))) := rest_of t1.fle t1.fa
  generalize hRL : upd (fun _ => none) p (.row true 0 (lgRow pd half 0 0 0 (.slice none 0 0)) 0) = RL1 at *
  have sc1 := jscan_c t1.ble hd t1.ale t1.ab.symm hrow1 (by decide) 0 hdn (by omega) (by omega)
  refine sc1.mono ?_
  clear sc1
  rintro v H4 ⟨A, hA, ow4, a1, m1, c1, za, B1, hza, rfl, hs1, hmc1, hB1, hAB1, hFB1⟩
  have t4 := t1.left ow4
  have hB1F : Off F0 B1 := fun b o h => hFB1 b o (hrest _ _ h)
  have hB1D : Off RD B1 := fun b o h => hFB1 b o (rest_of t1.ble t1.ab.symm _ _ h)
  have t4' := t4.joinB hB1 hAB1 hB1D
  have hF1 := join_right hB1F
  have hs1' := hs1.le (join_left B1 F0)
  generalize joinH B1 F0 = F1 at *
  simp (disch := first | omega | assumption | decide | (simp <;> omega) | fail) [facts, ]
  refine fresh_intro fun b6 hb6 => ?_
  simp (disch := first | omega | assumption | decide | (simp <;> omega) | fail) [facts, upd_upd]
  have t5 := t4'.keep hb6 (.row true 0 [.int .u32 za.first, .int .i64 za.used, .slice a1 m1 c1] 0)
  have f6 := upd_same F1 b6 (.row true 0 [.int .u32 za.first, .int .i64 za.used, .slice a1 m1 c1] 0)
  have hF2 : Heap.le F1 (upd F1 b6 (.row true 0 [.int .u32 za.first, .int .i64 za.used, .slice a1 m1 c1] 0)) := le_upd _ (le_of_none t4'.fle hb6)
  obtain ⟨last1, hl1⟩ : ∃ x, x = lastTo (List.take half (List.drop 0 d.now)) 0 half := ⟨_, rfl⟩
  have hl1lt : last1 < 4294967296 := by rw [hl1]; exact lastTo_lt _ (by decide) _
  rw [← hl1] at hA
  have hrowA : A p = some (.row true 0 (lgRow pd half 0 0 last1 (.slice none 0 0)) 0) := by rw [hA]; exact upd_same _ _ _
  have hAu : ∀ o, upd A p o = upd RL1 p o := fun o => by rw [hA, upd_upd]
  generalize upd F1 b6 (.row true 0 [.int .u32 za.first, .int .i64 za.used, .slice a1 m1 c1] 0) = F2 at *
  generalize upd H4 b6 (.row true 0 [.int .u32 za.first, .int .i64 za.used, .slice a1 m1 c1] 0) = H5 at *
  have rpA := t5.ale _ _ hrowA
  unfold lgRow at rpA
  have hs1'' := hs1'.le hF2
  have sc2 := jscan_c t5.ble hd t5.ale t5.ab.symm hrowA hl1lt half hdn (by omega) (by omega)
  have hrest2 : Heap.le F2 (rest H5 A) := rest_of t5.fle t5.fa
  simp (disch := first | omega | assumption | decide | (simp <;> omega) | fail) [facts, rpA]
  refine sc2.mono ?_
  clear sc2
  rintro v H6 ⟨A2, hA2, ow6, a2, m2, c2, zb, B2, hzb, rfl, hs2, hmc2, hB2, hAB2, hFB2⟩
  have t6 := t5.left ow6
  have hB2F : Off F2 B2 := fun b o h => hFB2 b o (hrest2 _ _ h)
  have hB2D : Off RD B2 := fun b o h => hFB2 b o (rest_of t5.ble t5.ab.symm _ _ h)
  have t6' := t6.joinB hB2 hAB2 hB2D
  have hF3 := join_right hB2F
  have hs2' := hs2.le (join_left B2 F2)
  have hB2F3 := join_left B2 F2
  have f6' := hF3 _ _ f6
  have hs1f := hs1''.le hF3
  generalize joinH B2 F2 = F3 at *
  simp (disch := first | omega | assumption | decide | (simp <;> omega) | fail) [facts, ]
  refine fresh_intro fun b8 hb8 => ?_
  simp (disch := first | omega | assumption | decide | (simp <;> omega) | fail) [facts, upd_upd]
  have t7 := t6'.keep hb8 (.row true 0 [.int .u32 zb.first, .int .i64 zb.used, .slice a2 m2 c2] 0)
  have f8 := upd_same F3 b8 (.row true 0 [.int .u32 zb.first, .int .i64 zb.used, .slice a2 m2 c2] 0)
  have hF4 : Heap.le F3 (upd F3 b8 (.row true 0 [.int .u32 zb.first, .int .i64 zb.used, .slice a2 m2 c2] 0)) := le_upd _ (le_of_none t6'.fle hb8)
  obtain ⟨ch, hch⟩ : ∃ x, x = (if za.first < zb.first then zb else za) := ⟨_, rfl⟩
  have n68 : b6 ≠ b8 := ne_of_fresh hb8 (t6'.fle _ _ f6')
  have r6 := t7.fle _ _ (hF4 _ _ f6')
  have r8 := t7.fle _ _ f8
  have hrowA2 : A2 p = some (.row true 0 (lgRow pd half 0 0 (lastTo (List.take half (List.drop half d.now)) last1 half) (.slice none 0 0)) 0) := by rw [hA2]; exact upd_same _ _ _
  have rp7 := t7.ale _ _ hrowA2
  unfold lgRow at rp7
  have np6 : p ≠ b6 := fun e => by subst e; have := t6'.fa _ _ f6'; rw [this] at hrowA2; cases hrowA2
  have np8 : p ≠ b8 := fun e => by subst e; have := t7.fa _ _ f8; rw [this] at hrowA2; cases hrowA2
  obtain ⟨F4, hF4d⟩ : ∃ F, F = upd F3 b8 (.row true 0 [.int .u32 zb.first, .int .i64 zb.used, .slice a2 m2 c2] 0) := ⟨_, rfl⟩
  rw [← hF4d] at t7 f8 hF4
  have b6F1 : F1 b6 = none := le_of_none t4'.fle hb6
  have b6B2 : B2 b6 = none := hB2F _ _ f6
  have hF1F4 : Heap.le F1 F4 := Heap.le_trans hF2 (Heap.le_trans hF3 hF4)
  obtain ⟨G0, hG0⟩ : ∃ G : Heap, G = fun b => if b = b6 then none else F4 b := ⟨_, rfl⟩
  have hG0F : Heap.le G0 F4 := fun b o h => by
    rw [hG0] at h
    simp only at h
    split at h
    · cases h
    · exact h
  have hFG : ∀ D : Heap, Heap.le D F4 → D b6 = none → Heap.le D G0 := fun D hD h6 b o h => by
    rw [hG0]
    simp only
    rw [if_neg (fun e => by subst e; rw [h6] at h; cases h)]
    exact hD _ _ h
  have g6 : G0 b6 = none := by rw [hG0]; simp
  have hF1G := hFG F1 hF1F4 b6F1
  have hB2G := hFG B2 (Heap.le_trans hB2F3 hF4) b6B2
  have tg := t7.less hG0F
  have A6 : A2 b6 = none := t7.fa _ _ (hF4 _ _ f6')
  have D6 : RD b6 = none := t7.fb _ _ (hF4 _ _ f6')
  generalize upd H6 b8 (.row true 0 [.int .u32 zb.first, .int .i64 zb.used, .slice a2 m2 c2] 0) = H7 at *
  obtain ⟨last2, hl2⟩ : ∃ x, x = lastTo (List.take half (List.drop half d.now)) last1 half := ⟨_, rfl⟩
  rw [← hl2] at hrowA2 rp7
  have hlz : lastZ2 d.now = last2 := by unfold lastZ2; rw [← hhf, ← hl1, ← hl2]
  rcases Nat.lt_or_ge za.first zb.first with hc | hc
  · have hcI : (za.first : Int) < (zb.first : Int) := by omega
    have hbz : baseZ d.now = half := by unfold baseZ halfA halfB; rw [← hhf, ← hza, ← hzb, if_pos hc]
    have hcu : (chosen d.now).used = zb.used := by unfold chosen halfA halfB; rw [← hhf, ← hza, ← hzb, if_pos hc]
    have hul : zb.used ≤ half := by rw [hzb]; exact (scanTo_small _ _).2.2.1
    have hbl0 : half ≤ half := Nat.le_refl _
    have hchb : zb.b = framesB rs := by rw [← hb]; unfold chosen halfA halfB; rw [← hhf, ← hza, ← hzb, if_pos hc]
    have T8 := (tg.touch g6 A6 D6 (.row true 0 [.int .u32 zb.first, .int .i64 zb.used, .slice a2 m2 c2] 0)).left ((Own.refl (tg.touch g6 A6 D6 (.row true 0 [.int .u32 zb.first, .int .i64 zb.used, .slice a2 m2 c2] 0)).ale).set hrowA2 (.row true 0 (lgRow pd half half zb.used last2 (.slice none 0 0)) 0))
    simp (disch := first | omega | assumption | decide | (simp <;> omega) | fail) [facts, r6, r8, hcI]
    refine w_plan (by simp [facts]) (opsP [0,1,2,3,4] (.both (opsP [5,6,7,8,9] .done) (opsP [6,5,7,8,9] .done))) (by decide +kernel) ?_
    simp (disch := first | omega | assumption | decide | (simp <;> omega) | fail) [facts, r6, r8, rp7, upd_ne, np6, np8, n68, upd_upd]
    refine w_loop (opInv G0 RD p pd half half zb.used last2 rs) (fun st => lenS (st.env 9)) ?_ ?_
    · exact ⟨0, a2, m2, c2, _, .slice none 0 0, Nat.zero_le _, by simp, by simp, T8, upd_same _ _ _, LstR.nil _ _, by simp [blkV], by rw [List.drop_zero, ← hchb]; exact hs2.le hB2G, hmc2⟩
    clear r6 r8 rp7 T8
    rintro ⟨env, G⟩ ⟨j, a9, m9, c9, A9, lv9, hj, e5, e9, t9, hrow9, lst9, ne9, hs9, hmc9⟩
    simp only at e5 e9 t9
    have hl9 : (framesB (rs.drop j)).length = m9 := by simpa using hs9.len
    have hl61 := framesB_61 (rs := rs.drop j) fun r hr => hg r (List.mem_of_mem_drop hr)
    rw [List.length_drop, hl9] at hl61
    by_cases hlt : j < rs.length
    case neg =>
      obtain rfl : j = rs.length := by omega
      have hm0 : m9 = 0 := by rw [← hl9, List.drop_length]; rfl
      subst hm0
      have rp9 := t9.ale _ _ hrow9
      unfold lgRow at rp9
      rw [List.take_length] at lst9
      obtain ⟨al, cl, hlv, hsl, hcl⟩ := LstR.sl lst9 (Heap.le_refl A9)
      obtain ⟨nn, hnn⟩ : ∃ x, x = rs.length := ⟨_, rfl⟩
      rw [← hnn] at hlv
      subst hlv
      simp (disch := first | omega | assumption | decide | (simp <;> omega) | fail) [facts, e5, e9, rp9]
      refine (jclone_c al nn cl rs G (by rw [hnn]; exact hsl.le t9.ale) (by omega)).mono ?_
      rintro v G4 ⟨B4, ow4, lst4⟩
      simp (disch := first | omega | assumption | decide | (simp <;> omega) | fail) [facts, e5]
      have tj := (t9.join ow4).1
      have hjj : Heap.le (joinH B4 F0) (joinH B4 G0) := fun b o h => by
        unfold joinH at h ⊢
        cases hr : B4 b with
        | some x => rw [hr] at h; exact h
        | none => rw [hr] at h; exact hF1G _ _ (hF1 _ _ h)
      refine ⟨_, Heap.le_refl _, p, v, ⟨rfl, rfl⟩, .slice al nn cl, B4, A9, tj.less hjj, (join_right fun b o h => ow4.off b o (t9.fle _ _ (hF1G _ _ (hF1 _ _ h)))), lst4, ?_⟩
      rw [hbz, hcu, hlz]
      exact ⟨by rw [← hhf]; exact hrow9, lst9, ne9, by simp only; omega, by simp only; omega, by simp only; omega, by simp only; omega⟩
    obtain ⟨r, hr⟩ : ∃ r, rs[j]? = some r := ⟨_, List.getElem?_eq_getElem hlt⟩
    have hgr := hg r (List.mem_of_getElem? hr)
    have hfc := framesB_cons hr
    have hpl := putB_len hgr.1
    have hm9 : m9 = (putB r).length + (framesB (rs.drop (j + 1))).length := by rw [← hl9, hfc, List.length_append]
    have hm9N : 0 < m9 := by omega
    have hm9I : (0 : Int) < (m9 : Int) := by omega
    have cr := fun H h => fread_c a9 m9 c9 (framesB (rs.drop j)) H h hmc9 (by omega) r (putB r).length 0 (by rw [hfc]; exact read_put r hgr.1 hgr.2 _)
    simp (disch := first | omega | assumption | decide | (simp <;> omega) | fail) [facts, e5, e9, hm9I, hm9N]
    refine (cr _ (hs9.le t9.fle)).mono ?_
    rintro v G2 ⟨rfl, hleG⟩
    simp (disch := first | omega | assumption | decide | (simp <;> omega) | fail) [facts, ]
    refine fresh_intro fun b10 hb10 => ?_
    simp (disch := first | omega | assumption | decide | (simp <;> omega) | fail) [facts, upd_upd]
    have t10 := (t9.grow hleG).grow (le_upd (.row true 0 [.int .i64 r.kind, .int .u16 r.t, .int .u32 r.s, .string r.pan, .int .i64 r.am, .int .i64 r.ns.a, .int .i64 r.ns.b, .int .i64 r.ns.c, .int .i64 r.ns.d, .int .i64 r.rs.a, .int .i64 r.rs.b, .int .i64 r.rs.c, .int .i64 r.rs.d, .int .i64 r.ls.a, .int .i64 r.ls.b, .int .i64 r.ls.c, .int .i64 r.ls.d] 0) hb10)
    have r10 := upd_same G2 b10 (.row true 0 [.int .i64 r.kind, .int .u16 r.t, .int .u32 r.s, .string r.pan, .int .i64 r.am, .int .i64 r.ns.a, .int .i64 r.ns.b, .int .i64 r.ns.c, .int .i64 r.ns.d, .int .i64 r.rs.a, .int .i64 r.rs.b, .int .i64 r.rs.c, .int .i64 r.rs.d, .int .i64 r.ls.a, .int .i64 r.ls.b, .int .i64 r.ls.c, .int .i64 r.ls.d] 0)
    generalize upd G2 b10 (.row true 0 [.int .i64 r.kind, .int .u16 r.t, .int .u32 r.s, .string r.pan, .int .i64 r.am, .int .i64 r.ns.a, .int .i64 r.ns.b, .int .i64 r.ns.c, .int .i64 r.ns.d, .int .i64 r.rs.a, .int .i64 r.rs.b, .int .i64 r.rs.c, .int .i64 r.rs.d, .int .i64 r.ls.a, .int .i64 r.ls.b, .int .i64 r.ls.c, .int .i64 r.ls.d] 0) = G3 at *
    have rp10 := t10.ale _ _ hrow9
    unfold lgRow at rp10
    have htl := hs9.tl (c := c9) (l := (putB r).length) (by omega) hmc9
    rw [hfc, List.drop_left' rfl] at htl
    obtain ⟨pl, hpld⟩ : ∃ x, x = (putB r).length := ⟨_, rfl⟩
    rw [← hpld] at htl hm9 hpl ⊢
    have hplm : (pl : Int) ≤ (m9 : Int) := by omega
    refine w_plan (by simp [facts]) (opsP [0,1,2,3,8,9,10] (.both (opsP [4,5,6,7,11,12,13,14] .done) (opsP [5] (.both (opsP [4,6,7,11,12,13,14] .done) (opsP [6,4,7,11,12,13,14] .done))))) (by decide +kernel) ?_
    have hspl : splice (zeros [Value.int .i64 0, .int .u16 0, .int .u32 0, .string ByteArray.empty, .int .i64 0, .int .i64 0, .int .i64 0, .int .i64 0, .int .i64 0, .int .i64 0, .int .i64 0, .int .i64 0, .int .i64 0, .int .i64 0, .int .i64 0, .int .i64 0, .int .i64 0] 1) 0 [.int .i64 r.kind, .int .u16 r.t, .int .u32 r.s, .string r.pan, .int .i64 r.am, .int .i64 r.ns.a, .int .i64 r.ns.b, .int .i64 r.ns.c, .int .i64 r.ns.d, .int .i64 r.rs.a, .int .i64 r.rs.b, .int .i64 r.rs.c, .int .i64 r.rs.d, .int .i64 r.ls.a, .int .i64 r.ls.b, .int .i64 r.ls.c, .int .i64 r.ls.d] = rowsC RZ.cells [r] := rfl
    simp (disch := first | omega | assumption | decide | (simp <;> omega) | fail) [facts, e5, e9, rp10, r10]
    repeat' apply And.intro
    all_goals
      refine fresh_intro fun b11 hb11 => ?_
      rw [hspl]
      have t11 := t10.grow (le_upd (.row true 0 (rowsC RZ.cells [r]) 0) hb11)
      have hs11 : SlA (upd G3 b11 (.row true 0 (rowsC RZ.cells [r]) 0)) (some ⟨b11, 0, none⟩) 1 17 (rowsC RZ.cells [r]) := SlA.row (upd_same _ _ _) (Nat.le_refl _) rfl (Nat.le_refl 17) rfl
      have rp11 := t11.ale _ _ hrow9
      unfold lgRow at rp11
      generalize upd G3 b11 (.row true 0 (rowsC RZ.cells [r]) 0) = G4 at *
      simp (disch := first | omega | assumption | decide | (simp <;> omega) | fail) [facts, e5, e9, rp11]
      refine LstR.app (H0 := G4) (B0 := A9) (e := 42) (s := 17) (nbs := 136) (z := .agg #[.int .i64 0, .int .u16 0, .int .u32 0, .string ByteArray.empty, .int .i64 0, .int .i64 0, .int .i64 0, .int .i64 0, .int .i64 0, .int .i64 0, .int .i64 0, .int .i64 0, .int .i64 0, .int .i64 0, .int .i64 0, .int .i64 0, .int .i64 0]) (m := 1) (ys := rowsC RZ.cells [r]) (by simp [facts]) (by simp [facts]) (by simp [facts]) (by simp [facts]) rfl (by decide) lst9 (Own.refl t11.ale)
        (src_sl (e1 := 42) (z := .agg #[.int .i64 0, .int .u16 0, .int .u32 0, .string ByteArray.empty, .int .i64 0, .int .i64 0, .int .i64 0, .int .i64 0, .int .i64 0, .int .i64 0, .int .i64 0, .int .i64 0, .int .i64 0, .int .i64 0, .int .i64 0, .int .i64 0, .int .i64 0]) (by simp [facts]) (by simp [facts]) (by simp [facts]) hs11) rfl (rows_one [r]) (by omega) ?_
      intro v' G5 A5 ow5 lst5 hkp _
      have k5 := hkp p _ hrow9 ne9
      have t12 := t11.left ow5
      have rp12 := t12.ale _ _ k5.1
      unfold lgRow at rp12
      rw [← rows_app, show rs.take j ++ [r] = rs.take (j + 1) by rw [List.take_add_one, hr]; rfl] at lst5
      obtain ⟨av, cv, hv', _, _⟩ := LstR.sl lst5 (Heap.le_refl A5)
      subst hv'
      have T := t12.left ((Own.refl t12.ale).set k5.1 (.row true 0 (lgRow pd half half zb.used last2 (.slice av (j + 1) cv)) 0))
      have L5 : LstR (upd A5 p (.row true 0 (lgRow pd half half zb.used last2 (.slice av (j + 1) cv)) 0)) (.slice av (j + 1) cv) 17 (j + 1) (rowsC RZ.cells (rs.take (j + 1))) := lst5.up fun i o hi ho => by
        rw [upd_ne _ _ (fun e' => k5.2 (by rw [hi, e']))]; exact ho
      simp (disch := first | omega | assumption | decide | (simp <;> omega) | fail) [facts, e5, e9, rp12, hplm]
      refine ⟨_, Heap.le_refl _, ⟨j + 1, (if c9 = pl then a9 else Option.map (fun x => x.add pl) a9), m9 - pl, c9 - pl, _, .slice av (j + 1) cv, by omega, by simp [e5], by simp, T, upd_same _ _ _, L5, k5.2, htl, by omega⟩, ?_⟩
      simp [lenS, e9]
      omega
  · have hcI : ¬ (za.first : Int) < (zb.first : Int) := by omega
    have hbz : baseZ d.now = 0 := by unfold baseZ halfA halfB; rw [← hhf, ← hza, ← hzb, if_neg (by omega)]
    have hcu : (chosen d.now).used = za.used := by unfold chosen halfA halfB; rw [← hhf, ← hza, ← hzb, if_neg (by omega)]
    have hul : za.used ≤ half := by rw [hza]; exact (scanTo_small _ _).2.2.1
    have hbl0 : 0 ≤ half := Nat.zero_le _
    have hchb : za.b = framesB rs := by rw [← hb]; unfold chosen halfA halfB; rw [← hhf, ← hza, ← hzb, if_neg (by omega)]
    have T8 := tg.left ((Own.refl tg.ale).set hrowA2 (.row true 0 (lgRow pd half 0 za.used last2 (.slice none 0 0)) 0))
    simp (disch := first | omega | assumption | decide | (simp <;> omega) | fail) [facts, r6, r8, hcI, rp7, upd_ne, np6, np8, n68, upd_upd]
    refine w_loop (opInv G0 RD p pd half 0 za.used last2 rs) (fun st => lenS (st.env 9)) ?_ ?_
    · exact ⟨0, a1, m1, c1, _, .slice none 0 0, Nat.zero_le _, by simp, by simp, T8, upd_same _ _ _, LstR.nil _ _, by simp [blkV], by rw [List.drop_zero, ← hchb]; exact hs1'.le hF1G, hmc1⟩
    clear r6 r8 rp7 T8
    rintro ⟨env, G⟩ ⟨j, a9, m9, c9, A9, lv9, hj, e5, e9, t9, hrow9, lst9, ne9, hs9, hmc9⟩
    simp only at e5 e9 t9
    have hl9 : (framesB (rs.drop j)).length = m9 := by simpa using hs9.len
    have hl61 := framesB_61 (rs := rs.drop j) fun r hr => hg r (List.mem_of_mem_drop hr)
    rw [List.length_drop, hl9] at hl61
    by_cases hlt : j < rs.length
    case neg =>
      obtain rfl : j = rs.length := by omega
      have hm0 : m9 = 0 := by rw [← hl9, List.drop_length]; rfl
      subst hm0
      have rp9 := t9.ale _ _ hrow9
      unfold lgRow at rp9
      rw [List.take_length] at lst9
      obtain ⟨al, cl, hlv, hsl, hcl⟩ := LstR.sl lst9 (Heap.le_refl A9)
      obtain ⟨nn, hnn⟩ : ∃ x, x = rs.length := ⟨_, rfl⟩
      rw [← hnn] at hlv
      subst hlv
      simp (disch := first | omega | assumption | decide | (simp <;> omega) | fail) [facts, e5, e9, rp9]
      refine (jclone_c al nn cl rs G (by rw [hnn]; exact hsl.le t9.ale) (by omega)).mono ?_
      rintro v G4 ⟨B4, ow4, lst4⟩
      simp (disch := first | omega | assumption | decide | (simp <;> omega) | fail) [facts, e5]
      have tj := (t9.join ow4).1
      have hjj : Heap.le (joinH B4 F0) (joinH B4 G0) := fun b o h => by
        unfold joinH at h ⊢
        cases hr : B4 b with
        | some x => rw [hr] at h; exact h
        | none => rw [hr] at h; exact hF1G _ _ (hF1 _ _ h)
      refine ⟨_, Heap.le_refl _, p, v, ⟨rfl, rfl⟩, .slice al nn cl, B4, A9, tj.less hjj, (join_right fun b o h => ow4.off b o (t9.fle _ _ (hF1G _ _ (hF1 _ _ h)))), lst4, ?_⟩
      rw [hbz, hcu, hlz]
      exact ⟨by rw [← hhf]; exact hrow9, lst9, ne9, by simp only; omega, by simp only; omega, by simp only; omega, by simp only; omega⟩
    obtain ⟨r, hr⟩ : ∃ r, rs[j]? = some r := ⟨_, List.getElem?_eq_getElem hlt⟩
    have hgr := hg r (List.mem_of_getElem? hr)
    have hfc := framesB_cons hr
    have hpl := putB_len hgr.1
    have hm9 : m9 = (putB r).length + (framesB (rs.drop (j + 1))).length := by rw [← hl9, hfc, List.length_append]
    have hm9N : 0 < m9 := by omega
    have hm9I : (0 : Int) < (m9 : Int) := by omega
    have cr := fun H h => fread_c a9 m9 c9 (framesB (rs.drop j)) H h hmc9 (by omega) r (putB r).length 0 (by rw [hfc]; exact read_put r hgr.1 hgr.2 _)
    simp (disch := first | omega | assumption | decide | (simp <;> omega) | fail) [facts, e5, e9, hm9I, hm9N]
    refine (cr _ (hs9.le t9.fle)).mono ?_
    rintro v G2 ⟨rfl, hleG⟩
    simp (disch := first | omega | assumption | decide | (simp <;> omega) | fail) [facts, ]
    refine fresh_intro fun b10 hb10 => ?_
    simp (disch := first | omega | assumption | decide | (simp <;> omega) | fail) [facts, upd_upd]
    have t10 := (t9.grow hleG).grow (le_upd (.row true 0 [.int .i64 r.kind, .int .u16 r.t, .int .u32 r.s, .string r.pan, .int .i64 r.am, .int .i64 r.ns.a, .int .i64 r.ns.b, .int .i64 r.ns.c, .int .i64 r.ns.d, .int .i64 r.rs.a, .int .i64 r.rs.b, .int .i64 r.rs.c, .int .i64 r.rs.d, .int .i64 r.ls.a, .int .i64 r.ls.b, .int .i64 r.ls.c, .int .i64 r.ls.d] 0) hb10)
    have r10 := upd_same G2 b10 (.row true 0 [.int .i64 r.kind, .int .u16 r.t, .int .u32 r.s, .string r.pan, .int .i64 r.am, .int .i64 r.ns.a, .int .i64 r.ns.b, .int .i64 r.ns.c, .int .i64 r.ns.d, .int .i64 r.rs.a, .int .i64 r.rs.b, .int .i64 r.rs.c, .int .i64 r.rs.d, .int .i64 r.ls.a, .int .i64 r.ls.b, .int .i64 r.ls.c, .int .i64 r.ls.d] 0)
    generalize upd G2 b10 (.row true 0 [.int .i64 r.kind, .int .u16 r.t, .int .u32 r.s, .string r.pan, .int .i64 r.am, .int .i64 r.ns.a, .int .i64 r.ns.b, .int .i64 r.ns.c, .int .i64 r.ns.d, .int .i64 r.rs.a, .int .i64 r.rs.b, .int .i64 r.rs.c, .int .i64 r.rs.d, .int .i64 r.ls.a, .int .i64 r.ls.b, .int .i64 r.ls.c, .int .i64 r.ls.d] 0) = G3 at *
    have rp10 := t10.ale _ _ hrow9
    unfold lgRow at rp10
    have htl := hs9.tl (c := c9) (l := (putB r).length) (by omega) hmc9
    rw [hfc, List.drop_left' rfl] at htl
    obtain ⟨pl, hpld⟩ : ∃ x, x = (putB r).length := ⟨_, rfl⟩
    rw [← hpld] at htl hm9 hpl ⊢
    have hplm : (pl : Int) ≤ (m9 : Int) := by omega
    refine w_plan (by simp [facts]) (opsP [0,1,2,3,8,9,10] (.both (opsP [4,5,6,7,11,12,13,14] .done) (opsP [5] (.both (opsP [4,6,7,11,12,13,14] .done) (opsP [6,4,7,11,12,13,14] .done))))) (by decide +kernel) ?_
    have hspl : splice (zeros [Value.int .i64 0, .int .u16 0, .int .u32 0, .string ByteArray.empty, .int .i64 0, .int .i64 0, .int .i64 0, .int .i64 0, .int .i64 0, .int .i64 0, .int .i64 0, .int .i64 0, .int .i64 0, .int .i64 0, .int .i64 0, .int .i64 0, .int .i64 0] 1) 0 [.int .i64 r.kind, .int .u16 r.t, .int .u32 r.s, .string r.pan, .int .i64 r.am, .int .i64 r.ns.a, .int .i64 r.ns.b, .int .i64 r.ns.c, .int .i64 r.ns.d, .int .i64 r.rs.a, .int .i64 r.rs.b, .int .i64 r.rs.c, .int .i64 r.rs.d, .int .i64 r.ls.a, .int .i64 r.ls.b, .int .i64 r.ls.c, .int .i64 r.ls.d] = rowsC RZ.cells [r] := rfl
    simp (disch := first | omega | assumption | decide | (simp <;> omega) | fail) [facts, e5, e9, rp10, r10]
    repeat' apply And.intro
    all_goals
      refine fresh_intro fun b11 hb11 => ?_
      rw [hspl]
      have t11 := t10.grow (le_upd (.row true 0 (rowsC RZ.cells [r]) 0) hb11)
      have hs11 : SlA (upd G3 b11 (.row true 0 (rowsC RZ.cells [r]) 0)) (some ⟨b11, 0, none⟩) 1 17 (rowsC RZ.cells [r]) := SlA.row (upd_same _ _ _) (Nat.le_refl _) rfl (Nat.le_refl 17) rfl
      have rp11 := t11.ale _ _ hrow9
      unfold lgRow at rp11
      generalize upd G3 b11 (.row true 0 (rowsC RZ.cells [r]) 0) = G4 at *
      simp (disch := first | omega | assumption | decide | (simp <;> omega) | fail) [facts, e5, e9, rp11]
      refine LstR.app (H0 := G4) (B0 := A9) (e := 42) (s := 17) (nbs := 136) (z := .agg #[.int .i64 0, .int .u16 0, .int .u32 0, .string ByteArray.empty, .int .i64 0, .int .i64 0, .int .i64 0, .int .i64 0, .int .i64 0, .int .i64 0, .int .i64 0, .int .i64 0, .int .i64 0, .int .i64 0, .int .i64 0, .int .i64 0, .int .i64 0]) (m := 1) (ys := rowsC RZ.cells [r]) (by simp [facts]) (by simp [facts]) (by simp [facts]) (by simp [facts]) rfl (by decide) lst9 (Own.refl t11.ale)
        (src_sl (e1 := 42) (z := .agg #[.int .i64 0, .int .u16 0, .int .u32 0, .string ByteArray.empty, .int .i64 0, .int .i64 0, .int .i64 0, .int .i64 0, .int .i64 0, .int .i64 0, .int .i64 0, .int .i64 0, .int .i64 0, .int .i64 0, .int .i64 0, .int .i64 0, .int .i64 0]) (by simp [facts]) (by simp [facts]) (by simp [facts]) hs11) rfl (rows_one [r]) (by omega) ?_
      intro v' G5 A5 ow5 lst5 hkp _
      have k5 := hkp p _ hrow9 ne9
      have t12 := t11.left ow5
      have rp12 := t12.ale _ _ k5.1
      unfold lgRow at rp12
      rw [← rows_app, show rs.take j ++ [r] = rs.take (j + 1) by rw [List.take_add_one, hr]; rfl] at lst5
      obtain ⟨av, cv, hv', _, _⟩ := LstR.sl lst5 (Heap.le_refl A5)
      subst hv'
      have T := t12.left ((Own.refl t12.ale).set k5.1 (.row true 0 (lgRow pd half 0 za.used last2 (.slice av (j + 1) cv)) 0))
      have L5 : LstR (upd A5 p (.row true 0 (lgRow pd half 0 za.used last2 (.slice av (j + 1) cv)) 0)) (.slice av (j + 1) cv) 17 (j + 1) (rowsC RZ.cells (rs.take (j + 1))) := lst5.up fun i o hi ho => by
        rw [upd_ne _ _ (fun e' => k5.2 (by rw [hi, e']))]; exact ho
      simp (disch := first | omega | assumption | decide | (simp <;> omega) | fail) [facts, e5, e9, rp12, hplm]
      refine ⟨_, Heap.le_refl _, ⟨j + 1, (if c9 = pl then a9 else Option.map (fun x => x.add pl) a9), m9 - pl, c9 - pl, _, .slice av (j + 1) cv, by omega, by simp [e5], by simp, T, upd_same _ _ _, L5, k5.2, htl, by omega⟩, ?_⟩
      simp [lenS, e9]
      omega
end Go.Proofs.Ytnmbmccigpljnaa.GL
