/- What a law is called with: the whole of the old memory as a heap of rows that are not the call's own; its arguments, opened. -/
import Derived.Test.YtfpighmafofoeaaDoorGlK
import Derived.OpenShut
import Derived.Carry
import Derived.ChangeSlices
namespace Go.Proofs.YtfpighmafofoeaaDoor.GL
open Go Go.RowKit
set_option linter.unusedSimpArgs false
set_option linter.unusedVariables false

theorem one_int {k : IntKind} {x : Int} : (Value.int k x).oneCell' = true := Eq.trans rfl rfl
theorem one_bool {x : Bool} : (Value.bool x).oneCell' = true := Eq.trans rfl rfl
theorem one_str {x : ByteArray} : (Value.string x).oneCell' = true := Eq.trans rfl rfl
theorem one_ptr {x : Option Addr} : (Value.pointer x).oneCell' = true := Eq.trans rfl rfl
theorem one_slice {x : Option Addr} {n c : Nat} : (Value.slice x n c).oneCell' = true := Eq.trans rfl rfl
theorem one_map {x : Option Nat} : (Value.map x).oneCell' = true := Eq.trans rfl rfl
attribute [simp] one_int one_bool one_str one_ptr one_slice one_map

/-- A long walk, cut: the slots by a name. -/
theorem eopsP_env {P : Program} {ops : Array Oper} {t : Plan} {K : St → Prop} {env : Nat → Value} {H : Heap} (h : ∀ e : Nat → Value, (∀ i, e i = env i) → eopsP P ops t K ⟨e, H⟩) : eopsP P ops t K ⟨env, H⟩ := h env fun _ => rfl
theorem ewp_env {P : Program} {A : Code} {K : Post} {env : Nat → Value} {H : Heap} (h : ∀ e : Nat → Value, (∀ i, e i = env i) → ewp P A K ⟨e, H⟩) : ewp P A K ⟨env, H⟩ := h env fun _ => rfl

/-- A cut behind a block (a loop with its breaks). -/
theorem w_cutB {P : Program} {A : Code} {id : Nat} {f : St → Prop} {K : Post} {s : St} (I : St → Prop) (h1 : ewp P A (Kblock id (Kseq I K)) s) (h2 : ∀ s, I s → f s) : ewp P A (Kblock id (Kseq f K)) s :=
  ewp_mono A s (fun e s he => by
    cases e with
    | normal => exact h2 s he
    | exit i =>
      have he' : (if i = id then I s else K (.exit i) s) := he
      show (if i = id then f s else K (.exit i) s)
      by_cases hi : i = id
      · rw [if_pos hi] at he' ⊢; exact h2 s he'
      · rw [if_neg hi] at he' ⊢; exact he'
    | _ => exact he) h1

theorem Out.sl2 {H H' : Heap} {sv : Value} {s n : Nat} {cs : List Value} (h : Out H H' sv s n cs) : ∃ a c, sv = .slice a n c ∧ SlA H' a n s cs ∧ n ≤ c := by
  rcases h with ⟨rfl, rfl, rfl⟩ | ⟨b, o, cap, room, _, hown⟩
  · exact ⟨none, 0, rfl, SlA.nil _ _, Nat.le_refl _⟩
  · exact ⟨some ⟨b, o, none⟩, cap, hown.is, hown.slA, hown.capOk⟩
theorem andK_i64 (a b : Int) : -9223372036854775808 ≤ andK .i64 a b ∧ andK .i64 a b ≤ 9223372036854775807 := by
  unfold andK; rw [IntKind.wrap_i64]; omega

theorem u16_wf (a : Int) : (Lit.int .u16 a).wf = true ↔ 0 ≤ a ∧ a ≤ 65535 := by
  simp only [Lit.wf, Bool.and_eq_true, decide_eq_true_eq]
  have h1 : IntKind.u16.min = 0 := by decide
  have h2 : IntKind.u16.max = 65535 := by decide
  rw [h1, h2]

/-! ### A loop of few rounds, round by round -/
def loopU (P : Program) (b : Code) (K : Post) : Nat → St → Prop
  | 0, _ => False
  | n + 1, s => ewp P b (fun e s' => match e with | .normal => loopU P b K n s' | e => K e s') s
def kU (P : Program) (b : Code) (K : Post) (n : Nat) : Post := fun e s' => match e with | .normal => loopU P b K n s' | e => K e s'
theorem exists_min {p : Nat → Prop} : ∀ m, p m → ∃ k, p k ∧ ∀ j, p j → k ≤ j := by
  intro m
  induction m using Nat.strongRecOn with
  | ind m ih =>
    intro hm
    by_cases h : ∃ j, j < m ∧ p j
    · obtain ⟨j, hj, hp⟩ := h
      exact ih j hj hp
    · exact ⟨m, hm, fun j hj => Nat.le_of_not_lt fun hlt => h ⟨j, hlt, hj⟩⟩
theorem leastU {P : Program} {b : Code} {K : Post} : ∃ μ : St → Nat, ∀ s, (∃ m, loopU P b K m s) → loopU P b K (μ s) s ∧ ∀ j, loopU P b K j s → μ s ≤ j := by
  classical
  refine ⟨fun s => if h : ∃ m, loopU P b K m s then (exists_min (p := fun m => loopU P b K m s) h.choose h.choose_spec).choose else 0, fun s h => ?_⟩
  simp only
  rw [dif_pos h]
  exact (exists_min (p := fun m => loopU P b K m s) h.choose h.choose_spec).choose_spec
theorem w_unroll {P : Program} {b : Code} {K : Post} {s : St} (n : Nat) (h : loopU P b K n s) : ewp P (.loop b) K s := by
  obtain ⟨μ, hμ⟩ := leastU (P := P) (b := b) (K := K)
  refine ⟨fun s1 => ∃ m, loopU P b K m s1, μ, ⟨n, h⟩, fun s1 hs1 => ?_⟩
  have hm := (hμ s1 hs1).1
  generalize hM : μ s1 = M at hm
  cases M with
  | zero => exact hm.elim
  | succ m =>
    refine ewp_mono b s1 (fun e s2 he => ?_) hm
    cases e with
    | normal =>
      have h2 : loopU P b K m s2 := he
      exact ⟨s2.heap, Heap.le_refl _, ⟨m, h2⟩, Nat.lt_succ_of_le ((hμ s2 ⟨m, h2⟩).2 m h2)⟩
    | _ => exact he
theorem loopU_succ {P : Program} {b : Code} {K : Post} {n : Nat} {s : St} : loopU P b K (n + 1) s = ewp P b (kU P b K n) s := Eq.trans rfl rfl
theorem kU_normal {P : Program} {b : Code} {K : Post} {n : Nat} {s : St} : kU P b K n .normal s = loopU P b K n s := Eq.trans rfl rfl
theorem kU_exit {P : Program} {b : Code} {K : Post} {n i : Nat} {s : St} : kU P b K n (.exit i) s = K (.exit i) s := Eq.trans rfl rfl
theorem kU_ret {P : Program} {b : Code} {K : Post} {n : Nat} {s : St} : kU P b K n .ret s = K .ret s := Eq.trans rfl rfl
attribute [simp] loopU_succ kU_normal kU_exit kU_ret

/-- All of the memory's rows, as they are. -/
def heapOf (W : World) : Heap := fun b => match W.heap[b]? with
  | some (.cells c _ _) => some (.row false 0 c.toList 0)
  | _ => none

theorem sat_heapOf (W : World) : Sat W W (heapOf W) := ⟨Below.refl _ _, fun b o e => by
  unfold heapOf at e
  split at e
  · rename_i c t f hb
    cases e
    have hlt : b < W.heap.size := by
      rcases Nat.lt_or_ge b W.heap.size with h | h
      · exact h
      · rw [Array.getElem?_eq_none h] at hb; cases hb
    refine ⟨hlt, fun j v hv => ?_, fun h => by cases h⟩
    simp only [World.cell?, hb, Nat.zero_add]
    simpa using hv
  · cases e⟩

theorem ECalls.world {P : Program} {f : FuncId} {args : Array Value} {K : Kont} (W : World) (h : ECalls P f args (heapOf W) K) :
    Calls P f args W fun e W' => ∃ v H', e = .returned v ∧ K v H' ∧ Below W.heap.size W W' :=
  (h W W (sat_heapOf W)).mono fun _ _ ⟨v, H', he, hK, hs⟩ => ⟨v, H', he, hK, hs.below⟩

theorem at1_heapOf {W : World} {b o k : Nat} {v : Value} (h : W.cell? ⟨b, o + k, none⟩ = some v) : at1 (heapOf W) (some ⟨b, o, none⟩) k = some v := by
  unfold World.cell? at h
  split at h
  · rename_i c t f hb
    simp only [Option.isSome_none, Bool.false_eq_true, if_false] at h
    simp only at hb
    have hH : heapOf W b = some (.row false 0 c.toList 0) := by unfold heapOf; rw [hb]
    simp only [at1, rd1, hH, Nat.zero_le, if_true, Nat.sub_zero]
    simpa using h
  · cases h

/-- Cells that are there make a slice of the heap. -/
theorem slA_heapOf {W : World} {b o n s : Nat} {cs : List Value} (hl : cs.length = n * s) (h : ∀ k, k < n * s → W.cell? ⟨b, o + k, none⟩ = cs[k]?) : SlA (heapOf W) (some ⟨b, o, none⟩) n s cs := by
  rcases Nat.eq_zero_or_pos (n * s) with h0 | h0
  · refine ⟨rfl, fun _ => rfl, hl, fun k hk => by omega, fun k m hm hk => by omega⟩
  · have h1 := h 0 h0
    rw [List.getElem?_eq_getElem (by omega)] at h1
    unfold World.cell? at h1
    split at h1
    case h_2 => cases h1
    rename_i c t f hb
    simp only at hb
    have hc : ∀ k, k < n * s → c[o + k]? = cs[k]? := fun k hk => by
      have := h k hk
      simpa only [World.cell?, hb, Option.isSome_none, Bool.false_eq_true, if_false] using this
    have hH : heapOf W b = some (.row false 0 c.toList 0) := by unfold heapOf; rw [hb]
    have hlast := hc (n * s - 1) (by omega)
    rw [List.getElem?_eq_getElem (by omega)] at hlast
    have hsz : o + (n * s - 1) < c.size := by
      rcases Nat.lt_or_ge (o + (n * s - 1)) c.size with h | h
      · exact h
      · rw [Array.getElem?_eq_none h] at hlast; cases hlast
    refine SlA.row hH (Nat.zero_le _) hl (by simp; omega) ?_
    apply List.ext_getElem?
    intro k
    by_cases hk : k < n * s
    · rw [List.getElem?_take_of_lt hk, List.getElem?_drop, Nat.sub_zero, ← hc k hk]; simp
    · rw [List.getElem?_eq_none (by simp; omega), List.getElem?_eq_none (by omega)]

section
variable {H : Type} {enc : TypeId × Value → H} {P : Program} {W : World} {base : Nat} {t e : TypeId} {v : Value} {d : DataW H} {ps : List MemPlace} {fuel : Nat} {cs : List Value} {x : DataW H × List MemPlace}

/-- A slice's cells, opened, whatever its elements: each element's own reading stays at hand. -/
theorem open_slice {s : Nat} (ht : P.underlying t = some (.slice e)) (hs : P.cellsOf e = s) (hs0 : 0 < s) (h : DataW.trod enc P W 0 (fun _ => true) true fuel t cs = some x) :
    ∃ (a : Option Addr) (n c : Nat) (xs : List Value) (m : Nat) (el : List (DataW H × List MemPlace)), cs = [.slice a n c] ∧ n ≤ c ∧ c ≤ maxLen ∧ ((n = 0 ∧ c = 0 ∧ xs = []) ∨ SlA (heapOf W) a n s xs) ∧ xs.length = n * s ∧
      el.length = n ∧ ∀ i, i < n → DataW.trod enc P W 0 (fun _ => true) true m e ((xs.drop (i * s)).take s) = el[i]? := by
  rcases DataW.trod_slice ht h with ⟨h0, _⟩ | ⟨a, n, c, elems, rest, m, _, rfl, _, _, hl, hm, hlen, hel, hsp, _⟩
  · exact ⟨none, 0, 0, [], 0, [], h0, Nat.le_refl _, by decide, .inl ⟨rfl, rfl, rfl⟩, by simp, rfl, fun i hi => absurd hi (Nat.not_lt_zero _)⟩
  rw [hs] at hel hsp
  obtain ⟨hrl, hr⟩ := hsp rfl
  have each : ∀ i, i < c → ∃ xs y, W.cells? 0 (a.add (i * s)) s = some xs ∧ DataW.trod enc P W 0 (fun _ => true) true m e xs = some y ∧ (i < n → elems[i]? = some y) := fun i hi => by
    by_cases hin : i < n
    · have := hel i hin
      rw [List.getElem?_eq_getElem (by omega), Option.bind_eq_some_iff] at this
      obtain ⟨xs, h1, h2⟩ := this
      exact ⟨xs, _, h1, h2, fun _ => List.getElem?_eq_getElem (by omega)⟩
    · have := hr (i - n) (by omega)
      rw [List.getElem?_eq_getElem (by omega), show n + (i - n) = i by omega, Option.bind_eq_some_iff] at this
      obtain ⟨xs, h1, h2⟩ := this
      exact ⟨xs, _, h1, h2, fun h => absurd h hin⟩
  rcases Nat.eq_zero_or_pos c with hc0 | hc0
  · have hn0 : n = 0 := by omega
    subst hn0; subst hc0
    exact ⟨some a, 0, 0, [], 0, [], rfl, Nat.le_refl _, by decide, .inl ⟨rfl, rfl, rfl⟩, by simp, rfl, fun i hi => absurd hi (Nat.not_lt_zero _)⟩
  · obtain ⟨b, o, sp⟩ := a
    have hsp0 : sp = none := by
      obtain ⟨xs, y, h1, _⟩ := each 0 hc0
      have h2 := (World.cells?_some h1).2.2 0 hs0
      rw [List.getElem?_eq_getElem (by rw [(World.cells?_some h1).2.1]; exact hs0)] at h2
      have := World.cell?_spot h2
      simpa [Addr.add, Nat.zero_mul] using this
    subst hsp0
    obtain ⟨f, hf⟩ : ∃ f : Nat → Value, ∀ k, k < n * s → W.cell? ⟨b, o + k, none⟩ = some (f k) := by
      have : ∀ k, ∃ v, k < n * s → W.cell? ⟨b, o + k, none⟩ = some v := fun k => by
        by_cases hk : k < n * s
        · have hi : k / s < n := Nat.div_lt_of_lt_mul (by rw [Nat.mul_comm]; exact hk)
          obtain ⟨xs, y, h1, _⟩ := each (k / s) (by omega)
          obtain ⟨_, hxl, hxc⟩ := World.cells?_some h1
          have h2 := hxc (k % s) (Nat.mod_lt _ hs0)
          rw [List.getElem?_eq_getElem (by rw [hxl]; exact Nat.mod_lt _ hs0)] at h2
          refine ⟨xs[k % s]'(by rw [hxl]; exact Nat.mod_lt _ hs0), fun _ => ?_⟩
          rw [Addr.add_mid, Addr.add_mid, Nat.add_assoc, Nat.mul_comm, Nat.div_add_mod] at h2
          exact h2
        · exact ⟨undef, fun h => absurd h hk⟩
      exact ⟨fun k => (this k).choose, fun k hk => (this k).choose_spec hk⟩
    have hxs : ∀ k, k < n * s → ((List.range (n * s)).map f)[k]? = some (f k) := fun k hk => by simp [hk]
    refine ⟨some ⟨b, o, none⟩, n, c, (List.range (n * s)).map f, m, elems, rfl, hl, hm, .inr (slA_heapOf (by simp) fun k hk => by rw [hf k hk, hxs k hk]), by simp, hlen, fun i hi => ?_⟩
    obtain ⟨xs, y, h1, h2, h3⟩ := each i (by omega)
    rw [h3 hi, ← h2]
    congr 1
    obtain ⟨_, hxl, hxc⟩ := World.cells?_some h1
    apply List.ext_getElem?
    intro k
    by_cases hk : k < s
    · have hks : i * s + k < n * s := by
        calc i * s + k < i * s + s := by omega
          _ = (i + 1) * s := by rw [Nat.succ_mul]
          _ ≤ n * s := Nat.mul_le_mul_right s hi
      rw [List.getElem?_take_of_lt hk, List.getElem?_drop, hxs _ hks, ← hf _ hks, ← hxc k hk, Addr.add_mid, Addr.add_mid, Nat.add_assoc]
    · rw [List.getElem?_eq_none (by simp; omega), List.getElem?_eq_none (by omega)]

theorem spot_of_okWide {a : Addr} {n c : Nat} (ht : P.underlying t = some (.slice e)) (hv : Value.okWide P W .any base t (.slice (some a) n c)) : a.spot = none := by
  unfold Value.okWide at hv
  rw [ht] at hv
  unfold Cell.okWide at hv
  rw [ht] at hv
  simp only [Cell.ok, ht] at hv
  exact hv.2.2.2.1

/-- An argument that is a slice. -/
theorem arg_slice {s : Nat} (ht : P.underlying t = some (.slice e)) (hs : P.cellsOf e = s) (hs0 : 0 < s) (hv : Value.okWide P W .any base t v) (h : DataW.Trod enc P W 0 (fun _ => true) true t v d ps) :
    ∃ (a : Option Addr) (n c : Nat) (xs : List Value) (m : Nat) (el : List (DataW H × List MemPlace)), v = .slice a n c ∧ n ≤ c ∧ c ≤ maxLen ∧ SlA (heapOf W) a n s xs ∧
      el.length = n ∧ ∀ i, i < n → DataW.trod enc P W 0 (fun _ => true) true m e ((xs.drop (i * s)).take s) = el[i]? := by
  obtain ⟨fuel, h⟩ := h
  obtain ⟨a, n, c, xs, m, el, hcs, hl, hm, hsl, hxl, hel, he⟩ := open_slice ht hs hs0 h
  have hv0 : v = .slice a n c := by
    have h1 := cells_toList v
    rw [hcs] at h1
    have hk : ∀ cs, v ≠ .agg cs := fun cs hc => by
      subst hc
      unfold Value.okWide at hv
      rw [ht] at hv
      unfold Cell.okWide at hv
      rw [ht] at hv
      simp only [Cell.ok, ht] at hv
    cases v <;> simp_all [cellsV]
  subst hv0
  refine ⟨a, n, c, xs, m, el, rfl, hl, hm, ?_, hel, he⟩
  rcases hsl with ⟨rfl, rfl, rfl⟩ | hsl
  · cases a with
    | none => exact SlA.nil _ _
    | some a =>
      obtain ⟨b, o, sp⟩ := a
      obtain rfl : sp = none := spot_of_okWide ht hv
      exact slA_heapOf (by simp) fun k hk => by simp at hk
  · exact hsl

theorem ints_of {k : IntKind} {xs : List Value} {el : List (DataW H × List MemPlace)} {m n : Nat} (he : P.underlying e = some (.int k)) (hl : xs.length = n) (h : ∀ i, i < n → DataW.trod enc P W 0 (fun _ => true) true m e ((xs.drop (i * 1)).take 1) = el[i]?) (hel : el.length = n) :
    ∃ zs : List Int, xs = zs.map (Value.int k) ∧ ∀ z ∈ zs, (Lit.int k z).wf = true := by
  subst hl
  induction xs generalizing el with
  | nil => exact ⟨[], rfl, fun z hz => by cases hz⟩
  | cons y ys ih =>
    cases el with
    | nil => simp at hel
    | cons x0 el =>
      have h0 := h 0 (by simp)
      simp only [Nat.zero_mul, List.drop_zero, List.take_succ_cons, List.take_zero, List.getElem?_cons_zero] at h0
      obtain ⟨n, hn, _, hw⟩ := DataW.trod_int he h0
      obtain ⟨zs, rfl, hz⟩ := ih (el := el) (fun i hi => by
        have := h (i + 1) (by simpa using hi)
        simpa using this) (by simpa using hel)
      simp only [List.cons.injEq, and_true] at hn
      subst hn
      exact ⟨n :: zs, rfl, fun z hz' => by
        rcases List.mem_cons.1 hz' with rfl | hz'
        · exact hw
        · exact hz z hz'⟩

theorem u8_list {zs : List Int} (h : ∀ z ∈ zs, (Lit.int .u8 z).wf = true) : zs.map (Value.int .u8) = (zs.map fun z => UInt8.ofNat z.toNat).map u8V := by
  rw [List.map_map]
  apply List.map_congr_left
  intro z hz
  have := (u8_wf z).1 (h z hz)
  simp only [Function.comp, u8V_def, UInt8.toNat_ofNat']
  congr 1
  omega

/-- An argument that is a slice of integers. -/
theorem arg_ints {k : IntKind} (ht : P.underlying t = some (.slice e)) (he : P.underlying e = some (.int k)) (hs : P.cellsOf e = 1) (hv : Value.okWide P W .any base t v) (h : DataW.Trod enc P W 0 (fun _ => true) true t v d ps) :
    ∃ (a : Option Addr) (n c : Nat) (zs : List Int), v = .slice a n c ∧ n ≤ c ∧ c ≤ maxLen ∧ SlA (heapOf W) a n 1 (zs.map (Value.int k)) ∧ ∀ z ∈ zs, (Lit.int k z).wf = true := by
  obtain ⟨a, n, c, xs, m, el, rfl, hl, hm, hsl, hel, hx⟩ := arg_slice ht hs (by decide) hv h
  obtain ⟨zs, rfl, hz⟩ := ints_of he (by simpa using hsl.len) hx hel
  exact ⟨a, n, c, zs, rfl, hl, hm, hsl, hz⟩
theorem arg_bytes (ht : P.underlying t = some (.slice e)) (he : P.underlying e = some (.int .u8)) (hs : P.cellsOf e = 1) (hv : Value.okWide P W .any base t v) (h : DataW.Trod enc P W 0 (fun _ => true) true t v d ps) :
    ∃ (a : Option Addr) (n c : Nat) (bs : List UInt8), v = .slice a n c ∧ n ≤ c ∧ c ≤ maxLen ∧ SlA (heapOf W) a n 1 (bs.map u8V) := by
  obtain ⟨a, n, c, zs, rfl, hl, hm, hsl, hz⟩ := arg_ints ht he hs hv h
  rw [u8_list hz] at hsl
  exact ⟨a, n, c, _, rfl, hl, hm, hsl⟩

theorem agg_of_okWide_arr {n : Nat} (ht : P.underlying t = some (.array n e)) (hv : Value.okWide P W .any base t v) : ∃ cs, v = .agg cs := by
  unfold Value.okWide at hv
  rw [ht] at hv
  exact ⟨_, hv.choose_spec.1⟩
/-- An argument that is an array of integers. -/
theorem arg_arr {k : IntKind} {n : Nat} (ht : P.underlying t = some (.array n e)) (he : P.underlying e = some (.int k)) (hs : P.cellsOf e = 1) (hn : P.cellsOf t = n) (hv : Value.okWide P W .any base t v) (h : DataW.Trod enc P W 0 (fun _ => true) true t v d ps) :
    ∃ zs : List Int, v = .agg (zs.map (Value.int k)).toArray ∧ zs.length = n ∧ ∀ z ∈ zs, (Lit.int k z).wf = true := by
  obtain ⟨cs, rfl⟩ := agg_of_okWide_arr ht hv
  obtain ⟨fuel, h⟩ := h
  obtain ⟨xs, m, _, _, hl, hxl, hx⟩ := DataW.trod_array ht h
  rw [hs] at hx
  rw [hn] at hl
  have e1 : (Value.agg cs).cells.toList = cs.toList := Eq.trans rfl rfl
  rw [e1] at hl hx
  obtain ⟨zs, hzs, hz⟩ := ints_of he hl hx hxl
  have hcs : cs = (zs.map (Value.int k)).toArray := by rw [← hzs]
  subst hcs
  exact ⟨zs, rfl, by simpa using hl, hz⟩

end

/-- All arguments read behind the call as they did. -/
theorem trodAll_below {H : Type} {enc : TypeId × Value → H} {P : Program} (hl : laidOutB P = true) {W W' : World} (hb : Below W.heap.size W W') : ∀ {ts : List TypeId} {vs : List Value} {ds : List (DataW H)} {ps : List MemPlace},
    (∀ t ∈ ts, P.readableRec t = true ∧ t < P.types.size) → DataW.TrodAll enc P W 0 (fun _ => true) true ts vs ds ps → (∀ x ∈ ps, x.block < W.heap.size) → DataW.TrodAll enc P W' 0 (fun b => decide (b < W.heap.size)) true ts vs ds ps
  | [], [], [], ps, _, h, _ => h
  | t :: ts, v :: vs, d :: ds, ps, ht, h, hp => by
    obtain ⟨p, q, h1, h2, rfl⟩ := h
    exact ⟨p, q, Below.trod hl (ht t (by simp)).1 (ht t (by simp)).2 h1 hb fun x hx => hp x (by simp [hx]), trodAll_below hl hb (fun t' ht' => ht t' (by simp [ht'])) h2 fun x hx => hp x (by simp [hx]), rfl⟩
  | [], _ :: _, _, _, _, h, _ => h.elim
  | [], [], _ :: _, _, _, h, _ => h.elim
  | _ :: _, [], _, _, _, h, _ => h.elim
  | _ :: _, _ :: _, [], _, _, h, _ => h.elim
theorem trodAll_belowB {H : Type} {enc : TypeId × Value → H} {P : Program} (hl : laidOutB P = true) {W W' : World} (hb : Below W.heap.size W W') {ts : List TypeId} {vs : List Value} {ds : List (DataW H)} {ps : List MemPlace}
    (ht : (ts.all fun t => P.readableRec t && decide (t < P.types.size)) = true) (h : DataW.TrodAll enc P W 0 (fun _ => true) true ts vs ds ps) (hp : ∀ x ∈ ps, x.block < W.heap.size) : DataW.TrodAll enc P W' 0 (fun b => decide (b < W.heap.size)) true ts vs ds ps :=
  trodAll_below hl hb (fun t h => by simpa using List.all_eq_true.1 ht t h) h hp
end Go.Proofs.YtfpighmafofoeaaDoor.GL
