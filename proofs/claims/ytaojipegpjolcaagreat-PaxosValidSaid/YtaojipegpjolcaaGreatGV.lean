/- PaxosValid: near, own, the law's walk. The statement PaxosValid: the row's step (the guide's frame at this function), over the walk of W1. -/
import Derived.Test.YtaojipegpjolcaaGreatGM
import Derived.StillTailTactics
import Derived.Test.YtaojipegpjolcaaGreatRows
import Derived.WalkKit
import Derived.ProofKit
import Derived.OpenShut
import Derived.ChangeOld
import Derived.Below
import Derived.Lib.SmallJoins
set_option linter.unusedVariables false
set_option linter.unusedSimpArgs false
namespace Go.Proofs.YtaojipegpjolcaaGreat
open Go.RowKit Go.Sort Go.Proofs.BodegaHeap
variable {base : Nat} {w0 w : World} {L : List Blk}

/-- A job whose numbers are words. -/
structure JR (j : PJ) : Prop where
  a : -9223372036854775808 ≤ j.nodes ∧ j.nodes ≤ 9223372036854775807
  b : -9223372036854775808 ≤ j.number ∧ j.number ≤ 9223372036854775807
  c : -9223372036854775808 ≤ j.client ∧ j.client ≤ 9223372036854775807
  d : -9223372036854775808 ≤ j.round ∧ j.round ≤ 9223372036854775807
  v : 0 ≤ j.value ∧ j.value < 18446744073709551616

def pNear (j : PJ) : PJ := ⟨wrap64 (pick j.nodes 7 - 1), pick j.number 5, wrap64 (pick j.client 8 - 1), pick j.round 9, bits .and .u64 j.value 1099511627775⟩

set_option maxRecDepth 100000 in
set_option maxHeartbeats 1600000 in
theorem near_calls (w : World) (j : PJ) (h : JR j) : Calls Tryz.prog 7 #[pjV j] w fun e w' => e = .returned (pjV (pNear j)) ∧ Below w.heap.size w w' := by
  have h0 := fun W => Pick_calls W j.nodes 7 h.a (by decide)
  have h1 := fun W => Pick_calls W j.number 5 h.b (by decide)
  have h2 := fun W => Pick_calls W j.client 8 h.c (by decide)
  have h3 := fun W => Pick_calls W j.round 9 h.d (by decide)
  go_enter Tryz.func7, Tryz.ntmps7
  go_wp2_with fail
  have h4 : St w.heap.size w ((w.alloc (.cells (pjC j) 24)).alloc (.cells #[.int .i64 0, .int .i64 0, .int .i64 0, .int .i64 0, .int .u64 0] 24)).drew _ := (((St.start w).alloc _).alloc _).drew
  obtain ⟨W, hW⟩ : ∃ W, W = ((w.alloc (.cells (pjC j) 24)).alloc (.cells #[.int .i64 0, .int .i64 0, .int .i64 0, .int .i64 0, .int .u64 0] 24)).drew := ⟨_, rfl⟩
  rw [← hW] at h4
  have c1 := fun k => h4.cells (b := w.heap.size) (cs := pjC j) (t := 24) (fr := (0, 0)) (by simp) k
  have c2 := fun k => h4.cells (b := w.heap.size + 1) (cs := #[.int .i64 0, .int .i64 0, .int .i64 0, .int .i64 0, .int .u64 0]) (t := 24) (fr := (0, 0)) (by simp) k
  have f2 := fun k => h4.frozen (b := w.heap.size + 1) (cs := #[.int .i64 0, .int .i64 0, .int .i64 0, .int .i64 0, .int .u64 0]) (t := 24) (by simp) k
  have H4 := Lib.hid h4
  have HW := Lib.hid hW
  clear h4 hW
  refine wp_region_still_tail 18 (by kernel_rfl) (by kernel_rfl) ?_
  simp only [List.take_succ_cons, List.take_zero, List.drop_succ_cons, List.drop_zero]
  change wpStill _ _ (World.drew _) (fun a' => wpList _ _ _ _ a' (World.drew _)) _ _
  rw [← HW.out]
  iterate 2 still_step
  still_call (h0 W)
  iterate 3 still_step
  still_call (h1 W)
  iterate 2 still_step
  still_call (h2 W)
  iterate 3 still_step
  still_call (h3 W)
  clear h0 h1 h2 h3
  obtain ⟨V, hV⟩ : ∃ V, V = bits .and .u64 j.value 1099511627775 := ⟨_, rfl⟩
  iterate 3 still_step
  rw [← hV]
  have HV := Lib.hid hV
  clear hV
  still_step
  refine wpStill_nil ?_
  go_wp2
  have h5 : St w.heap.size w W [(w.heap.size + 1, .cells #[.int .i64 0, .int .i64 0, .int .i64 0, .int .i64 0, .int .u64 0] 24 (0, 0)), (w.heap.size, .cells (pjC j) 24 (0, 0))] := by simpa using H4.out
  have h6 := ((((h5.set 0 (.int .i64 (wrap64 (pick j.nodes 7 - 1)))).set 1 (.int .i64 (pick j.number 5))).set 2 (.int .i64 (wrap64 (pick j.client 8 - 1)))).set 3 (.int .i64 (pick j.round 9))).set 4 (.int .u64 V)
  generalize hw9 : ((((W.setCell ⟨w.heap.size + 1, 0, none⟩ (.int .i64 (wrap64 (pick j.nodes 7 - 1)))).setCell ⟨w.heap.size + 1, 1, none⟩ (.int .i64 (pick j.number 5))).setCell ⟨w.heap.size + 1, 2, none⟩ (.int .i64 (wrap64 (pick j.client 8 - 1)))).setCell ⟨w.heap.size + 1, 3, none⟩ (.int .i64 (pick j.round 9))).setCell ⟨w.heap.size + 1, 4, none⟩ (.int .u64 V) = w9 at h6 ⊢
  clear hw9 c1 c2 f2
  have c6 := fun k => h6.cells (t := 24) (fr := (0, 0)) List.mem_cons_self k
  refine bodyPost_ret (v := pjV (pNear j)) (by simp [results, Tryz.results7, go_sem, c6, pNear, pjV, pjC, HV.out]) rfl ⟨rfl, h6.below⟩

set_option maxHeartbeats 400000 in
theorem own_calls (w : World) (j : PJ) : Calls Tryz.prog 11 #[pjV j] w fun e w' => e = .returned (pjV j) ∧ Below w.heap.size w w' := by
  go_enter Tryz.func11, Tryz.ntmps11
  go_wp2
  refine bodyPost_ret (v := pjV j) (by simp [results, Tryz.results11, go_sem]) rfl ?_
  exact ⟨rfl, ((Below.refl _ _).alloc (Nat.le_refl _) _).alloc (by simp) _⟩

theorem pNear_value (j : PJ) (h : JR j) : 0 ≤ (pNear j).value ∧ (pNear j).value < 18446744073709551616 := by
  have e : (pNear j).value = j.value % ((2 ^ 40 : Nat) : Int) := and_mask j.value 40 1099511627775 rfl (by decide) h.v.1 h.v.2
  rw [e]
  have : ((2 ^ 40 : Nat) : Int) = 1099511627776 := rfl
  omega

set_option maxRecDepth 100000 in
set_option maxHeartbeats 1600000 in
theorem PaxosValid_calls (w : World) (j : PJ) (n : Int) (h : JR j) (hn : n ≤ 9223372036854775807) : Calls Tryz.prog 3 #[pjV j, .int .i64 n] w fun e w' => e = .returned (.bool true) ∧ Below w.heap.size w w' := by
  have hv := pNear_value j h
  go_enter Tryz.func3, Tryz.ntmps3
  go_wp2_with fail
  refine (near_calls _ j h).mono ?_
  rintro e w1 ⟨rfl, hb1⟩
  obtain ⟨k, hk⟩ : ∃ k, k = pNear j := ⟨_, rfl⟩
  rw [← hk] at hv ⊢
  clear hk
  have h2 := ((((St.start w).alloc (.cells (pjC j) 24)).grow hb1).alloc (.cells (pjC k) 24))
  obtain ⟨W, hW⟩ : ∃ W, W = w1.alloc (.cells (pjC k) 24) := ⟨_, rfl⟩
  rw [← hW] at h2
  have hq : ∀ W', Below W.heap.size W W' → (∀ i, W'.cell? ⟨w.heap.size, i, none⟩ = (pjC j)[i]?) ∧ (∀ i, W'.cell? ⟨w1.heap.size, i, none⟩ = (pjC k)[i]?) := fun W' hb =>
    ⟨(h2.grow hb).cells (cs := pjC j) (t := 24) (fr := (0, 0)) (by simp), (h2.grow hb).cells (cs := pjC k) (t := 24) (fr := (0, 0)) (by simp)⟩
  have q8 := regrown (W := W) (fun w' _ => awake_calls w')
  have q9 := fun x h0 h1 => regrown (W := W) (fun w' _ => Valid_job (w := w') x h0 h1)
  have q10 := fun x h0 h1 => regrown (W := W) (fun w' _ => RefValid_job (w := w') x h0 h1)
  have q11 := fun x => regrown (W := W) (fun w' _ => own_calls w' x)
  have q12 := regrown (W := W) (fun w' _ => (Majority_calls w' n hn).mono fun e w'' h => ⟨h.1, h.2 ▸ Below.refl _ _⟩)
  have q13 := regrown (W := W) (fun w' _ => (RefMajority_calls w' n hn).mono fun e w'' h => ⟨h.1, h.2 ▸ Below.refl _ _⟩)
  have cj := fun d os => (hq _ (below_regrown W d os)).1
  have ck := fun d os => (hq _ (below_regrown W d os)).2
  have HQ := Lib.hid q9
  have HQ' := Lib.hid q10
  have HW := Lib.hid hW
  have H2 := Lib.hid h2
  have h9j := q9 j h.v.1 h.v.2
  have h9k := q9 k hv.1 hv.2
  have h10j := q10 j h.v.1 h.v.2
  have h10k := q10 k hv.1 hv.2
  have h11j := q11 j
  have h11k := q11 k
  clear q9 q10 q11 hq hb1 h2 hW HQ HQ' h hv
  go_wp2_with fail
  rw [← HW.out]
  refine wp_region_quiet_below (by kernel_rfl) (by kernel_rfl) ?_
  quiet_step (exact q8 _ _)
  iterate 2 quiet_step (fail)
  quiet_step (exact h9j _ _)
  quiet_step (fail)
  quiet_step (exact h11j _ _)
  quiet_step (exact h10j _ _)
  iterate 4 quiet_step (fail)
  quiet_step (exact h9k _ _)
  quiet_step (fail)
  quiet_step (exact h11k _ _)
  quiet_step (exact h10k _ _)
  iterate 4 quiet_step (fail)
  quiet_step (exact q12 _ _)
  quiet_step (fail)
  quiet_step (exact q13 _ _)
  iterate 3 quiet_step (fail)
  refine wpQuiet_nil ?_
  intro w4 hw4
  have hb4 := quiet_out hw4
  have h4 := H2.out.grow hb4
  clear q8 h9j h9k h10j h10k h11j h11k q12 q13 cj ck hw4
  have H4 := Lib.hid h4
  clear h4 hb4
  go_wp2
  go_ret
  exact ⟨rfl, H4.out.below⟩
end Go.Proofs.YtaojipegpjolcaaGreat
set_option linter.unusedVariables false
namespace Go.Proofs.YtaojipegpjolcaaGreat.lawPaxosValid
open Go.ChangeShapes Go.WideShapes Go.ChangeAt Go.RowKit Go.Joins Go.Deep

theorem own : ownKnob Tryz.prog.godebug = none := by kernel_rfl
theorem laidOut : laidOutB Tryz.prog = true := by kernel_rfl

set_option maxRecDepth 100000 in
theorem job_open {H : Type} {enc : TypeId × Value → H} {w : World} {base : Nat} {spare : Nat → Bool} {held : Bool} {r : Reach} {b0 : Nat} {v : Value} {d : DataW H} {p : List MemPlace}
    (hv : Value.okWide Tryz.prog w r b0 24 v) (h : DataW.Trod enc Tryz.prog w base spare held 24 v d p) : ∃ j : PJ, JR j ∧ v = pjV j := by
  obtain ⟨cs, rfl, hsz⟩ := okWide_struct Tryz.underlying24 hv
  obtain ⟨l⟩ := cs
  have hC : Tryz.prog.cellsOf 24 = 5 := by kernel_rfl
  rw [hC] at hsz
  match l, hsz with
  | [c0, c1, c2, c3, c4], _ =>
    obtain ⟨fuel, hf⟩ := h
    obtain ⟨xs, n, _, hx, _, hlen, hg⟩ := DataW.trod_struct Tryz.underlying24 hf
    have e3 : Tryz.prog.cellsOf 3 = 1 := by kernel_rfl
    have e22 : Tryz.prog.cellsOf 22 = 1 := by kernel_rfl
    have g0 := hg 0 _ rfl
    have g1 := hg 1 _ rfl
    have g2 := hg 2 _ rfl
    have g3 := hg 3 _ rfl
    have g4 := hg 4 _ rfl
    clear hg
    match xs, hlen with
    | [y0, y1, y2, y3, y4], _ =>
      obtain ⟨a, x0, -, wa⟩ := DataW.trod_int (x := y0) Tryz.underlying3 g0
      obtain ⟨b, x1, -, wb⟩ := DataW.trod_int (x := y1) Tryz.underlying3 g1
      obtain ⟨c, x2, -, wc⟩ := DataW.trod_int (x := y2) Tryz.underlying3 g2
      obtain ⟨d, x3, -, wd⟩ := DataW.trod_int (x := y3) Tryz.underlying3 g3
      obtain ⟨v, x4, -, wv⟩ := DataW.trod_int (x := y4) Tryz.underlying22 g4
      change List.take (Tryz.prog.cellsOf 3) [c0, c1, c2, c3, c4] = [.int .i64 a] at x0
      change List.take (Tryz.prog.cellsOf 3) [c1, c2, c3, c4] = [.int .i64 b] at x1
      change List.take (Tryz.prog.cellsOf 3) [c2, c3, c4] = [.int .i64 c] at x2
      change List.take (Tryz.prog.cellsOf 3) [c3, c4] = [.int .i64 d] at x3
      change List.take (Tryz.prog.cellsOf 22) [c4] = [.int .u64 v] at x4
      rw [e3] at x0 x1 x2 x3
      rw [e22] at x4
      simp only [List.take_succ_cons, List.take_zero, List.cons.injEq, and_true] at x0 x1 x2 x3 x4
      subst x0 x1 x2 x3 x4
      simp only [Lit.wf, Bool.and_eq_true, decide_eq_true_eq] at wa wb wc wd wv
      have m1 : IntKind.i64.min = -9223372036854775808 := rfl
      have m2 : IntKind.i64.max = 9223372036854775807 := rfl
      have m3 : IntKind.u64.min = 0 := rfl
      have m4 : IntKind.u64.max = 18446744073709551615 := rfl
      rw [m1, m2] at wa wb wc wd
      rw [m3, m4] at wv
      exact ⟨⟨a, b, c, d, v⟩, ⟨wa, wb, wc, wd, wv.1, Int.lt_of_le_of_lt wv.2 (by decide)⟩, rfl⟩

set_option maxRecDepth 100000 in
theorem lifted (os : Os) (started : os.Started) (H : Type) (enc : TypeId × Value → H) :
    ReturnsInHanded {} Tryz.checked os 3 .any (Rows.paxosValidSpec.pre6 enc Tryz.prog Tryz.f3 Rows.paxosValidRow.domain false) (Rows.paxosValidSpec.post enc Tryz.prog Tryz.f3 false true false false) := by
  refine returnsInHanded_of_change (C := Tryz.checked) own started (by kernel_rfl) Tryz.func3
    (ChangeSpec.witness6 (enc := enc) (C := Tryz.checked) false ⟨#[], #[.agg #[.int .i64 0, .int .i64 0, .int .i64 0, .int .i64 0, .int .u64 0], .int .i64 0], []⟩ 8 (by kernel_rfl) (by kernel_rfl) (by kernel_rfl) (by kernel_rfl)) ?_
  intro W base args ds gs before hval0 hW hcnd _
  have hval : ∀ (j : Nat) t v, Tryz.f3.params[j]? = some t → args[j]? = some v → Value.okWide Tryz.prog W .any base t v := hval0
  have hW' := hW
  obtain ⟨p, q, hA0, hV, rfl, hfz, hnd⟩ := hW
  have hA : DataW.TrodAll enc Tryz.prog W 0 (fun _ => true) true Tryz.f3.params.toList args.toList ds p := hA0
  rw [Tryz.params3] at hA hval
  obtain ⟨v0, v1, d0, d1, p0, p1, rfl, rfl, rfl, h0, h1⟩ := trodAll_two hA
  obtain ⟨rfl, rfl⟩ := trodVars_none hV
  have k0 := h0
  have lt0 : ∀ x ∈ p0, x.block < W.heap.size := by obtain ⟨m, hm⟩ := k0; exact DataW.trod_lt m _ _ _ hm
  obtain ⟨j, hj, rfl⟩ := job_open (hval 0 24 v0 rfl rfl) h0
  obtain ⟨n, rfl, rfl, rfl, wn⟩ := open_int Tryz.underlying3 (hval 1 3 v1 rfl rfl) h1
  have hn : n ≤ 9223372036854775807 := by
    simp only [Lit.wf, Bool.and_eq_true, decide_eq_true_eq] at wn
    exact wn.2
  clear hA0 hval0
  refine (PaxosValid_calls W j n hj hn).mono fun e W' ⟨he, bel⟩ => ?_
  subst he
  exact ⟨_, rfl, _, _, _, [], _, [], hW', trodAll_mk1 (shut_bool Tryz.underlying4 _), (trodAll_cons_mk (Below.trod laidOut (by kernel_rfl) (of_decide_eq_true (by kernel_rfl)) k0 bel lt0) (trodAll_cons_mk (shut_int Tryz.underlying3 wn) trodAll_mk0)), rfl, bel.frame _, fun h => by cases h⟩

theorem over : Rows.paxosValidRow.holds Tryz.pinned (OpenSpec.ofChange Rows.paxosValidSpec) :=
  OpenClaim.holds_of_wide 3 Tryz.f3 rfl rfl rfl rfl rfl rfl rfl ⟨rfl, rfl, rfl, rfl, rfl⟩ rfl rfl rfl rfl rfl (by kernel_rfl) Tryz.func3 (by kernel_rfl)
    (of_decide_eq_true (by kernel_rfl)) (by unfold Func.isWrapper; first | (rw [if_pos (by decide +kernel)]; kernel_rfl) | (rw [if_neg (by decide +kernel)]; exact ⟨rfl, rfl⟩))
    (fun os started H enc _ => lifted os started H enc)

theorem proved : Rows.PaxosValidSaid := over
#print axioms proved
end Go.Proofs.YtaojipegpjolcaaGreat.lawPaxosValid
