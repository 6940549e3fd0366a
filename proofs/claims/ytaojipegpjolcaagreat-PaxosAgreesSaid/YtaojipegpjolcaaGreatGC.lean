/- Contracts of package queuepair: execute (all kinds), Step. The fabric in memory; queuepair.New. Contracts of package fabric: connect. Contracts of package fabric: New. -/
import Derived.Test.YtaojipegpjolcaaGreatGB
import Derived.Laws.MakeOwn
set_option linter.unusedVariables false
set_option linter.unusedSimpArgs false
namespace Go.Proofs.YtaojipegpjolcaaGreat
open Go.RowKit Go.Sort Go.Proofs.BodegaHeap
variable {base : Nat} {w0 w : World} {L : List Blk}

theorem pcs_mem (f : Nat) : ∀ (a left : Int) (x : Int × Int), 0 ≤ a → x ∈ pcs f a left → a ≤ x.1 ∧ 1 ≤ x.2 ∧ x.1 + x.2 ≤ a + left := by
  induction f with
  | zero => intro a left x _ hx; simp [pcs] at hx
  | succ f ih =>
    intro a left x ha hx
    unfold pcs at hx
    split at hx
    · rename_i hl
      have h8 : 0 ≤ a % 8 := Int.emod_nonneg _ (by decide)
      have h8' : a % 8 < 8 := Int.emod_lt_of_pos _ (by decide)
      rcases List.mem_cons.1 hx with rfl | hx
      · simp only; omega
      · have := ih _ _ x (by omega) hx
        omega
    · cases hx

theorem ndExec_len (N : Nd) (v : Vb) (pa pn : Int) : (ndExec N v pa pn).2.length ≤ N.words.length + 1 := by
  unfold ndExec
  split
  · simp only [List.length_take, List.length_drop]; omega
  · split <;> simp

theorem int_lt {k n : Nat} (h : k + 1 < n) : (k : Int) + 1 < (n : Int) := by omega
theorem int_ge {k n : Nat} (h : ¬ k + 1 < n) : ¬ (k : Int) + 1 < (n : Int) := by omega
theorem wrap64_succ {k n : Nat} (h : k < n) (h2 : n ≤ 2000) : wrap64 ((k : Int) + 1) = (k : Int) + 1 := by unfold wrap64; omega

theorem up_of_ok {N : Nd} {v : Vb} {a b : Int} (h : ndRefuses N v a b = 0) : N.down = false := by
  unfold ndRefuses at h
  split at h
  · omega
  · rename_i hd; simpa using hd

structure VLike (x : GV) (lines : Int) : Prop where
  ok : VOk x.1 5 lines
  k4 : x.1.kind ≠ 4
  gv : GvOk x
  wl : x.1.words.length ≤ 2000

theorem execute_calls (x : GV) (lines : Int) (hv : VLike x lines) (pa pn : Int) (hp : (pa, pn) ∈ vPieces x.1) (bn bw : Nat) (N : Nd) (hl : (N.words.length : Int) = 8 * lines) (hd : N.down = false)
    (h : St base w0 w (ndH bn bw N ++ L)) (hm : ∀ p, p ∈ gvH x → p ∈ L) (R : Ending → World → Prop)
    (hR : ∀ r w', RowOk r 1 (ndExec N x.1 pa pn).2.length (u64s (ndExec N x.1 pa pn).2) → St base w0 w' (rowH r 22 (u64s (ndExec N x.1 pa pn).2) ++ (ndH bn bw (ndExec N x.1 pa pn).1 ++ L)) → R (.returned (rowV r (ndExec N x.1 pa pn).2.length)) w') :
    Calls Tryz.prog 61 #[vVal x.1 (rowA x.2) (x.1.words.length + x.2.k), pcVal pa pn, nP bn] w R := by
  obtain ⟨o, k4, gv, wl⟩ := hv
  obtain ⟨p1, p2, p3⟩ := pcs_mem _ _ _ _ o.at0 hp
  simp only at p1 p2 p3
  have := o.fits; have := o.l2; have := o.at0; have := o.c0
  rcases o.kind with hk | hk | hk | hk
  · exact execute1 x hk pa pn bn bw N (by omega) hd (by omega) p2 (by omega) h R hR
  · have ec : vCount x.1 = x.1.words.length := by unfold vCount; rw [if_neg (by rw [hk]; decide), if_pos hk]
    exact execute2 x gv (by omega) hk pa pn bn bw N (by omega) hd (by omega) (by omega) p2 (by omega) (by omega) h hm R hR
  · exact execute3 x hk pa pn bn bw N (by omega) hd (by omega) (by omega) h R hR
  · exact absurd hk k4

theorem row9 {r : Rw} {x : GV} {rest : List GV} {b : Nat} (hb : r.blk = some b) (h : St base w0 w L) (hm : ∀ p, p ∈ rowH r 113 ((x :: rest).flatMap gvC) → p ∈ L) (k : Nat) (hk : k < 9) :
    w.cell? ⟨b, k, none⟩ = (vCells x.1 (rowA x.2) (x.1.words.length + x.2.k))[k]? := by
  rw [h.row_cell hb hm k (by rw [List.flatMap_cons, List.length_append, gvC_len]; omega), List.flatMap_cons, List.getElem?_append_left (by rw [gvC_len]; omega)]
  simp [gvC]

set_option maxRecDepth 100000 in
set_option maxHeartbeats 2000000 in
theorem Step_calls (g : GP) (x : GV) (rest : List GV) (hg : g.gs = x :: rest) (hn : g.gs.length ≤ 1024) (hr : RowOk g.rv 9 g.gs.length (g.gs.flatMap gvC)) (hrw : RowOk g.rw_ 1 g.ws.length (u64s g.ws)) (hwl : g.ws.length ≤ 10000000)
    (lines : Int) (hv : VLike x lines) (hc0 : 0 ≤ g.cl) (hc1 : g.cl ≤ 5) (hi0 : 0 ≤ g.inc) (hi1 : g.inc ≤ 59) (hb0 : 0 ≤ x.1.boot) (hb1 : x.1.boot ≤ 1000)
    (bn bw : Nat) (N : Nd) (hl : (N.words.length : Int) = 8 * lines) (hl2 : 6 ≤ lines)
    (k : Nat) (hk : g.ex = k) (pa pn : Int) (hp : (vPieces x.1)[k]? = some (pa, pn))
    (h : St base w0 w ((g.bp, .cells (gpCells g) 111 (0, 0)) :: (rowH g.rv 113 (g.gs.flatMap gvC) ++ (rowH g.rw_ 22 (u64s g.ws) ++ (ndH bn bw N ++ L)))))
    (hm : ∀ p, p ∈ gvH x → p ∈ L) (R : Ending → World → Prop)
    (h1 : ndRefuses N x.1 g.cl g.inc ≠ 0 → ∀ rv' w', RowOk rv' 9 rest.length (rest.flatMap gvC) →
      St base w0 w' ((g.bp, .cells (gpCells { g with rv := rv', gs := rest, ex := 0, rw_ := nilRw, ws := [] }) 111 (0, 0)) :: (rowH rv' 113 (rest.flatMap gvC) ++ (ndH bn bw N ++ L))) →
      R (.returned (.tuple #[dVal ⟨ndRefuses N x.1 g.cl g.inc, []⟩ none 0, .bool true])) w')
    (h2 : ndRefuses N x.1 g.cl g.inc = 0 → k + 1 < (vPieces x.1).length → ∀ r w', RowOk r 1 (g.ws.length + (ndExec N x.1 pa pn).2.length) (u64s (g.ws ++ (ndExec N x.1 pa pn).2)) →
      St base w0 w' ((g.bp, .cells (gpCells { g with ex := k + 1, rw_ := r, ws := g.ws ++ (ndExec N x.1 pa pn).2 }) 111 (0, 0)) :: (rowH g.rv 113 (g.gs.flatMap gvC) ++ (rowH r 22 (u64s (g.ws ++ (ndExec N x.1 pa pn).2)) ++ (ndH bn bw (ndExec N x.1 pa pn).1 ++ L)))) →
      R (.returned (.tuple #[dVal ⟨0, []⟩ none 0, .bool false])) w')
    (h3 : ndRefuses N x.1 g.cl g.inc = 0 → ¬ k + 1 < (vPieces x.1).length → ∀ r rv' w', RowOk r 1 (g.ws.length + (ndExec N x.1 pa pn).2.length) (u64s (g.ws ++ (ndExec N x.1 pa pn).2)) → RowOk rv' 9 rest.length (rest.flatMap gvC) →
      St base w0 w' ((g.bp, .cells (gpCells { g with rv := rv', gs := rest, ex := 0, rw_ := nilRw, ws := [] }) 111 (0, 0)) :: (rowH rv' 113 (rest.flatMap gvC) ++ (rowH r 22 (u64s (g.ws ++ (ndExec N x.1 pa pn).2)) ++ (ndH bn bw (ndExec N x.1 pa pn).1 ++ L)))) →
      R (.returned (.tuple #[dVal ⟨0, g.ws ++ (ndExec N x.1 pa pn).2⟩ (rowA r) (g.ws.length + (ndExec N x.1 pa pn).2.length + r.k), .bool true])) w') :
    Calls Tryz.prog 41 #[pP g.bp, nP bn] w R := by
  obtain ⟨b, hb⟩ := hr.pos (by rw [hg]; simp)
  have hra : rowA g.rv = some ⟨b, 0, none⟩ := by simp [rowA, hb]
  have hgl : g.gs.length = rest.length + 1 := by rw [hg]; rfl
  have hrv : rowV g.rv g.gs.length = .slice (some ⟨b, 0, none⟩) (rest.length + 1) (rest.length + 1 + g.rv.k) := by rw [hgl]; simp only [rowV, hra]
  obtain ⟨W1, hW1⟩ : ∃ W, W = w.alloc (.cells #[.int .i64 0, .slice none 0 0] 94) := ⟨_, rfl⟩
  have ha : St base w0 W1 ((w.heap.size, .cells #[.int .i64 0, .slice none 0 0] 94 (0, 0)) :: ((g.bp, .cells (gpCells g) 111 (0, 0)) :: (rowH g.rv 113 (g.gs.flatMap gvC) ++ (rowH g.rw_ 22 (u64s g.ws) ++ (ndH bn bw N ++ L))))) := by
    rw [hW1]; exact h.alloc _
  have c1 : ∀ k, W1.cell? ⟨g.bp, k, none⟩ = (#[.int .i64 g.cl, .int .i64 g.inc, .int .i64 g.nd, .slice (some ⟨b, 0, none⟩) (rest.length + 1) (rest.length + 1 + g.rv.k), .int .i64 g.ex, rowV g.rw_ g.ws.length] : Array Value)[k]? := by
    intro k; rw [ha.cells (t := 111) (fr := (0, 0)) (cs := gpCells g) (by simp) k]; unfold gpCells; rw [hrv]
  have c9 := fun k hk => row9 (k := k) hb ha (x := x) (rest := rest) (fun p hp => by rw [hg]; exact List.mem_cons_of_mem _ (List.mem_cons_of_mem _ (List.mem_append_left _ hp))) hk
  have d0 := c9 0 (by decide)
  have d1 := c9 1 (by decide)
  have d2 := c9 2 (by decide)
  have d3 := c9 3 (by decide)
  have d4 := c9 4 (by decide)
  have d5 := c9 5 (by decide)
  have d6 := c9 6 (by decide)
  have d7 := c9 7 (by decide)
  have d8 := c9 8 (by decide)
  -- the world behind the two boxes
  obtain ⟨W2, hW2⟩ : ∃ W, W = W1.alloc (.cells (vCells x.1 (rowA x.2) (x.1.words.length + x.2.k)) 113) := ⟨_, rfl⟩
  have hb2 : St base w0 W2 ((w.heap.size + 1, .cells (vCells x.1 (rowA x.2) (x.1.words.length + x.2.k)) 113 (0, 0)) :: (w.heap.size, .cells #[.int .i64 0, .slice none 0 0] 94 (0, 0)) :: ((g.bp, .cells (gpCells g) 111 (0, 0)) :: (rowH g.rv 113 (g.gs.flatMap gvC) ++ (rowH g.rw_ 22 (u64s g.ws) ++ (ndH bn bw N ++ L))))) := by
    rw [hW2]; exact ha.allocAt _ (by rw [hW1]; simp) _
  have href := refusal_calls g x.1 (rowA x.2) (x.1.words.length + x.2.k) bn bw N lines hl hl2 hv.ok hc0 hc1 hi0 hi1 hb0 hb1 (fun k => hb2.cells (t := 111) (fr := (0, 0)) (cs := gpCells g) (by simp) k) (NdAt.of (hb2.ac (M := ndH bn bw N ++ ((w.heap.size + 1, .cells (vCells x.1 (rowA x.2) (x.1.words.length + x.2.k)) 113 (0, 0)) :: (w.heap.size, .cells #[.int .i64 0, .slice none 0 0] 94 (0, 0)) :: ((g.bp, .cells (gpCells g) 111 (0, 0)) :: (rowH g.rv 113 (g.gs.flatMap gvC) ++ (rowH g.rw_ 22 (u64s g.ws) ++ L))))) (fun y => by simp only [cnt_append, cnt_cons]; omega)))
  obtain ⟨er, her⟩ : ∃ e, ndRefuses N x.1 g.cl g.inc = e := ⟨_, rfl⟩
  rw [her] at href h1 h2 h3
  have HRF := Lib.hid href
  have HG := Lib.hid hg
  have HP := Lib.hid hp
  have HK := Lib.hid hk
  have HL := Lib.hid hgl
  have HRV := Lib.hid hrv
  have H1 := Lib.hid h1
  have H2 := Lib.hid h2
  have H3 := Lib.hid h3
  have HB := Lib.hid hb2
  have HE := Lib.hid her
  have HM := Lib.hid hm
  subst hW1
  have HW2 := Lib.hid hW2
  have hnr : ((rest.length : Int) + 1 == 0) = false := by simp; omega
  clear c9 hg hp hk hgl hrv h hb hra h1 h2 h3 ha href hb2 her hm hW2
  by_cases he : er = 0
  · subst he
    clear H1
    have hpk : (pa, pn) ∈ vPieces x.1 := List.mem_of_getElem? HP.out
    have hkl : k < (vPieces x.1).length := (List.getElem?_eq_some_iff.1 HP.out).1
    go_enter Tryz.func41, Tryz.ntmps41
    go_wp2_with fail
    rw [← HW2.out]
    refine HRF.out.mono ?_
    rintro e w3 ⟨rfl, hb3⟩
    have h3 := HB.out.grow hb3
    have c3 := fun k => h3.cells (t := 113) (fr := (0, 0)) List.mem_cons_self k
    have hs : VSmall x.1 := ⟨hv.ok.at0, by have := hv.ok.fits; have := hv.ok.l2; have := hv.ok.c0; omega, hv.ok.c0, by have := hv.ok.c1; omega⟩
    have hPc := fun R => Pieces_calls (R := R) x.1 (rowA x.2) (x.1.words.length + x.2.k) hs h3
    have HPC := Lib.hid hPc
    have HPK := Lib.hid hpk
    clear d0 d1 d2 d3 d4 d5 d6 d7 d8 c1 HRF HB hb3 h3 hs hPc hpk
    go_wp2_with fail
    refine HPC.out _ ?_
    intro rp w4 hrp _ h4
    obtain ⟨b2, hb2⟩ := hrp.pos (by omega)
    have hrpv : rowV rp (vPieces x.1).length = .slice (some ⟨b2, 0, none⟩) (vPieces x.1).length ((vPieces x.1).length + rp.k) := by simp [rowV, rowA, hb2]
    rw [hrpv]
    obtain ⟨KK, hKK⟩ : ∃ K : List Blk, K = (g.bp, .cells (gpCells g) 111 (0, 0)) :: (w.heap.size + 1, .cells (vCells x.1 (rowA x.2) (x.1.words.length + x.2.k)) 113 (0, 0)) :: rowH rp 119 ((vPieces x.1).flatMap pcCells) := ⟨_, rfl⟩
    have hg4 : ∀ W, Holds KK W → (∀ k', W.cell? ⟨g.bp, k', none⟩ = (#[.int .i64 g.cl, .int .i64 g.inc, .int .i64 g.nd, rowV g.rv g.gs.length, .int .i64 (k : Int), rowV g.rw_ g.ws.length] : Array Value)[k']?) ∧ (∀ k, W.frozen? ⟨g.bp, k, none⟩ = false) ∧
        (∀ k, W.cell? ⟨w.heap.size + 1, k, none⟩ = (vCells x.1 (rowA x.2) (x.1.words.length + x.2.k))[k]?) ∧ W.cell? ⟨b2, k * 2, none⟩ = some (.int .i64 pa) ∧ W.cell? ⟨b2, k * 2 + 1, none⟩ = some (.int .i64 pn) := by
      intro W hb
      have hrow : (b2, Obj.cells ((vPieces x.1).flatMap pcCells ++ rp.sp).toArray 119 (0, 0)) ∈ KK := by rw [hKK]; simp [rowH, hb2]
      have hlen2 : ((vPieces x.1).flatMap pcCells).length = 2 * (vPieces x.1).length := flat_length _ 2 (fun _ => rfl) _
      have hcell : ∀ j, j < 2 → W.cell? ⟨b2, k * 2 + j, none⟩ = (pcCells (pa, pn))[j]? := fun j hj => by
        rw [hb.cells hrow, Nat.mul_comm]
        simp only [List.getElem?_toArray]
        rw [List.getElem?_append_left (by omega), flat_get pcCells 2 (fun _ => rfl) _ _ _ hj, HP.out]
        rfl
      refine ⟨fun k' => ?_, hb.frozen (t := 111) (cs := gpCells g) (by simp [hKK]), hb.cells (t := 113) (fr := (0, 0)) (by simp [hKK]), hcell 0 (by decide), hcell 1 (by decide)⟩
      rw [hb.cells (t := 111) (fr := (0, 0)) (cs := gpCells g) (by simp [hKK]) k', ← HK.out]
    have hs4 : ∀ W M, St base w0 W ((g.bp, .cells (gpCells g) 111 (0, 0)) :: (w.heap.size + 1, .cells (vCells x.1 (rowA x.2) (x.1.words.length + x.2.k)) 113 (0, 0)) :: (rowH rp 119 ((vPieces x.1).flatMap pcCells) ++ M)) → Holds KK W :=
      fun W M h => Holds.of h (by intro p hp; rw [hKK] at hp; simp only [List.mem_cons, List.mem_append] at hp ⊢; rcases hp with h | h | h <;> simp [h])
    have HS := Lib.hid hs4
    have HGT := Lib.hid hg4
    obtain ⟨WD, hWD⟩ : ∃ W, W = w4.drew := ⟨_, rfl⟩
    have h5 : St base w0 WD (ndH bn bw N ++ ((g.bp, .cells (gpCells g) 111 (0, 0)) :: (w.heap.size + 1, .cells (vCells x.1 (rowA x.2) (x.1.words.length + x.2.k)) 113 (0, 0)) :: (rowH rp 119 ((vPieces x.1).flatMap pcCells) ++
        ((w.heap.size, .cells #[.int .i64 0, .slice none 0 0] 94 (0, 0)) :: (rowH g.rv 113 (g.gs.flatMap gvC) ++ (rowH g.rw_ 22 (u64s g.ws) ++ L)))))) := by rw [hWD]; exact h4.drew.ac (fun y => by simp only [cnt_append, cnt_cons, cnt_nil]; omega)
    have h6 : Holds KK WD := HS.out WD (((w.heap.size, .cells #[.int .i64 0, .slice none 0 0] 94 (0, 0)) :: (rowH g.rv 113 (g.gs.flatMap gvC) ++ (rowH g.rw_ 22 (u64s g.ws) ++ (ndH bn bw N ++ L))))) (h5.ac (fun y => by simp only [cnt_append, cnt_cons, cnt_nil]; omega))
    have H5 := Lib.hid h5
    have HWD := Lib.hid hWD
    have HRP := Lib.hid hrpv
    have HKL := Lib.hid hkl
    have hki : (k : Int) < ((vPieces x.1).length : Int) := by omega
    have hki2 : k < (vPieces x.1).length := hkl
    clear hrpv hKK hg4 hs4 h4 h5 hWD hb2 hrp c3
    go_wp2_with fail
    refine wp_region_T (S := Holds KK) [18] (by kernel_rfl) (by rw [← HWD.out]; exact h6) ?_
    rw [← HWD.out]
    refine wpAnyT_takeL (i := 0) (v := ?_) rfl (by kernel_rfl) (by kernel_rfl) (by kernel_rfl) (by kernel_rfl) (fun _ _ _ h => h) (Or.inl ⟨by rfl, ?_⟩) h6 ?_
    rotate_left
    · intro wS hSw; have hGot := HGT.out _ hSw; clear hSw; go_split_ands; go_simp; try with_reducible rfl
    try simp only [Act.put, List.setIfInBounds_toArray, List.set_cons_zero, List.set_cons_succ]
    refine wpAnyT_takeL (i := 1) (v := ?_) rfl (by kernel_rfl) (by kernel_rfl) (by kernel_rfl) (by kernel_rfl) (fun _ _ _ h => h) (Or.inl ⟨by rfl, ?_⟩) h6 ?_
    rotate_left
    · intro wS hSw; have hGot := HGT.out _ hSw; clear hSw; go_split_ands; go_simp; try with_reducible rfl
    try simp only [Act.put, List.setIfInBounds_toArray, List.set_cons_zero, List.set_cons_succ]
    refine wpAnyT_takeL (i := 2) (v := ?_) rfl (by kernel_rfl) (by kernel_rfl) (by kernel_rfl) (by kernel_rfl) (fun _ _ _ h => h) (Or.inl ⟨by rfl, ?_⟩) h6 ?_
    rotate_left
    · intro wS hSw; have hGot := HGT.out _ hSw; clear hSw; go_split_ands; go_simp; try with_reducible rfl
    try simp only [Act.put, List.setIfInBounds_toArray, List.set_cons_zero, List.set_cons_succ]
    refine wpAnyT_takeL (i := 3) (v := ?_) rfl (by kernel_rfl) (by kernel_rfl) (by kernel_rfl) (by kernel_rfl) (fun _ _ _ h => h) (Or.inl ⟨by rfl, ?_⟩) h6 ?_
    rotate_left
    · intro wS hSw; have hGot := HGT.out _ hSw; clear hSw; go_split_ands; go_simp; try with_reducible rfl
    try simp only [Act.put, List.setIfInBounds_toArray, List.set_cons_zero, List.set_cons_succ]
    refine wpAnyT_takeL (i := 4) (v := ?_) rfl (by kernel_rfl) (by kernel_rfl) (by kernel_rfl) (by kernel_rfl) (fun _ _ _ h => h) (Or.inl ⟨by rfl, ?_⟩) h6 ?_
    rotate_left
    · intro wS hSw; have hGot := HGT.out _ hSw; clear hSw; go_split_ands; go_simp; try with_reducible rfl
    try simp only [Act.put, List.setIfInBounds_toArray, List.set_cons_zero, List.set_cons_succ]
    refine wpAnyT_takeL (i := 5) (v := ?_) rfl (by kernel_rfl) (by kernel_rfl) (by kernel_rfl) (by kernel_rfl) (fun _ _ _ h => h) (Or.inl ⟨by rfl, ?_⟩) h6 ?_
    rotate_left
    · intro wS hSw; have hGot := HGT.out _ hSw; clear hSw; go_split_ands; go_simp; try with_reducible rfl
    try simp only [Act.put, List.setIfInBounds_toArray, List.set_cons_zero, List.set_cons_succ]
    refine wpAnyT_takeL (i := 6) (v := ?_) rfl (by kernel_rfl) (by kernel_rfl) (by kernel_rfl) (by kernel_rfl) (fun _ _ _ h => h) (Or.inl ⟨by rfl, ?_⟩) h6 ?_
    rotate_left
    · intro wS hSw; have hGot := HGT.out _ hSw; clear hSw; go_split_ands; go_simp; try with_reducible rfl
    try simp only [Act.put, List.setIfInBounds_toArray, List.set_cons_zero, List.set_cons_succ]
    refine wpAnyT_takeL (i := 7) (v := ?_) rfl (by kernel_rfl) (by kernel_rfl) (by kernel_rfl) (by kernel_rfl) (fun _ _ _ h => h) (Or.inl ⟨by rfl, ?_⟩) h6 ?_
    rotate_left
    · intro wS hSw; have hGot := HGT.out _ hSw; clear hSw; go_split_ands; go_simp; try with_reducible rfl
    try simp only [Act.put, List.setIfInBounds_toArray, List.set_cons_zero, List.set_cons_succ]
    refine wpAnyT_takeL (i := 8) (v := ?_) rfl (by kernel_rfl) (by kernel_rfl) (by kernel_rfl) (by kernel_rfl) (fun _ _ _ h => h) (Or.inl ⟨by rfl, ?_⟩) h6 ?_
    rotate_left
    · intro wS hSw; have hGot := HGT.out _ hSw; clear hSw; go_split_ands; go_simp; try with_reducible rfl
    try simp only [Act.put, List.setIfInBounds_toArray, List.set_cons_zero, List.set_cons_succ]
    refine wpAnyT_takeL (i := 9) (v := ?_) rfl (by kernel_rfl) (by kernel_rfl) (by kernel_rfl) (by kernel_rfl) (fun _ _ _ h => h) (Or.inl ⟨by rfl, ?_⟩) h6 ?_
    rotate_left
    · intro wS hSw; have hGot := HGT.out _ hSw; clear hSw; go_split_ands; go_simp; try with_reducible rfl
    try simp only [Act.put, List.setIfInBounds_toArray, List.set_cons_zero, List.set_cons_succ]
    refine wpAnyT_takeL (i := 10) (v := ?_) rfl (by kernel_rfl) (by kernel_rfl) (by kernel_rfl) (by kernel_rfl) (fun _ _ _ h => h) (Or.inl ⟨by rfl, ?_⟩) h6 ?_
    rotate_left
    · intro wS hSw; have hGot := HGT.out _ hSw; clear hSw; go_split_ands; go_simp; try with_reducible rfl
    try simp only [Act.put, List.setIfInBounds_toArray, List.set_cons_zero, List.set_cons_succ]
    refine wpAnyT_takeL (i := 11) (v := ?_) rfl (by kernel_rfl) (by kernel_rfl) (by kernel_rfl) (by kernel_rfl) (fun _ _ _ h => h) (Or.inl ⟨by rfl, ?_⟩) h6 ?_
    rotate_left
    · intro wS hSw; have hGot := HGT.out _ hSw; clear hSw; go_split_ands; go_simp; try with_reducible rfl
    try simp only [Act.put, List.setIfInBounds_toArray, List.set_cons_zero, List.set_cons_succ]
    refine wpAnyT_takeL (i := 12) (v := ?_) rfl (by kernel_rfl) (by kernel_rfl) (by kernel_rfl) (by kernel_rfl) (fun _ _ _ h => h) (Or.inl ⟨by rfl, ?_⟩) h6 ?_
    rotate_left
    · intro wS hSw; have hGot := HGT.out _ hSw; clear hSw; go_split_ands; go_simp; try with_reducible rfl
    try simp only [Act.put, List.setIfInBounds_toArray, List.set_cons_zero, List.set_cons_succ]
    refine wpAnyT_takeL (i := 13) (v := ?_) rfl (by kernel_rfl) (by kernel_rfl) (by kernel_rfl) (by kernel_rfl) (fun _ _ _ h => h) (Or.inl ⟨by rfl, ?_⟩) h6 ?_
    rotate_left
    · intro wS hSw; have hGot := HGT.out _ hSw; clear hSw; go_split_ands; go_simp; try with_reducible rfl
    try simp only [Act.put, List.setIfInBounds_toArray, List.set_cons_zero, List.set_cons_succ]
    refine wpAnyT_oneL (i := 14) (by kernel_rfl) rfl (fun K hK => ?_)
    rw [if_pos (by rfl)]
    obtain ⟨ne, hne⟩ : ∃ y, ndExec N x.1 pa pn = y := ⟨_, rfl⟩
    have hX := fun R => execute_calls x lines hv pa pn HPK.out bn bw N hl (up_of_ok HE.out) H5.out (fun p hp => by have := HM.out p hp; simp [this]) R
    have hxl := ndExec_len N x.1 pa pn
    have hl5 := hv.ok.l2
    rw [hne] at hX H2 H3 hxl
    go_wp2_with (refine hX _ ?_)
    intro r2 w5 hr2 h7
    have h8 : Holds KK w5 := HS.out w5 (rowH r2 22 (u64s ne.2) ++ ((w.heap.size, .cells #[.int .i64 0, .slice none 0 0] 94 (0, 0)) :: (rowH g.rv 113 (g.gs.flatMap gvC) ++ (rowH g.rw_ 22 (u64s g.ws) ++ (ndH bn bw ne.1 ++ L))))) (h7.ac (fun y => by simp only [cnt_append, cnt_cons, cnt_nil]; omega))
    have h9 : St base w0 w5 (rowH g.rw_ 22 (u64s g.ws) ++ (rowH r2 22 (u64s ne.2) ++ ((g.bp, .cells (gpCells g) 111 (0, 0)) :: (w.heap.size + 1, .cells (vCells x.1 (rowA x.2) (x.1.words.length + x.2.k)) 113 (0, 0)) :: (rowH rp 119 ((vPieces x.1).flatMap pcCells) ++
        ((w.heap.size, .cells #[.int .i64 0, .slice none 0 0] 94 (0, 0)) :: (rowH g.rv 113 (g.gs.flatMap gvC) ++ (ndH bn bw ne.1 ++ L))))))) := h7.ac (fun y => by simp only [cnt_append, cnt_cons, cnt_nil]; omega)
    have H9 := Lib.hid h9
    clear h7 h9 hX H5
    go_wp2_with fail
    refine (hK).out _ _ (fun _ => h8) (fun _ => ?_)
    clear hK
    refine wpAnyT_oneL (i := 15) (by kernel_rfl) rfl (fun K hK => ?_)
    rw [if_pos (by rfl)]
    refine step_appendRow elem_u64 _ _ rfl g.rw_ g.ws.length _ rfl hrw r2 ne.2.length _ rfl hr2 H9.out (u64s_one _) (by omega) ?_
    intro r w6 hr6 h10
    simp only [Act.put, List.setIfInBounds_toArray, List.set_cons_zero, List.set_cons_succ]
    have e10 : u64s g.ws ++ u64s ne.2 = u64s (g.ws ++ ne.2) := by simp [u64s]
    rw [e10] at hr6 h10
    have h11 : Holds KK w6 := HS.out w6 (rowH r 22 (u64s (g.ws ++ ne.2)) ++ (rowH r2 22 (u64s ne.2) ++ ((w.heap.size, .cells #[.int .i64 0, .slice none 0 0] 94 (0, 0)) :: (rowH g.rv 113 (g.gs.flatMap gvC) ++ (ndH bn bw ne.1 ++ L))))) (h10.ac (fun y => by simp only [cnt_append, cnt_cons, cnt_nil]; omega))
    have h12 : St base w0 w6 ((g.bp, .cells (gpCells g) 111 (0, 0)) :: ((w.heap.size, .cells #[.int .i64 0, .slice none 0 0] 94 (0, 0)) :: ((w.heap.size + 1, .cells (vCells x.1 (rowA x.2) (x.1.words.length + x.2.k)) 113 (0, 0)) :: (rowH rp 119 ((vPieces x.1).flatMap pcCells) ++ (rowH r2 22 (u64s ne.2) ++ (rowH r 22 (u64s (g.ws ++ ne.2)) ++ (rowH g.rv 113 (g.gs.flatMap gvC) ++ (ndH bn bw ne.1 ++ L)))))))) := h10.ac (fun y => by simp only [cnt_append, cnt_cons, cnt_nil]; omega)
    have H12 := Lib.hid h12
    obtain ⟨c8, f8, _⟩ := HGT.out _ h11
    clear H9 h10 h12 h8 h6
    refine (hK).out _ _ (fun _ => h11) (fun _ => ?_)
    clear hK
    refine wpAnyT_oneL (i := 16) (by kernel_rfl) rfl (fun K hK => ?_)
    rw [if_pos (by rfl)]
    go_wp2_with fail
    refine (hK).out _ _ (fun _ => h11) (fun _ => ?_)
    clear hK
    refine wpAnyT_takeL (i := 17) (v := ?_) rfl (by kernel_rfl) (by kernel_rfl) (by kernel_rfl) (by kernel_rfl) (fun _ _ _ h => h) (Or.inl ⟨by rfl, ?_⟩) h11 ?_
    rotate_left
    · intro wS hSw; have hGot := HGT.out _ hSw; clear hSw; go_split_ands; go_simp; try with_reducible rfl
    try simp only [Act.put, List.setIfInBounds_toArray, List.set_cons_zero, List.set_cons_succ]
    refine wpAnyT_oneL (i := 18) (by kernel_rfl) rfl (fun K hK => ?_)
    rw [if_pos (by rfl)]
    go_wp2_with fail
    refine (hK).out _ _ (fun h => by cases h) (fun _ => ?_)
    clear hK
    refine wpAnyT_done (by kernel_rfl) ?_ _
    have h13 : St base w0 (w6.setCell ⟨g.bp, 5, none⟩ (rowV r (g.ws.length + ne.2.length))) ((g.bp, .cells #[.int .i64 g.cl, .int .i64 g.inc, .int .i64 g.nd, rowV g.rv g.gs.length, .int .i64 (k : Int), rowV r (g.ws.length + ne.2.length)] 111 (0, 0)) :: ((w.heap.size, .cells #[.int .i64 0, .slice none 0 0] 94 (0, 0)) :: ((w.heap.size + 1, .cells (vCells x.1 (rowA x.2) (x.1.words.length + x.2.k)) 113 (0, 0)) :: (rowH rp 119 ((vPieces x.1).flatMap pcCells) ++ (rowH r2 22 (u64s ne.2) ++ (rowH r 22 (u64s (g.ws ++ ne.2)) ++ (rowH g.rv 113 (g.gs.flatMap gvC) ++ (ndH bn bw ne.1 ++ L)))))))) := by
      have e := H12.out.set 5 (rowV r (g.ws.length + ne.2.length))
      simpa [gpCells, HK.out] using e
    clear c8 f8 H12 h11
    have c13 := fun k' => h13.cells (t := 111) (fr := (0, 0)) List.mem_cons_self k'
    have f13 := fun k' => h13.frozen (t := 111) List.mem_cons_self k'
    obtain ⟨w7, hw7⟩ : ∃ W, W = w6.setCell ⟨g.bp, 5, none⟩ (rowV r (g.ws.length + ne.2.length)) := ⟨_, rfl⟩
    rw [← hw7] at h13 c13 f13 ⊢
    have c14 := fun k' => h13.cells (t := 94) (fr := (0, 0)) (List.mem_cons_of_mem _ List.mem_cons_self) k'
    have f14 := fun k' => h13.frozen (t := 94) (List.mem_cons_of_mem _ List.mem_cons_self) k'
    have hpl : (vPieces x.1).length ≤ 2000 := pcs_len _ _ _
    have hw64 : wrap64 ((k : Int) + 1) = (k : Int) + 1 := wrap64_succ hki2 hpl
    have hnb : (w.heap.size == g.bp) = false := by
      have e := h13.nodup; simp only [keys_cons, List.nodup_cons, List.mem_cons, not_or] at e; simpa using Ne.symm e.1.1
    have H13 := Lib.hid h13
    have HP2 := Lib.hid hpl
    clear hw7 h13 hpl
    by_cases hlt : k + 1 < (vPieces x.1).length
    · have hlt2 : (k : Int) + 1 < ((vPieces x.1).length : Int) := int_lt hlt
      have a1 : St base w0 (w7.setCell ⟨g.bp, 4, none⟩ (.int .i64 ((k : Int) + 1))) ((g.bp, .cells (gpCells { g with ex := k + 1, rw_ := r, ws := g.ws ++ ne.2 }) 111 (0, 0)) :: ((w.heap.size, .cells #[.int .i64 0, .slice none 0 0] 94 (0, 0)) :: ((w.heap.size + 1, .cells (vCells x.1 (rowA x.2) (x.1.words.length + x.2.k)) 113 (0, 0)) :: (rowH rp 119 ((vPieces x.1).flatMap pcCells) ++ (rowH r2 22 (u64s ne.2) ++ (rowH r 22 (u64s (g.ws ++ ne.2)) ++ (rowH g.rv 113 (g.gs.flatMap gvC) ++ (ndH bn bw ne.1 ++ L)))))))) := by
        have e := H13.out.set 4 (.int .i64 ((k : Int) + 1))
        simpa [gpCells] using e
      have a2 := a1.second
      have a3 := (a2.set 0 (.int .i64 0)).set 1 (.slice none 0 0)
      have h14 := H2.out trivial hlt r _ hr6 (St.drop (L := [(w.heap.size + 1, .cells (vCells x.1 (rowA x.2) (x.1.words.length + x.2.k)) 113 (0, 0))] ++ (rowH rp 119 ((vPieces x.1).flatMap pcCells) ++ rowH r2 22 (u64s ne.2))) (a3.tail.ac (fun y => by simp only [cnt_append, cnt_cons, cnt_nil]; omega)))
      clear a1 a2 a3
      have H14 := Lib.hid h14
      have HLT := Lib.hid hlt
      clear h14 H2 H3 hlt
      go_wp2_with fail
      exact bodyPost_ret (v := .tuple #[dVal ⟨0, []⟩ none 0, .bool false]) (by simp [results, Tryz.results41, go_sem, c14]) rfl H14.out
    · have hlt2 := int_ge hlt
      have a1 : St base w0 (w7.setCell ⟨g.bp, 4, none⟩ (.int .i64 ((k : Int) + 1))) ((g.bp, .cells (gpCells { g with ex := k + 1, rw_ := r, ws := g.ws ++ ne.2 }) 111 (0, 0)) :: ((w.heap.size, .cells #[.int .i64 0, .slice none 0 0] 94 (0, 0)) :: ((w.heap.size + 1, .cells (vCells x.1 (rowA x.2) (x.1.words.length + x.2.k)) 113 (0, 0)) :: (rowH rp 119 ((vPieces x.1).flatMap pcCells) ++ (rowH r2 22 (u64s ne.2) ++ (rowH r 22 (u64s (g.ws ++ ne.2)) ++ (rowH g.rv 113 (g.gs.flatMap gvC) ++ (ndH bn bw ne.1 ++ L)))))))) := by
        have e := H13.out.set 4 (.int .i64 ((k : Int) + 1))
        simpa [gpCells] using e
      have a2 := a1.second
      have a3 : St base w0 (((w7.setCell ⟨g.bp, 4, none⟩ (.int .i64 ((k : Int) + 1))).setCell ⟨w.heap.size, 0, none⟩ (.int .i64 0)).setCell ⟨w.heap.size, 1, none⟩ (rowV r (g.ws.length + ne.2.length)))
          ((w.heap.size, .cells #[.int .i64 0, rowV r (g.ws.length + ne.2.length)] 94 (0, 0)) :: ((g.bp, .cells (gpCells { g with ex := k + 1, rw_ := r, ws := g.ws ++ ne.2 }) 111 (0, 0)) :: ((w.heap.size + 1, .cells (vCells x.1 (rowA x.2) (x.1.words.length + x.2.k)) 113 (0, 0)) :: (rowH rp 119 ((vPieces x.1).flatMap pcCells) ++ (rowH r2 22 (u64s ne.2) ++ (rowH r 22 (u64s (g.ws ++ ne.2)) ++ (rowH g.rv 113 (g.gs.flatMap gvC) ++ (ndH bn bw ne.1 ++ L)))))))) :=
        (a2.set 0 (.int .i64 0)).set 1 (rowV r (g.ws.length + ne.2.length))
      obtain ⟨w8, hw8⟩ : ∃ W, W = (((w7.setCell ⟨g.bp, 4, none⟩ (.int .i64 ((k : Int) + 1))).setCell ⟨w.heap.size, 0, none⟩ (.int .i64 0)).setCell ⟨w.heap.size, 1, none⟩ (rowV r (g.ws.length + ne.2.length))) := ⟨_, rfl⟩
      rw [← hw8] at a3
      have a4 : St base w0 w8 ((g.bp, .cells (gpCells { g with ex := k + 1, rw_ := r, ws := g.ws ++ ne.2 }) 111 (0, 0)) :: (rowH g.rv 113 (g.gs.flatMap gvC) ++ ((w.heap.size, .cells #[.int .i64 0, rowV r (g.ws.length + ne.2.length)] 94 (0, 0)) :: ((w.heap.size + 1, .cells (vCells x.1 (rowA x.2) (x.1.words.length + x.2.k)) 113 (0, 0)) :: (rowH rp 119 ((vPieces x.1).flatMap pcCells) ++ (rowH r2 22 (u64s ne.2) ++ (rowH r 22 (u64s (g.ws ++ ne.2)) ++ (ndH bn bw ne.1 ++ L)))))))) := a3.ac (fun y => by simp only [cnt_append, cnt_cons, cnt_nil]; omega)
      have hC := fun R => complete_calls (R := R) { g with ex := k + 1, rw_ := r, ws := g.ws ++ ne.2 } x rest HG.out (Nat.le_trans hn (by decide)) hr a4
      have HC := Lib.hid hC
      have HW8 := Lib.hid hw8
      have HLT := Lib.hid hlt
      clear a1 a2 a3 a4 hC hw8 hlt H2
      go_wp2_with fail
      rw [← HW8.out]
      refine HC.out _ ?_
      intro rv' w9 hrv' h15
      have a5 : St base w0 w9 ((w.heap.size, .cells #[.int .i64 0, rowV r (g.ws.length + ne.2.length)] 94 (0, 0)) :: (((w.heap.size + 1, .cells (vCells x.1 (rowA x.2) (x.1.words.length + x.2.k)) 113 (0, 0)) :: (rowH rp 119 ((vPieces x.1).flatMap pcCells) ++ rowH r2 22 (u64s ne.2))) ++ ((g.bp, .cells (gpCells { g with rv := rv', gs := rest, ex := 0, rw_ := nilRw, ws := [] }) 111 (0, 0)) :: (rowH rv' 113 (rest.flatMap gvC) ++ (rowH r 22 (u64s (g.ws ++ ne.2)) ++ (ndH bn bw ne.1 ++ L)))))) := h15.ac (fun y => by simp only [cnt_append, cnt_cons, cnt_nil]; omega)
      have c20 := fun k' => a5.cells (t := 94) (fr := (0, 0)) List.mem_cons_self k'
      have f20 := fun k' => a5.frozen (t := 94) List.mem_cons_self k'
      have a6 := H3.out trivial HLT.out r rv' _ hr6 hrv' (St.drop ((a5.set 0 (.int .i64 0)).set 1 (rowV r (g.ws.length + ne.2.length))).tail)
      have A6 := Lib.hid a6
      have HRV' := Lib.hid hrv'
      clear h15 a5 a6 H3 hrv' c13 f13 c14 f14
      go_wp2_with fail
      have e20 : (g.ws ++ ne.2).length = g.ws.length + ne.2.length := List.length_append
      exact bodyPost_ret (v := .tuple #[dVal ⟨0, g.ws ++ ne.2⟩ (rowA r) (g.ws.length + ne.2.length + r.k), .bool true]) (by simp [results, Tryz.results41, go_sem, c20]) rfl A6.out
  · have hne : (er != 0) = true := by simpa using he
    have HNE := Lib.hid he
    clear he H2 H3
    go_enter Tryz.func41, Tryz.ntmps41
    go_wp2_with fail
    rw [← HW2.out]
    refine HRF.out.mono ?_
    rintro e w3 ⟨rfl, hb3⟩
    have h3 := HB.out.grow hb3
    have H3 := Lib.hid h3
    clear d0 d1 d2 d3 d4 d5 d6 d7 d8 c1 HRF HB hb3 h3
    go_wp2_with fail
    have h4 : St base w0 w3 ((g.bp, .cells (gpCells g) 111 (0, 0)) :: (rowH g.rv 113 (g.gs.flatMap gvC) ++ ((w.heap.size, .cells #[.int .i64 0, .slice none 0 0] 94 (0, 0)) :: ((w.heap.size + 1, .cells (vCells x.1 (rowA x.2) (x.1.words.length + x.2.k)) 113 (0, 0)) :: (rowH g.rw_ 22 (u64s g.ws) ++ (ndH bn bw N ++ L)))))) := H3.out.ac (fun y => by simp only [cnt_append, cnt_cons, cnt_nil]; omega)
    refine complete_calls g x rest HG.out (by omega) hr h4 _ ?_
    intro rv' w4 hrv' h5
    have h6 : St base w0 w4 ((w.heap.size, .cells #[.int .i64 0, .slice none 0 0] 94 (0, 0)) :: ((w.heap.size + 1, .cells (vCells x.1 (rowA x.2) (x.1.words.length + x.2.k)) 113 (0, 0)) :: (rowH g.rw_ 22 (u64s g.ws) ++ ((g.bp, .cells (gpCells { g with rv := rv', gs := rest, ex := 0, rw_ := nilRw, ws := [] }) 111 (0, 0)) :: (rowH rv' 113 (rest.flatMap gvC) ++ (ndH bn bw N ++ L)))))) := h5.ac (fun y => by simp only [cnt_append, cnt_cons, cnt_nil]; omega)
    have c6 := fun k => h6.cells (t := 94) (fr := (0, 0)) List.mem_cons_self k
    have f6 := fun k => h6.frozen (t := 94) List.mem_cons_self k
    have h7 := H1.out HNE.out rv' _ hrv' (St.drop ((h6.set 0 (.int .i64 er)).set 1 (.slice none 0 0)).tail.tail)
    have H7 := Lib.hid h7
    have HRV' := Lib.hid hrv'
    clear H3 h4 h5 h6 h7 H1 hrv'
    go_wp2_with fail
    exact bodyPost_ret (v := .tuple #[dVal ⟨er, []⟩ none 0, .bool true]) (by simp [results, Tryz.results41, go_sem, c6]) rfl H7.out
end Go.Proofs.YtaojipegpjolcaaGreat
set_option linter.unusedVariables false
set_option linter.unusedSimpArgs false
namespace Go.Proofs.BodegaHeap
open Go.RowKit
variable {base : Nat} {w0 w : World} {L M : List Blk}

/-- A record in a row. -/
theorem St.recCell {α : Type} {enc : α → List Value} {s : Nat} (hs : ∀ x, (enc x).length = s) {r : Rw} {t : TypeId} {xs : List α} (h : St base w0 w L) {b : Nat} (hb : r.blk = some b) (hm : ∀ p, p ∈ rowH r t (xs.flatMap enc) → p ∈ L)
    {k : Nat} {x : α} (hx : xs[k]? = some x) (j : Nat) (hj : j < s) : w.cell? ⟨b, k * s + j, none⟩ = (enc x)[j]? := by
  have hk : k < xs.length := (List.getElem?_eq_some_iff.1 hx).1
  have hlt : k * s + j < (xs.flatMap enc).length := by
    rw [flat_length enc s hs]
    calc k * s + j < k * s + s := by omega
      _ = s * (k + 1) := by rw [Nat.mul_succ, Nat.mul_comm]
      _ ≤ s * xs.length := Nat.mul_le_mul_left _ hk
  rw [h.row_cell hb hm _ hlt, Nat.mul_comm, flat_get enc s hs xs k j hj, hx]
  rfl

/-- A store into a record of a row. -/
theorem St.setRec {α : Type} {enc : α → List Value} {s : Nat} (hs : ∀ x, (enc x).length = s) {r : Rw} {t : TypeId} {xs : List α} {b : Nat} (hb : r.blk = some b)
    {k : Nat} {x : α} (hx : xs[k]? = some x) (j : Nat) (hj : j < s) (v : Value) (y : α) (hy : enc y = (enc x).set j v) (h : St base w0 w (rowH r t (xs.flatMap enc) ++ L)) :
    St base w0 (w.setCell ⟨b, k * s + j, none⟩ v) (rowH r t ((xs.set k y).flatMap enc) ++ L) := by
  have hk : k < xs.length := (List.getElem?_eq_some_iff.1 hx).1
  have hlt : s * k + j < (xs.flatMap enc).length := by
    rw [flat_length enc s hs]
    calc s * k + j < s * k + s := by omega
      _ = s * (k + 1) := by rw [Nat.mul_succ]
      _ ≤ s * xs.length := Nat.mul_le_mul_left _ hk
  simp only [rowH, hb, List.singleton_append] at h ⊢
  have e := h.set (k * s + j) v
  have e2 : ((xs.flatMap enc ++ r.sp).toArray.setIfInBounds (k * s + j) v) = ((xs.set k y).flatMap enc ++ r.sp).toArray := by
    rw [← flat_set enc s hs xs k j hj v x y hx hy, Nat.mul_comm]
    simp only [List.setIfInBounds_toArray]
    rw [List.set_append, if_pos hlt]
  rw [← e2]
  exact e
theorem RowOk.setRec {α : Type} {enc : α → List Value} {s : Nat} (hs : ∀ x, (enc x).length = s) {r : Rw} {n : Nat} {xs : List α} (h : RowOk r s n (xs.flatMap enc)) (k : Nat) (y : α) : RowOk r s n ((xs.set k y).flatMap enc) where
  len := by rw [flat_length enc s hs, List.length_set, ← flat_length enc s hs]; exact h.len
  nil := h.nil
  sp := h.sp
  le := h.le
/-- Two blocks are two. -/
theorem St.ne {p q : Blk} (h : St base w0 w (p :: L)) (hq : q ∈ L) : q.1 ≠ p.1 ∧ p.1 ≠ q.1 := by
  have hn := h.nodup
  rw [keys_cons, List.nodup_cons] at hn
  have : q.1 ≠ p.1 := fun e => hn.1 (by rw [← e]; exact List.mem_map_of_mem (f := Prod.fst) hq)
  exact ⟨this, this.symm⟩
theorem row_mem {r : Rw} {t : TypeId} {cs : List Value} {b : Nat} (hb : r.blk = some b) : (b, Obj.cells (cs ++ r.sp).toArray t (0, 0)) ∈ rowH r t cs := by simp [rowH, hb]
/-- make([]T, n), T of several cells. -/
theorem made_flat {α : Type} (enc : α → List Value) (s : Nat) (hs : ∀ x, (enc x).length = s) (h0 : 0 < s) (x : α) (n : Nat) :
    madeCells (enc x).toArray (n * s) = ((List.replicate n x).flatMap enc).toArray := by
  apply Array.ext'
  apply List.ext_getElem?
  intro i
  simp only [madeCells]
  by_cases hi : i < n * s
  · have hm : i % s < s := Nat.mod_lt _ h0
    have hd : i / s < n := Nat.div_lt_of_lt_mul (by rw [Nat.mul_comm]; exact hi)
    have e := flat_get enc s hs (List.replicate n x) (i / s) (i % s) hm
    rw [Nat.div_add_mod, List.getElem?_replicate, if_pos hd] at e
    simp only [Array.toList_map, Array.toList_range, List.getElem?_map, List.getElem?_range hi, Option.map_some, List.size_toArray, hs]
    rw [e]
    have hl : i % s < (enc x).length := by rw [hs]; exact hm
    simp [hl]
  · have h1 : ((List.replicate n x).flatMap enc).length ≤ i := by rw [flat_length enc s hs, List.length_replicate, Nat.mul_comm]; omega
    simp only [Array.toList_map, Array.toList_range]
    rw [List.getElem?_eq_none h1, List.getElem?_eq_none (by simp; omega)]
theorem run_make_recs {P : Program} {t e : TypeId} {α : Type} (enc : α → List Value) (s bytes : Nat) (hs : ∀ x, (enc x).length = s) (h0 : 0 < s) (x : α) (z : Value) (hz : z.cells = (enc x).toArray) (ut : P.underlying t = some (.slice e))
    (info : (P.info? e).map (fun i => (i.zero, i.size, i.bytes)) = some (some z, s, bytes)) (hb : bytes ≤ 1000) (n : Nat) (hn : n ≤ 1000000) (w : World) :
    (Instr.makeSlice t (.int .i64 (n : Int)) (.int .i64 (n : Int))).run P w = .ok (.slice (some ⟨w.heap.size, 0, none⟩) n n) (w.alloc (.cells ((List.replicate n x).flatMap enc).toArray e)) := by
  obtain ⟨i, hi, hzz⟩ := Option.map_eq_some_iff.1 info
  simp only [Prod.mk.injEq] at hzz
  obtain ⟨hz1, hs1, hb1⟩ := hzz
  have e := run_make (P := P) w t e i z ut hi hz1 .i64 .i64 n n (by omega) (Int.le_refl _) (by rw [hb1]; have : (bytes : Int) * (n : Int) ≤ 1000 * 1000000 := Int.mul_le_mul (by omega) (by omega) (by omega) (by omega); omega) (by omega)
  rw [e, hz, hs1]
  simp only [Int.toNat_natCast]
  rw [made_flat enc s hs h0 x n]
end Go.Proofs.BodegaHeap

namespace Go.Proofs.YtaojipegpjolcaaGreat
open Go.RowKit Go.Sort Go.Proofs.BodegaHeap
variable {base : Nat} {w0 w : World} {L : List Blk}

abbrev ints (xs : List Int) : List Value := xs.map (Value.int .i64)
abbrev DV := Dn × Rw
abbrev dnC (d : DV) : List Value := [.int .i64 d.1.code, rowV d.2 d.1.words.length]
abbrev dnH (d : DV) : List Blk := rowH d.2 22 (u64s d.1.words)
structure LN where
  g : GP
  pl : Rw
  ps : List Int
abbrev lnC (l : LN) : List Value := [pP l.g.bp, rowV l.pl l.ps.length]
abbrev lnH (l : LN) : List Blk := gpH l.g ++ rowH l.pl 3 (ints l.ps)
structure CP where
  alive : Bool
  inc : Int
  lr : Rw
  ls : List LN
  br : Rw
  ds : List DV
  waiting : Int
  trips : Int
  posted : Int
abbrev cpC (c : CP) : List Value := [.bool c.alive, .int .i64 c.inc, rowV c.lr c.ls.length, rowV c.br c.ds.length, .int .i64 c.waiting, .int .i64 c.trips, .int .i64 c.posted]
abbrev cpH (c : CP) : List Blk := rowH c.lr 87 (c.ls.flatMap lnC) ++ (c.ls.flatMap lnH ++ (rowH c.br 94 (c.ds.flatMap dnC) ++ c.ds.flatMap dnH))
structure ND where
  bn : Nat
  bw : Nat
  N : Nd
abbrev nodeC (n : ND) : List Value := [nP n.bn]
abbrev nodeH (n : ND) : List Blk := ndH n.bn n.bw n.N
abbrev orC (g : GP) : List Value := [pP g.bp]
structure FB where
  fb : Nat
  lines : Int
  nr : Rw
  ns : List ND
  cr : Rw
  cs : List CP
  orr : Rw
  os : List GP
abbrev fbCells (F : FB) : Array Value := #[.int .i64 F.lines, rowV F.nr F.ns.length, rowV F.cr F.cs.length, rowV F.orr F.os.length]
abbrev fbR (F : FB) : List Blk := rowH F.nr 45 (F.ns.flatMap nodeC) ++ (F.ns.flatMap nodeH ++ (rowH F.cr 84 (F.cs.flatMap cpC) ++ (F.cs.flatMap cpH ++ (rowH F.orr 85 (F.os.flatMap orC) ++ F.os.flatMap gpH))))
abbrev fbH (F : FB) : List Blk := (F.fb, .cells (fbCells F) 76 (0, 0)) :: fbR F
abbrev fP (F : FB) : Value := .pointer (some ⟨F.fb, 0, none⟩)

theorem elem_dn : ElemOk Tryz.prog 82 94 2 32 where
  ut := Tryz.underlying82
  info := by
    have h : (Tryz.prog.info? 94).map (fun i => (i.zero, i.size, i.bytes)) = some (some (.agg #[.int .i64 0, .slice none 0 0]), 2, 32) := by kernel_rfl
    obtain ⟨i, hi, hz0, hz1, hz2⟩ := info_parts h
    exact ⟨i, _, hi, hz0, hz1, hz2, rfl⟩
  pos := by decide
  small := by decide
theorem elem_ln : ElemOk Tryz.prog 81 87 2 32 where
  ut := Tryz.underlying81
  info := by
    have h : (Tryz.prog.info? 87).map (fun i => (i.zero, i.size, i.bytes)) = some (some (.agg #[.pointer none, .slice none 0 0]), 2, 32) := by kernel_rfl
    obtain ⟨i, hi, hz0, hz1, hz2⟩ := info_parts h
    exact ⟨i, _, hi, hz0, hz1, hz2, rfl⟩
  pos := by decide
  small := by decide
theorem elem_nd : ElemOk Tryz.prog 72 45 1 8 where
  ut := Tryz.underlying72
  info := by
    have h : (Tryz.prog.info? 45).map (fun i => (i.zero, i.size, i.bytes)) = some (some (.pointer none), 1, 8) := by kernel_rfl
    obtain ⟨i, hi, hz0, hz1, hz2⟩ := info_parts h
    exact ⟨i, _, hi, hz0, hz1, hz2, rfl⟩
  pos := by decide
  small := by decide
theorem elem_or : ElemOk Tryz.prog 74 85 1 8 where
  ut := Tryz.underlying74
  info := by
    have h : (Tryz.prog.info? 85).map (fun i => (i.zero, i.size, i.bytes)) = some (some (.pointer none), 1, 8) := by kernel_rfl
    obtain ⟨i, hi, hz0, hz1, hz2⟩ := info_parts h
    exact ⟨i, _, hi, hz0, hz1, hz2, rfl⟩
  pos := by decide
  small := by decide
theorem elem_ch : ElemOk Tryz.prog 47 51 3 24 where
  ut := Tryz.underlying47
  info := by
    have h : (Tryz.prog.info? 51).map (fun i => (i.zero, i.size, i.bytes)) = some (some (.agg #[.int .i64 0, .int .i64 0, .int .i64 0]), 3, 24) := by kernel_rfl
    obtain ⟨i, hi, hz0, hz1, hz2⟩ := info_parts h
    exact ⟨i, _, hi, hz0, hz1, hz2, rfl⟩
  pos := by decide
  small := by decide

/-- A client's cells. -/
structure CpAt (w : World) (b k : Nat) (c : CP) : Prop where
  a0 : w.cell? ⟨b, k * 7, none⟩ = some (.bool c.alive)
  a1 : w.cell? ⟨b, k * 7 + 1, none⟩ = some (.int .i64 c.inc)
  a2 : w.cell? ⟨b, k * 7 + 2, none⟩ = some (rowV c.lr c.ls.length)
  a3 : w.cell? ⟨b, k * 7 + 3, none⟩ = some (rowV c.br c.ds.length)
  a4 : w.cell? ⟨b, k * 7 + 4, none⟩ = some (.int .i64 c.waiting)
  a5 : w.cell? ⟨b, k * 7 + 5, none⟩ = some (.int .i64 c.trips)
  a6 : w.cell? ⟨b, k * 7 + 6, none⟩ = some (.int .i64 c.posted)
  fr : ∀ k, w.frozen? ⟨b, k, none⟩ = false
theorem CpAt.of {r : Rw} {cs : List CP} (h : St base w0 w L) {b : Nat} (hb : r.blk = some b) (hm : ∀ p, p ∈ rowH r 84 (cs.flatMap cpC) → p ∈ L) {k : Nat} {c : CP} (hc : cs[k]? = some c) : CpAt w b k c :=
  have f := fun j hj => h.recCell (enc := cpC) (s := 7) (fun _ => rfl) hb hm hc j hj
  ⟨f 0 (by decide), f 1 (by decide), f 2 (by decide), f 3 (by decide), f 4 (by decide), f 5 (by decide), f 6 (by decide), fun k => h.row_frozen hb hm k⟩

set_option maxHeartbeats 800000 in
theorem New_pair_calls (cl inc nd : Int) (hc0 : 0 ≤ cl) (hc1 : cl ≤ 5) (hi0 : 0 ≤ inc) (hi1 : inc ≤ 59) (hn0 : 0 ≤ nd) (hn1 : nd ≤ 4) (h : St base w0 w L) (R : Ending → World → Prop)
    (hR : ∀ bp w', St base w0 w' (gpH ⟨bp, cl, inc, nd, nilRw, [], 0, nilRw, []⟩ ++ L) → R (.returned (.tuple #[pP bp, .int .i64 0])) w') :
    Calls Tryz.prog 64 #[.int .i64 cl, .int .i64 inc, .int .i64 nd] w R := by
  have h2 := hR w.heap.size _ (h.alloc _)
  have H2 := Lib.hid h2
  clear hR h2 h
  go_enter Tryz.func64, Tryz.ntmps64
  go_wp2
  all_goals first | (exfalso; go_tidy; omega) | skip
  exact H2.out
end Go.Proofs.YtaojipegpjolcaaGreat
set_option linter.unusedVariables false
set_option linter.unusedSimpArgs false
namespace Go.Proofs.YtaojipegpjolcaaGreat
open Go.RowKit Go.Sort Go.Proofs.BodegaHeap
variable {base : Nat} {w0 w : World} {L : List Blk}

def freshLn (cl inc i : Int) (bp : Nat) : LN := ⟨⟨bp, cl, inc, i, nilRw, [], 0, nilRw, []⟩, nilRw, []⟩
def FreshLns (cl inc : Int) (ls : List LN) : Prop := ∀ (i : Nat) (l : LN), ls[i]? = some l → ∃ bp, l = freshLn cl inc (i : Int) bp
theorem FreshLns.snoc {cl inc : Int} {ls : List LN} (h : FreshLns cl inc ls) (bp : Nat) : FreshLns cl inc (ls ++ [freshLn cl inc ls.length bp]) := by
  intro i l hl
  rcases Nat.lt_trichotomy i ls.length with hi | hi | hi
  · rw [List.getElem?_append_left hi] at hl; exact h i l hl
  · subst hi; simp at hl; exact ⟨bp, hl.symm⟩
  · rw [List.getElem?_append_right (by omega), List.getElem?_eq_none (by simp; omega)] at hl; cases hl

set_option maxRecDepth 100000 in
set_option maxHeartbeats 2000000 in
theorem connect_calls (F : FB) (k : Nat) (C : CP) (hC : F.cs[k]? = some C) (hk : k ≤ 5) (hcr : RowOk F.cr 7 F.cs.length (F.cs.flatMap cpC)) (hcs : F.cs.length ≤ 6) (hns : F.ns.length ≤ 5) (inc : Int) (hi0 : 0 ≤ inc) (hi1 : inc ≤ 59)
    (h : St base w0 w ((F.fb, .cells (fbCells F) 76 (0, 0)) :: (rowH F.cr 84 (F.cs.flatMap cpC) ++ L))) (R : Ending → World → Prop)
    (hR : ∀ lr ls w', ls.length = F.ns.length → FreshLns k inc ls → RowOk lr 2 ls.length (ls.flatMap lnC) →
      St base w0 w' ((F.fb, .cells (fbCells F) 76 (0, 0)) :: (rowH F.cr 84 ((F.cs.set k { C with alive := true, inc := inc, lr := lr, ls := ls }).flatMap cpC) ++ (rowH lr 87 (ls.flatMap lnC) ++ (ls.flatMap lnH ++ L)))) →
      R (.returned (.tuple #[])) w') :
    Calls Tryz.prog 48 #[fP F, .int .i64 k, .int .i64 inc] w R := by
  have hkl : k < F.cs.length := (List.getElem?_eq_some_iff.1 hC).1
  obtain ⟨b, hb⟩ := hcr.pos (by omega)
  have hrv : rowV F.cr F.cs.length = .slice (some ⟨b, 0, none⟩) F.cs.length (F.cs.length + F.cr.k) := by simp [rowV, rowA, hb]
  have hfc : ∀ W X, St base w0 W ((F.fb, .cells (fbCells F) 76 (0, 0)) :: X) → (∀ k, W.cell? ⟨F.fb, k, none⟩ = (#[.int .i64 F.lines, rowV F.nr F.ns.length, .slice (some ⟨b, 0, none⟩) F.cs.length (F.cs.length + F.cr.k), rowV F.orr F.os.length] : Array Value)[k]?) := by
    intro W X hW k
    rw [hW.cells (cs := fbCells F) (t := 76) (fr := (0, 0)) List.mem_cons_self k]; unfold fbCells; rw [hrv]
  have c1 := hfc w _ h
  obtain ⟨a0, a1, a2, a3, a4, a5, a6, fr⟩ := CpAt.of h hb (fun p hp => List.mem_cons_of_mem _ (List.mem_append_left _ hp)) hC
  obtain ⟨ne1, ne2⟩ := h.ne (List.mem_append_left _ (row_mem (t := 84) (cs := F.cs.flatMap cpC) hb))
  simp only at ne1 ne2
  -- the three stores
  obtain ⟨w1, hw1⟩ : ∃ W, W = ((w.setCell ⟨b, k * 7, none⟩ (.bool true)).setCell ⟨b, k * 7 + 1, none⟩ (.int .i64 inc)).setCell ⟨b, k * 7 + 2, none⟩ (.slice none 0 0) := ⟨_, rfl⟩
  have h1 : St base w0 w1 (rowH F.cr 84 ((F.cs.set k { C with alive := true, inc := inc, lr := nilRw, ls := [] }).flatMap cpC) ++ ((F.fb, .cells (fbCells F) 76 (0, 0)) :: L)) := by
    have g0 : St base w0 w (rowH F.cr 84 (F.cs.flatMap cpC) ++ ((F.fb, .cells (fbCells F) 76 (0, 0)) :: L)) := h.ac (fun y => by simp only [cnt_append, cnt_cons, cnt_nil]; omega)
    have g1 := g0.setRec (enc := cpC) (s := 7) (fun _ => rfl) hb hC 0 (by decide) (.bool true) { C with alive := true } rfl
    have g2 := g1.setRec (enc := cpC) (s := 7) (fun _ => rfl) hb (k := k) (x := { C with alive := true }) (by simp [hkl]) 1 (by decide) (.int .i64 inc) { C with alive := true, inc := inc } rfl
    have g3 := g2.setRec (enc := cpC) (s := 7) (fun _ => rfl) hb (k := k) (x := { C with alive := true, inc := inc }) (by simp [hkl]) 2 (by decide) (.slice none 0 0) { C with alive := true, inc := inc, lr := nilRw, ls := [] } rfl
    rw [List.set_set, List.set_set] at g3
    rw [hw1]; exact g3
  have HC := Lib.hid hC
  have HCR := Lib.hid hcr
  have HFC := Lib.hid hfc
  have H1 := Lib.hid h1
  have HW1 := Lib.hid hw1
  have HRV := Lib.hid hrv
  have HB := Lib.hid hb
  have HR := Lib.hid hR
  clear hcr hfc h1 hw1 hrv hb hR h hC
  go_enter Tryz.func48, Tryz.ntmps48
  go_wp2_with fail
  rw [← HW1.out]
  clear a0 a1 a2 a3 a4 a5 a6 fr c1
  go_loopw [31] (fun i wr => ∃ (n : Nat) (lr : Rw) (ls : List LN), n ≤ F.ns.length ∧ i = .int .i64 n ∧ ls.length = n ∧ FreshLns k inc ls ∧ RowOk lr 2 ls.length (ls.flatMap lnC) ∧
    St base w0 wr (rowH F.cr 84 ((F.cs.set k { C with alive := true, inc := inc, lr := lr, ls := ls }).flatMap cpC) ++ (rowH lr 87 (ls.flatMap lnC) ++ ((F.fb, .cells (fbCells F) 76 (0, 0)) :: (ls.flatMap lnH ++ L)))))
    (fun i wr => F.ns.length - (intOf i).toNat)
  case atStart => exact ⟨0, nilRw, [], Nat.zero_le _, rfl, rfl, fun i l h => by simp at h, nilRw_ok 2, by simpa [rowH_nil] using H1.out⟩
  case round =>
    obtain ⟨n, lr, ls, hn, rfl, hlen, hfr, hlr, hst⟩ := hrel
    by_cases hlt : n < F.ns.length
    · have hnp := fun R => New_pair_calls (R := R) k inc n (by omega) (by omega) hi0 hi1 (by omega) (by omega) hst
      have HNP := Lib.hid hnp
      have HLEN := Lib.hid hlen
      have HFR := Lib.hid hfr
      have HLR := Lib.hid hlr
      have hltI : (n : Int) < (F.ns.length : Int) := by omega
      clear H1 hst hnp hfr hlr hlen
      go_wp2_with fail
      refine HNP.out _ ?_
      intro bp w2 h2
      obtain ⟨C2, hC2⟩ : ∃ C', C' = { C with alive := true, inc := inc, lr := lr, ls := ls } := ⟨_, rfl⟩
      rw [← hC2] at h2
      have hget : (F.cs.set k C2)[k]? = some C2 := by simp [hkl]
      have h2' : St base w0 w2 ((bp, .cells (gpCells ⟨bp, k, inc, n, nilRw, [], 0, nilRw, []⟩) 111 (0, 0)) :: (rowH F.cr 84 ((F.cs.set k C2).flatMap cpC) ++ (rowH lr 87 (ls.flatMap lnC) ++ ((F.fb, .cells (fbCells F) 76 (0, 0)) :: (ls.flatMap lnH ++ L))))) := h2
      have h3 : St base w0 w2 (rowH lr 87 (ls.flatMap lnC) ++ (rowH F.cr 84 ((F.cs.set k C2).flatMap cpC) ++ ((F.fb, .cells (fbCells F) 76 (0, 0)) :: ((bp, .cells (gpCells ⟨bp, k, inc, n, nilRw, [], 0, nilRw, []⟩) 111 (0, 0)) :: (ls.flatMap lnH ++ L))))) := h2'.ac (fun y => by simp only [cnt_append, cnt_cons, cnt_nil]; omega)
      obtain ⟨a0, a1, a2, a3, a4, a5, a6, fr⟩ := CpAt.of h3 HB.out (fun p hp => List.mem_append_right _ (List.mem_append_left _ hp)) hget
      rw [hC2] at a2
      simp only [HLEN.out] at a2
      have H3 := Lib.hid h3
      have HC2 := Lib.hid hC2
      have hlr : RowOk lr 2 n (ls.flatMap lnC) := by have := HLR.out; rw [HLEN.out] at this; exact this
      have hlr2 := Lib.hid hlr
      clear a0 a1 a3 a4 a5 a6 h2 h2' h3 HNP hlr hC2 hget
      go_wp2_with (at_builtin; refine wp_appendN elem_ln rfl _ _ rfl lr n _ rfl hlr2.out H3.out #[pP bp, .slice none 0 0] rfl rfl (by simp [Value.oneCell']) (by omega) ?_)
      intro r' w4 hr' h4 _ _
      have e1 : ls.flatMap lnC ++ #[pP bp, .slice none 0 0].toList = (ls ++ [freshLn k inc n bp]).flatMap lnC := by simp [List.flatMap_append, freshLn, rowV, rowA, nilRw]
      have e2 : (ls ++ [freshLn k inc n bp]).flatMap lnH = ls.flatMap lnH ++ [(bp, .cells (gpCells ⟨bp, k, inc, n, nilRw, [], 0, nilRw, []⟩) 111 (0, 0))] := by simp [List.flatMap_append, freshLn, rowH_nil]
      simp only [e1] at hr' h4
      have h5 : St base w0 w4 (rowH F.cr 84 ((F.cs.set k C2).flatMap cpC) ++ (rowH r' 87 ((ls ++ [freshLn k inc n bp]).flatMap lnC) ++ ((F.fb, .cells (fbCells F) 76 (0, 0)) :: ((ls ++ [freshLn k inc n bp]).flatMap lnH ++ L)))) := by
        rw [e2]; exact h4.ac (fun y => by simp only [cnt_append, cnt_cons, cnt_nil]; omega)
      have f5 := fun k' => h5.row_frozen (r := F.cr) (t := 84) (cs := (F.cs.set k C2).flatMap cpC) HB.out (fun p hp => List.mem_append_left _ hp) k'
      have g2 := (CpAt.of h5 HB.out (fun p hp => List.mem_append_left _ hp) (k := k) (c := C2) (by simp [hkl])).a2
      have h6 := h5.setRec (enc := cpC) (s := 7) (fun _ => rfl) HB.out (k := k) (x := C2) (by simp [hkl]) 2 (by decide) (rowV r' (n + 1)) { C with alive := true, inc := inc, lr := r', ls := ls ++ [freshLn k inc n bp] } (by rw [HC2.out]; simp [HLEN.out])
      rw [List.set_set] at h6
      have H6 := Lib.hid h6
      have HR' := Lib.hid hr'
      have hn5 : (n : Int) + 1 ≤ 6 := by omega
      clear e1 e2 h4 h5 h6 hr' H3 fr a2
      go_wp2
      go_roundw
      case rel =>
        refine ⟨n + 1, r', ls ++ [freshLn k inc n bp], by omega, by go_num, by simp [HLEN.out], ?_, ?_, H6.out⟩
        · have e := HFR.out.snoc bp
          rw [HLEN.out] at e; exact e
        · have e := HR'.out
          simpa [HLEN.out] using e
      case measure => simp [intOf]; omega
    · obtain rfl : n = F.ns.length := by omega
      have h9 := HR.out lr ls wr hlen hfr hlr (hst.ac (fun y => by simp only [cnt_append, cnt_cons, cnt_nil]; omega))
      have H9 := Lib.hid h9
      clear h9 hst hlr hfr H1
      go_wp2
      go_end0
      exact H9.out
end Go.Proofs.YtaojipegpjolcaaGreat
set_option linter.unusedVariables false
set_option linter.unusedSimpArgs false
namespace Go.Proofs.YtaojipegpjolcaaGreat
open Go.RowKit Go.Sort Go.Proofs.BodegaHeap
variable {base : Nat} {w0 w : World} {L : List Blk}

def zeroNd (lines : Int) : Nd := ⟨List.replicate (8 * lines).toNat 0, false⟩
def zeroCp : CP := ⟨false, 0, nilRw, [], nilRw, [], 0, 0, 0⟩
structure FreshCp (nodes : Nat) (i : Nat) (c : CP) : Prop where
  len : c.ls.length = nodes
  fr : FreshLns i 1 c.ls
  ok : RowOk c.lr 2 c.ls.length (c.ls.flatMap lnC)
  eq : c = ⟨true, 1, c.lr, c.ls, nilRw, [], 0, 0, 0⟩
structure FreshFb (nodes clients : Nat) (lines : Int) (F : FB) : Prop where
  lns : F.lines = lines
  nlen : F.ns.length = nodes
  nzero : ∀ n ∈ F.ns, n.N = zeroNd lines
  nr : RowOk F.nr 1 F.ns.length (F.ns.flatMap nodeC)
  clen : F.cs.length = clients
  cs : ∀ (i : Nat) (c : CP), F.cs[i]? = some c → FreshCp nodes i c
  cr : RowOk F.cr 7 F.cs.length (F.cs.flatMap cpC)
  os : F.os = []
  orr : F.orr = nilRw

theorem zero_cpH (n : Nat) : (List.replicate n zeroCp).flatMap cpH = [] := by
  induction n with
  | zero => rfl
  | succ n ih => rw [List.replicate_succ, List.flatMap_cons, ih]; rfl
theorem node_one (bn bw : Nat) (N : Nd) : [(⟨bn, bw, N⟩ : ND)].flatMap nodeH = [(bn, .cells (ndCells bw N) 79 (0, 0)), (bw, .cells (u64s N.words).toArray 22 (0, 0))] := rfl

theorem make_cps (n : Nat) (hn : n ≤ 1000000) (w : World) :
    (Instr.makeSlice 73 (.int .i64 (n : Int)) (.int .i64 (n : Int))).run Tryz.prog w = .ok (.slice (some ⟨w.heap.size, 0, none⟩) n n) (w.alloc (.cells ((List.replicate n zeroCp).flatMap cpC).toArray 84)) :=
  run_make_recs cpC 7 88 (fun _ => rfl) (by decide) zeroCp (.agg #[.bool false, .int .i64 0, .slice none 0 0, .slice none 0 0, .int .i64 0, .int .i64 0, .int .i64 0]) rfl Tryz.underlying73 (by kernel_rfl) (by decide) n hn w

set_option maxRecDepth 100000 in
set_option maxHeartbeats 2000000 in
theorem New_fabric_calls (nodes clients : Nat) (lines : Int) (hn1 : 1 ≤ nodes) (hn5 : nodes ≤ 5) (hc1 : 1 ≤ clients) (hc6 : clients ≤ 6) (hl1 : 1 ≤ lines) (hl2 : lines ≤ 256) (h : St base w0 w L) (R : Ending → World → Prop)
    (hR : ∀ F w', FreshFb nodes clients lines F → St base w0 w' (fbH F ++ L) → R (.returned (.tuple #[fP F, .int .i64 0])) w') :
    Calls Tryz.prog 30 #[.int .i64 nodes, .int .i64 clients, .int .i64 lines] w R := by
  have q := make_cps clients (by omega)
  have hnI1 : (1 : Int) ≤ nodes := by omega
  have hnI5 : (nodes : Int) ≤ 5 := by omega
  have hcI1 : (1 : Int) ≤ clients := by omega
  have hcI6 : (clients : Int) ≤ 6 := by omega
  obtain ⟨cr, hcr⟩ : ∃ r : Rw, r = ⟨some w.heap.size, 0, []⟩ := ⟨_, rfl⟩
  obtain ⟨fb, hfb⟩ : ∃ b : Nat, b = w.heap.size + 1 := ⟨_, rfl⟩
  obtain ⟨w1, hw1⟩ : ∃ W, W = (w.alloc (.cells ((List.replicate clients zeroCp).flatMap cpC).toArray 84)).alloc (.cells #[.int .i64 lines, .slice none 0 0, rowV cr clients, .slice none 0 0] 76) := ⟨_, rfl⟩
  have h1 : St base w0 w1 ((fb, .cells #[.int .i64 lines, .slice none 0 0, rowV cr clients, .slice none 0 0] 76 (0, 0)) :: (rowH cr 84 ((List.replicate clients zeroCp).flatMap cpC) ++ L)) := by
    rw [hw1, hfb, hcr]
    simp only [rowH, List.append_nil, List.singleton_append]
    exact (h.alloc _).allocAt _ (by simp) _
  have hcv : rowV cr clients = .slice (some ⟨w.heap.size, 0, none⟩) clients clients := by rw [hcr]; rfl
  have hcrOk : RowOk cr 7 clients ((List.replicate clients zeroCp).flatMap cpC) := by
    rw [hcr]; exact ⟨by rw [flat_length cpC 7 (fun _ => rfl)]; simp; omega, fun e => by simp at e, by simp, by simp [maxLen]; omega⟩
  rw [hcv] at hw1
  have H1 := Lib.hid h1
  have HW1 := Lib.hid hw1
  have HCV := Lib.hid hcv
  have HCR := Lib.hid hcr
  have HFB := Lib.hid hfb
  have HOK := Lib.hid hcrOk
  have HR := Lib.hid hR
  clear h1 hw1 hcv hcr hcrOk hR h
  subst hfb
  go_enter Tryz.func30, Tryz.ntmps30
  go_wp2_with fail
  rw [← HW1.out]
  clear q
  go_loopw [40] (fun i wr => ∃ (n : Nat) (nr : Rw) (ns : List ND), n ≤ nodes ∧ i = .int .i64 n ∧ ns.length = n ∧ (∀ x ∈ ns, x.N = zeroNd lines) ∧ RowOk nr 1 n (ns.flatMap nodeC) ∧
    St base w0 wr ((w.heap.size + 1, .cells #[.int .i64 lines, rowV nr n, rowV cr clients, .slice none 0 0] 76 (0, 0)) :: (rowH nr 45 (ns.flatMap nodeC) ++ (ns.flatMap nodeH ++ (rowH cr 84 ((List.replicate clients zeroCp).flatMap cpC) ++ L)))))
    (fun i wr => nodes - (intOf i).toNat)
  case atStart => exact ⟨0, nilRw, [], Nat.zero_le _, rfl, rfl, fun i h => by simp at h, nilRw_ok 1, H1.out⟩
  case round =>
    clear H1 HW1
    obtain ⟨n, nr, ns, hn, rfl, hlen, hz, hnr, hst⟩ := hrel
    by_cases hlt : n < nodes
    · have hnn := fun R => NewNode_calls (R := R) lines hl1 hl2 hst
      have HNN := Lib.hid hnn
      have HNR := Lib.hid hnr
      have HLEN := Lib.hid hlen
      have HZ := Lib.hid hz
      have hltI : (n : Int) < (nodes : Int) := by omega
      clear hst hnn hlen hz hnr
      go_wp2_with fail
      refine HNN.out _ ?_
      intro bn bw w2 h2
      have h2' : St base w0 w2 ((bn, .cells (ndCells bw (zeroNd lines)) 79 (0, 0)) :: (bw, .cells (u64s (zeroNd lines).words).toArray 22 (0, 0)) :: ((w.heap.size + 1, .cells #[.int .i64 lines, rowV nr n, rowV cr clients, .slice none 0 0] 76 (0, 0)) :: (rowH nr 45 (ns.flatMap nodeC) ++ (ns.flatMap nodeH ++ (rowH cr 84 ((List.replicate clients zeroCp).flatMap cpC) ++ L))))) := h2
      have h3 : St base w0 w2 (rowH nr 45 (ns.flatMap nodeC) ++ ((w.heap.size + 1, .cells #[.int .i64 lines, rowV nr n, rowV cr clients, .slice none 0 0] 76 (0, 0)) :: ((ns ++ [(⟨bn, bw, zeroNd lines⟩ : ND)]).flatMap nodeH ++ (rowH cr 84 ((List.replicate clients zeroCp).flatMap cpC) ++ L)))) := by
        rw [List.flatMap_append, node_one]; exact h2'.ac (fun y => by simp only [cnt_append, cnt_cons, cnt_nil]; omega)
      have c3 := fun k => h3.cells (t := 76) (fr := (0, 0)) (List.mem_append_right _ List.mem_cons_self) k
      have f3 := fun k => h3.frozen (t := 76) (List.mem_append_right _ List.mem_cons_self) k
      have H3 := Lib.hid h3
      clear h2 h2' h3 HNN
      go_wp2_with (at_builtin; refine wp_append1 elem_nd rfl _ _ rfl nr n _ rfl HNR.out H3.out (nP bn) rfl rfl (by omega) ?_)
      intro r' w4 hr' h4 _ _
      have e1 : ns.flatMap nodeC ++ [nP bn] = (ns ++ [(⟨bn, bw, zeroNd lines⟩ : ND)]).flatMap nodeC := by simp [List.flatMap_append]
      rw [e1] at hr' h4
      have h5 : St base w0 w4 ((w.heap.size + 1, .cells #[.int .i64 lines, rowV nr n, rowV cr clients, .slice none 0 0] 76 (0, 0)) :: (rowH r' 45 ((ns ++ [(⟨bn, bw, zeroNd lines⟩ : ND)]).flatMap nodeC) ++ ((ns ++ [(⟨bn, bw, zeroNd lines⟩ : ND)]).flatMap nodeH ++ (rowH cr 84 ((List.replicate clients zeroCp).flatMap cpC) ++ L)))) := by
        have e2 : (ns ++ [(⟨bn, bw, zeroNd lines⟩ : ND)]).flatMap nodeH = ns.flatMap nodeH ++ [(bn, .cells (ndCells bw (zeroNd lines)) 79 (0, 0)), (bw, .cells (u64s (zeroNd lines).words).toArray 22 (0, 0))] := by rw [List.flatMap_append, node_one]
        simp only [e2] at h4 ⊢
        exact h4.ac (fun y => by simp only [cnt_append, cnt_cons, cnt_nil]; omega)
      have c5 := fun k => h5.cells (t := 76) (fr := (0, 0)) List.mem_cons_self k
      have f5 := fun k => h5.frozen (t := 76) List.mem_cons_self k
      have h6 : St base w0 (w4.setCell ⟨w.heap.size + 1, 1, none⟩ (rowV r' (n + 1))) ((w.heap.size + 1, .cells #[.int .i64 lines, rowV r' (n + 1), rowV cr clients, .slice none 0 0] 76 (0, 0)) :: (rowH r' 45 ((ns ++ [(⟨bn, bw, zeroNd lines⟩ : ND)]).flatMap nodeC) ++ ((ns ++ [(⟨bn, bw, zeroNd lines⟩ : ND)]).flatMap nodeH ++ (rowH cr 84 ((List.replicate clients zeroCp).flatMap cpC) ++ L)))) := h5.set 1 _
      have H6 := Lib.hid h6
      have HR' := Lib.hid hr'
      clear h4 h5 h6 hr' e1 c3 f3 H3
      go_wp2
      go_roundw
      case rel =>
        refine ⟨n + 1, r', ns ++ [(⟨bn, bw, zeroNd lines⟩ : ND)], by omega, by go_num, by simp [HLEN.out], ?_, HR'.out, H6.out⟩
        intro x hx
        rcases List.mem_append.1 hx with hx | hx
        · exact HZ.out x hx
        · rw [List.mem_singleton] at hx; rw [hx]
      case measure => simp [intOf]; omega
    · obtain rfl : n = nodes := by omega
      have H7 := Lib.hid hst
      have HNR := Lib.hid hnr
      have HLEN := Lib.hid hlen
      have HZ := Lib.hid hz
      have c7 := fun k => hst.cells (t := 76) (fr := (0, 0)) List.mem_cons_self k
      clear hst hlen hz hnr
      go_wp2_with fail
      clear c7
      go_loopw [66] (fun i wr => ∃ (m : Nat) (cs : List CP), m ≤ clients ∧ i = .int .i64 m ∧ cs.length = clients ∧ (∀ (j : Nat) (c : CP), cs[j]? = some c → if j < m then FreshCp n j c else c = zeroCp) ∧ RowOk cr 7 clients (cs.flatMap cpC) ∧
        St base w0 wr ((w.heap.size + 1, .cells #[.int .i64 lines, rowV nr n, rowV cr clients, .slice none 0 0] 76 (0, 0)) :: (rowH cr 84 (cs.flatMap cpC) ++ (cs.flatMap cpH ++ (rowH nr 45 (ns.flatMap nodeC) ++ (ns.flatMap nodeH ++ L))))))
        (fun i wr => clients - (intOf i).toNat)
      case atStart =>
        refine ⟨0, List.replicate clients zeroCp, Nat.zero_le _, rfl, by simp, fun j c hc => ?_, HOK.out, ?_⟩
        · rw [if_neg (Nat.not_lt_zero _)]
          exact List.eq_of_mem_replicate (List.mem_of_getElem? hc)
        · rw [zero_cpH]; exact H7.out.ac (fun y => by simp only [cnt_append, cnt_cons, cnt_nil]; omega)
      case round =>
        clear H7
        obtain ⟨m, cs, hm, rfl, hcl, hcf, hok, hst⟩ := hrel
        by_cases hlt : m < clients
        · have hget : cs[m]? = some zeroCp := by
            obtain ⟨c, hc⟩ : ∃ c, cs[m]? = some c := ⟨cs[m]'(by omega), by simp [hcl, hlt]⟩
            have := hcf m c hc
            rw [if_neg (Nat.lt_irrefl _)] at this
            rw [hc, this]
          have hst2 : St base w0 wr (((⟨w.heap.size + 1, lines, nr, ns, cr, cs, nilRw, []⟩ : FB).fb, .cells (fbCells ⟨w.heap.size + 1, lines, nr, ns, cr, cs, nilRw, []⟩) 76 (0, 0)) :: (rowH cr 84 (cs.flatMap cpC) ++ (cs.flatMap cpH ++ (rowH nr 45 (ns.flatMap nodeC) ++ (ns.flatMap nodeH ++ L))))) := by
            have e : fbCells ⟨w.heap.size + 1, lines, nr, ns, cr, cs, nilRw, []⟩ = #[.int .i64 lines, rowV nr n, rowV cr clients, .slice none 0 0] := by simp [HLEN.out, hcl, rowV, rowA, nilRw]
            rw [e]; exact hst
          have hcc := fun R => connect_calls (R := R) ⟨w.heap.size + 1, lines, nr, ns, cr, cs, nilRw, []⟩ m zeroCp hget (by omega) (show RowOk cr 7 cs.length (cs.flatMap cpC) by rw [hcl]; exact hok) (show cs.length ≤ 6 by omega) (show ns.length ≤ 5 by rw [HLEN.out]; omega) 1 (by omega) (by omega) hst2
          have HCC := Lib.hid hcc
          have HCL := Lib.hid hcl
          have HCF := Lib.hid hcf
          have HOK2 := Lib.hid hok
          have HGET := Lib.hid hget
          have hltI : (m : Int) < (clients : Int) := by omega
          clear hst hst2 hcc hcl hcf hok hget
          go_wp2_with fail
          refine HCC.out _ ?_
          intro lr ls w2 hll hfl hlo h8
          obtain ⟨C2, hC2⟩ : ∃ C' : CP, C' = ⟨true, 1, lr, ls, nilRw, [], 0, 0, 0⟩ := ⟨_, rfl⟩
          have hC3 : ({ zeroCp with alive := true, inc := 1, lr := lr, ls := ls } : CP) = C2 := by rw [hC2]; rfl
          have h9 : St base w0 w2 ((w.heap.size + 1, .cells #[.int .i64 lines, rowV nr n, rowV cr clients, .slice none 0 0] 76 (0, 0)) :: (rowH cr 84 ((cs.set m C2).flatMap cpC) ++ (rowH lr 87 (ls.flatMap lnC) ++ (ls.flatMap lnH ++ (cs.flatMap cpH ++ (rowH nr 45 (ns.flatMap nodeC) ++ (ns.flatMap nodeH ++ L))))))) := by
            have e : fbCells ⟨w.heap.size + 1, lines, nr, ns, cr, cs, nilRw, []⟩ = #[.int .i64 lines, rowV nr n, rowV cr clients, .slice none 0 0] := by simp [HLEN.out, HCL.out, rowV, rowA, nilRw]
            rw [← e, ← hC3]; exact h8
          have hml : m < cs.length := by rw [HCL.out]; exact hlt
          have h10 : St base w0 w2 ((w.heap.size + 1, .cells #[.int .i64 lines, rowV nr n, rowV cr clients, .slice none 0 0] 76 (0, 0)) :: (rowH cr 84 ((cs.set m C2).flatMap cpC) ++ ((cs.set m C2).flatMap cpH ++ (rowH nr 45 (ns.flatMap nodeC) ++ (ns.flatMap nodeH ++ L))))) := by
            refine h9.ac (fun y => ?_)
            have e1 := cnt_flat_set cpH y cs m C2 hml
            have e2 := cnt_flat_get cpH y cs m zeroCp HGET.out
            have e3 : cnt y (cpH zeroCp) = 0 := cnt_nil y
            have e4 : cnt y (cpH C2) = cnt y (rowH lr 87 (ls.flatMap lnC)) + cnt y (ls.flatMap lnH) := by
              rw [hC2]
              have e5 : cpH ⟨true, 1, lr, ls, nilRw, [], 0, 0, 0⟩ = rowH lr 87 (ls.flatMap lnC) ++ (ls.flatMap lnH ++ []) := rfl
              rw [e5]; simp only [cnt_append, cnt_nil]; omega
            simp only [cnt_append, cnt_cons] at *
            omega
          have H10 := Lib.hid h10
          have HC2 := Lib.hid hC2
          have HLL := Lib.hid hll
          have HFL := Lib.hid hfl
          have HLO := Lib.hid hlo
          clear h8 h9 h10 hC2 hC3 hll hfl hlo HCC
          go_wp2
          go_roundw
          case rel =>
            refine ⟨m + 1, cs.set m C2, by omega, by go_num, by simp [HCL.out], ?_, RowOk.setRec (enc := cpC) (s := 7) (fun _ => rfl) HOK2.out m C2, H10.out⟩
            intro j c hj
            by_cases hjm : j = m
            · subst hjm
              rw [List.getElem?_set_self hml] at hj
              obtain rfl : C2 = c := by simpa using hj
              rw [if_pos (Nat.lt_succ_self _)]
              have e := HC2.out
              subst e
              exact ⟨by rw [HLL.out, HLEN.out], HFL.out, HLO.out, rfl⟩
            · rw [List.getElem?_set_ne (Ne.symm hjm)] at hj
              have := HCF.out j c hj
              by_cases hlt2 : j < m
              · rw [if_pos hlt2] at this; rw [if_pos (by omega)]; exact this
              · rw [if_neg hlt2] at this; rw [if_neg (by omega)]; exact this
          case measure => simp [intOf]; omega
        · obtain rfl : m = clients := by omega
          have h11 := HR.out ⟨w.heap.size + 1, lines, nr, ns, cr, cs, nilRw, []⟩ wr ⟨rfl, HLEN.out, HZ.out, by have := HNR.out; simp only [HLEN.out]; exact this, hcl, fun j c hj => by
              have := hcf j c hj
              rw [if_pos (by have : j < cs.length := (List.getElem?_eq_some_iff.1 hj).1; omega)] at this
              exact this, by simp only [hcl]; exact hok, rfl, rfl⟩ (by
            have e : fbCells ⟨w.heap.size + 1, lines, nr, ns, cr, cs, nilRw, []⟩ = #[.int .i64 lines, rowV nr n, rowV cr cs.length, .slice none 0 0] := by simp [HLEN.out, rowV, rowA, nilRw]
            rw [← hcl, ← e] at hst
            refine hst.ac (fun y => ?_)
            simp only [fbH, fbR, cnt_append, cnt_cons, List.flatMap_nil, cnt_nil, rowH_nil]; omega)
          have H11 := Lib.hid h11
          clear h11 hst hok hcf hcl
          go_wp2
          exact H11.out
end Go.Proofs.YtaojipegpjolcaaGreat
