/- bodegarun9: a conversation as a value; next. bodegarun9.Turn: what it does; the verbs of a proposer are in order. -/
import Derived.Test.YtaojipegpjolcaaGreatGF
import Derived.Test.YtaojipegpjolcaaGreatGJ
set_option linter.unusedVariables false
set_option linter.unusedSimpArgs false
namespace Go.Proofs.YtaojipegpjolcaaGreat
open Go.RowKit Go.Sort Go.Proofs.BodegaHeap
variable {base : Nat} {w0 w : World} {L : List Blk}

/-- A conversation, and where its replies lie. -/
structure TK where
  kind : Int
  client : Int
  job : PJ
  r : Rw
  gts : List GT
  over : Bool
  bad : Bool
  code : Int
  value : Int
abbrev tkCs (t : TK) : Array Value := #[.int .i64 t.kind, .int .i64 t.client, .int .i64 t.job.nodes, .int .i64 t.job.number, .int .i64 t.job.client, .int .i64 t.job.round, .int .u64 t.job.value, rowV t.r t.gts.length, .bool t.over, .bool t.bad, .int .i64 t.code, .int .u64 t.value]
abbrev tkV (t : TK) : Value := .agg (tkCs t)
abbrev tkB12 (b : Nat) (t : TK) : Blk := (b, .cells (tkCs t) 54 (0, 0))
/-- Behind next. -/
def TK.nexted (t : TK) : TK := { t with over := (pNext t.job (gots t.gts)).2.2, code := (pNext t.job (gots t.gts)).2.1.code, value := (pNext t.job (gots t.gts)).2.1.value }

structure TkC (b : Nat) (t : TK) (w : World) : Prop where
  c : ∀ k, w.cell? ⟨b, k, none⟩ = (tkCs t)[k]?
set_option maxHeartbeats 2000000 in
theorem tk_put {b : Nat} {a0 a1 a2 a3 a4 a5 a6 a7 a8 a9 a10 a11 : Value} {tn : TK} (h8z : St base w0 w ((b, .cells #[a0, a1, a2, a3, a4, a5, a6, a7, a8, a9, a10, a11] 54 (0, 0)) :: L)) :
    St base w0 ((((((((((((w.setCell ⟨b, 0, none⟩ (.int .i64 tn.kind)).setCell ⟨b, 1, none⟩ (.int .i64 tn.client)).setCell ⟨b, 2, none⟩ (.int .i64 tn.job.nodes)).setCell ⟨b, 3, none⟩ (.int .i64 tn.job.number)).setCell ⟨b, 4, none⟩ (.int .i64 tn.job.client)).setCell ⟨b, 5, none⟩ (.int .i64 tn.job.round)).setCell ⟨b, 6, none⟩ (.int .u64 tn.job.value)).setCell ⟨b, 7, none⟩ (rowV tn.r tn.gts.length)).setCell ⟨b, 8, none⟩ (.bool tn.over)).setCell ⟨b, 9, none⟩ (.bool tn.bad)).setCell ⟨b, 10, none⟩ (.int .i64 tn.code)).setCell ⟨b, 11, none⟩ (.int .u64 tn.value)) (tkB12 b tn :: L) := by
  have h := ((((((((((((h8z.set 0 (.int .i64 tn.kind)).set 1 (.int .i64 tn.client)).set 2 (.int .i64 tn.job.nodes)).set 3 (.int .i64 tn.job.number)).set 4 (.int .i64 tn.job.client)).set 5 (.int .i64 tn.job.round)).set 6 (.int .u64 tn.job.value)).set 7 (rowV tn.r tn.gts.length)).set 8 (.bool tn.over)).set 9 (.bool tn.bad)).set 10 (.int .i64 tn.code)).set 11 (.int .u64 tn.value))
  simp only [List.setIfInBounds_toArray, List.set_cons_zero, List.set_cons_succ] at h
  exact h

set_option maxRecDepth 100000 in
set_option maxHeartbeats 8000000 in
theorem next_calls (t : TK) (hk : t.kind = 2) (hj : pValid t.job = 0) (hv : W64 t.job.value) (hgo : GotOk t.r t.gts) (hrg : Rng (gots t.gts)) (hmo : ∀ p, p ∈ gotH t.r t.gts → p ∈ L) (h : St base w0 w L) (R : Ending → World → Prop)
    (hR : ∀ ra w', RowOk ra 9 (pNext t.job (gots t.gts)).1.length (nvC (pNext t.job (gots t.gts)).1) → (pNext t.job (gots t.gts)).1.length ≤ 1000 → ((pNext t.job (gots t.gts)).2.2 = false → 0 < (pNext t.job (gots t.gts)).1.length) → St base w0 w' (rowH ra 113 (nvC (pNext t.job (gots t.gts)).1) ++ L) →
      R (.returned (.tuple #[rowV ra (pNext t.job (gots t.gts)).1.length, tkV t.nexted])) w') :
    Calls Tryz.prog 56 #[tkV t] w R := by
  obtain ⟨W2, hW2⟩ : ∃ W, W = (w.alloc (.cells (tkCs t) 54)).alloc (.cells #[.int .i64 0, .int .i64 0, .int .i64 0, .int .i64 0, .int .i64 0, .int .i64 0, .int .u64 0, .slice none 0 0, .bool false, .bool false, .int .i64 0, .int .u64 0] 54) := ⟨_, rfl⟩
  have h2 : St base w0 W2 ((w.heap.size + 1, .cells #[.int .i64 0, .int .i64 0, .int .i64 0, .int .i64 0, .int .i64 0, .int .i64 0, .int .u64 0, .slice none 0 0, .bool false, .bool false, .int .i64 0, .int .u64 0] 54 (0, 0)) :: (tkB12 w.heap.size t :: L)) := by
    have q := (h.alloc (.cells (tkCs t) 54)).alloc (.cells #[.int .i64 0, .int .i64 0, .int .i64 0, .int .i64 0, .int .i64 0, .int .i64 0, .int .u64 0, .slice none 0 0, .bool false, .bool false, .int .i64 0, .int .u64 0] 54)
    rw [World.size_alloc, ← hW2] at q
    exact q
  have c2 := fun k => h2.cells (b := w.heap.size) (cs := tkCs t) (t := 54) (fr := (0, 0)) (by simp) k
  have hn := fun R hR => Next_calls (L := (w.heap.size + 1, .cells #[.int .i64 0, .int .i64 0, .int .i64 0, .int .i64 0, .int .i64 0, .int .i64 0, .int .u64 0, .slice none 0 0, .bool false, .bool false, .int .i64 0, .int .u64 0] 54 (0, 0)) :: (tkB12 w.heap.size t :: L)) t.job hj hv t.r t.gts hgo hrg (fun p hp => List.mem_cons_of_mem _ (List.mem_cons_of_mem _ (hmo p hp))) h2 R hR
  obtain ⟨pn, hpn⟩ : ∃ x, x = pNext t.job (gots t.gts) := ⟨_, rfl⟩
  have hnx : t.nexted = { t with over := pn.2.2, code := pn.2.1.code, value := pn.2.1.value } := by rw [hpn]; rfl
  rw [← hpn] at hn hR
  rw [hnx] at hR
  obtain ⟨ask, o, ov⟩ := pn
  simp only at hn hR
  have HN := Lib.hid hn
  have HR := Lib.hid hR
  have HW2 := Lib.hid hW2
  have hkb : (t.kind == 2) = true := by simp [hk]
  clear hn hR hW2 h2 h hgo hrg hmo hj hv hpn hnx hk
  go_enter Tryz.func56, Tryz.ntmps56
  go_wp2_with fail
  rw [← HW2.out]
  refine HN.out _ ?_
  intro ra w3 hra hal hap h3
  obtain ⟨A2, hA2⟩ : ∃ A2, rowA ra = A2 := ⟨_, rfl⟩
  have era : rowV ra ask.length = .slice A2 ask.length (ask.length + ra.k) := by rw [← hA2]
  rw [era]
  have h4 := (h3.alloc (.cells #[.int .i64 o.code, .int .u64 o.value, .int .i64 o.round] 131)).drew
  have h4b : St base w0 (w3.alloc (.cells #[.int .i64 o.code, .int .u64 o.value, .int .i64 o.round] 131)).drew (tkB12 w.heap.size t :: (ocB w3.heap.size o :: ((w.heap.size + 1, .cells #[.int .i64 0, .int .i64 0, .int .i64 0, .int .i64 0, .int .i64 0, .int .i64 0, .int .u64 0, .slice none 0 0, .bool false, .bool false, .int .i64 0, .int .u64 0] 54 (0, 0)) :: (rowH ra 113 (nvC ask) ++ L)))) :=
    (show St base w0 _ (ocB w3.heap.size o :: (rowH ra 113 (nvC ask) ++ ((w.heap.size + 1, .cells #[.int .i64 0, .int .i64 0, .int .i64 0, .int .i64 0, .int .i64 0, .int .i64 0, .int .u64 0, .slice none 0 0, .bool false, .bool false, .int .i64 0, .int .u64 0] 54 (0, 0)) :: (tkB12 w.heap.size t :: L)))) from h4).ac (fun y => by simp only [cnt_append, cnt_cons]; omega)
  obtain ⟨W4, hW4⟩ : ∃ W, W = (w3.alloc (.cells #[.int .i64 o.code, .int .u64 o.value, .int .i64 o.round] 131)).drew := ⟨_, rfl⟩
  rw [← hW4] at h4b
  have ho : ∀ (W : World) (cs : Array Value), St base w0 W ((w.heap.size, .cells cs 54 (0, 0)) :: (ocB w3.heap.size o :: ((w.heap.size + 1, .cells #[.int .i64 0, .int .i64 0, .int .i64 0, .int .i64 0, .int .i64 0, .int .i64 0, .int .u64 0, .slice none 0 0, .bool false, .bool false, .int .i64 0, .int .u64 0] 54 (0, 0)) :: (rowH ra 113 (nvC ask) ++ L)))) → OcS w3.heap.size o W ∧ (∀ k, W.cell? ⟨w.heap.size, k, none⟩ = cs[k]?) ∧ (∀ k, W.frozen? ⟨w.heap.size, k, none⟩ = false) :=
    fun W cs hW => ⟨⟨fun k => hW.cells (t := 131) (fr := (0, 0)) (by simp) k, fun k => hW.frozen (t := 131) (cs := #[.int .i64 o.code, .int .u64 o.value, .int .i64 o.round]) (by simp) k⟩, fun k => hW.cells (t := 54) (fr := (0, 0)) List.mem_cons_self k, fun k => hW.frozen (cs := cs) (t := 54) List.mem_cons_self k⟩
  obtain ⟨hk4, c4, f4⟩ := ho W4 _ h4b
  have HO := Lib.hid ho
  have HG := Lib.hid (fun W (h : OcS w3.heap.size o W) => And.intro h.c h.f)
  have H4 := Lib.hid h4b
  have HW4 := Lib.hid hW4
  have HRA := Lib.hid hra
  have HA2 := Lib.hid hA2
  clear hra h3 h4 h4b ho hW4 hA2 era HN HW2 c2
  go_wp2_with fail
  refine wp_region_T (S := OcS w3.heap.size o) [] (by kernel_rfl) (by rw [← HW4.out]; exact hk4) ?_
  rw [← HW4.out]
  refine wpAnyT_takeL (i := 0) (v := ?_) rfl (by kernel_rfl) (by kernel_rfl) (by kernel_rfl) (by kernel_rfl) (fun _ _ _ h => h) (Or.inl ⟨by rfl, ?_⟩) hk4 ?_
  rotate_left
  · intro wS hSw; have hGot := HG.out _ hSw; clear hSw; go_split_ands; go_simp; try with_reducible rfl
  try simp only [Act.put, List.setIfInBounds_toArray, List.set_cons_zero, List.set_cons_succ]
  refine wpAnyT_takeL (i := 1) (v := ?_) rfl (by kernel_rfl) (by kernel_rfl) (by kernel_rfl) (by kernel_rfl) (fun _ _ _ h => h) (Or.inl ⟨by rfl, ?_⟩) hk4 ?_
  rotate_left
  · intro wS hSw; have hGot := HG.out _ hSw; clear hSw; go_split_ands; go_simp; try with_reducible rfl
  try simp only [Act.put, List.setIfInBounds_toArray, List.set_cons_zero, List.set_cons_succ]
  refine wpAnyT_takeL (i := 2) (v := ?_) rfl (by kernel_rfl) (by kernel_rfl) (by kernel_rfl) (by kernel_rfl) (fun _ _ _ h => h) (Or.inl ⟨by rfl, ?_⟩) hk4 ?_
  rotate_left
  · intro wS hSw; have hGot := HG.out _ hSw; clear hSw; go_split_ands; go_simp; try with_reducible rfl
  try simp only [Act.put, List.setIfInBounds_toArray, List.set_cons_zero, List.set_cons_succ]
  refine wpAnyT_takeL (i := 3) (v := ?_) rfl (by kernel_rfl) (by kernel_rfl) (by kernel_rfl) (by kernel_rfl) (fun _ _ _ h => h) (Or.inl ⟨by rfl, ?_⟩) hk4 ?_
  rotate_left
  · intro wS hSw; have hGot := HG.out _ hSw; clear hSw; go_split_ands; go_simp; try with_reducible rfl
  try simp only [Act.put, List.setIfInBounds_toArray, List.set_cons_zero, List.set_cons_succ]
  refine wpAnyT_takeL (i := 4) (v := ?_) rfl (by kernel_rfl) (by kernel_rfl) (by kernel_rfl) (by kernel_rfl) (fun _ _ _ h => h) (Or.inl ⟨by rfl, ?_⟩) hk4 ?_
  rotate_left
  · intro wS hSw; have hGot := HG.out _ hSw; clear hSw; go_split_ands; go_simp; try with_reducible rfl
  try simp only [Act.put, List.setIfInBounds_toArray, List.set_cons_zero, List.set_cons_succ]
  refine wpAnyT_takeL (i := 5) (v := ?_) rfl (by kernel_rfl) (by kernel_rfl) (by kernel_rfl) (by kernel_rfl) (fun _ _ _ h => h) (Or.inl ⟨by rfl, ?_⟩) hk4 ?_
  rotate_left
  · intro wS hSw; have hGot := HG.out _ hSw; clear hSw; go_split_ands; go_simp; try with_reducible rfl
  try simp only [Act.put, List.setIfInBounds_toArray, List.set_cons_zero, List.set_cons_succ]
  refine wpAnyT_takeL (i := 6) (v := ?_) rfl (by kernel_rfl) (by kernel_rfl) (by kernel_rfl) (by kernel_rfl) (fun _ _ _ h => h) (Or.inl ⟨by rfl, ?_⟩) hk4 ?_
  rotate_left
  · intro wS hSw; have hGot := HG.out _ hSw; clear hSw; go_split_ands; go_simp; try with_reducible rfl
  try simp only [Act.put, List.setIfInBounds_toArray, List.set_cons_zero, List.set_cons_succ]
  refine wpAnyT_takeL (i := 7) (v := ?_) rfl (by kernel_rfl) (by kernel_rfl) (by kernel_rfl) (by kernel_rfl) (fun _ _ _ h => h) (Or.inl ⟨by rfl, ?_⟩) hk4 ?_
  rotate_left
  · intro wS hSw; have hGot := HG.out _ hSw; clear hSw; go_split_ands; go_simp; try with_reducible rfl
  try simp only [Act.put, List.setIfInBounds_toArray, List.set_cons_zero, List.set_cons_succ]
  refine wpAnyT_oneL (i := 8) (by kernel_rfl) rfl (fun K hK => ?_)
  rw [if_pos (by rfl)]
  go_wp2_with fail
  have h5 := H4.out.set 8 (.bool ov)
  obtain ⟨hk5, c5, f5⟩ := HO.out _ _ h5
  have H5 := Lib.hid h5
  clear h5 H4 c4 f4
  refine (hK).out _ _ (fun _ => hk5) (fun _ => ?_)
  clear hK
  refine wpAnyT_takeL (i := 9) (v := ?_) rfl (by kernel_rfl) (by kernel_rfl) (by kernel_rfl) (by kernel_rfl) (fun _ _ _ h => h) (Or.inl ⟨by rfl, ?_⟩) hk5 ?_
  rotate_left
  · intro wS hSw; have hGot := HG.out _ hSw; clear hSw; go_split_ands; go_simp; try with_reducible rfl
  try simp only [Act.put, List.setIfInBounds_toArray, List.set_cons_zero, List.set_cons_succ]
  refine wpAnyT_oneL (i := 10) (by kernel_rfl) rfl (fun K hK => ?_)
  rw [if_pos (by rfl)]
  go_wp2_with fail
  have h6 := H5.out.set 10 (.int .i64 o.code)
  obtain ⟨hk6, c6, f6⟩ := HO.out _ _ h6
  have H6 := Lib.hid h6
  clear h6 H5 c5 f5
  refine (hK).out _ _ (fun _ => hk6) (fun _ => ?_)
  clear hK
  refine wpAnyT_takeL (i := 11) (v := ?_) rfl (by kernel_rfl) (by kernel_rfl) (by kernel_rfl) (by kernel_rfl) (fun _ _ _ h => h) (Or.inl ⟨by rfl, ?_⟩) hk6 ?_
  rotate_left
  · intro wS hSw; have hGot := HG.out _ hSw; clear hSw; go_split_ands; go_simp; try with_reducible rfl
  try simp only [Act.put, List.setIfInBounds_toArray, List.set_cons_zero, List.set_cons_succ]
  refine wpAnyT_oneL (i := 12) (by kernel_rfl) rfl (fun K hK => ?_)
  rw [if_pos (by rfl)]
  go_wp2_with fail
  have h7 := H6.out.set 11 (.int .u64 o.value)
  obtain ⟨hk7, c7, f7⟩ := HO.out _ _ h7
  have H7 := Lib.hid h7
  clear h7 H6 c6 f6
  refine (hK).out _ _ (fun _ => hk7) (fun _ => ?_)
  clear hK
  refine wpAnyT_done (by kernel_rfl) ?_ _
  go_wp2_with fail
  obtain ⟨tn, htn⟩ : ∃ x : TK, x = { t with over := ov, code := o.code, value := o.value } := ⟨_, rfl⟩
  have e7 : ((((tkCs t).setIfInBounds 8 (.bool ov)).setIfInBounds 10 (.int .i64 o.code)).setIfInBounds 11 (.int .u64 o.value)) = tkCs tn := by rw [htn]; rfl
  have h7 := H7.out
  rw [e7] at h7
  have h8 := h7.drew
  obtain ⟨W8, hW8⟩ : ∃ W, W = (((W4.setCell ⟨w.heap.size, 8, none⟩ (.bool ov)).setCell ⟨w.heap.size, 10, none⟩ (.int .i64 o.code)).setCell ⟨w.heap.size, 11, none⟩ (.int .u64 o.value)).drew := ⟨_, rfl⟩
  rw [← hW8] at h8
  have hk8 : TkC w.heap.size tn W8 := ⟨fun k => h8.cells (t := 54) (fr := (0, 0)) List.mem_cons_self k⟩
  have h8z : St base w0 W8 ((w.heap.size + 1, .cells #[.int .i64 0, .int .i64 0, .int .i64 0, .int .i64 0, .int .i64 0, .int .i64 0, .int .u64 0, .slice none 0 0, .bool false, .bool false, .int .i64 0, .int .u64 0] 54 (0, 0)) :: (tkB12 w.heap.size tn :: (ocB w3.heap.size o :: (rowH ra 113 (nvC ask) ++ L)))) := (show St base w0 W8 (tkB12 w.heap.size tn :: (ocB w3.heap.size o :: ((w.heap.size + 1, .cells #[.int .i64 0, .int .i64 0, .int .i64 0, .int .i64 0, .int .i64 0, .int .i64 0, .int .u64 0, .slice none 0 0, .bool false, .bool false, .int .i64 0, .int .u64 0] 54 (0, 0)) :: (rowH ra 113 (nvC ask) ++ L)))) from h8).ac (fun y => by simp only [cnt_append, cnt_cons]; omega)
  have z8 := fun k => h8z.cells (t := 54) (fr := (0, 0)) List.mem_cons_self k
  have zf8 := fun k => h8z.frozen (t := 54) List.mem_cons_self k
  have hend := tk_put (tn := tn) h8z
  have hR9 := HR.out ra _ HRA.out hal hap (St.drop (L := [tkB12 w.heap.size tn, ocB w3.heap.size o]) (hend.tail.ac (fun y => by simp only [cnt_append, cnt_cons, cnt_nil]; omega)))
  rw [← htn] at hR9
  have HG8 := Lib.hid (fun W (h : TkC w.heap.size tn W) => h.c)
  have HW8 := Lib.hid hW8
  have HR9 := Lib.hid hR9
  have HTN := Lib.hid htn
  clear hk7 c7 f7 H7 h7 e7 h8 h8z hW8 hend hR9 htn HG HO HR
  refine wp_region_T (S := TkC w.heap.size tn) [3] (by kernel_rfl) (by rw [← HW8.out]; exact hk8) ?_
  rw [← HW8.out]
  refine wpAnyT_takeL (i := 0) (v := ?_) rfl (by kernel_rfl) (by kernel_rfl) (by kernel_rfl) (by kernel_rfl) (fun _ _ _ h => h) (Or.inl ⟨by rfl, ?_⟩) hk8 ?_
  rotate_left
  · intro wS hSw; have hGot := HG8.out _ hSw; clear hSw; go_split_ands; go_simp; try with_reducible rfl
  try simp only [Act.put, List.setIfInBounds_toArray, List.set_cons_zero, List.set_cons_succ]
  refine wpAnyT_takeL (i := 1) (v := ?_) rfl (by kernel_rfl) (by kernel_rfl) (by kernel_rfl) (by kernel_rfl) (fun _ _ _ h => h) (Or.inl ⟨by rfl, ?_⟩) hk8 ?_
  rotate_left
  · intro wS hSw; have hGot := HG8.out _ hSw; clear hSw; go_split_ands; go_simp; try with_reducible rfl
  try simp only [Act.put, List.setIfInBounds_toArray, List.set_cons_zero, List.set_cons_succ]
  refine wpAnyT_takeL (i := 2) (v := ?_) rfl (by kernel_rfl) (by kernel_rfl) (by kernel_rfl) (by kernel_rfl) (fun _ _ _ h => h) (Or.inl ⟨by rfl, ?_⟩) hk8 ?_
  rotate_left
  · intro wS hSw; have hGot := HG8.out _ hSw; clear hSw; go_split_ands; go_simp; try with_reducible rfl
  try simp only [Act.put, List.setIfInBounds_toArray, List.set_cons_zero, List.set_cons_succ]
  refine wpAnyT_oneL (i := 3) (by kernel_rfl) rfl (fun K hK => ?_)
  rw [if_pos (by rfl)]
  go_wp2_with fail
  refine (hK).out _ _ (fun h => by cases h) (fun _ => ?_)
  clear hK
  refine wpAnyT_done (by kernel_rfl) ?_ _
  go_wp2
  refine bodyPost_ret (v := .tuple #[.slice A2 ask.length (ask.length + ra.k), tkV tn]) (by simp [results, Tryz.results56, go_sem, z8]) rfl ?_
  have e := HR9.out
  rw [show rowV ra ask.length = .slice A2 ask.length (ask.length + ra.k) by rw [← HA2.out]] at e
  exact e
end Go.Proofs.YtaojipegpjolcaaGreat
set_option linter.unusedVariables false
set_option linter.unusedSimpArgs false
namespace Go.Proofs.YtaojipegpjolcaaGreat
open Go.RowKit Go.Sort Go.Proofs.BodegaHeap
variable {base : Nat} {w0 w : World} {L : List Blk}

structure PT where
  kind : Int
  client : Int
  job : PJ
  gots : List (List Dn)
  over : Bool
  bad : Bool
  code : Int
  value : Int
def TK.pure (t : TK) : PT := ⟨t.kind, t.client, t.job, gots t.gts, t.over, t.bad, t.code, t.value⟩
def pTake (P : PF) (c : Nat) : PF :=
  match P.cs[c]? with
  | some C => { P with cs := P.cs.set c { C with ds := [] } }
  | none => P
/-- The replies behind a take. -/
def gotsTaken (C : PC) (t : PT) : List (List Dn) := if C.ds = [] then t.gots else t.gots ++ [C.ds]
def pTaken (P : PF) (c : Nat) (C : PC) : PF := if C.ds = [] then P else pTake P c
def pTurn (P : PF) (t : PT) : PF × PT :=
  match P.cs[t.client.toNat]? with
  | none => (P, t)
  | some C =>
    if t.over = true ∨ C.alive = false ∨ 0 < C.waiting then (P, t)
    else if 200 < (gotsTaken C t).length then (pTaken P t.client.toNat C, { t with gots := gotsTaken C t, over := true, bad := true })
    else if (pNext t.job (gotsTaken C t)).2.2 = true then
      (pTaken P t.client.toNat C, { t with gots := gotsTaken C t, over := true, code := (pNext t.job (gotsTaken C t)).2.1.code, value := (pNext t.job (gotsTaken C t)).2.1.value })
    else (pPost (pTaken P t.client.toNat C) t.client.toNat (pNext t.job (gotsTaken C t)).1,
      { t with gots := gotsTaken C t, over := false, code := (pNext t.job (gotsTaken C t)).2.1.code, value := (pNext t.job (gotsTaken C t)).2.1.value })

/-- A verb on one consensus word. -/
def VCons (nodes : Int) (j : PJ) (v : Vb) : Prop := (v.kind = 1 ∧ v.n = 1 ∨ v.kind = 3) ∧ v.words = [] ∧ v.boot = 0 ∧ v.at_ = 8 + j.number ∧ 0 ≤ v.node ∧ v.node < nodes
theorem rdFold_nodes (n : Int) (ds : List Dn) : ∀ s : List Ac × Int × Nat, (∀ a ∈ s.1, 0 ≤ a.1 ∧ a.1 < n) → (s.2.2 : Int) + ds.length ≤ n → ∀ a ∈ (ds.foldl rdStep s).1, 0 ≤ a.1 ∧ a.1 < n := by
  induction ds with
  | nil => intro s h _; exact h
  | cons d tl ih =>
    intro s h hn
    rw [List.foldl_cons]
    simp only [List.length_cons] at hn
    refine ih _ ?_ ?_
    · unfold rdStep; split
      · intro a ha
        rcases List.mem_append.1 ha with ha | ha
        · exact h a ha
        · rw [List.mem_singleton] at ha; rw [ha]; simp only; omega
      · exact h
    · unfold rdStep; split <;> simp only <;> omega
theorem swFold_nodes (n : Int) (nx : Int → Int) (l : List Ac) (hl : ∀ a ∈ l, 0 ≤ a.1 ∧ a.1 < n) (ds : List Dn) : ∀ s : Sw, (∀ a ∈ s.sw, 0 ≤ a.1 ∧ a.1 < n) → s.i + ds.length ≤ l.length → ∀ a ∈ (ds.foldl (swStep nx l) s).sw, 0 ≤ a.1 ∧ a.1 < n := by
  induction ds with
  | nil => intro s h _; exact h
  | cons d tl ih =>
    intro s h hn
    rw [List.foldl_cons]
    simp only [List.length_cons] at hn
    refine ih _ ?_ ?_
    · unfold swStep; split
      · exact h
      · split
        · exact h
        · intro a ha
          rcases List.mem_append.1 ha with ha | ha
          · exact h a ha
          · rw [List.mem_singleton] at ha
            rw [ha]
            have hi : s.i < l.length := by omega
            have e : l.getD s.i (0, 0) = l[s.i] := by rw [List.getD_eq_getElem?_getD, List.getElem?_eq_getElem hi]; rfl
            rw [e]
            have q := hl l[s.i] (List.getElem_mem hi)
            exact q
    · unfold swStep; split
      · simp only; omega
      · split <;> simp only <;> omega
theorem sw_cons {n : Int} {j : PJ} {nx : Int → Int} {l : List Ac} (hl : ∀ a ∈ l, 0 ≤ a.1 ∧ a.1 < n) : ∀ v ∈ swAsk j nx l, VCons n j v := by
  intro v hv
  obtain ⟨a, ha, rfl⟩ := List.mem_map.1 hv
  exact ⟨.inr rfl, rfl, rfl, rfl, (hl a ha).1, (hl a ha).2⟩
theorem tBatch_ask {gs : List (List Dn)} {k : Nat} {l q : List Vb} {d : List Dn} (h : tBatch gs k l = (.ask q, d)) : q = l := by
  unfold tBatch at h
  split at h
  · simp at h
  · split at h
    · simp only [Prod.mk.injEq, Res.ask.injEq] at h; exact h.1.symm
    · split at h <;> simp at h
theorem pNext_cons (j : PJ) (gs : List (List Dn)) (hn : 0 ≤ j.nodes) : ∀ v ∈ (pNext j gs).1, VCons j.nodes j v := by
  have key : ∀ q, (pRun j (pBalV j.round j.client) gs).2 = .ask q → ∀ v ∈ q, VCons j.nodes j v := by
    intro q hq
    unfold pRun at hq
    obtain ⟨r1, hr1⟩ : ∃ r, r = tBatch gs 0 (rdAsk j) := ⟨_, rfl⟩
    rw [← hr1] at hq
    rcases r1 with ⟨k1 | q1 | _, d1⟩
    · simp only at hq
      obtain ⟨hl1, -⟩ := tBatch_len hr1.symm
      rw [rdAsk_len] at hl1
      have hnod : ∀ a ∈ (rdFold 0 d1).1, 0 ≤ a.1 ∧ a.1 < j.nodes := rdFold_nodes j.nodes d1 ([], 0, 0) (fun a ha => by cases ha) (by simp only; omega)
      split at hq
      · simp at hq
      · unfold pRun2 at hq
        have hcand : ∀ a ∈ pCands (pBalV j.round j.client) (rdFold 0 d1).1, 0 ≤ a.1 ∧ a.1 < j.nodes := fun a ha => hnod a (List.mem_filter.1 ha).1
        obtain ⟨cs, hcs⟩ : ∃ x, x = pCands (pBalV j.round j.client) (rdFold 0 d1).1 := ⟨_, rfl⟩
        rw [← hcs] at hq hcand
        obtain ⟨r2, hr2⟩ : ∃ r, r = tBatch gs k1 (swAsk j (pPromise (pBalV j.round j.client)) cs) := ⟨_, rfl⟩
        rw [← hr2] at hq
        rcases r2 with ⟨k2 | q2 | _, d2⟩
        · simp only at hq
          obtain ⟨hl2, -⟩ := tBatch_len hr2.symm
          simp only [swAsk, List.length_map] at hl2
          have hsw : ∀ a ∈ (swFold (pPromise (pBalV j.round j.client)) cs (rdFold 0 d1).2.1 d2).sw, 0 ≤ a.1 ∧ a.1 < j.nodes := swFold_nodes j.nodes _ cs hcand d2 ⟨0, [], _, 0⟩ (fun a ha => by cases ha) (by simp only; omega)
          split at hq
          · simp at hq
          · unfold pRun3 at hq
            obtain ⟨s2, hs2⟩ : ∃ x, x = swFold (pPromise (pBalV j.round j.client)) cs (rdFold 0 d1).2.1 d2 := ⟨_, rfl⟩
            rw [← hs2] at hq hsw
            obtain ⟨r3, hr3⟩ : ∃ r, r = tBatch gs k2 (swAsk j (pAccept (pBalV j.round j.client) (pVal j.value s2.sw).1) s2.sw) := ⟨_, rfl⟩
            rw [← hr3] at hq
            rcases r3 with ⟨k3 | q3 | _, d3⟩
            · simp only at hq
              split at hq <;> simp at hq
            · simp only [Res.ask.injEq] at hq
              rw [← hq, tBatch_ask hr3.symm]
              exact sw_cons hsw
            · simp at hq
        · simp only [Res.ask.injEq] at hq
          rw [← hq, tBatch_ask hr2.symm]
          exact sw_cons hcand
        · simp at hq
    · simp only [Res.ask.injEq] at hq
      rw [← hq, tBatch_ask hr1.symm]
      intro v hv
      obtain ⟨i, hi, rfl⟩ := List.mem_map.1 hv
      rw [List.mem_range] at hi
      exact ⟨.inl ⟨rfl, rfl⟩, rfl, rfl, rfl, by simp only [rdVerb]; omega, by simp only [rdVerb]; omega⟩
    · simp at hq
  unfold pNext
  obtain ⟨r, hr⟩ : ∃ r, r = pRun j (pBalV j.round j.client) gs := ⟨_, rfl⟩
  rw [← hr] at key ⊢
  rcases r with ⟨o, k | q | _⟩
  · simp only
    split <;> (intro v hv; cases hv)
  · exact key q rfl
  · intro v hv; cases hv
theorem VCons.ok {nodes : Nat} {j : PJ} {v : Vb} {lines : Int} (h : VCons nodes j v) (hn1 : 1 ≤ nodes) (hn5 : nodes ≤ 5) (h0 : 0 ≤ j.number) (h1 : j.number ≤ 15) (hl0 : 98 ≤ lines) (hl1 : lines ≤ 256) :
    (VLike (v, nilRw) lines ∧ VOk v nodes lines ∧ 0 ≤ v.boot ∧ v.boot ≤ 1000) := by
  obtain ⟨hk, hw, hb, hat, hnd0, hnd1⟩ := h
  have hc : vCount v = 1 := by unfold vCount; rcases hk with ⟨hk, hn⟩ | hk <;> simp [hk, *]
  have hlast : 2 ≤ vLast v := by unfold vLast; split <;> decide
  have hok : ∀ n : Nat, nodes ≤ n → n ≤ 5 → VOk v n lines := fun n h2 h3 => ⟨by rcases hk with ⟨hk, _⟩ | hk <;> simp [hk], by omega, by omega, by omega, hl1, hnd0, by omega, by omega, by rw [hc]; decide, by rw [hc]; decide, by rw [hc]; omega, fun _ => by rw [hc]; omega⟩
  exact ⟨⟨hok 5 hn5 (by decide), by rcases hk with ⟨hk, _⟩ | hk <;> simp [hk], by simp only [GvOk, hw]; exact nilRw_ok 1, by simp [hw]⟩, hok nodes (Nat.le_refl _) hn5, by omega, by omega⟩
end Go.Proofs.YtaojipegpjolcaaGreat
