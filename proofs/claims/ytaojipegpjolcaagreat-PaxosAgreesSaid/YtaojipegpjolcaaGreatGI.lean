/- paxos: proposer.swap, with the function of a promise and with that of an acceptance (printed by gen_swap.py). -/
import Derived.Test.YtaojipegpjolcaaGreatGH
set_option linter.unusedVariables false
set_option linter.unusedSimpArgs false
namespace Go.Proofs.YtaojipegpjolcaaGreat
open Go.RowKit Go.Sort Go.Proofs.BodegaHeap
variable {base : Nat} {w0 w : World} {L : List Blk}

def swVerb (j : PJ) (nx : Int → Int) (a : Ac) : Vb := ⟨3, a.1, 8 + j.number, 0, a.2, nx a.2, [], 0, 0⟩
def swAsk (j : PJ) (nx : Int → Int) (l : List Ac) : List Vb := l.map (swVerb j nx)
theorem swAsk_take (j : PJ) (nx : Int → Int) (l : List Ac) (k : Nat) (a : Ac) (h : l[k]? = some a) : (swAsk j nx l).take (k + 1) = (swAsk j nx l).take k ++ [swVerb j nx a] := by
  have : (swAsk j nx l)[k]? = some (swVerb j nx a) := by simp [swAsk, h]
  have h2 := List.getElem?_eq_some_iff.1 this
  rw [List.take_succ_eq_append_getElem h2.1, h2.2]
/-- Answers, what was swapped, the greatest promise met, the number of replies seen. -/
structure Sw where
  ans : Int
  sw : List Ac
  gr : Int
  i : Nat
def swStep (nx : Int → Int) (l : List Ac) (s : Sw) (d : Dn) : Sw :=
  if d.code ≠ 0 then { s with i := s.i + 1 }
  else if dWord d ≠ (l.getD s.i (0, 0)).2 then { s with ans := s.ans + 1, gr := pMet s.gr (dWord d), i := s.i + 1 }
  else { s with ans := s.ans + 1, sw := s.sw ++ [((l.getD s.i (0, 0)).1, nx (dWord d))], i := s.i + 1 }
def swFold (nx : Int → Int) (l : List Ac) (gr : Int) (ds : List Dn) : Sw := ds.foldl (swStep nx l) ⟨0, [], gr, 0⟩
theorem swFold_snoc (nx : Int → Int) (l : List Ac) (gr : Int) (ds : List Dn) (k : Nat) (d : Dn) (h : ds[k]? = some d) : swFold nx l gr (ds.take (k + 1)) = swStep nx l (swFold nx l gr (ds.take k)) d := by
  have h2 := List.getElem?_eq_some_iff.1 h
  unfold swFold
  rw [List.take_succ_eq_append_getElem h2.1, h2.2, List.foldl_append]; rfl
theorem swFold_idx (nx : Int → Int) (l : List Ac) (ds : List Dn) : ∀ s : Sw, (ds.foldl (swStep nx l) s).i = s.i + ds.length ∧ (ds.foldl (swStep nx l) s).sw.length ≤ s.sw.length + ds.length ∧ s.ans ≤ (ds.foldl (swStep nx l) s).ans ∧ (ds.foldl (swStep nx l) s).ans ≤ s.ans + ds.length := by
  induction ds with
  | nil => intro s; simp
  | cons d tl ih =>
    intro s
    rw [List.foldl_cons]
    have := ih (swStep nx l s d)
    have e : (swStep nx l s d).i = s.i + 1 ∧ (swStep nx l s d).sw.length ≤ s.sw.length + 1 ∧ s.ans ≤ (swStep nx l s d).ans ∧ (swStep nx l s d).ans ≤ s.ans + 1 := by
      unfold swStep; split
      · simp; omega
      · split <;> (simp; try omega)
    simp only [List.length_cons]
    omega
def SwOut (base : Nat) (w0 : World) (bt bp : Nat) (ro : Rw) (gts : List GT) (j : PJ) (ballot gr : Int) (nx : Int → Int) (l : List Ac) (M : List Blk) (v : Value) (w' : World) : Res × List Dn → Prop
  | (.done k, d) => ∃ r, v = .tuple #[.int .i64 (swFold nx l gr d).ans, rowV r (swFold nx l gr d).sw.length, .bool true] ∧ RowOk r 2 (swFold nx l gr d).sw.length ((swFold nx l gr d).sw.flatMap acC) ∧ TkIs base w0 w' bt ro gts (.done k) (rowH r 166 ((swFold nx l gr d).sw.flatMap acC) ++ (prB bp j bt ballot (swFold nx l gr d).gr :: M))
  | (.ask q, _) => v = .tuple #[.int .i64 0, .slice none 0 0, .bool false] ∧ TkIs base w0 w' bt ro gts (.ask q) (prB bp j bt ballot gr :: M)
  | (.wrong, _) => v = .tuple #[.int .i64 0, .slice none 0 0, .bool false] ∧ TkIs base w0 w' bt ro gts .wrong (prB bp j bt ballot gr :: M)
structure SwS (nb bp bt : Nat) (j : PJ) (ballot gr : Int) (a : Ac) (w : World) : Prop where
  c : ∀ k, w.cell? ⟨nb, k, none⟩ = (#[.int .i64 a.1, .int .u64 a.2] : Array Value)[k]?
  p : ∀ k, w.cell? ⟨bp, k, none⟩ = (prC j bt ballot gr)[k]?
structure SwR (b q : Nat) (x : Int) (w : World) : Prop where
  c : w.cell? ⟨b, q * 2, none⟩ = some (.int .i64 x)
theorem tBatch_len {gs : List (List Dn)} {k kk : Nat} {l : List Vb} {d : List Dn} (h : tBatch gs k l = (.done kk, d)) : d.length = l.length ∧ (d ≠ [] → d ∈ gs) := by
  unfold tBatch at h
  split at h
  · rename_i hl
    simp only [Prod.mk.injEq] at h
    rw [← h.2]
    simp only [List.isEmpty_iff] at hl
    rw [hl]; simp
  · split at h
    · simp at h
    · rename_i dd hdd
      split at h
      · rename_i hf
        simp only [Prod.mk.injEq] at h
        rw [← h.2]
        refine ⟨?_, fun _ => List.mem_of_getElem? hdd⟩
        unfold fitB at hf
        rw [Bool.and_eq_true] at hf
        exact (of_decide_eq_true hf.1).symm
      · simp at h

set_option maxRecDepth 100000 in
set_option maxHeartbeats 8000000 in
theorem swap_promise (bp bt : Nat) (j : PJ) (ballot gr : Int) (hv0 : 0 ≤ j.number) (hv1 : j.number ≤ 15) (ro : Rw) (gts : List GT) (hgo : GotOk ro gts) (hrg : Rng (gots gts)) (k : Nat) (M : List Blk) (hmo : ∀ p, p ∈ gotH ro gts → p ∈ M)
    (rl : Rw) (l : List Ac) (hrl : RowOk rl 2 l.length (l.flatMap acC)) (hll : l.length ≤ 5) (hlw : ∀ a ∈ l, W64 a.2) (hml : ∀ p, p ∈ rowH rl 166 (l.flatMap acC) → p ∈ M)  (nx : Int → Int)
    (hN : ∀ (W : World) (X : List Blk) (g3 : Int), St base w0 W (X ++ (prB bp j bt ballot g3 :: M)) → ∀ x, W64 x → Calls Tryz.prog 104 #[rP bp, .int .u64 x] W fun e w' => e = .returned (.int .u64 (nx x)) ∧ Below W.heap.size W w')
    (h : TkIs base w0 w bt ro gts (.done k) (prB bp j bt ballot gr :: M)) (R : Ending → World → Prop)
    (hR : ∀ v w', SwOut base w0 bt bp ro gts j ballot gr nx l M v w' (tBatch (gots gts) k (swAsk j nx l)) → R (.returned v) w') :
    Calls Tryz.prog 103 #[rP bp, rowV rl l.length, .func (.func 104) #[rP bp] #[]] w R := by
  obtain ⟨gv, hgv, hst⟩ := h
  obtain ⟨A, hA⟩ : ∃ A, rowA rl = A := ⟨_, rfl⟩
  rw [show rowV rl l.length = .slice A l.length (l.length + rl.k) by rw [← hA]]
  have HA := Lib.hid hA
  have HGV := Lib.hid hgv
  have HST := Lib.hid hst
  have HGO := Lib.hid hgo
  have HRG := Lib.hid hrg
  have HMO := Lib.hid hmo
  have HRL := Lib.hid hrl
  have HLW := Lib.hid hlw
  have HML := Lib.hid hml
  have HN := Lib.hid hN
  have HR := Lib.hid hR
  clear hgv hst hgo hrg hmo hrl hlw hml hN hR hA
  go_enter Tryz.func103, Tryz.ntmps103
  go_wp2_with fail
  go_loopw [9, 18] (fun a i wr => ∃ (m : Nat) (r : Rw), m ≤ l.length ∧ i = .int .i64 m ∧ a = rowV r m ∧ RowOk r 9 m (nvC ((swAsk j nx l).take m)) ∧ St base w0 wr (rowH r 113 (nvC ((swAsk j nx l).take m)) ++ (tkB bt gv (.slice none 0 0) false :: prB bp j bt ballot gr :: M))) (fun a i wr => l.length - (intOf i).toNat)
  case atStart => exact ⟨0, nilRw, Nat.zero_le _, rfl, rfl, nilRw_ok 9, HST.out⟩
  case round =>
    clear HST
    obtain ⟨m, r, hm, rfl, rfl, hr, hst⟩ := hrel
    by_cases hlt : m < l.length
    · obtain ⟨a, ha⟩ : ∃ a, l[m]? = some a := ⟨l[m], by simp [hlt]⟩
      obtain ⟨b, hbk⟩ := HRL.out.pos (by omega)
      obtain rfl : A = some ⟨b, 0, none⟩ := by rw [← HA.out]; simp [rowA, hbk]
      have hml2 : ∀ p, p ∈ rowH rl 166 (l.flatMap acC) → p ∈ rowH r 113 (nvC ((swAsk j nx l).take m)) ++ (tkB bt gv (.slice none 0 0) false :: prB bp j bt ballot gr :: M) := fun p hp => List.mem_append_right _ (List.mem_cons_of_mem _ (List.mem_cons_of_mem _ (HML.out p hp)))
      have d0 := hst.recCell (enc := acC) (s := 2) (fun _ => rfl) hbk hml2 ha 0 (by decide)
      have d1 := hst.recCell (enc := acC) (s := 2) (fun _ => rfl) hbk hml2 ha 1 (by decide)
      simp only [Nat.add_zero, List.getElem?_cons_zero, List.getElem?_cons_succ] at d0 d1
      obtain ⟨W, hW⟩ : ∃ W, W = (wr.alloc (.cells #[.int .i64 a.1, .int .u64 a.2] 166)).drew := ⟨_, rfl⟩
      have h1 : St base w0 W (rowH r 113 (nvC ((swAsk j nx l).take m)) ++ (tkB bt gv (.slice none 0 0) false :: prB bp j bt ballot gr :: ((wr.heap.size, .cells #[.int .i64 a.1, .int .u64 a.2] 166 (0, 0)) :: M))) := by
        rw [hW]; exact ((hst.alloc _).drew).ac (fun y => by simp only [cnt_append, cnt_cons]; omega)
      have hs : ∀ (W : World) (X : List Blk), St base w0 W (X ++ (tkB bt gv (.slice none 0 0) false :: prB bp j bt ballot gr :: ((wr.heap.size, .cells #[.int .i64 a.1, .int .u64 a.2] 166 (0, 0)) :: M))) → SwS wr.heap.size bp bt j ballot gr a W := fun W X h =>
        ⟨fun k => h.cells (t := 166) (fr := (0, 0)) (by simp) k, (pr_cells h (by simp)).1⟩
      have hk1 := hs W _ h1
      have hcons := fun W => Cons_calls W j.number hv0 hv1
      have hxa := HLW.out a (List.mem_of_getElem? ha)
      have hnext := fun (W : World) (X : List Blk) (h : St base w0 W (X ++ (tkB bt gv (.slice none 0 0) false :: prB bp j bt ballot gr :: ((wr.heap.size, .cells #[.int .i64 a.1, .int .u64 a.2] 166 (0, 0)) :: M)))) =>
        HN.out W (X ++ [tkB bt gv (.slice none 0 0) false, (wr.heap.size, .cells #[.int .i64 a.1, .int .u64 a.2] 166 (0, 0))]) gr (h.ac (fun y => by simp only [cnt_append, cnt_cons, cnt_nil]; omega)) a.2 hxa
      have hsn := swAsk_take j nx l m a ha
      have hltI : (m : Int) < (l.length : Int) := by omega
      have HS := Lib.hid hs
      have HG := Lib.hid (fun W (h : SwS wr.heap.size bp bt j ballot gr a W) => And.intro h.c h.p)
      have HCO := Lib.hid hcons
      have HNX := Lib.hid hnext
      have HSN := Lib.hid hsn
      have H1 := Lib.hid h1
      have HRW := Lib.hid hr
      have HW := Lib.hid hW
      clear hs hcons hnext hsn h1 hr hW hst ha hbk hml2 hxa
      go_wp2_with fail
      refine wp_region_T (S := SwS wr.heap.size bp bt j ballot gr a) [] (by kernel_rfl) (by rw [← HW.out]; exact hk1) ?_
      rw [← HW.out]
      clear d0 d1
      refine wpAnyT_takeL (i := 0) (v := ?_) rfl (by kernel_rfl) (by kernel_rfl) (by kernel_rfl) (by kernel_rfl) (fun _ _ _ h => h) (Or.inl ⟨by rfl, ?_⟩) hk1 ?_
      rotate_left
      · intro wS hSw; have hGot := HG.out _ hSw; clear hSw; go_split_ands; go_simp; try with_reducible rfl
      try simp only [Act.put, List.setIfInBounds_toArray, List.set_cons_zero, List.set_cons_succ]
      refine wpAnyT_takeL (i := 1) (v := ?_) rfl (by kernel_rfl) (by kernel_rfl) (by kernel_rfl) (by kernel_rfl) (fun _ _ _ h => h) (Or.inl ⟨by rfl, ?_⟩) hk1 ?_
      rotate_left
      · intro wS hSw; have hGot := HG.out _ hSw; clear hSw; go_split_ands; go_simp; try with_reducible rfl
      try simp only [Act.put, List.setIfInBounds_toArray, List.set_cons_zero, List.set_cons_succ]
      refine wpAnyT_takeL (i := 2) (v := ?_) rfl (by kernel_rfl) (by kernel_rfl) (by kernel_rfl) (by kernel_rfl) (fun _ _ _ h => h) (Or.inl ⟨by rfl, ?_⟩) hk1 ?_
      rotate_left
      · intro wS hSw; have hGot := HG.out _ hSw; clear hSw; go_split_ands; go_simp; try with_reducible rfl
      try simp only [Act.put, List.setIfInBounds_toArray, List.set_cons_zero, List.set_cons_succ]
      refine wpAnyT_takeL (i := 3) (v := ?_) rfl (by kernel_rfl) (by kernel_rfl) (by kernel_rfl) (by kernel_rfl) (fun _ _ _ h => h) (Or.inl ⟨by rfl, ?_⟩) hk1 ?_
      rotate_left
      · intro wS hSw; have hGot := HG.out _ hSw; clear hSw; go_split_ands; go_simp; try with_reducible rfl
      try simp only [Act.put, List.setIfInBounds_toArray, List.set_cons_zero, List.set_cons_succ]
      refine wpAnyT_takeL (i := 4) (v := ?_) rfl (by kernel_rfl) (by kernel_rfl) (by kernel_rfl) (by kernel_rfl) (fun _ _ _ h => h) (Or.inl ⟨by rfl, ?_⟩) hk1 ?_
      rotate_left
      · intro wS hSw; have hGot := HG.out _ hSw; clear hSw; go_split_ands; go_simp; try with_reducible rfl
      try simp only [Act.put, List.setIfInBounds_toArray, List.set_cons_zero, List.set_cons_succ]
      refine wpAnyT_takeL (i := 5) (v := ?_) rfl (by kernel_rfl) (by kernel_rfl) (by kernel_rfl) (by kernel_rfl) (fun _ _ _ h => h) (Or.inl ⟨by rfl, ?_⟩) hk1 ?_
      rotate_left
      · intro wS hSw; have hGot := HG.out _ hSw; clear hSw; go_split_ands; go_simp; try with_reducible rfl
      try simp only [Act.put, List.setIfInBounds_toArray, List.set_cons_zero, List.set_cons_succ]
      refine wpAnyT_takeL (i := 6) (v := ?_) rfl (by kernel_rfl) (by kernel_rfl) (by kernel_rfl) (by kernel_rfl) (fun _ _ _ h => h) (Or.inl ⟨by rfl, ?_⟩) hk1 ?_
      rotate_left
      · intro wS hSw; have hGot := HG.out _ hSw; clear hSw; go_split_ands; go_simp; try with_reducible rfl
      try simp only [Act.put, List.setIfInBounds_toArray, List.set_cons_zero, List.set_cons_succ]
      refine wpAnyT_takeL (i := 7) (v := ?_) rfl (by kernel_rfl) (by kernel_rfl) (by kernel_rfl) (by kernel_rfl) (fun _ _ _ h => h) (Or.inl ⟨by rfl, ?_⟩) hk1 ?_
      rotate_left
      · intro wS hSw; have hGot := HG.out _ hSw; clear hSw; go_split_ands; go_simp; try with_reducible rfl
      try simp only [Act.put, List.setIfInBounds_toArray, List.set_cons_zero, List.set_cons_succ]
      refine wpAnyT_takeL (i := 9) (v := ?_) rfl (by kernel_rfl) (by kernel_rfl) (by kernel_rfl) (by kernel_rfl) (fun _ _ _ h => h) (Or.inl ⟨by rfl, ?_⟩) hk1 ?_
      rotate_left
      · intro wS hSw; have hGot := HG.out _ hSw; clear hSw; go_split_ands; go_simp; try with_reducible rfl
      try simp only [Act.put, List.setIfInBounds_toArray, List.set_cons_zero, List.set_cons_succ]
      refine wpAnyT_takeL (i := 10) (v := ?_) rfl (by kernel_rfl) (by kernel_rfl) (by kernel_rfl) (by kernel_rfl) (fun _ _ _ h => h) (Or.inl ⟨by rfl, ?_⟩) hk1 ?_
      rotate_left
      · intro wS hSw; have hGot := HG.out _ hSw; clear hSw; go_split_ands; go_simp; try with_reducible rfl
      try simp only [Act.put, List.setIfInBounds_toArray, List.set_cons_zero, List.set_cons_succ]
      refine wpAnyT_takeL (i := 11) (v := ?_) rfl (by kernel_rfl) (by kernel_rfl) (by kernel_rfl) (by kernel_rfl) (fun _ _ _ h => h) (Or.inl ⟨by rfl, ?_⟩) hk1 ?_
      rotate_left
      · intro wS hSw; have hGot := HG.out _ hSw; clear hSw; go_split_ands; go_simp; try with_reducible rfl
      try simp only [Act.put, List.setIfInBounds_toArray, List.set_cons_zero, List.set_cons_succ]
      refine wpAnyT_takeL (i := 12) (v := ?_) rfl (by kernel_rfl) (by kernel_rfl) (by kernel_rfl) (by kernel_rfl) (fun _ _ _ h => h) (Or.inl ⟨by rfl, ?_⟩) hk1 ?_
      rotate_left
      · intro wS hSw; have hGot := HG.out _ hSw; clear hSw; go_split_ands; go_simp; try with_reducible rfl
      try simp only [Act.put, List.setIfInBounds_toArray, List.set_cons_zero, List.set_cons_succ]
      refine wpAnyT_takeL (i := 13) (v := ?_) rfl (by kernel_rfl) (by kernel_rfl) (by kernel_rfl) (by kernel_rfl) (fun _ _ _ h => h) (Or.inl ⟨by rfl, ?_⟩) hk1 ?_
      rotate_left
      · intro wS hSw; have hGot := HG.out _ hSw; clear hSw; go_split_ands; go_simp; try with_reducible rfl
      try simp only [Act.put, List.setIfInBounds_toArray, List.set_cons_zero, List.set_cons_succ]
      refine wpAnyT_oneL (i := 8) (by kernel_rfl) rfl (fun K hK => ?_)
      rw [if_pos (by rfl)]
      · -- the address first
        go_wp2_with (refine (HCO.out _).mono ?_)
        rintro e w2 ⟨rfl, hb2⟩
        have H2 := Lib.hid (H1.out.grow hb2)
        have hk2 := HS.out w2 _ H2.out
        clear hb2 H1
        refine (hK).out _ _ (fun _ => hk2) (fun _ => ?_)
        clear hK
        refine wpAnyT_oneL (i := 14) (by kernel_rfl) rfl (fun K hK => ?_)
        rw [if_pos (by rfl)]
        go_wp2_with (refine (HNX.out _ _ H2.out).mono ?_)
        rintro e w3 ⟨rfl, hb3⟩
        have H3 := Lib.hid (H2.out.grow hb3)
        have hk3 := HS.out w3 _ H3.out
        clear hb3 H2
        refine (hK).out _ _ (fun _ => hk3) (fun _ => ?_)
        clear hK
        refine wpAnyT_takeL (i := 15) (v := ?_) rfl (by kernel_rfl) (by kernel_rfl) (by kernel_rfl) (by kernel_rfl) (fun _ _ _ h => h) (Or.inl ⟨by rfl, ?_⟩) hk3 ?_
        rotate_left
        · intro wS hSw; have hGot := HG.out _ hSw; clear hSw; go_split_ands; go_simp; try with_reducible rfl
        try simp only [Act.put, List.setIfInBounds_toArray, List.set_cons_zero, List.set_cons_succ]
        refine wpAnyT_oneL (i := 16) (by kernel_rfl) rfl (fun K hK => ?_)
        rw [if_pos (by rfl)]
        go_wp2_with fail
        have hk4 : SwS wr.heap.size bp bt j ballot gr a (w3.alloc (.cells (vCells (swVerb j nx a) none 0) 113)) := HS.out _ _ (H3.out.junk _)
        refine (hK).out _ _ (fun _ => hk4) (fun _ => ?_)
        clear hK
        refine wpAnyT_oneL (i := 17) (by kernel_rfl) rfl (fun K hK => ?_)
        rw [if_pos (by rfl)]
        refine step_appendN elem_vb _ _ rfl r m _ rfl HRW.out H3.out (vCells (swVerb j nx a) none 0) rfl rfl (by simp [Value.oneCell']) (by omega) ?_
        intro r' w5 hr' h5 _
        have e1 : nvC ((swAsk j nx l).take m) ++ (vCells (swVerb j nx a) none 0).toList = nvC ((swAsk j nx l).take (m + 1)) := by rw [HSN.out, nvC_snoc _ _ rfl]
        rw [e1] at hr' h5
        have hk5 := HS.out w5 _ h5
        have H5 := Lib.hid h5
        have HR' := Lib.hid hr'
        clear h5 hr' e1 H3
        simp only [Act.put, List.setIfInBounds_toArray, List.set_cons_zero, List.set_cons_succ]
        refine (hK).out _ _ (fun _ => hk5) (fun _ => ?_)
        clear hK
        refine wpAnyT_takeL (i := 18) (v := ?_) rfl (by kernel_rfl) (by kernel_rfl) (by kernel_rfl) (by kernel_rfl) (fun _ _ _ h => h) (Or.inl ⟨by rfl, ?_⟩) hk5 ?_
        rotate_left
        · intro wS hSw; have hGot := HG.out _ hSw; clear hSw; go_split_ands; go_simp; try with_reducible rfl
        try simp only [Act.put, List.setIfInBounds_toArray, List.set_cons_zero, List.set_cons_succ]
        refine wpAnyT_done (by kernel_rfl) ?_ _
        go_wp2
        go_roundw
        case rel =>
          ((repeat apply Exists.intro (α := Value)); (first | refine ⟨?_, rfl⟩ | skip); (all_goals first | exact undef | skip))
          exact ⟨m + 1, r', by omega, by go_num, by simp [rowV], HR'.out, St.drop (L := [(wr.heap.size, .cells #[.int .i64 a.1, .int .u64 a.2] 166 (0, 0))]) (H5.out.ac (fun y => by simp only [cnt_append, cnt_cons, cnt_nil]; omega))⟩
        case measure => simp [intOf]; omega
    · obtain rfl : m = l.length := by omega
      have htk : (swAsk j nx l).take l.length = swAsk j nx l := by rw [List.take_of_length_le (by simp [swAsk])]
      rw [htk] at hr hst
      have hlen : (swAsk j nx l).length = l.length := by simp [swAsk]
      have c1 := (pr_cells hst (List.mem_append_right _ (List.mem_cons_of_mem _ List.mem_cons_self))).1
      have hB := fun R hR => Batch_calls (base := base) (w0 := w0) (w := wr) bt ro gts HGO.out k r (swAsk j nx l) (by omega) (by rw [hlen]; exact hr) (prB bp j bt ballot gr :: M) (fun p hp => List.mem_cons_of_mem _ (HMO.out p hp)) ⟨gv, HGV.out, hst.ac (fun y => by simp only [cnt_append, cnt_cons]; omega)⟩ R hR
      rw [hlen] at hB
      have HB := Lib.hid hB
      clear hr hst htk hB HGV
      go_wp2_with fail
      refine HB.out _ ?_
      intro v w2 hout
      obtain ⟨res, hres⟩ : ∃ res, tBatch (gots gts) k (swAsk j nx l) = res := ⟨_, rfl⟩
      have HR2 := HR.out
      rw [hres] at hout HR2
      have HR := Lib.hid HR2
      clear HR2 HB c1
      rcases res with ⟨kk | q | _, d⟩
      · obtain ⟨hdl, hdm⟩ := tBatch_len hres
        rw [hlen] at hdl
        have HDM := Lib.hid hdm
        have HDL := Lib.hid hdl
        clear hdm hres hdl hlen
        obtain ⟨g, rfl, hans, gv', hgv', h3⟩ := hout
        have HANS := Lib.hid hans
        have HGV := Lib.hid hgv'
        have h4 : St base w0 w2 (rowH nilRw 166 ((swFold nx l gr (d.take 0)).sw.flatMap acC) ++ (tkB bt gv' (.slice none 0 0) false :: prB bp j bt ballot (swFold nx l gr (d.take 0)).gr :: M)) := by
          have q : St base w0 w2 (rowH r 113 (nvC (swAsk j nx l)) ++ (tkB bt gv' (.slice none 0 0) false :: prB bp j bt ballot gr :: M)) := h3.ac (fun y => by simp only [cnt_append, cnt_cons]; omega)
          exact q.drop
        have H4 := Lib.hid h4
        obtain ⟨B, hB⟩ : ∃ B, rowA g.r = B := ⟨_, rfl⟩
        rw [show rowV g.r g.ds.length = .slice B g.ds.length (g.ds.length + g.r.k) by rw [← hB]]
        have HBB := Lib.hid hB
        have hgl := hans.ok.len
        have hgd : g.ds.length = l.length := by rw [← HDL.out, ← hans.eq]; simp [GT.pure]
        have HGD := Lib.hid hgd
        clear hans hgv' h3 h4 hB hgd
        go_wp2_with fail
        go_loopw [6, 7, 52] (fun n a i wr => ∃ (q : Nat) (r : Rw), q ≤ g.ds.length ∧ i = .int .i64 q ∧ n = .int .i64 (swFold nx l gr (d.take q)).ans ∧ a = rowV r (swFold nx l gr (d.take q)).sw.length ∧ RowOk r 2 (swFold nx l gr (d.take q)).sw.length ((swFold nx l gr (d.take q)).sw.flatMap acC) ∧
          St base w0 wr (rowH r 166 ((swFold nx l gr (d.take q)).sw.flatMap acC) ++ (tkB bt gv' (.slice none 0 0) false :: prB bp j bt ballot (swFold nx l gr (d.take q)).gr :: M))) (fun n a i wr => g.ds.length - (intOf i).toNat)
        case atStart => exact ⟨0, nilRw, Nat.zero_le _, rfl, rfl, rfl, nilRw_ok 2, H4.out⟩
        case round =>
          clear H4
          obtain ⟨q, r2, hq, rfl, rfl, rfl, hr2, hst2⟩ := hrel
          by_cases hlt2 : q < g.ds.length
          · obtain ⟨x, hx⟩ : ∃ x, g.ds[q]? = some x := ⟨g.ds[q], by simp [hlt2]⟩
            obtain ⟨b, hb⟩ := HANS.out.ok.r.pos (by omega)
            obtain rfl : B = some ⟨b, 0, none⟩ := by rw [← HBB.out]; simp [rowA, hb]
            have hql : q < l.length := by have := HGD.out; omega
            obtain ⟨a, ha⟩ : ∃ a, l[q]? = some a := ⟨l[q], by simp [hql]⟩
            obtain ⟨bl, hbl⟩ := HRL.out.pos (by omega)
            obtain rfl : A = some ⟨bl, 0, none⟩ := by rw [← HA.out]; simp [rowA, hbl]
            have hmo2 : ∀ (X : List Blk) p, p ∈ gotH ro gts → p ∈ X ++ (tkB bt gv' (.slice none 0 0) false :: prB bp j bt ballot (swFold nx l gr (d.take q)).gr :: M) := fun X p hp => List.mem_append_right _ (List.mem_cons_of_mem _ (List.mem_cons_of_mem _ (HMO.out p hp)))
            obtain ⟨d0, d1⟩ := ans_cell HANS.out hb (hmo2 _) hst2 hx
            have hxd : d[q]? = some x.1 := by rw [← HANS.out.eq]; simp [GT.pure, hx]
            have hsn := swFold_snoc nx l gr d q x.1 hxd
            have hdq : q ≤ d.length := by have := HDL.out; omega
            have hidx : (swFold nx l gr (d.take q)).i = q ∧ (swFold nx l gr (d.take q)).sw.length ≤ q ∧ 0 ≤ (swFold nx l gr (d.take q)).ans ∧ (swFold nx l gr (d.take q)).ans ≤ q := by
              have := swFold_idx nx l (d.take q) ⟨0, [], gr, 0⟩
              simp only [List.length_take, List.length_nil] at this
              have e : min q d.length = q := by omega
              rw [e] at this
              obtain ⟨k1, k2, k3, k4⟩ := this
              exact ⟨by simp only [swFold]; omega, by simp only [swFold]; omega, by simp only [swFold]; omega, by simp only [swFold]; omega⟩
            obtain ⟨s, hs⟩ : ∃ s, s = swFold nx l gr (d.take q) := ⟨_, rfl⟩
            rw [← hs] at hr2 hst2 hsn hidx hmo2 ⊢
            obtain ⟨hsi, hsl, hsa0, hsa1⟩ := hidx
            have hla : l.getD s.i (0, 0) = a := by rw [hsi, List.getD_eq_getElem?_getD, ha]; rfl
            obtain ⟨W, hW⟩ : ∃ W, W = wr.alloc (.cells #[.int .i64 x.1.code, .slice (rowA x.2) x.1.words.length (x.1.words.length + x.2.k)] 94) := ⟨_, rfl⟩
            have h1 : St base w0 W (rowH r2 166 (s.sw.flatMap acC) ++ (tkB bt gv' (.slice none 0 0) false :: prB bp j bt ballot s.gr :: ((wr.heap.size, .cells #[.int .i64 x.1.code, .slice (rowA x.2) x.1.words.length (x.1.words.length + x.2.k)] 94 (0, 0)) :: M))) := by
              rw [hW]; exact (hst2.alloc _).ac (fun y => by simp only [cnt_append, cnt_cons]; omega)
            have hxw := HANS.out.ok.ds x (List.mem_of_getElem? hx)
            have hxm : ∀ p, p ∈ dnH x → p ∈ M := fun p hp => HMO.out p (HANS.out.mem p (gt_words (L := gtH g) (fun p hp => hp) (List.mem_of_getElem? hx) p hp))
            have hw64 : W64 (dWord x.1) := by
              refine dWord_rng (HRG.out d ?_ x.1 (List.mem_of_getElem? hxd))
              exact HDM.out (by intro e; rw [e] at hxd; simp at hxd)
            have hWd := fun (W : World) (X : List Blk) (h : St base w0 W (X ++ M)) => Word_calls x hxw h (fun p hp => List.mem_append_right _ (hxm p hp))
            have hrow : ∀ (W : World) (X : List Blk), St base w0 W (X ++ M) → W.cell? ⟨bl, q * 2, none⟩ = some (.int .i64 a.1) ∧ W.cell? ⟨bl, q * 2 + 1, none⟩ = some (.int .u64 a.2) := fun W X h => by
              have k0 := h.recCell (enc := acC) (s := 2) (fun _ => rfl) hbl (fun p hp => List.mem_append_right _ (HML.out p hp)) ha 0 (by decide)
              have k1 := h.recCell (enc := acC) (s := 2) (fun _ => rfl) hbl (fun p hp => List.mem_append_right _ (HML.out p hp)) ha 1 (by decide)
              simp only [Nat.add_zero, List.getElem?_cons_zero, List.getElem?_cons_succ] at k0 k1
              exact ⟨k0, k1⟩
            have hbox : ∀ (W : World) (X : List Blk) g3, St base w0 W (X ++ (tkB bt gv' (.slice none 0 0) false :: prB bp j bt ballot g3 :: ((wr.heap.size, .cells #[.int .i64 x.1.code, .slice (rowA x.2) x.1.words.length (x.1.words.length + x.2.k)] 94 (0, 0)) :: M))) → (∀ k, W.cell? ⟨wr.heap.size, k, none⟩ = (#[.int .i64 x.1.code, .slice (rowA x.2) x.1.words.length (x.1.words.length + x.2.k)] : Array Value)[k]?) :=
              fun W X g3 h k => h.cells (t := 94) (fr := (0, 0)) (by simp) k
            have cb := hbox W _ _ h1
            have hltI : (q : Int) < (g.ds.length : Int) := by omega
            have hlqI : (q : Int) < (l.length : Int) := by omega
            have hsl2 : s.sw.length ≤ 1000 := by omega
            have HSI := Lib.hid hsi
            have HLA := Lib.hid hla
            have HSN := Lib.hid hsn
            have HW := Lib.hid hW
            have H1 := Lib.hid h1
            have HBX := Lib.hid hbox
            have HWD := Lib.hid hWd
            have HROW := Lib.hid hrow
            have HR2 := Lib.hid hr2
            have HW64 := Lib.hid hw64
            clear hsi hla hsn hW h1 hbox hWd hrow hr2 hst2 hs hx hb hmo2 hxd hxw hxm hdq hw64 ha hbl
            by_cases hcode : x.1.code = 0
            · have hcb : (x.1.code != 0) = false := by simp [hcode]
              by_cases hwd : dWord x.1 = a.2
              · have hwb : (dWord x.1 != a.2) = false := by simp [hwd]
                have e1 : swStep nx l s x.1 = { s with ans := s.ans + 1, sw := s.sw ++ [(a.1, nx (dWord x.1))], i := s.i + 1 } := by unfold swStep; rw [if_neg (fun h => h hcode), HLA.out, if_neg (fun h => h hwd)]
                have HE := Lib.hid e1
                clear e1 hcode hwd
                go_wp2_with fail
                rw [← HW.out]
                refine (HWD.out W _ (H1.out.ac (M := (rowH r2 166 (s.sw.flatMap acC) ++ [tkB bt gv' (.slice none 0 0) false, prB bp j bt ballot s.gr, (wr.heap.size, .cells #[.int .i64 x.1.code, .slice (rowA x.2) x.1.words.length (x.1.words.length + x.2.k)] 94 (0, 0))]) ++ M) (fun y => by simp only [cnt_append, cnt_cons, cnt_nil]; omega))).mono ?_
                rintro e w3 ⟨rfl, hb3⟩
                have h3 := H1.out.grow hb3
                have h3m : St base w0 w3 ((rowH r2 166 (s.sw.flatMap acC) ++ [tkB bt gv' (.slice none 0 0) false, prB bp j bt ballot s.gr, (wr.heap.size, .cells #[.int .i64 x.1.code, .slice (rowA x.2) x.1.words.length (x.1.words.length + x.2.k)] 94 (0, 0))]) ++ M) := h3.ac (fun y => by simp only [cnt_append, cnt_cons, cnt_nil]; omega)
                obtain ⟨l0, l1⟩ := HROW.out _ _ h3m
                have H3 := Lib.hid h3
                clear hb3 cb H1 HW h3 h3m
                go_wp2_with fail
                obtain ⟨W4, hW4⟩ : ∃ W, W = w3.drew := ⟨_, rfl⟩
                have H4 := Lib.hid (show St base w0 W4 _ by rw [hW4]; exact H3.out.drew)
                have hk4 : SwR bl q a.1 W4 := ⟨by rw [hW4]; exact l0⟩
                have HG4 := Lib.hid (fun W (h : SwR bl q a.1 W) => h.c)
                have HW4 := Lib.hid hW4
                clear hW4 H3
                refine wp_region_T (S := SwR bl q a.1) [] (by kernel_rfl) (by rw [← HW4.out]; exact hk4) ?_
                rw [← HW4.out]
                clear l0 l1
                refine wpAnyT_takeL (i := 0) (v := ?_) rfl (by kernel_rfl) (by kernel_rfl) (by kernel_rfl) (by kernel_rfl) (fun _ _ _ h => h) (Or.inl ⟨by rfl, ?_⟩) hk4 ?_
                rotate_left
                · intro wS hSw; have hGot := HG4.out _ hSw; clear hSw; go_split_ands; go_simp; try with_reducible rfl
                try simp only [Act.put, List.setIfInBounds_toArray, List.set_cons_zero, List.set_cons_succ]
                refine wpAnyT_takeL (i := 1) (v := ?_) rfl (by kernel_rfl) (by kernel_rfl) (by kernel_rfl) (by kernel_rfl) (fun _ _ _ h => h) (Or.inl ⟨by rfl, ?_⟩) hk4 ?_
                rotate_left
                · intro wS hSw; have hGot := HG4.out _ hSw; clear hSw; go_split_ands; go_simp; try with_reducible rfl
                try simp only [Act.put, List.setIfInBounds_toArray, List.set_cons_zero, List.set_cons_succ]
                refine wpAnyT_takeL (i := 2) (v := ?_) rfl (by kernel_rfl) (by kernel_rfl) (by kernel_rfl) (by kernel_rfl) (fun _ _ _ h => h) (Or.inl ⟨by rfl, ?_⟩) hk4 ?_
                rotate_left
                · intro wS hSw; have hGot := HG4.out _ hSw; clear hSw; go_split_ands; go_simp; try with_reducible rfl
                try simp only [Act.put, List.setIfInBounds_toArray, List.set_cons_zero, List.set_cons_succ]
                refine wpAnyT_takeL (i := 3) (v := ?_) rfl (by kernel_rfl) (by kernel_rfl) (by kernel_rfl) (by kernel_rfl) (fun _ _ _ h => h) (Or.inl ⟨by rfl, ?_⟩) hk4 ?_
                rotate_left
                · intro wS hSw; have hGot := HG4.out _ hSw; clear hSw; go_split_ands; go_simp; try with_reducible rfl
                try simp only [Act.put, List.setIfInBounds_toArray, List.set_cons_zero, List.set_cons_succ]
                refine wpAnyT_takeL (i := 4) (v := ?_) rfl (by kernel_rfl) (by kernel_rfl) (by kernel_rfl) (by kernel_rfl) (fun _ _ _ h => h) (Or.inl ⟨by rfl, ?_⟩) hk4 ?_
                rotate_left
                · intro wS hSw; have hGot := HG4.out _ hSw; clear hSw; go_split_ands; go_simp; try with_reducible rfl
                try simp only [Act.put, List.setIfInBounds_toArray, List.set_cons_zero, List.set_cons_succ]
                refine wpAnyT_takeL (i := 5) (v := ?_) rfl (by kernel_rfl) (by kernel_rfl) (by kernel_rfl) (by kernel_rfl) (fun _ _ _ h => h) (Or.inl ⟨by rfl, ?_⟩) hk4 ?_
                rotate_left
                · intro wS hSw; have hGot := HG4.out _ hSw; clear hSw; go_split_ands; go_simp; try with_reducible rfl
                try simp only [Act.put, List.setIfInBounds_toArray, List.set_cons_zero, List.set_cons_succ]
                refine wpAnyT_takeL (i := 6) (v := ?_) rfl (by kernel_rfl) (by kernel_rfl) (by kernel_rfl) (by kernel_rfl) (fun _ _ _ h => h) (Or.inl ⟨by rfl, ?_⟩) hk4 ?_
                rotate_left
                · intro wS hSw; have hGot := HG4.out _ hSw; clear hSw; go_split_ands; go_simp; try with_reducible rfl
                try simp only [Act.put, List.setIfInBounds_toArray, List.set_cons_zero, List.set_cons_succ]
                refine wpAnyT_takeL (i := 7) (v := ?_) rfl (by kernel_rfl) (by kernel_rfl) (by kernel_rfl) (by kernel_rfl) (fun _ _ _ h => h) (Or.inl ⟨by rfl, ?_⟩) hk4 ?_
                rotate_left
                · intro wS hSw; have hGot := HG4.out _ hSw; clear hSw; go_split_ands; go_simp; try with_reducible rfl
                try simp only [Act.put, List.setIfInBounds_toArray, List.set_cons_zero, List.set_cons_succ]
                refine wpAnyT_oneL (i := 8) (by kernel_rfl) rfl (fun K hK => ?_)
                rw [if_pos (by rfl)]
                go_wp2_with (refine (HN.out W4 (rowH r2 166 (s.sw.flatMap acC) ++ [tkB bt gv' (.slice none 0 0) false, (wr.heap.size, .cells #[.int .i64 x.1.code, .slice (rowA x.2) x.1.words.length (x.1.words.length + x.2.k)] 94 (0, 0))]) s.gr (H4.out.ac (fun y => by simp only [cnt_append, cnt_cons, cnt_nil]; omega)) (dWord x.1) HW64.out).mono ?_)
                rintro e w5 ⟨rfl, hb5⟩
                have h5 := H4.out.grow hb5
                have h5m : St base w0 w5 ((rowH r2 166 (s.sw.flatMap acC) ++ [tkB bt gv' (.slice none 0 0) false, prB bp j bt ballot s.gr, (wr.heap.size, .cells #[.int .i64 x.1.code, .slice (rowA x.2) x.1.words.length (x.1.words.length + x.2.k)] 94 (0, 0))]) ++ M) := h5.ac (fun y => by simp only [cnt_append, cnt_cons, cnt_nil]; omega)
                have hk5 : SwR bl q a.1 w5 := ⟨(HROW.out _ _ h5m).1⟩
                have H5 := Lib.hid h5
                clear hb5 H4 h5 h5m
                refine (hK).out _ _ (fun _ => hk5) (fun _ => ?_)
                clear hK
                refine wpAnyT_takeL (i := 9) (v := ?_) rfl (by kernel_rfl) (by kernel_rfl) (by kernel_rfl) (by kernel_rfl) (fun _ _ _ h => h) (Or.inl ⟨by rfl, ?_⟩) hk5 ?_
                rotate_left
                · intro wS hSw; have hGot := HG4.out _ hSw; clear hSw; go_split_ands; go_simp; try with_reducible rfl
                try simp only [Act.put, List.setIfInBounds_toArray, List.set_cons_zero, List.set_cons_succ]
                refine wpAnyT_oneL (i := 10) (by kernel_rfl) rfl (fun K hK => ?_)
                rw [if_pos (by rfl)]
                go_wp2_with fail
                have hk6 : SwR bl q a.1 (w5.alloc (.cells #[.int .i64 a.1, .int .u64 (nx (dWord x.1))] 166)) := ⟨(HROW.out _ (rowH r2 166 (s.sw.flatMap acC) ++ [tkB bt gv' (.slice none 0 0) false, prB bp j bt ballot s.gr, (wr.heap.size, .cells #[.int .i64 x.1.code, .slice (rowA x.2) x.1.words.length (x.1.words.length + x.2.k)] 94 (0, 0))]) ((H5.out.junk _).ac (fun y => by simp only [cnt_append, cnt_cons, cnt_nil]; omega))).1⟩
                refine (hK).out _ _ (fun _ => hk6) (fun _ => ?_)
                clear hK
                refine wpAnyT_oneL (i := 11) (by kernel_rfl) rfl (fun K hK => ?_)
                rw [if_pos (by rfl)]
                refine step_appendN elem_ac _ _ rfl r2 s.sw.length _ rfl HR2.out H5.out #[.int .i64 a.1, .int .u64 (nx (dWord x.1))] rfl rfl (by simp [Value.oneCell']) (by omega) ?_
                intro r' w7 hr' h7 _
                have e1 : s.sw.flatMap acC ++ #[Value.int .i64 a.1, .int .u64 (nx (dWord x.1))].toList = (s.sw ++ [(a.1, nx (dWord x.1))]).flatMap acC := by simp [List.flatMap_append]
                rw [e1] at hr' h7
                have hk7 : SwR bl q a.1 w7 := ⟨(HROW.out _ (rowH r' 166 ((s.sw ++ [(a.1, nx (dWord x.1))]).flatMap acC) ++ [tkB bt gv' (.slice none 0 0) false, prB bp j bt ballot s.gr, (wr.heap.size, .cells #[.int .i64 x.1.code, .slice (rowA x.2) x.1.words.length (x.1.words.length + x.2.k)] 94 (0, 0))]) (h7.ac (fun y => by simp only [cnt_append, cnt_cons, cnt_nil]; omega))).1⟩
                have H7 := Lib.hid h7
                have HR' := Lib.hid hr'
                clear h7 hr' e1 H5
                simp only [Act.put, List.setIfInBounds_toArray, List.set_cons_zero, List.set_cons_succ]
                refine (hK).out _ _ (fun _ => hk7) (fun _ => ?_)
                clear hK
                refine wpAnyT_takeL (i := 12) (v := ?_) rfl (by kernel_rfl) (by kernel_rfl) (by kernel_rfl) (by kernel_rfl) (fun _ _ _ h => h) (Or.inl ⟨by rfl, ?_⟩) hk7 ?_
                rotate_left
                · intro wS hSw; have hGot := HG4.out _ hSw; clear hSw; go_split_ands; go_simp; try with_reducible rfl
                try simp only [Act.put, List.setIfInBounds_toArray, List.set_cons_zero, List.set_cons_succ]
                refine wpAnyT_done (by kernel_rfl) ?_ _
                go_wp2
                go_roundw
                case rel =>
                  ((repeat apply Exists.intro (α := Value)); (first | refine ⟨?_, rfl⟩ | skip); (all_goals first | exact undef | skip))
                  refine ⟨q + 1, r', by omega, by go_num, by rw [HSN.out, HE.out], by rw [HSN.out, HE.out]; simp [rowV], by rw [HSN.out, HE.out]; simpa using HR'.out, ?_⟩
                  rw [HSN.out, HE.out]
                  exact St.drop (L := [(wr.heap.size, .cells #[.int .i64 x.1.code, .slice (rowA x.2) x.1.words.length (x.1.words.length + x.2.k)] 94 (0, 0))]) (H7.out.ac (fun y => by simp only [cnt_append, cnt_cons, cnt_nil]; omega))
                case measure => simp [intOf]; omega
              · have hwb : (dWord x.1 != a.2) = true := by simpa using hwd
                have e1 : swStep nx l s x.1 = { s with ans := s.ans + 1, gr := pMet s.gr (dWord x.1), i := s.i + 1 } := by unfold swStep; rw [if_neg (fun h => h hcode), HLA.out, if_pos hwd]
                have HE := Lib.hid e1
                clear e1 hcode hwd
                go_wp2_with fail
                rw [← HW.out]
                refine (HWD.out W _ (H1.out.ac (M := (rowH r2 166 (s.sw.flatMap acC) ++ [tkB bt gv' (.slice none 0 0) false, prB bp j bt ballot s.gr, (wr.heap.size, .cells #[.int .i64 x.1.code, .slice (rowA x.2) x.1.words.length (x.1.words.length + x.2.k)] 94 (0, 0))]) ++ M) (fun y => by simp only [cnt_append, cnt_cons, cnt_nil]; omega))).mono ?_
                rintro e w3 ⟨rfl, hb3⟩
                have h3 := H1.out.grow hb3
                have h3m : St base w0 w3 ((rowH r2 166 (s.sw.flatMap acC) ++ [tkB bt gv' (.slice none 0 0) false, prB bp j bt ballot s.gr, (wr.heap.size, .cells #[.int .i64 x.1.code, .slice (rowA x.2) x.1.words.length (x.1.words.length + x.2.k)] 94 (0, 0))]) ++ M) := h3.ac (fun y => by simp only [cnt_append, cnt_cons, cnt_nil]; omega)
                obtain ⟨l0, l1⟩ := HROW.out _ _ h3m
                have H3 := Lib.hid h3
                clear hb3 cb H1 HW h3 h3m
                go_wp2_with fail
                refine met_calls bp bt j ballot s.gr (dWord x.1) HW64.out.1 HW64.out.2 (L := rowH r2 166 (s.sw.flatMap acC) ++ (tkB bt gv' (.slice none 0 0) false :: ((wr.heap.size, .cells #[.int .i64 x.1.code, .slice (rowA x.2) x.1.words.length (x.1.words.length + x.2.k)] 94 (0, 0)) :: M))) (H3.out.ac (fun y => by simp only [cnt_append, cnt_cons]; omega)) _ ?_
                intro w6 h6
                have H6 := Lib.hid h6
                clear h6 H3 l0 l1
                go_wp2
                go_roundw
                case rel =>
                  ((repeat apply Exists.intro (α := Value)); (first | refine ⟨?_, rfl⟩ | skip); (all_goals first | exact undef | skip))
                  refine ⟨q + 1, r2, by omega, by go_num, by rw [HSN.out, HE.out], by rw [HSN.out, HE.out], by rw [HSN.out, HE.out]; exact HR2.out, ?_⟩
                  rw [HSN.out, HE.out]
                  exact St.drop (L := [(wr.heap.size, .cells #[.int .i64 x.1.code, .slice (rowA x.2) x.1.words.length (x.1.words.length + x.2.k)] 94 (0, 0))]) (H6.out.ac (fun y => by simp only [cnt_append, cnt_cons, cnt_nil]; omega))
                case measure => simp [intOf]; omega
            · have hcb : (x.1.code != 0) = true := by simpa using hcode
              have e1 : swStep nx l s x.1 = { s with i := s.i + 1 } := by unfold swStep; rw [if_pos hcode]
              have HE := Lib.hid e1
              clear e1 hcode
              go_wp2
              rw [← HW.out]
              go_roundw
              case rel =>
                ((repeat apply Exists.intro (α := Value)); (first | refine ⟨?_, rfl⟩ | skip); (all_goals first | exact undef | skip))
                refine ⟨q + 1, r2, by omega, by go_num, by rw [HSN.out, HE.out], by rw [HSN.out, HE.out], by rw [HSN.out, HE.out]; exact HR2.out, ?_⟩
                rw [HSN.out, HE.out]
                exact St.drop (L := [(wr.heap.size, .cells #[.int .i64 x.1.code, .slice (rowA x.2) x.1.words.length (x.1.words.length + x.2.k)] 94 (0, 0))]) (H1.out.ac (fun y => by simp only [cnt_append, cnt_cons, cnt_nil]; omega))
              case measure => simp [intOf]; omega
          · obtain rfl : q = g.ds.length := by omega
            have hdl : d.take g.ds.length = d := by rw [List.take_of_length_le]; have := HDL.out; have := HGD.out; omega
            rw [hdl] at hr2 hst2 ⊢
            have H9 := Lib.hid (HR.out _ wr ⟨r2, rfl, hr2, gv', HGV.out, hst2.ac (fun y => by simp only [cnt_append, cnt_cons]; omega)⟩)
            clear hr2 hst2 hdl HR
            go_wp2
            go_ret3
            exact H9.out
      · clear hres
        obtain ⟨rfl, h3⟩ := hout
        have H9 := Lib.hid (HR.out _ w2 ⟨rfl, h3⟩)
        clear h3 HR
        go_wp2_with fail
        go_loopw [6, 7, 52] (fun n a i wr => n = .int .i64 0 ∧ a = .slice none 0 0 ∧ i = .int .i64 0 ∧ wr = w2) (fun _ _ _ _ => 0)
        case atStart => exact ⟨rfl, rfl, rfl, rfl⟩
        case round =>
          obtain ⟨rfl, rfl, rfl, rfl⟩ := hrel
          go_wp2
          go_ret3
          exact H9.out
      · clear hres
        obtain ⟨rfl, h3⟩ := hout
        have H9 := Lib.hid (HR.out _ w2 ⟨rfl, h3⟩)
        clear h3 HR
        go_wp2_with fail
        go_loopw [6, 7, 52] (fun n a i wr => n = .int .i64 0 ∧ a = .slice none 0 0 ∧ i = .int .i64 0 ∧ wr = w2) (fun _ _ _ _ => 0)
        case atStart => exact ⟨rfl, rfl, rfl, rfl⟩
        case round =>
          obtain ⟨rfl, rfl, rfl, rfl⟩ := hrel
          go_wp2
          go_ret3
          exact H9.out

set_option maxRecDepth 100000 in
set_option maxHeartbeats 8000000 in
theorem swap_accept (bp bt : Nat) (j : PJ) (ballot gr : Int) (hv0 : 0 ≤ j.number) (hv1 : j.number ≤ 15) (ro : Rw) (gts : List GT) (hgo : GotOk ro gts) (hrg : Rng (gots gts)) (k : Nat) (M : List Blk) (hmo : ∀ p, p ∈ gotH ro gts → p ∈ M)
    (rl : Rw) (l : List Ac) (hrl : RowOk rl 2 l.length (l.flatMap acC)) (hll : l.length ≤ 5) (hlw : ∀ a ∈ l, W64 a.2) (hml : ∀ p, p ∈ rowH rl 166 (l.flatMap acC) → p ∈ M) (bx bv : Nat) (nx : Int → Int)
    (hN : ∀ (W : World) (X : List Blk) (g3 : Int), St base w0 W (X ++ (prB bp j bt ballot g3 :: M)) → ∀ x, W64 x → Calls Tryz.prog 106 #[.int .u64 x, .pointer (some ⟨bx, 0, none⟩), .pointer (some ⟨bv, 0, none⟩)] W fun e w' => e = .returned (.int .u64 (nx x)) ∧ Below W.heap.size W w')
    (h : TkIs base w0 w bt ro gts (.done k) (prB bp j bt ballot gr :: M)) (R : Ending → World → Prop)
    (hR : ∀ v w', SwOut base w0 bt bp ro gts j ballot gr nx l M v w' (tBatch (gots gts) k (swAsk j nx l)) → R (.returned v) w') :
    Calls Tryz.prog 103 #[rP bp, rowV rl l.length, .func (.func 106) #[] #[.pointer (some ⟨bx, 0, none⟩), .pointer (some ⟨bv, 0, none⟩)]] w R := by
  obtain ⟨gv, hgv, hst⟩ := h
  obtain ⟨A, hA⟩ : ∃ A, rowA rl = A := ⟨_, rfl⟩
  rw [show rowV rl l.length = .slice A l.length (l.length + rl.k) by rw [← hA]]
  have HA := Lib.hid hA
  have HGV := Lib.hid hgv
  have HST := Lib.hid hst
  have HGO := Lib.hid hgo
  have HRG := Lib.hid hrg
  have HMO := Lib.hid hmo
  have HRL := Lib.hid hrl
  have HLW := Lib.hid hlw
  have HML := Lib.hid hml
  have HN := Lib.hid hN
  have HR := Lib.hid hR
  clear hgv hst hgo hrg hmo hrl hlw hml hN hR hA
  go_enter Tryz.func103, Tryz.ntmps103
  go_wp2_with fail
  go_loopw [9, 18] (fun a i wr => ∃ (m : Nat) (r : Rw), m ≤ l.length ∧ i = .int .i64 m ∧ a = rowV r m ∧ RowOk r 9 m (nvC ((swAsk j nx l).take m)) ∧ St base w0 wr (rowH r 113 (nvC ((swAsk j nx l).take m)) ++ (tkB bt gv (.slice none 0 0) false :: prB bp j bt ballot gr :: M))) (fun a i wr => l.length - (intOf i).toNat)
  case atStart => exact ⟨0, nilRw, Nat.zero_le _, rfl, rfl, nilRw_ok 9, HST.out⟩
  case round =>
    clear HST
    obtain ⟨m, r, hm, rfl, rfl, hr, hst⟩ := hrel
    by_cases hlt : m < l.length
    · obtain ⟨a, ha⟩ : ∃ a, l[m]? = some a := ⟨l[m], by simp [hlt]⟩
      obtain ⟨b, hbk⟩ := HRL.out.pos (by omega)
      obtain rfl : A = some ⟨b, 0, none⟩ := by rw [← HA.out]; simp [rowA, hbk]
      have hml2 : ∀ p, p ∈ rowH rl 166 (l.flatMap acC) → p ∈ rowH r 113 (nvC ((swAsk j nx l).take m)) ++ (tkB bt gv (.slice none 0 0) false :: prB bp j bt ballot gr :: M) := fun p hp => List.mem_append_right _ (List.mem_cons_of_mem _ (List.mem_cons_of_mem _ (HML.out p hp)))
      have d0 := hst.recCell (enc := acC) (s := 2) (fun _ => rfl) hbk hml2 ha 0 (by decide)
      have d1 := hst.recCell (enc := acC) (s := 2) (fun _ => rfl) hbk hml2 ha 1 (by decide)
      simp only [Nat.add_zero, List.getElem?_cons_zero, List.getElem?_cons_succ] at d0 d1
      obtain ⟨W, hW⟩ : ∃ W, W = (wr.alloc (.cells #[.int .i64 a.1, .int .u64 a.2] 166)).drew := ⟨_, rfl⟩
      have h1 : St base w0 W (rowH r 113 (nvC ((swAsk j nx l).take m)) ++ (tkB bt gv (.slice none 0 0) false :: prB bp j bt ballot gr :: ((wr.heap.size, .cells #[.int .i64 a.1, .int .u64 a.2] 166 (0, 0)) :: M))) := by
        rw [hW]; exact ((hst.alloc _).drew).ac (fun y => by simp only [cnt_append, cnt_cons]; omega)
      have hs : ∀ (W : World) (X : List Blk), St base w0 W (X ++ (tkB bt gv (.slice none 0 0) false :: prB bp j bt ballot gr :: ((wr.heap.size, .cells #[.int .i64 a.1, .int .u64 a.2] 166 (0, 0)) :: M))) → SwS wr.heap.size bp bt j ballot gr a W := fun W X h =>
        ⟨fun k => h.cells (t := 166) (fr := (0, 0)) (by simp) k, (pr_cells h (by simp)).1⟩
      have hk1 := hs W _ h1
      have hcons := fun W => Cons_calls W j.number hv0 hv1
      have hxa := HLW.out a (List.mem_of_getElem? ha)
      have hnext := fun (W : World) (X : List Blk) (h : St base w0 W (X ++ (tkB bt gv (.slice none 0 0) false :: prB bp j bt ballot gr :: ((wr.heap.size, .cells #[.int .i64 a.1, .int .u64 a.2] 166 (0, 0)) :: M)))) =>
        HN.out W (X ++ [tkB bt gv (.slice none 0 0) false, (wr.heap.size, .cells #[.int .i64 a.1, .int .u64 a.2] 166 (0, 0))]) gr (h.ac (fun y => by simp only [cnt_append, cnt_cons, cnt_nil]; omega)) a.2 hxa
      have hsn := swAsk_take j nx l m a ha
      have hltI : (m : Int) < (l.length : Int) := by omega
      have HS := Lib.hid hs
      have HG := Lib.hid (fun W (h : SwS wr.heap.size bp bt j ballot gr a W) => And.intro h.c h.p)
      have HCO := Lib.hid hcons
      have HNX := Lib.hid hnext
      have HSN := Lib.hid hsn
      have H1 := Lib.hid h1
      have HRW := Lib.hid hr
      have HW := Lib.hid hW
      clear hs hcons hnext hsn h1 hr hW hst ha hbk hml2 hxa
      go_wp2_with fail
      refine wp_region_T (S := SwS wr.heap.size bp bt j ballot gr a) [] (by kernel_rfl) (by rw [← HW.out]; exact hk1) ?_
      rw [← HW.out]
      clear d0 d1
      refine wpAnyT_takeL (i := 0) (v := ?_) rfl (by kernel_rfl) (by kernel_rfl) (by kernel_rfl) (by kernel_rfl) (fun _ _ _ h => h) (Or.inl ⟨by rfl, ?_⟩) hk1 ?_
      rotate_left
      · intro wS hSw; have hGot := HG.out _ hSw; clear hSw; go_split_ands; go_simp; try with_reducible rfl
      try simp only [Act.put, List.setIfInBounds_toArray, List.set_cons_zero, List.set_cons_succ]
      refine wpAnyT_takeL (i := 1) (v := ?_) rfl (by kernel_rfl) (by kernel_rfl) (by kernel_rfl) (by kernel_rfl) (fun _ _ _ h => h) (Or.inl ⟨by rfl, ?_⟩) hk1 ?_
      rotate_left
      · intro wS hSw; have hGot := HG.out _ hSw; clear hSw; go_split_ands; go_simp; try with_reducible rfl
      try simp only [Act.put, List.setIfInBounds_toArray, List.set_cons_zero, List.set_cons_succ]
      refine wpAnyT_takeL (i := 2) (v := ?_) rfl (by kernel_rfl) (by kernel_rfl) (by kernel_rfl) (by kernel_rfl) (fun _ _ _ h => h) (Or.inl ⟨by rfl, ?_⟩) hk1 ?_
      rotate_left
      · intro wS hSw; have hGot := HG.out _ hSw; clear hSw; go_split_ands; go_simp; try with_reducible rfl
      try simp only [Act.put, List.setIfInBounds_toArray, List.set_cons_zero, List.set_cons_succ]
      refine wpAnyT_takeL (i := 3) (v := ?_) rfl (by kernel_rfl) (by kernel_rfl) (by kernel_rfl) (by kernel_rfl) (fun _ _ _ h => h) (Or.inl ⟨by rfl, ?_⟩) hk1 ?_
      rotate_left
      · intro wS hSw; have hGot := HG.out _ hSw; clear hSw; go_split_ands; go_simp; try with_reducible rfl
      try simp only [Act.put, List.setIfInBounds_toArray, List.set_cons_zero, List.set_cons_succ]
      refine wpAnyT_takeL (i := 4) (v := ?_) rfl (by kernel_rfl) (by kernel_rfl) (by kernel_rfl) (by kernel_rfl) (fun _ _ _ h => h) (Or.inl ⟨by rfl, ?_⟩) hk1 ?_
      rotate_left
      · intro wS hSw; have hGot := HG.out _ hSw; clear hSw; go_split_ands; go_simp; try with_reducible rfl
      try simp only [Act.put, List.setIfInBounds_toArray, List.set_cons_zero, List.set_cons_succ]
      refine wpAnyT_takeL (i := 5) (v := ?_) rfl (by kernel_rfl) (by kernel_rfl) (by kernel_rfl) (by kernel_rfl) (fun _ _ _ h => h) (Or.inl ⟨by rfl, ?_⟩) hk1 ?_
      rotate_left
      · intro wS hSw; have hGot := HG.out _ hSw; clear hSw; go_split_ands; go_simp; try with_reducible rfl
      try simp only [Act.put, List.setIfInBounds_toArray, List.set_cons_zero, List.set_cons_succ]
      refine wpAnyT_takeL (i := 6) (v := ?_) rfl (by kernel_rfl) (by kernel_rfl) (by kernel_rfl) (by kernel_rfl) (fun _ _ _ h => h) (Or.inl ⟨by rfl, ?_⟩) hk1 ?_
      rotate_left
      · intro wS hSw; have hGot := HG.out _ hSw; clear hSw; go_split_ands; go_simp; try with_reducible rfl
      try simp only [Act.put, List.setIfInBounds_toArray, List.set_cons_zero, List.set_cons_succ]
      refine wpAnyT_takeL (i := 7) (v := ?_) rfl (by kernel_rfl) (by kernel_rfl) (by kernel_rfl) (by kernel_rfl) (fun _ _ _ h => h) (Or.inl ⟨by rfl, ?_⟩) hk1 ?_
      rotate_left
      · intro wS hSw; have hGot := HG.out _ hSw; clear hSw; go_split_ands; go_simp; try with_reducible rfl
      try simp only [Act.put, List.setIfInBounds_toArray, List.set_cons_zero, List.set_cons_succ]
      refine wpAnyT_takeL (i := 9) (v := ?_) rfl (by kernel_rfl) (by kernel_rfl) (by kernel_rfl) (by kernel_rfl) (fun _ _ _ h => h) (Or.inl ⟨by rfl, ?_⟩) hk1 ?_
      rotate_left
      · intro wS hSw; have hGot := HG.out _ hSw; clear hSw; go_split_ands; go_simp; try with_reducible rfl
      try simp only [Act.put, List.setIfInBounds_toArray, List.set_cons_zero, List.set_cons_succ]
      refine wpAnyT_takeL (i := 10) (v := ?_) rfl (by kernel_rfl) (by kernel_rfl) (by kernel_rfl) (by kernel_rfl) (fun _ _ _ h => h) (Or.inl ⟨by rfl, ?_⟩) hk1 ?_
      rotate_left
      · intro wS hSw; have hGot := HG.out _ hSw; clear hSw; go_split_ands; go_simp; try with_reducible rfl
      try simp only [Act.put, List.setIfInBounds_toArray, List.set_cons_zero, List.set_cons_succ]
      refine wpAnyT_takeL (i := 11) (v := ?_) rfl (by kernel_rfl) (by kernel_rfl) (by kernel_rfl) (by kernel_rfl) (fun _ _ _ h => h) (Or.inl ⟨by rfl, ?_⟩) hk1 ?_
      rotate_left
      · intro wS hSw; have hGot := HG.out _ hSw; clear hSw; go_split_ands; go_simp; try with_reducible rfl
      try simp only [Act.put, List.setIfInBounds_toArray, List.set_cons_zero, List.set_cons_succ]
      refine wpAnyT_takeL (i := 12) (v := ?_) rfl (by kernel_rfl) (by kernel_rfl) (by kernel_rfl) (by kernel_rfl) (fun _ _ _ h => h) (Or.inl ⟨by rfl, ?_⟩) hk1 ?_
      rotate_left
      · intro wS hSw; have hGot := HG.out _ hSw; clear hSw; go_split_ands; go_simp; try with_reducible rfl
      try simp only [Act.put, List.setIfInBounds_toArray, List.set_cons_zero, List.set_cons_succ]
      refine wpAnyT_takeL (i := 13) (v := ?_) rfl (by kernel_rfl) (by kernel_rfl) (by kernel_rfl) (by kernel_rfl) (fun _ _ _ h => h) (Or.inl ⟨by rfl, ?_⟩) hk1 ?_
      rotate_left
      · intro wS hSw; have hGot := HG.out _ hSw; clear hSw; go_split_ands; go_simp; try with_reducible rfl
      try simp only [Act.put, List.setIfInBounds_toArray, List.set_cons_zero, List.set_cons_succ]
      refine wpAnyT_oneL (i := 8) (by kernel_rfl) rfl (fun K hK => ?_)
      rw [if_pos (by rfl)]
      · -- the address first
        go_wp2_with (refine (HCO.out _).mono ?_)
        rintro e w2 ⟨rfl, hb2⟩
        have H2 := Lib.hid (H1.out.grow hb2)
        have hk2 := HS.out w2 _ H2.out
        clear hb2 H1
        refine (hK).out _ _ (fun _ => hk2) (fun _ => ?_)
        clear hK
        refine wpAnyT_oneL (i := 14) (by kernel_rfl) rfl (fun K hK => ?_)
        rw [if_pos (by rfl)]
        go_wp2_with (refine (HNX.out _ _ H2.out).mono ?_)
        rintro e w3 ⟨rfl, hb3⟩
        have H3 := Lib.hid (H2.out.grow hb3)
        have hk3 := HS.out w3 _ H3.out
        clear hb3 H2
        refine (hK).out _ _ (fun _ => hk3) (fun _ => ?_)
        clear hK
        refine wpAnyT_takeL (i := 15) (v := ?_) rfl (by kernel_rfl) (by kernel_rfl) (by kernel_rfl) (by kernel_rfl) (fun _ _ _ h => h) (Or.inl ⟨by rfl, ?_⟩) hk3 ?_
        rotate_left
        · intro wS hSw; have hGot := HG.out _ hSw; clear hSw; go_split_ands; go_simp; try with_reducible rfl
        try simp only [Act.put, List.setIfInBounds_toArray, List.set_cons_zero, List.set_cons_succ]
        refine wpAnyT_oneL (i := 16) (by kernel_rfl) rfl (fun K hK => ?_)
        rw [if_pos (by rfl)]
        go_wp2_with fail
        have hk4 : SwS wr.heap.size bp bt j ballot gr a (w3.alloc (.cells (vCells (swVerb j nx a) none 0) 113)) := HS.out _ _ (H3.out.junk _)
        refine (hK).out _ _ (fun _ => hk4) (fun _ => ?_)
        clear hK
        refine wpAnyT_oneL (i := 17) (by kernel_rfl) rfl (fun K hK => ?_)
        rw [if_pos (by rfl)]
        refine step_appendN elem_vb _ _ rfl r m _ rfl HRW.out H3.out (vCells (swVerb j nx a) none 0) rfl rfl (by simp [Value.oneCell']) (by omega) ?_
        intro r' w5 hr' h5 _
        have e1 : nvC ((swAsk j nx l).take m) ++ (vCells (swVerb j nx a) none 0).toList = nvC ((swAsk j nx l).take (m + 1)) := by rw [HSN.out, nvC_snoc _ _ rfl]
        rw [e1] at hr' h5
        have hk5 := HS.out w5 _ h5
        have H5 := Lib.hid h5
        have HR' := Lib.hid hr'
        clear h5 hr' e1 H3
        simp only [Act.put, List.setIfInBounds_toArray, List.set_cons_zero, List.set_cons_succ]
        refine (hK).out _ _ (fun _ => hk5) (fun _ => ?_)
        clear hK
        refine wpAnyT_takeL (i := 18) (v := ?_) rfl (by kernel_rfl) (by kernel_rfl) (by kernel_rfl) (by kernel_rfl) (fun _ _ _ h => h) (Or.inl ⟨by rfl, ?_⟩) hk5 ?_
        rotate_left
        · intro wS hSw; have hGot := HG.out _ hSw; clear hSw; go_split_ands; go_simp; try with_reducible rfl
        try simp only [Act.put, List.setIfInBounds_toArray, List.set_cons_zero, List.set_cons_succ]
        refine wpAnyT_done (by kernel_rfl) ?_ _
        go_wp2
        go_roundw
        case rel =>
          ((repeat apply Exists.intro (α := Value)); (first | refine ⟨?_, rfl⟩ | skip); (all_goals first | exact undef | skip))
          exact ⟨m + 1, r', by omega, by go_num, by simp [rowV], HR'.out, St.drop (L := [(wr.heap.size, .cells #[.int .i64 a.1, .int .u64 a.2] 166 (0, 0))]) (H5.out.ac (fun y => by simp only [cnt_append, cnt_cons, cnt_nil]; omega))⟩
        case measure => simp [intOf]; omega
    · obtain rfl : m = l.length := by omega
      have htk : (swAsk j nx l).take l.length = swAsk j nx l := by rw [List.take_of_length_le (by simp [swAsk])]
      rw [htk] at hr hst
      have hlen : (swAsk j nx l).length = l.length := by simp [swAsk]
      have c1 := (pr_cells hst (List.mem_append_right _ (List.mem_cons_of_mem _ List.mem_cons_self))).1
      have hB := fun R hR => Batch_calls (base := base) (w0 := w0) (w := wr) bt ro gts HGO.out k r (swAsk j nx l) (by omega) (by rw [hlen]; exact hr) (prB bp j bt ballot gr :: M) (fun p hp => List.mem_cons_of_mem _ (HMO.out p hp)) ⟨gv, HGV.out, hst.ac (fun y => by simp only [cnt_append, cnt_cons]; omega)⟩ R hR
      rw [hlen] at hB
      have HB := Lib.hid hB
      clear hr hst htk hB HGV
      go_wp2_with fail
      refine HB.out _ ?_
      intro v w2 hout
      obtain ⟨res, hres⟩ : ∃ res, tBatch (gots gts) k (swAsk j nx l) = res := ⟨_, rfl⟩
      have HR2 := HR.out
      rw [hres] at hout HR2
      have HR := Lib.hid HR2
      clear HR2 HB c1
      rcases res with ⟨kk | q | _, d⟩
      · obtain ⟨hdl, hdm⟩ := tBatch_len hres
        rw [hlen] at hdl
        have HDM := Lib.hid hdm
        have HDL := Lib.hid hdl
        clear hdm hres hdl hlen
        obtain ⟨g, rfl, hans, gv', hgv', h3⟩ := hout
        have HANS := Lib.hid hans
        have HGV := Lib.hid hgv'
        have h4 : St base w0 w2 (rowH nilRw 166 ((swFold nx l gr (d.take 0)).sw.flatMap acC) ++ (tkB bt gv' (.slice none 0 0) false :: prB bp j bt ballot (swFold nx l gr (d.take 0)).gr :: M)) := by
          have q : St base w0 w2 (rowH r 113 (nvC (swAsk j nx l)) ++ (tkB bt gv' (.slice none 0 0) false :: prB bp j bt ballot gr :: M)) := h3.ac (fun y => by simp only [cnt_append, cnt_cons]; omega)
          exact q.drop
        have H4 := Lib.hid h4
        obtain ⟨B, hB⟩ : ∃ B, rowA g.r = B := ⟨_, rfl⟩
        rw [show rowV g.r g.ds.length = .slice B g.ds.length (g.ds.length + g.r.k) by rw [← hB]]
        have HBB := Lib.hid hB
        have hgl := hans.ok.len
        have hgd : g.ds.length = l.length := by rw [← HDL.out, ← hans.eq]; simp [GT.pure]
        have HGD := Lib.hid hgd
        clear hans hgv' h3 h4 hB hgd
        go_wp2_with fail
        go_loopw [6, 7, 52] (fun n a i wr => ∃ (q : Nat) (r : Rw), q ≤ g.ds.length ∧ i = .int .i64 q ∧ n = .int .i64 (swFold nx l gr (d.take q)).ans ∧ a = rowV r (swFold nx l gr (d.take q)).sw.length ∧ RowOk r 2 (swFold nx l gr (d.take q)).sw.length ((swFold nx l gr (d.take q)).sw.flatMap acC) ∧
          St base w0 wr (rowH r 166 ((swFold nx l gr (d.take q)).sw.flatMap acC) ++ (tkB bt gv' (.slice none 0 0) false :: prB bp j bt ballot (swFold nx l gr (d.take q)).gr :: M))) (fun n a i wr => g.ds.length - (intOf i).toNat)
        case atStart => exact ⟨0, nilRw, Nat.zero_le _, rfl, rfl, rfl, nilRw_ok 2, H4.out⟩
        case round =>
          clear H4
          obtain ⟨q, r2, hq, rfl, rfl, rfl, hr2, hst2⟩ := hrel
          by_cases hlt2 : q < g.ds.length
          · obtain ⟨x, hx⟩ : ∃ x, g.ds[q]? = some x := ⟨g.ds[q], by simp [hlt2]⟩
            obtain ⟨b, hb⟩ := HANS.out.ok.r.pos (by omega)
            obtain rfl : B = some ⟨b, 0, none⟩ := by rw [← HBB.out]; simp [rowA, hb]
            have hql : q < l.length := by have := HGD.out; omega
            obtain ⟨a, ha⟩ : ∃ a, l[q]? = some a := ⟨l[q], by simp [hql]⟩
            obtain ⟨bl, hbl⟩ := HRL.out.pos (by omega)
            obtain rfl : A = some ⟨bl, 0, none⟩ := by rw [← HA.out]; simp [rowA, hbl]
            have hmo2 : ∀ (X : List Blk) p, p ∈ gotH ro gts → p ∈ X ++ (tkB bt gv' (.slice none 0 0) false :: prB bp j bt ballot (swFold nx l gr (d.take q)).gr :: M) := fun X p hp => List.mem_append_right _ (List.mem_cons_of_mem _ (List.mem_cons_of_mem _ (HMO.out p hp)))
            obtain ⟨d0, d1⟩ := ans_cell HANS.out hb (hmo2 _) hst2 hx
            have hxd : d[q]? = some x.1 := by rw [← HANS.out.eq]; simp [GT.pure, hx]
            have hsn := swFold_snoc nx l gr d q x.1 hxd
            have hdq : q ≤ d.length := by have := HDL.out; omega
            have hidx : (swFold nx l gr (d.take q)).i = q ∧ (swFold nx l gr (d.take q)).sw.length ≤ q ∧ 0 ≤ (swFold nx l gr (d.take q)).ans ∧ (swFold nx l gr (d.take q)).ans ≤ q := by
              have := swFold_idx nx l (d.take q) ⟨0, [], gr, 0⟩
              simp only [List.length_take, List.length_nil] at this
              have e : min q d.length = q := by omega
              rw [e] at this
              obtain ⟨k1, k2, k3, k4⟩ := this
              exact ⟨by simp only [swFold]; omega, by simp only [swFold]; omega, by simp only [swFold]; omega, by simp only [swFold]; omega⟩
            obtain ⟨s, hs⟩ : ∃ s, s = swFold nx l gr (d.take q) := ⟨_, rfl⟩
            rw [← hs] at hr2 hst2 hsn hidx hmo2 ⊢
            obtain ⟨hsi, hsl, hsa0, hsa1⟩ := hidx
            have hla : l.getD s.i (0, 0) = a := by rw [hsi, List.getD_eq_getElem?_getD, ha]; rfl
            obtain ⟨W, hW⟩ : ∃ W, W = wr.alloc (.cells #[.int .i64 x.1.code, .slice (rowA x.2) x.1.words.length (x.1.words.length + x.2.k)] 94) := ⟨_, rfl⟩
            have h1 : St base w0 W (rowH r2 166 (s.sw.flatMap acC) ++ (tkB bt gv' (.slice none 0 0) false :: prB bp j bt ballot s.gr :: ((wr.heap.size, .cells #[.int .i64 x.1.code, .slice (rowA x.2) x.1.words.length (x.1.words.length + x.2.k)] 94 (0, 0)) :: M))) := by
              rw [hW]; exact (hst2.alloc _).ac (fun y => by simp only [cnt_append, cnt_cons]; omega)
            have hxw := HANS.out.ok.ds x (List.mem_of_getElem? hx)
            have hxm : ∀ p, p ∈ dnH x → p ∈ M := fun p hp => HMO.out p (HANS.out.mem p (gt_words (L := gtH g) (fun p hp => hp) (List.mem_of_getElem? hx) p hp))
            have hw64 : W64 (dWord x.1) := by
              refine dWord_rng (HRG.out d ?_ x.1 (List.mem_of_getElem? hxd))
              exact HDM.out (by intro e; rw [e] at hxd; simp at hxd)
            have hWd := fun (W : World) (X : List Blk) (h : St base w0 W (X ++ M)) => Word_calls x hxw h (fun p hp => List.mem_append_right _ (hxm p hp))
            have hrow : ∀ (W : World) (X : List Blk), St base w0 W (X ++ M) → W.cell? ⟨bl, q * 2, none⟩ = some (.int .i64 a.1) ∧ W.cell? ⟨bl, q * 2 + 1, none⟩ = some (.int .u64 a.2) := fun W X h => by
              have k0 := h.recCell (enc := acC) (s := 2) (fun _ => rfl) hbl (fun p hp => List.mem_append_right _ (HML.out p hp)) ha 0 (by decide)
              have k1 := h.recCell (enc := acC) (s := 2) (fun _ => rfl) hbl (fun p hp => List.mem_append_right _ (HML.out p hp)) ha 1 (by decide)
              simp only [Nat.add_zero, List.getElem?_cons_zero, List.getElem?_cons_succ] at k0 k1
              exact ⟨k0, k1⟩
            have hbox : ∀ (W : World) (X : List Blk) g3, St base w0 W (X ++ (tkB bt gv' (.slice none 0 0) false :: prB bp j bt ballot g3 :: ((wr.heap.size, .cells #[.int .i64 x.1.code, .slice (rowA x.2) x.1.words.length (x.1.words.length + x.2.k)] 94 (0, 0)) :: M))) → (∀ k, W.cell? ⟨wr.heap.size, k, none⟩ = (#[.int .i64 x.1.code, .slice (rowA x.2) x.1.words.length (x.1.words.length + x.2.k)] : Array Value)[k]?) :=
              fun W X g3 h k => h.cells (t := 94) (fr := (0, 0)) (by simp) k
            have cb := hbox W _ _ h1
            have hltI : (q : Int) < (g.ds.length : Int) := by omega
            have hlqI : (q : Int) < (l.length : Int) := by omega
            have hsl2 : s.sw.length ≤ 1000 := by omega
            have HSI := Lib.hid hsi
            have HLA := Lib.hid hla
            have HSN := Lib.hid hsn
            have HW := Lib.hid hW
            have H1 := Lib.hid h1
            have HBX := Lib.hid hbox
            have HWD := Lib.hid hWd
            have HROW := Lib.hid hrow
            have HR2 := Lib.hid hr2
            have HW64 := Lib.hid hw64
            clear hsi hla hsn hW h1 hbox hWd hrow hr2 hst2 hs hx hb hmo2 hxd hxw hxm hdq hw64 ha hbl
            by_cases hcode : x.1.code = 0
            · have hcb : (x.1.code != 0) = false := by simp [hcode]
              by_cases hwd : dWord x.1 = a.2
              · have hwb : (dWord x.1 != a.2) = false := by simp [hwd]
                have e1 : swStep nx l s x.1 = { s with ans := s.ans + 1, sw := s.sw ++ [(a.1, nx (dWord x.1))], i := s.i + 1 } := by unfold swStep; rw [if_neg (fun h => h hcode), HLA.out, if_neg (fun h => h hwd)]
                have HE := Lib.hid e1
                clear e1 hcode hwd
                go_wp2_with fail
                rw [← HW.out]
                refine (HWD.out W _ (H1.out.ac (M := (rowH r2 166 (s.sw.flatMap acC) ++ [tkB bt gv' (.slice none 0 0) false, prB bp j bt ballot s.gr, (wr.heap.size, .cells #[.int .i64 x.1.code, .slice (rowA x.2) x.1.words.length (x.1.words.length + x.2.k)] 94 (0, 0))]) ++ M) (fun y => by simp only [cnt_append, cnt_cons, cnt_nil]; omega))).mono ?_
                rintro e w3 ⟨rfl, hb3⟩
                have h3 := H1.out.grow hb3
                have h3m : St base w0 w3 ((rowH r2 166 (s.sw.flatMap acC) ++ [tkB bt gv' (.slice none 0 0) false, prB bp j bt ballot s.gr, (wr.heap.size, .cells #[.int .i64 x.1.code, .slice (rowA x.2) x.1.words.length (x.1.words.length + x.2.k)] 94 (0, 0))]) ++ M) := h3.ac (fun y => by simp only [cnt_append, cnt_cons, cnt_nil]; omega)
                obtain ⟨l0, l1⟩ := HROW.out _ _ h3m
                have H3 := Lib.hid h3
                clear hb3 cb H1 HW h3 h3m
                go_wp2_with fail
                obtain ⟨W4, hW4⟩ : ∃ W, W = w3.drew := ⟨_, rfl⟩
                have H4 := Lib.hid (show St base w0 W4 _ by rw [hW4]; exact H3.out.drew)
                have hk4 : SwR bl q a.1 W4 := ⟨by rw [hW4]; exact l0⟩
                have HG4 := Lib.hid (fun W (h : SwR bl q a.1 W) => h.c)
                have HW4 := Lib.hid hW4
                clear hW4 H3
                refine wp_region_T (S := SwR bl q a.1) [] (by kernel_rfl) (by rw [← HW4.out]; exact hk4) ?_
                rw [← HW4.out]
                clear l0 l1
                refine wpAnyT_takeL (i := 0) (v := ?_) rfl (by kernel_rfl) (by kernel_rfl) (by kernel_rfl) (by kernel_rfl) (fun _ _ _ h => h) (Or.inl ⟨by rfl, ?_⟩) hk4 ?_
                rotate_left
                · intro wS hSw; have hGot := HG4.out _ hSw; clear hSw; go_split_ands; go_simp; try with_reducible rfl
                try simp only [Act.put, List.setIfInBounds_toArray, List.set_cons_zero, List.set_cons_succ]
                refine wpAnyT_takeL (i := 1) (v := ?_) rfl (by kernel_rfl) (by kernel_rfl) (by kernel_rfl) (by kernel_rfl) (fun _ _ _ h => h) (Or.inl ⟨by rfl, ?_⟩) hk4 ?_
                rotate_left
                · intro wS hSw; have hGot := HG4.out _ hSw; clear hSw; go_split_ands; go_simp; try with_reducible rfl
                try simp only [Act.put, List.setIfInBounds_toArray, List.set_cons_zero, List.set_cons_succ]
                refine wpAnyT_takeL (i := 2) (v := ?_) rfl (by kernel_rfl) (by kernel_rfl) (by kernel_rfl) (by kernel_rfl) (fun _ _ _ h => h) (Or.inl ⟨by rfl, ?_⟩) hk4 ?_
                rotate_left
                · intro wS hSw; have hGot := HG4.out _ hSw; clear hSw; go_split_ands; go_simp; try with_reducible rfl
                try simp only [Act.put, List.setIfInBounds_toArray, List.set_cons_zero, List.set_cons_succ]
                refine wpAnyT_takeL (i := 3) (v := ?_) rfl (by kernel_rfl) (by kernel_rfl) (by kernel_rfl) (by kernel_rfl) (fun _ _ _ h => h) (Or.inl ⟨by rfl, ?_⟩) hk4 ?_
                rotate_left
                · intro wS hSw; have hGot := HG4.out _ hSw; clear hSw; go_split_ands; go_simp; try with_reducible rfl
                try simp only [Act.put, List.setIfInBounds_toArray, List.set_cons_zero, List.set_cons_succ]
                refine wpAnyT_takeL (i := 4) (v := ?_) rfl (by kernel_rfl) (by kernel_rfl) (by kernel_rfl) (by kernel_rfl) (fun _ _ _ h => h) (Or.inl ⟨by rfl, ?_⟩) hk4 ?_
                rotate_left
                · intro wS hSw; have hGot := HG4.out _ hSw; clear hSw; go_split_ands; go_simp; try with_reducible rfl
                try simp only [Act.put, List.setIfInBounds_toArray, List.set_cons_zero, List.set_cons_succ]
                refine wpAnyT_takeL (i := 5) (v := ?_) rfl (by kernel_rfl) (by kernel_rfl) (by kernel_rfl) (by kernel_rfl) (fun _ _ _ h => h) (Or.inl ⟨by rfl, ?_⟩) hk4 ?_
                rotate_left
                · intro wS hSw; have hGot := HG4.out _ hSw; clear hSw; go_split_ands; go_simp; try with_reducible rfl
                try simp only [Act.put, List.setIfInBounds_toArray, List.set_cons_zero, List.set_cons_succ]
                refine wpAnyT_takeL (i := 6) (v := ?_) rfl (by kernel_rfl) (by kernel_rfl) (by kernel_rfl) (by kernel_rfl) (fun _ _ _ h => h) (Or.inl ⟨by rfl, ?_⟩) hk4 ?_
                rotate_left
                · intro wS hSw; have hGot := HG4.out _ hSw; clear hSw; go_split_ands; go_simp; try with_reducible rfl
                try simp only [Act.put, List.setIfInBounds_toArray, List.set_cons_zero, List.set_cons_succ]
                refine wpAnyT_takeL (i := 7) (v := ?_) rfl (by kernel_rfl) (by kernel_rfl) (by kernel_rfl) (by kernel_rfl) (fun _ _ _ h => h) (Or.inl ⟨by rfl, ?_⟩) hk4 ?_
                rotate_left
                · intro wS hSw; have hGot := HG4.out _ hSw; clear hSw; go_split_ands; go_simp; try with_reducible rfl
                try simp only [Act.put, List.setIfInBounds_toArray, List.set_cons_zero, List.set_cons_succ]
                refine wpAnyT_oneL (i := 8) (by kernel_rfl) rfl (fun K hK => ?_)
                rw [if_pos (by rfl)]
                go_wp2_with (refine (HN.out W4 (rowH r2 166 (s.sw.flatMap acC) ++ [tkB bt gv' (.slice none 0 0) false, (wr.heap.size, .cells #[.int .i64 x.1.code, .slice (rowA x.2) x.1.words.length (x.1.words.length + x.2.k)] 94 (0, 0))]) s.gr (H4.out.ac (fun y => by simp only [cnt_append, cnt_cons, cnt_nil]; omega)) (dWord x.1) HW64.out).mono ?_)
                rintro e w5 ⟨rfl, hb5⟩
                have h5 := H4.out.grow hb5
                have h5m : St base w0 w5 ((rowH r2 166 (s.sw.flatMap acC) ++ [tkB bt gv' (.slice none 0 0) false, prB bp j bt ballot s.gr, (wr.heap.size, .cells #[.int .i64 x.1.code, .slice (rowA x.2) x.1.words.length (x.1.words.length + x.2.k)] 94 (0, 0))]) ++ M) := h5.ac (fun y => by simp only [cnt_append, cnt_cons, cnt_nil]; omega)
                have hk5 : SwR bl q a.1 w5 := ⟨(HROW.out _ _ h5m).1⟩
                have H5 := Lib.hid h5
                clear hb5 H4 h5 h5m
                refine (hK).out _ _ (fun _ => hk5) (fun _ => ?_)
                clear hK
                refine wpAnyT_takeL (i := 9) (v := ?_) rfl (by kernel_rfl) (by kernel_rfl) (by kernel_rfl) (by kernel_rfl) (fun _ _ _ h => h) (Or.inl ⟨by rfl, ?_⟩) hk5 ?_
                rotate_left
                · intro wS hSw; have hGot := HG4.out _ hSw; clear hSw; go_split_ands; go_simp; try with_reducible rfl
                try simp only [Act.put, List.setIfInBounds_toArray, List.set_cons_zero, List.set_cons_succ]
                refine wpAnyT_oneL (i := 10) (by kernel_rfl) rfl (fun K hK => ?_)
                rw [if_pos (by rfl)]
                go_wp2_with fail
                have hk6 : SwR bl q a.1 (w5.alloc (.cells #[.int .i64 a.1, .int .u64 (nx (dWord x.1))] 166)) := ⟨(HROW.out _ (rowH r2 166 (s.sw.flatMap acC) ++ [tkB bt gv' (.slice none 0 0) false, prB bp j bt ballot s.gr, (wr.heap.size, .cells #[.int .i64 x.1.code, .slice (rowA x.2) x.1.words.length (x.1.words.length + x.2.k)] 94 (0, 0))]) ((H5.out.junk _).ac (fun y => by simp only [cnt_append, cnt_cons, cnt_nil]; omega))).1⟩
                refine (hK).out _ _ (fun _ => hk6) (fun _ => ?_)
                clear hK
                refine wpAnyT_oneL (i := 11) (by kernel_rfl) rfl (fun K hK => ?_)
                rw [if_pos (by rfl)]
                refine step_appendN elem_ac _ _ rfl r2 s.sw.length _ rfl HR2.out H5.out #[.int .i64 a.1, .int .u64 (nx (dWord x.1))] rfl rfl (by simp [Value.oneCell']) (by omega) ?_
                intro r' w7 hr' h7 _
                have e1 : s.sw.flatMap acC ++ #[Value.int .i64 a.1, .int .u64 (nx (dWord x.1))].toList = (s.sw ++ [(a.1, nx (dWord x.1))]).flatMap acC := by simp [List.flatMap_append]
                rw [e1] at hr' h7
                have hk7 : SwR bl q a.1 w7 := ⟨(HROW.out _ (rowH r' 166 ((s.sw ++ [(a.1, nx (dWord x.1))]).flatMap acC) ++ [tkB bt gv' (.slice none 0 0) false, prB bp j bt ballot s.gr, (wr.heap.size, .cells #[.int .i64 x.1.code, .slice (rowA x.2) x.1.words.length (x.1.words.length + x.2.k)] 94 (0, 0))]) (h7.ac (fun y => by simp only [cnt_append, cnt_cons, cnt_nil]; omega))).1⟩
                have H7 := Lib.hid h7
                have HR' := Lib.hid hr'
                clear h7 hr' e1 H5
                simp only [Act.put, List.setIfInBounds_toArray, List.set_cons_zero, List.set_cons_succ]
                refine (hK).out _ _ (fun _ => hk7) (fun _ => ?_)
                clear hK
                refine wpAnyT_takeL (i := 12) (v := ?_) rfl (by kernel_rfl) (by kernel_rfl) (by kernel_rfl) (by kernel_rfl) (fun _ _ _ h => h) (Or.inl ⟨by rfl, ?_⟩) hk7 ?_
                rotate_left
                · intro wS hSw; have hGot := HG4.out _ hSw; clear hSw; go_split_ands; go_simp; try with_reducible rfl
                try simp only [Act.put, List.setIfInBounds_toArray, List.set_cons_zero, List.set_cons_succ]
                refine wpAnyT_done (by kernel_rfl) ?_ _
                go_wp2
                go_roundw
                case rel =>
                  ((repeat apply Exists.intro (α := Value)); (first | refine ⟨?_, rfl⟩ | skip); (all_goals first | exact undef | skip))
                  refine ⟨q + 1, r', by omega, by go_num, by rw [HSN.out, HE.out], by rw [HSN.out, HE.out]; simp [rowV], by rw [HSN.out, HE.out]; simpa using HR'.out, ?_⟩
                  rw [HSN.out, HE.out]
                  exact St.drop (L := [(wr.heap.size, .cells #[.int .i64 x.1.code, .slice (rowA x.2) x.1.words.length (x.1.words.length + x.2.k)] 94 (0, 0))]) (H7.out.ac (fun y => by simp only [cnt_append, cnt_cons, cnt_nil]; omega))
                case measure => simp [intOf]; omega
              · have hwb : (dWord x.1 != a.2) = true := by simpa using hwd
                have e1 : swStep nx l s x.1 = { s with ans := s.ans + 1, gr := pMet s.gr (dWord x.1), i := s.i + 1 } := by unfold swStep; rw [if_neg (fun h => h hcode), HLA.out, if_pos hwd]
                have HE := Lib.hid e1
                clear e1 hcode hwd
                go_wp2_with fail
                rw [← HW.out]
                refine (HWD.out W _ (H1.out.ac (M := (rowH r2 166 (s.sw.flatMap acC) ++ [tkB bt gv' (.slice none 0 0) false, prB bp j bt ballot s.gr, (wr.heap.size, .cells #[.int .i64 x.1.code, .slice (rowA x.2) x.1.words.length (x.1.words.length + x.2.k)] 94 (0, 0))]) ++ M) (fun y => by simp only [cnt_append, cnt_cons, cnt_nil]; omega))).mono ?_
                rintro e w3 ⟨rfl, hb3⟩
                have h3 := H1.out.grow hb3
                have h3m : St base w0 w3 ((rowH r2 166 (s.sw.flatMap acC) ++ [tkB bt gv' (.slice none 0 0) false, prB bp j bt ballot s.gr, (wr.heap.size, .cells #[.int .i64 x.1.code, .slice (rowA x.2) x.1.words.length (x.1.words.length + x.2.k)] 94 (0, 0))]) ++ M) := h3.ac (fun y => by simp only [cnt_append, cnt_cons, cnt_nil]; omega)
                obtain ⟨l0, l1⟩ := HROW.out _ _ h3m
                have H3 := Lib.hid h3
                clear hb3 cb H1 HW h3 h3m
                go_wp2_with fail
                refine met_calls bp bt j ballot s.gr (dWord x.1) HW64.out.1 HW64.out.2 (L := rowH r2 166 (s.sw.flatMap acC) ++ (tkB bt gv' (.slice none 0 0) false :: ((wr.heap.size, .cells #[.int .i64 x.1.code, .slice (rowA x.2) x.1.words.length (x.1.words.length + x.2.k)] 94 (0, 0)) :: M))) (H3.out.ac (fun y => by simp only [cnt_append, cnt_cons]; omega)) _ ?_
                intro w6 h6
                have H6 := Lib.hid h6
                clear h6 H3 l0 l1
                go_wp2
                go_roundw
                case rel =>
                  ((repeat apply Exists.intro (α := Value)); (first | refine ⟨?_, rfl⟩ | skip); (all_goals first | exact undef | skip))
                  refine ⟨q + 1, r2, by omega, by go_num, by rw [HSN.out, HE.out], by rw [HSN.out, HE.out], by rw [HSN.out, HE.out]; exact HR2.out, ?_⟩
                  rw [HSN.out, HE.out]
                  exact St.drop (L := [(wr.heap.size, .cells #[.int .i64 x.1.code, .slice (rowA x.2) x.1.words.length (x.1.words.length + x.2.k)] 94 (0, 0))]) (H6.out.ac (fun y => by simp only [cnt_append, cnt_cons, cnt_nil]; omega))
                case measure => simp [intOf]; omega
            · have hcb : (x.1.code != 0) = true := by simpa using hcode
              have e1 : swStep nx l s x.1 = { s with i := s.i + 1 } := by unfold swStep; rw [if_pos hcode]
              have HE := Lib.hid e1
              clear e1 hcode
              go_wp2
              rw [← HW.out]
              go_roundw
              case rel =>
                ((repeat apply Exists.intro (α := Value)); (first | refine ⟨?_, rfl⟩ | skip); (all_goals first | exact undef | skip))
                refine ⟨q + 1, r2, by omega, by go_num, by rw [HSN.out, HE.out], by rw [HSN.out, HE.out], by rw [HSN.out, HE.out]; exact HR2.out, ?_⟩
                rw [HSN.out, HE.out]
                exact St.drop (L := [(wr.heap.size, .cells #[.int .i64 x.1.code, .slice (rowA x.2) x.1.words.length (x.1.words.length + x.2.k)] 94 (0, 0))]) (H1.out.ac (fun y => by simp only [cnt_append, cnt_cons, cnt_nil]; omega))
              case measure => simp [intOf]; omega
          · obtain rfl : q = g.ds.length := by omega
            have hdl : d.take g.ds.length = d := by rw [List.take_of_length_le]; have := HDL.out; have := HGD.out; omega
            rw [hdl] at hr2 hst2 ⊢
            have H9 := Lib.hid (HR.out _ wr ⟨r2, rfl, hr2, gv', HGV.out, hst2.ac (fun y => by simp only [cnt_append, cnt_cons]; omega)⟩)
            clear hr2 hst2 hdl HR
            go_wp2
            go_ret3
            exact H9.out
      · clear hres
        obtain ⟨rfl, h3⟩ := hout
        have H9 := Lib.hid (HR.out _ w2 ⟨rfl, h3⟩)
        clear h3 HR
        go_wp2_with fail
        go_loopw [6, 7, 52] (fun n a i wr => n = .int .i64 0 ∧ a = .slice none 0 0 ∧ i = .int .i64 0 ∧ wr = w2) (fun _ _ _ _ => 0)
        case atStart => exact ⟨rfl, rfl, rfl, rfl⟩
        case round =>
          obtain ⟨rfl, rfl, rfl, rfl⟩ := hrel
          go_wp2
          go_ret3
          exact H9.out
      · clear hres
        obtain ⟨rfl, h3⟩ := hout
        have H9 := Lib.hid (HR.out _ w2 ⟨rfl, h3⟩)
        clear h3 HR
        go_wp2_with fail
        go_loopw [6, 7, 52] (fun n a i wr => n = .int .i64 0 ∧ a = .slice none 0 0 ∧ i = .int .i64 0 ∧ wr = w2) (fun _ _ _ _ => 0)
        case atStart => exact ⟨rfl, rfl, rfl, rfl⟩
        case round =>
          obtain ⟨rfl, rfl, rfl, rfl⟩ := hrel
          go_wp2
          go_ret3
          exact H9.out
end Go.Proofs.YtaojipegpjolcaaGreat
