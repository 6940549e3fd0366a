/- bodegarun9.Turn: its walk (printed by gen_turn.py). -/
import Derived.Test.YtaojipegpjolcaaGreatGK
set_option linter.unusedVariables false
set_option linter.unusedSimpArgs false
namespace Go.Proofs.BodegaHeap
open Go.RowKit
section
variable {base : Nat} {w0 w : World} {L : List Blk} {P : Program} {ops : Array Oper} {rest : List Oper} {o : Oper} {a : Act} {Q : Exit → Act → World → Prop}
/-- append(row, other...), in a list of operations. -/
theorem wp_appendRow {t e : TypeId} {size bytes : Nat} (he : ElemOk P t e size bytes) (hgd : o.guard = none) (s x : Operand)
    (ho : o.op = .call { callee := .builtin .append, args := #[s, x], argTypes := #[t, t] })
    (r : Rw) (n : Nat) (cs : List Value) (hs : a.eval s = rowV r n) (hr : RowOk r size n cs) (r2 : Rw) (m : Nat) (ys : List Value) (hx : a.eval x = rowV r2 m) (hr2 : RowOk r2 size m ys)
    (h : St base w0 w (rowH r e cs ++ (rowH r2 e ys ++ L))) (h1 : ∀ u ∈ ys, u.oneCell' = true)
    (hb : n + m ≤ 1000000000)
    (hk : ∀ r' w', RowOk r' size (n + m) (cs ++ ys) → St base w0 w' (rowH r' e (cs ++ ys) ++ (rowH r2 e ys ++ L)) → wpList P ops Q rest (a.put o.dst (rowV r' (n + m))) w') :
    wpList P ops Q (o :: rest) a w := by
  refine wpList_step (fun K hK => ?_)
  rw [if_pos (by simp [Region.wanted, hgd])]
  exact step_appendRow he s x ho r n cs hs hr r2 m ys hx hr2 h h1 hb (fun r' w' q1 q2 => hK _ _ (hk r' w' q1 q2))
end
end Go.Proofs.BodegaHeap
namespace Go.Proofs.YtaojipegpjolcaaGreat
open Go.RowKit Go.Sort Go.Proofs.BodegaHeap
variable {base : Nat} {w0 w : World} {L : List Blk}

theorem elem_got : ElemOk Tryz.prog 52 82 1 24 where
  ut := Tryz.underlying52
  info := by
    have h : (Tryz.prog.info? 82).map (fun i => (i.zero, i.size, i.bytes)) = some (some (.slice none 0 0), 1, 24) := by kernel_rfl
    obtain ⟨i, hi, hz0, hz1, hz2⟩ := info_parts h
    exact ⟨i, _, hi, hz0, hz1, hz2, rfl⟩
  pos := by decide
  small := by decide
abbrev zeroTk : Array Value := #[.int .i64 0, .int .i64 0, .int .i64 0, .int .i64 0, .int .i64 0, .int .i64 0, .int .u64 0, .slice none 0 0, .bool false, .bool false, .int .i64 0, .int .u64 0]
abbrev zB12 (b : Nat) : Blk := (b, .cells zeroTk 54 (0, 0))
/-- Words in range, wherever a completion holds them. -/
def DsRng (C : CP) : Prop := ∀ d ∈ C.ds, ∀ x ∈ d.1.words, W64 x

/-- What is known of a conversation. -/
structure TkOk (F : FB) (c : Nat) (t : TK) : Prop where
  kind : t.kind = 2
  client : t.client = c
  valid : pValid t.job = 0
  value : W64 t.job.value
  nodes : t.job.nodes = (F.ns.length : Nat)
  num0 : 0 ≤ t.job.number
  num1 : t.job.number ≤ 15
  got : GotOk t.r t.gts
  rng : Rng (gots t.gts)
  len : t.gts.length ≤ 201

/-- What Turn leaves. -/
def TurnOut (base : Nat) (w0 : World) (F : FB) (c : Nat) (t : TK) (L : List Blk) (v : Value) (w' : World) : Prop :=
  ∃ (F' : FB) (t' : TK), v = tkV t' ∧ FbOk F' ∧ F'.fb = F.fb ∧ F'.ns.length = F.ns.length ∧ F'.cs.length = F.cs.length ∧ F'.pure = (pTurn F.pure t.pure).1 ∧ t'.pure = (pTurn F.pure t.pure).2 ∧ TkOk F' c t' ∧ (t'.over = false → t'.gts.length ≤ 200) ∧ St base w0 w' (fbH F' ++ (gotH t'.r t'.gts ++ L))

set_option maxRecDepth 100000 in
set_option maxHeartbeats 4000000 in
theorem Turn_idle (F : FB) (hF : FbOk F) (c : Nat) (C : CP) (hc : F.cs[c]? = some C) (t : TK) (ht : TkOk F c t) (hlen0 : t.over = false → t.gts.length ≤ 200) (hidle : t.over = true ∨ C.alive = false ∨ 0 < C.waiting) (h : St base w0 w (fbH F ++ (gotH t.r t.gts ++ L))) (R : Ending → World → Prop)
    (hR : ∀ v w', TurnOut base w0 F c t L v w' → R (.returned v) w') :
    Calls Tryz.prog 33 #[fP F, tkV t] w R := by
  have h2 : St base w0 ((w.alloc (.cells (tkCs t) 54)).alloc (.cells zeroTk 54)) (zB12 (w.heap.size + 1) :: (tkB12 w.heap.size t :: (fbH F ++ (gotH t.r t.gts ++ L)))) := by
    have q := (h.alloc (.cells (tkCs t) 54)).alloc (.cells zeroTk 54)
    rw [World.size_alloc] at q
    exact q
  have h3 : St base w0 ((w.alloc (.cells (tkCs t) 54)).alloc (.cells (tkCs t) 54)) (fbH F ++ (gotH t.r t.gts ++ L)) := (h.junk _).junk _
  have hfb : St base w0 ((w.alloc (.cells (tkCs t) 54)).alloc (.cells zeroTk 54)) (fbH F ++ (zB12 (w.heap.size + 1) :: (tkB12 w.heap.size t :: (gotH t.r t.gts ++ L)))) := h2.ac (fun y => by simp only [cnt_append, cnt_cons]; omega)
  have hAl := Alive_calls F hF c C hc hfb
  have hWa := Waiting_calls F hF c C hc hfb
  have hpt : pTurn F.pure t.pure = (F.pure, t.pure) := by
    unfold pTurn
    have e1 : F.pure.cs[t.pure.client.toNat]? = some C.pure := by
      have : t.pure.client.toNat = c := by simp [TK.pure, ht.client]
      rw [this]; simp [FB.pure, hc]
    rw [e1]
    simp only
    rw [if_pos]
    exact hidle
  have hR9 := hR (tkV t) _ ⟨F, t, rfl, hF, rfl, rfl, rfl, by rw [hpt], by rw [hpt], ht, hlen0, h3⟩
  have hcl := ht.client
  have hw0 := (hF.cs c C hc).wait
  have hw00 : 0 ≤ C.waiting := by omega
  rw [← hcl] at hAl hWa
  have HR9 := Lib.hid hR9
  obtain ⟨wt, hwt⟩ : ∃ x, x = C.waiting := ⟨_, rfl⟩
  obtain ⟨al, hal⟩ : ∃ x, x = C.alive := ⟨_, rfl⟩
  rw [← hwt, ← hal] at hidle
  rw [← hwt] at hWa hw00
  rw [← hal] at hAl
  clear hw0 hR hpt hR9 hfb h2 h h3 ht hc hF hcl hwt hal hlen0
  obtain ⟨kind, client, job, r, gts, ov, bad, code, value⟩ := t
  simp only at hidle hAl hWa
  have HAL := Lib.hid hAl
  have HWA := Lib.hid hWa
  clear hAl hWa
  cases ov with
  | true =>
    clear hidle
    go_enter Tryz.func33, Tryz.ntmps33
    go_wp2
    exact bodyPost_ret (v := tkV ⟨kind, client, job, r, gts, true, bad, code, value⟩) (by simp [results, Tryz.results33, go_sem]) rfl HR9.out
  | false =>
    cases al with
    | false =>
      clear hidle
      go_enter Tryz.func33, Tryz.ntmps33
      go_wp2_with fail
      (refine Calls.mono HAL.out ?_; intro e w' hh; rw [hh.1, hh.2]; clear hh w' e)
      go_wp2
      exact bodyPost_ret (v := tkV ⟨kind, client, job, r, gts, false, bad, code, value⟩) (by simp [results, Tryz.results33, go_sem]) rfl HR9.out
    | true =>
      have hwI : 0 < wt := by simpa using hidle
      clear hidle
      go_enter Tryz.func33, Tryz.ntmps33
      go_wp2_with fail
      (refine Calls.mono HAL.out ?_; intro e w' hh; rw [hh.1, hh.2]; clear hh w' e)
      go_wp2_with fail
      (refine Calls.mono HWA.out ?_; intro e w' hh; rw [hh.1, hh.2]; clear hh w' e)
      go_wp2
      exact bodyPost_ret (v := tkV ⟨kind, client, job, r, gts, false, bad, code, value⟩) (by simp [results, Tryz.results33, go_sem]) rfl HR9.out

theorem pPost_len {F F' : FB} {c : Nat} {vs : List Vb} (h : F'.pure = pPost F.pure c vs) : F'.ns.length = F.ns.length ∧ F'.cs.length = F.cs.length := by
  have e1 := congrArg (fun P : PF => P.ns.length) h
  have e2 := congrArg (fun P : PF => P.cs.length) h
  unfold pPost at e1 e2
  simp only [FB.pure, List.length_map] at e1 e2
  constructor
  · rw [e1]; split <;> simp
  · rw [e2]; split <;> simp
theorem batch_of {nodes : Nat} {lines : Int} {j : PJ} {ra : Rw} {ask : List Vb} (hra : RowOk ra 9 ask.length (nvC ask)) (hl : ask.length ≤ 1000) (hp : 0 < ask.length) (hc : ∀ v ∈ ask, VCons nodes j v) (hn1 : 1 ≤ nodes) (hn5 : nodes ≤ 5) (h0 : 0 ≤ j.number) (h1 : j.number ≤ 15) (hl0 : 98 ≤ lines) (hl1 : lines ≤ 256) : BatchOk nodes lines ra (nv ask) := by
  refine ⟨by rw [nv_len]; exact hra, by rw [nv_len]; exact hp, by rw [nv_len]; exact hl, fun x hx => ?_⟩
  obtain ⟨v, hv, rfl⟩ := List.mem_map.1 hx
  exact (hc v hv).ok hn1 hn5 h0 h1 hl0 hl1
theorem gtC_one (gts : List GT) : ∀ u ∈ gts.flatMap gtC, u.oneCell' = true := by
  intro u hu
  obtain ⟨g, _, hg⟩ := List.mem_flatMap.1 hu
  simp only [gtC, List.mem_singleton] at hg
  rw [hg]; rfl
theorem Rng.snoc {gs : List (List Dn)} {d : List Dn} (h : Rng gs) (hd : ∀ x ∈ d, ∀ y ∈ x.words, W64 y) : Rng (gs ++ [d]) := by
  intro e he
  rcases List.mem_append.1 he with he | he
  · exact h e he
  · rw [List.mem_singleton] at he; rw [he]; exact hd
theorem GotOk.snoc {ro ro' : Rw} {gts : List GT} {g : GT} (h : GotOk ro gts) (hg : GtOk g) (hl : gts.length ≤ 900) (hr : RowOk ro' 1 (gts.length + 1) ((gts ++ [g]).flatMap gtC)) : GotOk ro' (gts ++ [g]) :=
  ⟨by simpa using hr, fun x hx => by
    rcases List.mem_append.1 hx with hx | hx
    · exact h.each x hx
    · rw [List.mem_singleton] at hx; rw [hx]; exact hg, by simp; omega⟩
theorem gotH_snoc (ro ro' : Rw) (gts : List GT) (g : GT) (y : Blk) : cnt y (gotH ro' (gts ++ [g])) = cnt y (rowH ro' 82 ((gts ++ [g]).flatMap gtC)) + cnt y (gts.flatMap gtH) + cnt y (gtH g) := by
  simp only [gotH, List.flatMap_append, List.flatMap_cons, List.flatMap_nil, List.append_nil, cnt_append]; omega

set_option maxRecDepth 100000 in
set_option maxHeartbeats 8000000 in
theorem Turn_first (F : FB) (hF : FbOk F) (c : Nat) (C : CP) (hc : F.cs[c]? = some C) (t : TK) (ht : TkOk F c t) (hov : t.over = false) (ha : C.alive = true) (hwt : C.waiting = 0) (hd : C.ds = []) (h : St base w0 w (fbH F ++ (gotH t.r t.gts ++ L))) (R : Ending → World → Prop)
    (hR : ∀ v w', TurnOut base w0 F c t L v w' → R (.returned v) w') :
    Calls Tryz.prog 33 #[fP F, tkV t] w R := by
  obtain ⟨W, hW⟩ : ∃ W, W = (w.alloc (.cells (tkCs t) 54)).alloc (.cells zeroTk 54) := ⟨_, rfl⟩
  obtain ⟨J, hJ⟩ : ∃ J : List Blk, J = [] := ⟨_, rfl⟩
  have h2 : St base w0 W (zB12 (w.heap.size + 1) :: (tkB12 w.heap.size t :: (fbH F ++ (gotH t.r t.gts ++ (J ++ L))))) := by
    have q := (h.alloc (.cells (tkCs t) 54)).alloc (.cells zeroTk 54)
    rw [World.size_alloc, ← hW] at q
    rw [hJ]
    exact q
  have hfb : St base w0 W (fbH F ++ (zB12 (w.heap.size + 1) :: (tkB12 w.heap.size t :: (gotH t.r t.gts ++ (J ++ L))))) := h2.ac (fun y => by simp only [cnt_append, cnt_cons]; omega)
  have hAl := Alive_calls F hF c C hc hfb
  have hWa := Waiting_calls F hF c C hc hfb
  have hTk := Take_no F hF c C hc ha hd hfb
  have hcl := ht.client
  have hpt : pTurn F.pure t.pure = if 200 < t.gts.length then (F.pure, { t.pure with over := true, bad := true }) else if (pNext t.job (gots t.gts)).2.2 = true then
      (F.pure, { t.pure with over := true, code := (pNext t.job (gots t.gts)).2.1.code, value := (pNext t.job (gots t.gts)).2.1.value }) else (pPost F.pure c (pNext t.job (gots t.gts)).1, { t.pure with over := false, code := (pNext t.job (gots t.gts)).2.1.code, value := (pNext t.job (gots t.gts)).2.1.value }) := by
    have ec : t.pure.client.toNat = c := by simp [TK.pure, hcl]
    have e1 : F.pure.cs[c]? = some C.pure := by simp [FB.pure, hc]
    have e2 : gotsTaken C.pure t.pure = gots t.gts := by unfold gotsTaken; rw [if_pos (by simp [CP.pure, hd])]; rfl
    have e3 : pTaken F.pure c C.pure = F.pure := by unfold pTaken; rw [if_pos (by simp [CP.pure, hd])]
    unfold pTurn
    rw [ec, e1]
    simp only [e2, e3]
    rw [if_neg (by simp [TK.pure, hov, CP.pure, ha, hwt])]
    simp only [List.length_map]
    rfl
  rw [ha] at hAl
  rw [hwt] at hWa
  rw [← hcl] at hAl hWa hTk
  obtain ⟨kind, client, job, r, gts, over, bad, code, value⟩ := t
  simp only at hov
  subst hov
  simp only at hAl hWa hTk hpt
  have HST := Lib.hid h2
  have HAL := Lib.hid hAl
  have HWA := Lib.hid hWa
  have HTK := Lib.hid hTk
  have HOK := Lib.hid ht
  have HPT := Lib.hid hpt
  have HR := Lib.hid hR
  have HF1 := Lib.hid hF
  have HC1 := Lib.hid (And.intro hc (And.intro ha hd))
  have HW := Lib.hid hW
  clear h2 hAl hWa hTk ht hpt hR hF hc ha hd hW h hfb hwt hcl hJ
  go_enter Tryz.func33, Tryz.ntmps33
  go_wp2_with fail
  rw [← HW.out]
  (refine Calls.mono HAL.out ?_; intro e w' hh; rw [hh.1, hh.2]; clear hh w' e)
  have ct := fun k => HST.out.cells (b := w.heap.size) (cs := tkCs ⟨kind, client, job, r, gts, false, bad, code, value⟩) (t := 54) (fr := (0, 0)) (by simp) k
  have cf := fun k => HST.out.frozen (b := w.heap.size) (cs := tkCs ⟨kind, client, job, r, gts, false, bad, code, value⟩) (t := 54) (by simp) k
  go_wp2_with fail
  (refine Calls.mono HWA.out ?_; intro e w' hh; rw [hh.1, hh.2]; clear hh w' e)
  go_wp2_with fail
  (refine Calls.mono HTK.out ?_; intro e w' hh; rw [hh.1, hh.2]; clear hh w' e)
  · skip

    have hlenN : ¬ (200 < gts.length) ∨ 200 < gts.length := by omega
    rcases hlenN with hlen | hlen
    · have hlenI : ¬ (200 : Int) < (gts.length : Int) := by omega
      have hpt := HPT.out
      rw [if_neg hlen] at hpt
      have hn := fun R hR => next_calls (base := base) (w0 := w0) (w := W) ⟨kind, client, job, r, gts, false, bad, code, value⟩ HOK.out.kind HOK.out.valid HOK.out.value HOK.out.got HOK.out.rng (L := zB12 (w.heap.size + 1) :: (tkB12 w.heap.size ⟨kind, client, job, r, gts, false, bad, code, value⟩ :: (fbH F ++ (gotH r gts ++ (J ++ L))))) (fun p hp => List.mem_cons_of_mem _ (List.mem_cons_of_mem _ (List.mem_append_right _ (List.mem_append_left _ hp)))) HST.out R hR
      have hcons := pNext_cons job (gots gts) (by have := HOK.out.nodes; simp only at this; omega)
      obtain ⟨pn, hpn⟩ : ∃ x, x = pNext job (gots gts) := ⟨_, rfl⟩
      have hnx : TK.nexted ⟨kind, client, job, r, gts, false, bad, code, value⟩ = ⟨kind, client, job, r, gts, pn.2.2, bad, pn.2.1.code, pn.2.1.value⟩ := by rw [hpn]; rfl
      have hnod := HOK.out.nodes
      simp only at hnod
      simp only [← hpn] at hn hcons hpt
      rw [hnx] at hn
      obtain ⟨ask, o, ov⟩ := pn
      simp only at hn hcons hpt
      have HN := Lib.hid hn
      have HCONS := Lib.hid hcons
      have HPT2 := Lib.hid hpt
      have HNOD := Lib.hid hnod
      clear hn hcons hpt hpn hnx HPT hlen hnod
      go_wp2_with fail
      refine HN.out _ ?_
      intro ra w6 hra hal hap h6
      have c6 := fun k => h6.cells (b := w.heap.size) (cs := tkCs ⟨kind, client, job, r, gts, false, bad, code, value⟩) (t := 54) (fr := (0, 0)) (by simp) k
      have f6 := fun k => h6.frozen (b := w.heap.size) (cs := tkCs ⟨kind, client, job, r, gts, false, bad, code, value⟩) (t := 54) (by simp) k
      have h7 := tk_put (tn := ⟨kind, client, job, r, gts, ov, bad, o.code, o.value⟩) (L := zB12 (w.heap.size + 1) :: (rowH ra 113 (nvC ask) ++ (fbH F ++ (gotH r gts ++ (J ++ L))))) (h6.ac (M := tkB12 w.heap.size ⟨kind, client, job, r, gts, false, bad, code, value⟩ :: (zB12 (w.heap.size + 1) :: (rowH ra 113 (nvC ask) ++ (fbH F ++ (gotH r gts ++ (J ++ L)))))) (fun y => by simp only [cnt_append, cnt_cons]; omega))
      obtain ⟨A2, hA2⟩ : ∃ A2, rowA ra = A2 := ⟨_, rfl⟩
      have era : rowV ra ask.length = .slice A2 ask.length (ask.length + ra.k) := by rw [← hA2]
      rw [era]
      obtain ⟨W7, hW7⟩ : ∃ W7, W7 = ((((((((((((w6.setCell ⟨w.heap.size, 0, none⟩ (.int .i64 kind)).setCell ⟨w.heap.size, 1, none⟩ (.int .i64 client)).setCell ⟨w.heap.size, 2, none⟩ (.int .i64 job.nodes)).setCell ⟨w.heap.size, 3, none⟩ (.int .i64 job.number)).setCell ⟨w.heap.size, 4, none⟩ (.int .i64 job.client)).setCell ⟨w.heap.size, 5, none⟩ (.int .i64 job.round)).setCell ⟨w.heap.size, 6, none⟩ (.int .u64 job.value)).setCell ⟨w.heap.size, 7, none⟩ (rowV r gts.length)).setCell ⟨w.heap.size, 8, none⟩ (.bool ov)).setCell ⟨w.heap.size, 9, none⟩ (.bool bad)).setCell ⟨w.heap.size, 10, none⟩ (.int .i64 o.code)).setCell ⟨w.heap.size, 11, none⟩ (.int .u64 o.value)) := ⟨_, rfl⟩
      rw [show (_ : World) = W7 from hW7.symm] at h7
      have HW7 := Lib.hid hW7
      clear hW7
      go_upto_region 10 with fail
      rw [← HW7.out]
      clear c6 f6
      cases ov with
      | true =>
        have hpt := HPT2.out
        simp only [if_true] at hpt
        have h8 : St base w0 W7 (zB12 (w.heap.size + 1) :: (tkB12 w.heap.size ⟨kind, client, job, r, gts, true, bad, o.code, o.value⟩ :: (rowH ra 113 (nvC ask) ++ (fbH F ++ (gotH r gts ++ (J ++ L)))))) := h7.second
        have c8 := fun k => h8.cells (b := w.heap.size) (cs := tkCs ⟨kind, client, job, r, gts, true, bad, o.code, o.value⟩) (t := 54) (fr := (0, 0)) (by simp) k
        have z8 := fun k => h8.cells (t := 54) (fr := (0, 0)) List.mem_cons_self k
        have zf8 := fun k => h8.frozen (t := 54) List.mem_cons_self k
        have hend := tk_put (tn := ⟨kind, client, job, r, gts, true, bad, o.code, o.value⟩) h8
        have H9 := Lib.hid (HR.out (tkV ⟨kind, client, job, r, gts, true, bad, o.code, o.value⟩) _ ⟨F, _, rfl, HF1.out, rfl, rfl, rfl, by rw [hpt], by rw [hpt]; rfl, ⟨HOK.out.kind, HOK.out.client, HOK.out.valid, HOK.out.value, HOK.out.nodes, HOK.out.num0, HOK.out.num1, HOK.out.got, HOK.out.rng, HOK.out.len⟩, fun e => (by cases e), St.drop (L := tkB12 (w.heap.size + 1) ⟨kind, client, job, r, gts, true, bad, o.code, o.value⟩ :: (tkB12 w.heap.size ⟨kind, client, job, r, gts, true, bad, o.code, o.value⟩ :: (rowH ra 113 (nvC ask) ++ J))) (hend.ac (fun y => by simp only [cnt_append, cnt_cons]; omega))⟩)
        clear hpt h8 hend h6 h7 hra era HST HN HR HCONS HPT2 HW7
        go_wp2
        exact bodyPost_ret (v := tkV ⟨kind, client, job, r, gts, true, bad, o.code, o.value⟩) (by simp [results, Tryz.results33, go_sem, z8]) rfl H9.out
      | false =>
        have hpt := HPT2.out
        simp only [Bool.false_eq_true, if_false] at hpt
        have h8 : St base w0 W7 (zB12 (w.heap.size + 1) :: (tkB12 w.heap.size ⟨kind, client, job, r, gts, false, bad, o.code, o.value⟩ :: (rowH ra 113 (nvC ask) ++ (fbH F ++ (gotH r gts ++ (J ++ L)))))) := h7.second
        have c8 := fun k => h8.cells (b := w.heap.size) (cs := tkCs ⟨kind, client, job, r, gts, false, bad, o.code, o.value⟩) (t := 54) (fr := (0, 0)) (by simp) k
        have hapos : 0 < ask.length := hap rfl
        have hn1 := HF1.out.n0
        have hn5 := HF1.out.n1
        have hbt : BatchOk F.ns.length F.lines ra (nv ask) := batch_of hra hal hapos (fun v hv => by have q := HCONS.out v hv; rw [HNOD.out] at q; exact q) hn1 hn5 HOK.out.num0 HOK.out.num1 HF1.out.l0 HF1.out.l1
        have hpo := fun R hR => FPost_calls (base := base) (w0 := w0) (w := W7) F HF1.out c C HC1.out.1 HC1.out.2.1 HC1.out.2.2 ra (nv ask) hbt (L := zB12 (w.heap.size + 1) :: (tkB12 w.heap.size ⟨kind, client, job, r, gts, false, bad, o.code, o.value⟩ :: (rowH ra 113 (nvC ask) ++ (gotH r gts ++ (J ++ L))))) (nv_mem (fun p hp => List.mem_cons_of_mem _ (List.mem_cons_of_mem _ (List.mem_append_left _ hp)))) (h8.ac (fun y => by simp only [cnt_append, cnt_cons]; omega)) R hR
        rw [nv_len, nv_fst] at hpo
        have hcl := HOK.out.client
        simp only at hcl
        have hpo2 : ∀ R hR, Calls _ _ _ _ R := hpo
        rw [era, ← hcl] at hpo
        have HPO := Lib.hid hpo
        have HPT3 := Lib.hid hpt
        clear hpt h8 h6 h7 hra era HST HN HCONS HPT2 HW7 hbt hpo hpo2 hcl
        go_wp2_with fail
        refine HPO.out _ ?_
        intro F' w9 q1 q2 q3 h10
        have h11 : St base w0 w9 (zB12 (w.heap.size + 1) :: (tkB12 w.heap.size ⟨kind, client, job, r, gts, false, bad, o.code, o.value⟩ :: (fbH F' ++ (rowH ra 113 (nvC ask) ++ (gotH r gts ++ (J ++ L)))))) := h10.ac (fun y => by simp only [cnt_append, cnt_cons]; omega)
        have c11 := fun k => h11.cells (b := w.heap.size) (cs := tkCs ⟨kind, client, job, r, gts, false, bad, o.code, o.value⟩) (t := 54) (fr := (0, 0)) (by simp) k
        have z8 := fun k => h11.cells (t := 54) (fr := (0, 0)) List.mem_cons_self k
        have zf8 := fun k => h11.frozen (t := 54) List.mem_cons_self k
        have hend := tk_put (tn := ⟨kind, client, job, r, gts, false, bad, o.code, o.value⟩) h11
        obtain ⟨hl1, hl2⟩ := pPost_len q3
        have H9 := Lib.hid (HR.out (tkV ⟨kind, client, job, r, gts, false, bad, o.code, o.value⟩) _ ⟨F', _, rfl, q1, q2, hl1, hl2.trans (rfl), by rw [HPT3.out]; exact q3, by rw [HPT3.out]; rfl, ⟨HOK.out.kind, HOK.out.client, HOK.out.valid, HOK.out.value, by rw [hl1]; exact HOK.out.nodes, HOK.out.num0, HOK.out.num1, HOK.out.got, HOK.out.rng, HOK.out.len⟩, fun _ => (by simp only; omega), St.drop (L := tkB12 (w.heap.size + 1) ⟨kind, client, job, r, gts, false, bad, o.code, o.value⟩ :: (tkB12 w.heap.size ⟨kind, client, job, r, gts, false, bad, o.code, o.value⟩ :: (rowH ra 113 (nvC ask) ++ J))) (hend.ac (fun y => by simp only [cnt_append, cnt_cons]; omega))⟩)
        clear h10 h11 hend q1 q2 q3 hl1 hl2 HPO HPT3 HR c8
        go_wp2
        exact bodyPost_ret (v := tkV ⟨kind, client, job, r, gts, false, bad, o.code, o.value⟩) (by simp [results, Tryz.results33, go_sem, z8]) rfl H9.out
    · have hlenI : (200 : Int) < (gts.length : Int) := by omega
      have hpt := HPT.out
      rw [if_pos hlen] at hpt
      have h7 : St base w0 ((W.setCell ⟨w.heap.size, 8, none⟩ (.bool true)).setCell ⟨w.heap.size, 9, none⟩ (.bool true)) (tkB12 w.heap.size ⟨kind, client, job, r, gts, true, true, code, value⟩ :: (zB12 (w.heap.size + 1) :: (fbH F ++ (gotH r gts ++ (J ++ L))))) := (HST.out.second.set 8 (.bool true)).set 9 (.bool true)
      obtain ⟨W7, hW7⟩ : ∃ W7, W7 = (W.setCell ⟨w.heap.size, 8, none⟩ (.bool true)).setCell ⟨w.heap.size, 9, none⟩ (.bool true) := ⟨_, rfl⟩
      rw [← hW7] at h7
      have h8 := h7.second
      have c8 := fun k => h8.cells (b := w.heap.size) (cs := tkCs ⟨kind, client, job, r, gts, true, true, code, value⟩) (t := 54) (fr := (0, 0)) (by simp) k
      have z8 := fun k => h8.cells (t := 54) (fr := (0, 0)) List.mem_cons_self k
      have zf8 := fun k => h8.frozen (t := 54) List.mem_cons_self k
      have hend := tk_put (tn := ⟨kind, client, job, r, gts, true, true, code, value⟩) h8
      have H9 := Lib.hid (HR.out (tkV ⟨kind, client, job, r, gts, true, true, code, value⟩) _ ⟨F, _, rfl, HF1.out, rfl, rfl, rfl, by rw [hpt], by rw [hpt]; rfl, ⟨HOK.out.kind, HOK.out.client, HOK.out.valid, HOK.out.value, HOK.out.nodes, HOK.out.num0, HOK.out.num1, HOK.out.got, HOK.out.rng, HOK.out.len⟩, fun e => (by cases e), St.drop (L := tkB12 (w.heap.size + 1) ⟨kind, client, job, r, gts, true, true, code, value⟩ :: (tkB12 w.heap.size ⟨kind, client, job, r, gts, true, true, code, value⟩ :: J)) (hend.ac (fun y => by simp only [cnt_append, cnt_cons]; omega))⟩)
      have HW7 := Lib.hid hW7
      clear hW7 h7 h8 hend HR HPT hpt hlen
      go_upto_region 8 with fail
      rw [← HW7.out]
      clear ct cf
      go_wp2
      exact bodyPost_ret (v := tkV ⟨kind, client, job, r, gts, true, true, code, value⟩) (by simp [results, Tryz.results33, go_sem, z8]) rfl H9.out

set_option maxRecDepth 100000 in
set_option maxHeartbeats 8000000 in
theorem Turn_more (F : FB) (hF : FbOk F) (c : Nat) (C : CP) (hc : F.cs[c]? = some C) (t : TK) (ht : TkOk F c t) (hlen0 : t.over = false → t.gts.length ≤ 200) (hov : t.over = false) (ha : C.alive = true) (hwt : C.waiting = 0) (hd : C.ds ≠ []) (hdr : DsRng C) (h : St base w0 w (fbH F ++ (gotH t.r t.gts ++ L))) (R : Ending → World → Prop)
    (hR : ∀ v w', TurnOut base w0 F c t L v w' → R (.returned v) w') :
    Calls Tryz.prog 33 #[fP F, tkV t] w R := by
  obtain ⟨W2, hW2⟩ : ∃ W, W = (w.alloc (.cells (tkCs t) 54)).alloc (.cells zeroTk 54) := ⟨_, rfl⟩
  have h2 : St base w0 W2 (zB12 (w.heap.size + 1) :: (tkB12 w.heap.size t :: (fbH F ++ (gotH t.r t.gts ++ L)))) := by
    have q := (h.alloc (.cells (tkCs t) 54)).alloc (.cells zeroTk 54)
    rw [World.size_alloc, ← hW2] at q
    exact q
  have hfb : St base w0 W2 (fbH F ++ (zB12 (w.heap.size + 1) :: (tkB12 w.heap.size t :: (gotH t.r t.gts ++ L)))) := h2.ac (fun y => by simp only [cnt_append, cnt_cons]; omega)
  have hC := hF.cs c C hc
  have hAl := Alive_calls F hF c C hc hfb
  have hWa := Waiting_calls F hF c C hc hfb
  have hTk := fun R hR => Take_yes F hF c C hc ha hd hwt hfb R hR
  have hcl := ht.client
  have hgok : GtOk ⟨C.br, C.ds⟩ := ⟨hC.br, hC.dlen, hC.ds⟩
  obtain ⟨F1, hF1e⟩ : ∃ x : FB, x = { F with cs := F.cs.set c C.taken } := ⟨_, rfl⟩
  rw [← hF1e] at hTk
  have hF1p : F1.pure = pTake F.pure c := by
    rw [hF1e, pure_setCp]
    unfold pTake
    have e1 : F.pure.cs[c]? = some C.pure := by simp [FB.pure, hc]
    rw [e1]
    simp [CP.pure, CP.taken]
  have hF1n : F1.fb = F.fb ∧ F1.ns = F.ns ∧ F1.ns.length = F.ns.length ∧ F1.cs.length = F.cs.length := by rw [hF1e]; exact ⟨rfl, rfl, rfl, by simp⟩
  have hF1c : F1.cs[c]? = some C.taken := by rw [hF1e]; simp [(List.getElem?_eq_some_iff.1 hc).1]
  obtain ⟨gs2, hgs2⟩ : ∃ x : List GT, x = t.gts ++ [⟨C.br, C.ds⟩] := ⟨_, rfl⟩
  have hgl2 : gs2.length = t.gts.length + 1 := by rw [hgs2]; simp
  have hgp : gots gs2 = gots t.gts ++ [C.ds.map (·.1)] := by rw [hgs2]; simp
  have hpt : pTurn F.pure t.pure = if 200 < gs2.length then (F1.pure, { t.pure with gots := gots gs2, over := true, bad := true }) else if (pNext t.job (gots gs2)).2.2 = true then
      (F1.pure, { t.pure with gots := gots gs2, over := true, code := (pNext t.job (gots gs2)).2.1.code, value := (pNext t.job (gots gs2)).2.1.value }) else (pPost F1.pure c (pNext t.job (gots gs2)).1, { t.pure with gots := gots gs2, over := false, code := (pNext t.job (gots gs2)).2.1.code, value := (pNext t.job (gots gs2)).2.1.value }) := by
    have ec : t.pure.client.toNat = c := by simp [TK.pure, hcl]
    have e1 : F.pure.cs[c]? = some C.pure := by simp [FB.pure, hc]
    have hdn : C.pure.ds ≠ [] := by simp [CP.pure, hd]
    have e2 : gotsTaken C.pure t.pure = gots gs2 := by unfold gotsTaken; rw [if_neg hdn, hgp]; rfl
    have e3 : pTaken F.pure c C.pure = F1.pure := by unfold pTaken; rw [if_neg hdn, hF1p]
    unfold pTurn
    rw [ec, e1]
    simp only [e2, e3]
    rw [if_neg (by simp [TK.pure, hov, CP.pure, ha, hwt])]
    simp only [List.length_map]
    rfl
  have hgot := ht.got
  have hgl0 := hlen0 hov
  have hrng2 : Rng (gots gs2) := by
    rw [hgp]
    refine ht.rng.snoc (fun x hx y hy => ?_)
    obtain ⟨d, hd', rfl⟩ := List.mem_map.1 hx
    exact hdr d hd' y hy
  rw [ha] at hAl
  rw [hwt] at hWa
  rw [← hcl] at hAl hWa hTk
  have hok1 : ∀ r2, RowOk r2 1 (t.gts.length + 1) (gs2.flatMap gtC) → TkOk F1 c ⟨t.kind, t.client, t.job, r2, gs2, false, t.bad, t.code, t.value⟩ := fun r2 hr2 => by
    refine ⟨ht.kind, ht.client, ht.valid, ht.value, by rw [hF1n.2.2.1]; exact ht.nodes, ht.num0, ht.num1, ?_, hrng2, by simp only [hgl2]; omega⟩
    rw [hgs2] at hr2 ⊢
    exact hgot.snoc hgok (by omega) hr2
  have hC1 : F1.cs[c]? = some C.taken ∧ C.taken.alive = true ∧ C.taken.ds = [] := ⟨hF1c, ha, rfl⟩
  have hsub : ∀ y r2, cnt y (gotH r2 gs2) = cnt y (rowH r2 82 (gs2.flatMap gtC)) + cnt y (t.gts.flatMap gtH) + (cnt y (rowH C.br 94 (C.ds.flatMap dnC)) + cnt y (C.ds.flatMap dnH)) := fun y r2 => by
    rw [hgs2, gotH_snoc r2 r2 t.gts ⟨C.br, C.ds⟩ y]; simp only [gtH, cnt_append]
  have hfl : gs2.flatMap gtC = t.gts.flatMap gtC ++ [rowV C.br C.ds.length] := by rw [hgs2]; simp [gtC]
  obtain ⟨kind, client, job, r, gts, over, bad, code, value⟩ := t
  simp only at hov
  subst hov
  simp only at hAl hWa hTk hpt hgot hgl0 hgl2 hok1 hsub hfl
  have H2 := Lib.hid h2
  have HAL := Lib.hid hAl
  have HWA := Lib.hid hWa
  have HTK := Lib.hid hTk
  have HOK1 := Lib.hid hok1
  have HPT := Lib.hid hpt
  have HR := Lib.hid hR
  have HF1N := Lib.hid hF1n
  have HC1 := Lib.hid hC1
  have HGOT := Lib.hid hgot
  have HGL2 := Lib.hid hgl2
  have HSUB := Lib.hid hsub
  have HFL := Lib.hid hfl
  have HW2 := Lib.hid hW2
  clear h2 hAl hWa hTk ht hpt hR hF hc ha hd hW2 h hfb hwt hcl hC hgok hF1e hF1p hF1n hF1c hgs2 hgp hgl2 hgot hrng2 hok1 hC1 hsub hfl hdr hlen0
  go_enter Tryz.func33, Tryz.ntmps33
  go_wp2_with fail
  rw [← HW2.out]
  (refine Calls.mono HAL.out ?_; intro e w' hh; rw [hh.1, hh.2]; clear hh w' e)
  have ct := fun k => H2.out.cells (b := w.heap.size) (cs := tkCs ⟨kind, client, job, r, gts, false, bad, code, value⟩) (t := 54) (fr := (0, 0)) (by simp) k
  go_wp2_with fail
  (refine Calls.mono HWA.out ?_; intro e w' hh; rw [hh.1, hh.2]; clear hh w' e)
  go_wp2_with fail
  refine HTK.out _ ?_
  intro w3 hF1 h3
  have HF1 := Lib.hid hF1
  have h3b : St base w0 w3 (rowH nilRw 82 [] ++ (rowH r 82 (gts.flatMap gtC) ++ (tkB12 w.heap.size ⟨kind, client, job, r, gts, false, bad, code, value⟩ :: (zB12 (w.heap.size + 1) :: (fbH F1 ++ (rowH C.br 94 (C.ds.flatMap dnC) ++ (C.ds.flatMap dnH ++ (gts.flatMap gtH ++ L)))))))) := by
    rw [rowH_nil, List.nil_append]
    exact h3.ac (fun y => by simp only [gotH, cnt_append, cnt_cons]; omega)
  have ct3 := fun k => h3b.cells (b := w.heap.size) (cs := tkCs ⟨kind, client, job, r, gts, false, bad, code, value⟩) (t := 54) (fr := (0, 0)) (by simp) k
  have H3 := Lib.hid h3b
  clear h3 h3b hF1 ct H2 HW2 HAL HWA HTK
  go_wp2_with (at_builtin; refine wp_appendRow elem_got rfl _ _ rfl nilRw 0 [] rfl (nilRw_ok 1) r gts.length (gts.flatMap gtC) rfl HGOT.out.ro H3.out (gtC_one gts) (by omega) ?_)
  intro r1 w4 hr1 h4
  try simp only [Nat.zero_add, List.nil_append] at hr1 h4
  have HR1 := Lib.hid hr1
  have H4 := Lib.hid h4
  clear hr1 h4 ct3 H3
  try simp only [Nat.zero_add]
  go_wp2_with (at_builtin; refine wp_append1 elem_got rfl _ _ rfl r1 gts.length _ rfl HR1.out H4.out (rowV C.br C.ds.length) rfl rfl (by omega) ?_)
  intro r2 w5 hr2 h5 _ _
  rw [← HFL.out] at hr2 h5
  have HOK := Lib.hid (HOK1.out r2 hr2)
  have h5b : St base w0 w5 (tkB12 w.heap.size ⟨kind, client, job, r, gts, false, bad, code, value⟩ :: (zB12 (w.heap.size + 1) :: (fbH F1 ++ (gotH r2 gs2 ++ (rowH r 82 (gts.flatMap gtC) ++ L))))) := h5.ac (fun y => by have e := HSUB.out y r2; simp only [cnt_append, cnt_cons] at e ⊢; omega)
  have ct5 := fun k => h5b.cells (b := w.heap.size) (cs := tkCs ⟨kind, client, job, r, gts, false, bad, code, value⟩) (t := 54) (fr := (0, 0)) List.mem_cons_self k
  have cf5 := fun k => h5b.frozen (b := w.heap.size) (cs := tkCs ⟨kind, client, job, r, gts, false, bad, code, value⟩) (t := 54) List.mem_cons_self k
  obtain ⟨J, hJ⟩ : ∃ J : List Blk, J = rowH r 82 (gts.flatMap gtC) := ⟨_, rfl⟩
  rw [← hJ] at h5b
  have h6 := h5b.set 7 (rowV r2 (gts.length + 1))
  obtain ⟨W, hW⟩ : ∃ W, W = w5.setCell ⟨w.heap.size, 7, none⟩ (rowV r2 (gts.length + 1)) := ⟨_, rfl⟩
  rw [← hW] at h6
  have h6b : St base w0 W (zB12 (w.heap.size + 1) :: (tkB12 w.heap.size ⟨kind, client, job, r2, gs2, false, bad, code, value⟩ :: (fbH F1 ++ (gotH r2 gs2 ++ (J ++ L))))) := by
    have e : (tkCs ⟨kind, client, job, r, gts, false, bad, code, value⟩).setIfInBounds 7 (rowV r2 (gts.length + 1)) = tkCs ⟨kind, client, job, r2, gs2, false, bad, code, value⟩ := by simp only [tkCs, HGL2.out]; rfl
    rw [e] at h6
    exact h6.second
  have HST := Lib.hid h6b
  have HW := Lib.hid hW
  clear hr2 h5 h5b h6 h6b hJ hW H4 HR1 HSUB HFL HOK1
  go_upto_region 6 with fail
  rw [← HW.out]
  clear ct5 cf5
  have ct := fun k => HST.out.cells (b := w.heap.size) (cs := tkCs ⟨kind, client, job, r2, gs2, false, bad, code, value⟩) (t := 54) (fr := (0, 0)) (by simp) k
  have cf := fun k => HST.out.frozen (b := w.heap.size) (cs := tkCs ⟨kind, client, job, r2, gs2, false, bad, code, value⟩) (t := 54) (by simp) k
  have hgsl : gs2.length ≤ 1000 := by have := HGL2.out; omega
  · skip

    have hlenN : ¬ (200 < gs2.length) ∨ 200 < gs2.length := by omega
    rcases hlenN with hlen | hlen
    · have hlenI : ¬ (200 : Int) < (gs2.length : Int) := by omega
      have hpt := HPT.out
      rw [if_neg hlen] at hpt
      have hn := fun R hR => next_calls (base := base) (w0 := w0) (w := W) ⟨kind, client, job, r2, gs2, false, bad, code, value⟩ HOK.out.kind HOK.out.valid HOK.out.value HOK.out.got HOK.out.rng (L := zB12 (w.heap.size + 1) :: (tkB12 w.heap.size ⟨kind, client, job, r2, gs2, false, bad, code, value⟩ :: (fbH F1 ++ (gotH r2 gs2 ++ (J ++ L))))) (fun p hp => List.mem_cons_of_mem _ (List.mem_cons_of_mem _ (List.mem_append_right _ (List.mem_append_left _ hp)))) HST.out R hR
      have hcons := pNext_cons job (gots gs2) (by have := HOK.out.nodes; simp only at this; omega)
      obtain ⟨pn, hpn⟩ : ∃ x, x = pNext job (gots gs2) := ⟨_, rfl⟩
      have hnx : TK.nexted ⟨kind, client, job, r2, gs2, false, bad, code, value⟩ = ⟨kind, client, job, r2, gs2, pn.2.2, bad, pn.2.1.code, pn.2.1.value⟩ := by rw [hpn]; rfl
      have hnod := HOK.out.nodes
      simp only at hnod
      simp only [← hpn] at hn hcons hpt
      rw [hnx] at hn
      obtain ⟨ask, o, ov⟩ := pn
      simp only at hn hcons hpt
      have HN := Lib.hid hn
      have HCONS := Lib.hid hcons
      have HPT2 := Lib.hid hpt
      have HNOD := Lib.hid hnod
      clear hn hcons hpt hpn hnx HPT hlen hnod
      go_wp2_with fail
      refine HN.out _ ?_
      intro ra w6 hra hal hap h6
      have c6 := fun k => h6.cells (b := w.heap.size) (cs := tkCs ⟨kind, client, job, r2, gs2, false, bad, code, value⟩) (t := 54) (fr := (0, 0)) (by simp) k
      have f6 := fun k => h6.frozen (b := w.heap.size) (cs := tkCs ⟨kind, client, job, r2, gs2, false, bad, code, value⟩) (t := 54) (by simp) k
      have h7 := tk_put (tn := ⟨kind, client, job, r2, gs2, ov, bad, o.code, o.value⟩) (L := zB12 (w.heap.size + 1) :: (rowH ra 113 (nvC ask) ++ (fbH F1 ++ (gotH r2 gs2 ++ (J ++ L))))) (h6.ac (M := tkB12 w.heap.size ⟨kind, client, job, r2, gs2, false, bad, code, value⟩ :: (zB12 (w.heap.size + 1) :: (rowH ra 113 (nvC ask) ++ (fbH F1 ++ (gotH r2 gs2 ++ (J ++ L)))))) (fun y => by simp only [cnt_append, cnt_cons]; omega))
      obtain ⟨A2, hA2⟩ : ∃ A2, rowA ra = A2 := ⟨_, rfl⟩
      have era : rowV ra ask.length = .slice A2 ask.length (ask.length + ra.k) := by rw [← hA2]
      rw [era]
      obtain ⟨W7, hW7⟩ : ∃ W7, W7 = ((((((((((((w6.setCell ⟨w.heap.size, 0, none⟩ (.int .i64 kind)).setCell ⟨w.heap.size, 1, none⟩ (.int .i64 client)).setCell ⟨w.heap.size, 2, none⟩ (.int .i64 job.nodes)).setCell ⟨w.heap.size, 3, none⟩ (.int .i64 job.number)).setCell ⟨w.heap.size, 4, none⟩ (.int .i64 job.client)).setCell ⟨w.heap.size, 5, none⟩ (.int .i64 job.round)).setCell ⟨w.heap.size, 6, none⟩ (.int .u64 job.value)).setCell ⟨w.heap.size, 7, none⟩ (rowV r2 gs2.length)).setCell ⟨w.heap.size, 8, none⟩ (.bool ov)).setCell ⟨w.heap.size, 9, none⟩ (.bool bad)).setCell ⟨w.heap.size, 10, none⟩ (.int .i64 o.code)).setCell ⟨w.heap.size, 11, none⟩ (.int .u64 o.value)) := ⟨_, rfl⟩
      rw [show (_ : World) = W7 from hW7.symm] at h7
      have HW7 := Lib.hid hW7
      clear hW7
      go_upto_region 10 with fail
      rw [← HW7.out]
      clear c6 f6
      cases ov with
      | true =>
        have hpt := HPT2.out
        simp only [if_true] at hpt
        have h8 : St base w0 W7 (zB12 (w.heap.size + 1) :: (tkB12 w.heap.size ⟨kind, client, job, r2, gs2, true, bad, o.code, o.value⟩ :: (rowH ra 113 (nvC ask) ++ (fbH F1 ++ (gotH r2 gs2 ++ (J ++ L)))))) := h7.second
        have c8 := fun k => h8.cells (b := w.heap.size) (cs := tkCs ⟨kind, client, job, r2, gs2, true, bad, o.code, o.value⟩) (t := 54) (fr := (0, 0)) (by simp) k
        have z8 := fun k => h8.cells (t := 54) (fr := (0, 0)) List.mem_cons_self k
        have zf8 := fun k => h8.frozen (t := 54) List.mem_cons_self k
        have hend := tk_put (tn := ⟨kind, client, job, r2, gs2, true, bad, o.code, o.value⟩) h8
        have H9 := Lib.hid (HR.out (tkV ⟨kind, client, job, r2, gs2, true, bad, o.code, o.value⟩) _ ⟨F1, _, rfl, HF1.out, HF1N.out.1, HF1N.out.2.2.1, HF1N.out.2.2.2, by rw [hpt], by rw [hpt]; rfl, ⟨HOK.out.kind, HOK.out.client, HOK.out.valid, HOK.out.value, HOK.out.nodes, HOK.out.num0, HOK.out.num1, HOK.out.got, HOK.out.rng, HOK.out.len⟩, fun e => (by cases e), St.drop (L := tkB12 (w.heap.size + 1) ⟨kind, client, job, r2, gs2, true, bad, o.code, o.value⟩ :: (tkB12 w.heap.size ⟨kind, client, job, r2, gs2, true, bad, o.code, o.value⟩ :: (rowH ra 113 (nvC ask) ++ J))) (hend.ac (fun y => by simp only [cnt_append, cnt_cons]; omega))⟩)
        clear hpt h8 hend h6 h7 hra era HST HN HR HCONS HPT2 HW7
        go_wp2
        exact bodyPost_ret (v := tkV ⟨kind, client, job, r2, gs2, true, bad, o.code, o.value⟩) (by simp [results, Tryz.results33, go_sem, z8]) rfl H9.out
      | false =>
        have hpt := HPT2.out
        simp only [Bool.false_eq_true, if_false] at hpt
        have h8 : St base w0 W7 (zB12 (w.heap.size + 1) :: (tkB12 w.heap.size ⟨kind, client, job, r2, gs2, false, bad, o.code, o.value⟩ :: (rowH ra 113 (nvC ask) ++ (fbH F1 ++ (gotH r2 gs2 ++ (J ++ L)))))) := h7.second
        have c8 := fun k => h8.cells (b := w.heap.size) (cs := tkCs ⟨kind, client, job, r2, gs2, false, bad, o.code, o.value⟩) (t := 54) (fr := (0, 0)) (by simp) k
        have hapos : 0 < ask.length := hap rfl
        have hn1 := HF1.out.n0
        have hn5 := HF1.out.n1
        have hbt : BatchOk F1.ns.length F1.lines ra (nv ask) := batch_of hra hal hapos (fun v hv => by have q := HCONS.out v hv; rw [HNOD.out] at q; exact q) hn1 hn5 HOK.out.num0 HOK.out.num1 HF1.out.l0 HF1.out.l1
        have hpo := fun R hR => FPost_calls (base := base) (w0 := w0) (w := W7) F1 HF1.out c C.taken HC1.out.1 HC1.out.2.1 HC1.out.2.2 ra (nv ask) hbt (L := zB12 (w.heap.size + 1) :: (tkB12 w.heap.size ⟨kind, client, job, r2, gs2, false, bad, o.code, o.value⟩ :: (rowH ra 113 (nvC ask) ++ (gotH r2 gs2 ++ (J ++ L))))) (nv_mem (fun p hp => List.mem_cons_of_mem _ (List.mem_cons_of_mem _ (List.mem_append_left _ hp)))) (h8.ac (fun y => by simp only [cnt_append, cnt_cons]; omega)) R hR
        rw [nv_len, nv_fst] at hpo
        have hcl := HOK.out.client
        simp only at hcl
        have hpo2 : ∀ R hR, Calls _ _ _ _ R := hpo
        rw [era, ← hcl] at hpo
        rw [show fP F1 = fP F by simp only [fP, HF1N.out.1]] at hpo
        have HPO := Lib.hid hpo
        have HPT3 := Lib.hid hpt
        clear hpt h8 h6 h7 hra era HST HN HCONS HPT2 HW7 hbt hpo hpo2 hcl
        go_wp2_with fail
        refine HPO.out _ ?_
        intro F' w9 q1 q2 q3 h10
        have h11 : St base w0 w9 (zB12 (w.heap.size + 1) :: (tkB12 w.heap.size ⟨kind, client, job, r2, gs2, false, bad, o.code, o.value⟩ :: (fbH F' ++ (rowH ra 113 (nvC ask) ++ (gotH r2 gs2 ++ (J ++ L)))))) := h10.ac (fun y => by simp only [cnt_append, cnt_cons]; omega)
        have c11 := fun k => h11.cells (b := w.heap.size) (cs := tkCs ⟨kind, client, job, r2, gs2, false, bad, o.code, o.value⟩) (t := 54) (fr := (0, 0)) (by simp) k
        have z8 := fun k => h11.cells (t := 54) (fr := (0, 0)) List.mem_cons_self k
        have zf8 := fun k => h11.frozen (t := 54) List.mem_cons_self k
        have hend := tk_put (tn := ⟨kind, client, job, r2, gs2, false, bad, o.code, o.value⟩) h11
        obtain ⟨hl1, hl2⟩ := pPost_len q3
        have H9 := Lib.hid (HR.out (tkV ⟨kind, client, job, r2, gs2, false, bad, o.code, o.value⟩) _ ⟨F', _, rfl, q1, q2.trans HF1N.out.1, hl1.trans HF1N.out.2.2.1, hl2.trans (HF1N.out.2.2.2), by rw [HPT3.out]; exact q3, by rw [HPT3.out]; rfl, ⟨HOK.out.kind, HOK.out.client, HOK.out.valid, HOK.out.value, by rw [hl1]; exact HOK.out.nodes, HOK.out.num0, HOK.out.num1, HOK.out.got, HOK.out.rng, HOK.out.len⟩, fun _ => (by simp only; omega), St.drop (L := tkB12 (w.heap.size + 1) ⟨kind, client, job, r2, gs2, false, bad, o.code, o.value⟩ :: (tkB12 w.heap.size ⟨kind, client, job, r2, gs2, false, bad, o.code, o.value⟩ :: (rowH ra 113 (nvC ask) ++ J))) (hend.ac (fun y => by simp only [cnt_append, cnt_cons]; omega))⟩)
        clear h10 h11 hend q1 q2 q3 hl1 hl2 HPO HPT3 HR c8
        go_wp2
        exact bodyPost_ret (v := tkV ⟨kind, client, job, r2, gs2, false, bad, o.code, o.value⟩) (by simp [results, Tryz.results33, go_sem, z8]) rfl H9.out
    · have hlenI : (200 : Int) < (gs2.length : Int) := by omega
      have hpt := HPT.out
      rw [if_pos hlen] at hpt
      have h7 : St base w0 ((W.setCell ⟨w.heap.size, 8, none⟩ (.bool true)).setCell ⟨w.heap.size, 9, none⟩ (.bool true)) (tkB12 w.heap.size ⟨kind, client, job, r2, gs2, true, true, code, value⟩ :: (zB12 (w.heap.size + 1) :: (fbH F1 ++ (gotH r2 gs2 ++ (J ++ L))))) := (HST.out.second.set 8 (.bool true)).set 9 (.bool true)
      obtain ⟨W7, hW7⟩ : ∃ W7, W7 = (W.setCell ⟨w.heap.size, 8, none⟩ (.bool true)).setCell ⟨w.heap.size, 9, none⟩ (.bool true) := ⟨_, rfl⟩
      rw [← hW7] at h7
      have h8 := h7.second
      have c8 := fun k => h8.cells (b := w.heap.size) (cs := tkCs ⟨kind, client, job, r2, gs2, true, true, code, value⟩) (t := 54) (fr := (0, 0)) (by simp) k
      have z8 := fun k => h8.cells (t := 54) (fr := (0, 0)) List.mem_cons_self k
      have zf8 := fun k => h8.frozen (t := 54) List.mem_cons_self k
      have hend := tk_put (tn := ⟨kind, client, job, r2, gs2, true, true, code, value⟩) h8
      have H9 := Lib.hid (HR.out (tkV ⟨kind, client, job, r2, gs2, true, true, code, value⟩) _ ⟨F1, _, rfl, HF1.out, HF1N.out.1, HF1N.out.2.2.1, HF1N.out.2.2.2, by rw [hpt], by rw [hpt]; rfl, ⟨HOK.out.kind, HOK.out.client, HOK.out.valid, HOK.out.value, HOK.out.nodes, HOK.out.num0, HOK.out.num1, HOK.out.got, HOK.out.rng, HOK.out.len⟩, fun e => (by cases e), St.drop (L := tkB12 (w.heap.size + 1) ⟨kind, client, job, r2, gs2, true, true, code, value⟩ :: (tkB12 w.heap.size ⟨kind, client, job, r2, gs2, true, true, code, value⟩ :: J)) (hend.ac (fun y => by simp only [cnt_append, cnt_cons]; omega))⟩)
      have HW7 := Lib.hid hW7
      clear hW7 h7 h8 hend HR HPT hpt hlen
      go_upto_region 8 with fail
      rw [← HW7.out]
      clear ct cf
      go_wp2
      exact bodyPost_ret (v := tkV ⟨kind, client, job, r2, gs2, true, true, code, value⟩) (by simp [results, Tryz.results33, go_sem, z8]) rfl H9.out
end Go.Proofs.YtaojipegpjolcaaGreat
