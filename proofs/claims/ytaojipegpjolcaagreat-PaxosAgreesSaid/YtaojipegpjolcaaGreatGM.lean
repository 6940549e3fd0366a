/- Words in range: kept by every act on a fabric. Conversations in a row; what Drive does. bodegarun9.Drive without events: its walk (printed by gen_drive.py). bodegarun9.Alone. The run of 'awake' on the fabric without memory. bodegalaw9.awake is true. -/
import Derived.Test.YtaojipegpjolcaaGreatGL
set_option linter.unusedVariables false
set_option linter.unusedSimpArgs false
namespace Go.Proofs.YtaojipegpjolcaaGreat
open Go.RowKit Go.Sort Go.Proofs.BodegaHeap

abbrev Ws (xs : List Int) : Prop := ∀ x ∈ xs, W64 x
structure VRng (v : Vb) : Prop where
  new : W64 v.new
  ws : Ws v.words
structure PpRng (p : PP) : Prop where
  vs : ∀ v ∈ p.vs, VRng v
  ws : Ws p.ws
structure PcRng (c : PC) : Prop where
  ls : ∀ l ∈ c.ls, PpRng l.p
  ds : ∀ d ∈ c.ds, Ws d.words
structure PRng (P : PF) : Prop where
  ns : ∀ N ∈ P.ns, Ws N.words
  cs : ∀ c ∈ P.cs, PcRng c
  os : ∀ p ∈ P.os, PpRng p

theorem mem_set {α : Type} {xs : List α} {k : Nat} {a b : α} (h : b ∈ xs.set k a) : b ∈ xs ∨ b = a := by
  rcases List.mem_or_eq_of_mem_set h with h | h
  · exact .inl h
  · exact .inr h
theorem Ws.take {xs : List Int} (h : Ws xs) (n : Nat) : Ws (xs.take n) := fun x hx => h x (List.mem_of_mem_take hx)
theorem Ws.drop {xs : List Int} (h : Ws xs) (n : Nat) : Ws (xs.drop n) := fun x hx => h x (List.mem_of_mem_drop hx)
theorem Ws.append {xs ys : List Int} (h : Ws xs) (h2 : Ws ys) : Ws (xs ++ ys) := fun x hx => by
  rcases List.mem_append.1 hx with hx | hx
  · exact h x hx
  · exact h2 x hx
theorem W64.zero : W64 0 := ⟨by decide, by decide⟩
theorem Ws.getD {xs : List Int} (h : Ws xs) (k : Nat) : W64 (xs.getD k 0) := by
  rw [List.getD_eq_getElem?_getD]
  cases hx : xs[k]? with
  | none => exact W64.zero
  | some x => exact h x (List.mem_of_getElem? hx)
theorem ndExec_rng {N : Nd} {v : Vb} (hN : Ws N.words) (hv : VRng v) (pa pn : Int) : Ws (ndExec N v pa pn).1.words ∧ Ws (ndExec N v pa pn).2 := by
  unfold ndExec
  split
  · exact ⟨hN, (hN.drop _).take _⟩
  · split
    · refine ⟨?_, fun x hx => by cases hx⟩
      unfold wOver
      exact (hN.take _).append (((hv.ws.drop _).take _).append (hN.drop _))
    · refine ⟨?_, fun x hx => ?_⟩
      · simp only
        split
        · intro x hx
          rcases mem_set hx with hx | rfl
          · exact hN x hx
          · exact hv.new
        · exact hN
      · simp only [List.mem_singleton] at hx
        rw [hx]; exact hN.getD _
theorem pStepPair_rng {p : PP} {N : Nd} (hp : PpRng p) (hN : Ws N.words) : PpRng (pStepPair p N).1 ∧ Ws (pStepPair p N).2.1.words ∧ ∀ d, (pStepPair p N).2.2 = some d → Ws d.words := by
  have hdone : PpRng (pDone p) := ⟨fun v hv => hp.vs v (List.mem_of_mem_tail hv), fun x hx => by cases hx⟩
  unfold pStepPair
  split
  · exact ⟨hp, hN, fun d h => by cases h⟩
  · rename_i v tl hvs
    have hv := hp.vs v (by rw [hvs]; exact List.mem_cons_self)
    split
    · exact ⟨hdone, hN, fun d h => by cases h; exact fun x hx => by cases hx⟩
    · split
      · exact ⟨hp, hN, fun d h => by cases h⟩
      · rename_i pa pn hpp
        obtain ⟨e1, e2⟩ := ndExec_rng hN hv pa pn
        split
        · exact ⟨⟨hp.vs, hp.ws.append e2⟩, e1, fun d h => by cases h⟩
        · exact ⟨hdone, e1, fun d h => by cases h; exact hp.ws.append e2⟩
theorem PRng.setC {P : PF} (h : PRng P) {c : Nat} {C : PC} (hC : PcRng C) : PRng { P with cs := P.cs.set c C } :=
  ⟨h.ns, fun x hx => by
    rcases mem_set hx with hx | rfl
    · exact h.cs x hx
    · exact hC, h.os⟩
theorem PRng.setN {P : PF} (h : PRng P) {j : Nat} {N : Nd} (hN : Ws N.words) : PRng { P with ns := P.ns.set j N } :=
  ⟨fun x hx => by
    rcases mem_set hx with hx | rfl
    · exact h.ns x hx
    · exact hN, h.cs, h.os⟩
theorem pStepLive_rng {P : PF} (h : PRng P) (i j : Nat) : PRng (pStepLive P i j) := by
  unfold pStepLive
  split
  · rename_i c N hc hN
    have hcr := h.cs c (List.mem_of_getElem? hc)
    have hNr := h.ns N (List.mem_of_getElem? hN)
    split
    · rename_i l hl
      have hlr := hcr.ls l (List.mem_of_getElem? hl)
      obtain ⟨e1, e2, e3⟩ := pStepPair_rng hlr hNr
      split
      · rename_i p' N' hs
        rw [hs] at e1 e2
        refine (h.setN e2).setC (C := _) ⟨fun x hx => ?_, hcr.ds⟩
        rcases mem_set hx with hx | rfl
        · exact hcr.ls x hx
        · exact e1
      · rename_i p' N' d hs
        rw [hs] at e1 e2 e3
        refine (h.setN e2).setC (C := _) ⟨fun x hx => ?_, fun x hx => ?_⟩
        · rcases mem_set hx with hx | rfl
          · exact hcr.ls x hx
          · exact e1
        · rcases mem_set hx with hx | rfl
          · exact hcr.ds x hx
          · exact e3 _ rfl
    · exact h
  · exact h
theorem pStepOrphan_rng {P : PF} (h : PRng P) (i : Nat) : PRng (pStepOrphan P i) := by
  unfold pStepOrphan
  split
  · rename_i p hp
    have hpr := h.os p (List.mem_of_getElem? hp)
    split
    · rename_i N hN
      obtain ⟨e1, e2, e3⟩ := pStepPair_rng hpr (h.ns N (List.mem_of_getElem? hN))
      have h2 := h.setN (j := p.nd.toNat) e2
      split
      · exact ⟨h2.ns, h2.cs, fun x hx => h.os x (List.mem_of_mem_eraseIdx hx)⟩
      · refine ⟨h2.ns, h2.cs, fun x hx => ?_⟩
        rcases mem_set hx with hx | rfl
        · exact h.os x hx
        · exact e1
    · exact h
  · exact h
theorem pStep_rng {P : PF} (h : PRng P) (c : Ch) : PRng (pStep P c) := by
  unfold pStep; split
  · exact pStepOrphan_rng h _
  · exact pStepLive_rng h _ _
theorem pRunStep_rng {P : PF} (h : PRng P) (sched : List Int) (n : Nat) : PRng (pRunStep P sched n).1 := by
  unfold pRunStep; split
  · exact h
  · exact pStep_rng h _
theorem pTake_rng {P : PF} (h : PRng P) (c : Nat) : PRng (pTake P c) := by
  unfold pTake; split
  · rename_i C hC
    exact h.setC ⟨(h.cs C (List.mem_of_getElem? hC)).ls, fun d hd => by cases hd⟩
  · exact h
theorem postLane_rng {ls : List PL} (h : ∀ l ∈ ls, PpRng l.p) (i : Nat) (v : Vb) (hv : VRng v) : ∀ l ∈ postLane ls i v, PpRng l.p := by
  unfold postLane; split
  · rename_i l hl
    intro x hx
    rcases mem_set hx with hx | rfl
    · exact h x hx
    · refine ⟨fun y hy => ?_, (h l (List.mem_of_getElem? hl)).ws⟩
      rcases List.mem_append.1 hy with hy | hy
      · exact (h l (List.mem_of_getElem? hl)).vs y hy
      · rw [List.mem_singleton] at hy; rw [hy]; exact hv
  · exact h
theorem pPosted_rng (vs : List Vb) (hv : ∀ v ∈ vs, VRng v) : ∀ (ls : List PL) (i : Nat), (∀ l ∈ ls, PpRng l.p) → ∀ l ∈ pPosted ls i vs, PpRng l.p := by
  induction vs with
  | nil => intro ls i h; exact h
  | cons v tl ih => intro ls i h; exact ih (fun x hx => hv x (List.mem_cons_of_mem _ hx)) _ _ (postLane_rng h i v (hv v List.mem_cons_self))
theorem pPost_rng {P : PF} (h : PRng P) (c : Nat) (vs : List Vb) (hv : ∀ v ∈ vs, VRng v) : PRng (pPost P c vs) := by
  unfold pPost; split
  · rename_i C hC
    refine h.setC ⟨pPosted_rng vs hv _ _ (h.cs C (List.mem_of_getElem? hC)).ls, fun d hd => ?_⟩
    rw [List.eq_of_mem_replicate hd]
    intro x hx; cases hx
  · exact h
theorem pDie_rng {P : PF} (h : PRng P) (c : Nat) : PRng (pDie P c) := by
  unfold pDie; split
  · rename_i C hC
    split
    · have h2 := h.setC (c := c) (C := { C with alive := false, ls := [], ds := [], waiting := 0 }) ⟨fun l hl => (by cases hl), fun d hd => (by cases hd)⟩
      refine ⟨h2.ns, h2.cs, fun p hp => ?_⟩
      rcases List.mem_append.1 hp with hp | hp
      · exact h.os p hp
      · obtain ⟨l, hl, rfl⟩ := List.mem_map.1 hp
        exact (h.cs C (List.mem_of_getElem? hC)).ls l (List.mem_filter.1 hl).1
    · exact h
  · exact h

/-- A proposer's verbs are in range. -/
theorem sw_rng {j : PJ} {nx : Int → Int} {l : List Ac} (hnx : ∀ x, W64 x → W64 (nx x)) (hl : ∀ a ∈ l, W64 a.2) : ∀ v ∈ swAsk j nx l, VRng v := by
  intro v hv
  obtain ⟨a, ha, rfl⟩ := List.mem_map.1 hv
  exact ⟨hnx _ (hl a ha), fun x hx => by cases hx⟩
theorem pValid_parts {j : PJ} (hj : pValid j = 0) : 1 ≤ j.nodes ∧ j.nodes ≤ 5 ∧ 0 ≤ j.number ∧ j.number ≤ 15 ∧ 1 ≤ j.round ∧ j.round ≤ 500 ∧ 0 ≤ j.client ∧ j.client ≤ 5 ∧ pBalV j.round j.client = j.round * 8 + j.client + 1 ∧ j.value < 1099511627776 ∧ j.value ≠ 0 := by
  unfold pValid at hj
  have j1 : ¬ (j.nodes < 1 ∨ 5 < j.nodes) := fun e => by rw [if_pos e] at hj; simp at hj
  rw [if_neg j1] at hj
  have j2 : ¬ (j.number < 0 ∨ 16 ≤ j.number) := fun e => by rw [if_pos e] at hj; simp at hj
  rw [if_neg j2] at hj
  have j3 : pBal j.round j.client = 0 := by
    by_cases e : pBal j.round j.client = 0
    · exact e
    · rw [if_pos e] at hj; exact absurd hj e
  rw [if_neg (fun e => e j3)] at hj
  have j4 : ¬ (j.value = 0 ∨ 1099511627776 ≤ j.value) := fun e => by rw [if_pos e] at hj; simp at hj
  have j5 : 1 ≤ j.round ∧ j.round ≤ 500 ∧ 0 ≤ j.client ∧ j.client ≤ 5 := by
    have h := j3
    unfold pBal at h
    split at h
    · simp at h
    · split at h
      · simp at h
      · omega
  have j6 : pBalV j.round j.client = j.round * 8 + j.client + 1 := by unfold pBalV; rw [if_pos j3]
  omega
theorem pNext_rng {j : PJ} (hj : pValid j = 0) (hv : W64 j.value) {gs : List (List Dn)} (hg : Rng gs) : ∀ v ∈ (pNext j gs).1, VRng v := by
  obtain ⟨_, _, _, _, r0, r1, c0, c1, hb, v1, _⟩ := pValid_parts hj
  obtain ⟨bl, hbl⟩ : ∃ b, b = pBalV j.round j.client := ⟨_, rfl⟩
  have hb0 : 0 ≤ bl := by omega
  have hb1 : bl ≤ 4095 := by omega
  have key : ∀ q, (pRun j bl gs).2 = .ask q → ∀ v ∈ q, VRng v := by
    intro q hq
    unfold pRun at hq
    obtain ⟨r1, hr1⟩ : ∃ r, r = tBatch gs 0 (rdAsk j) := ⟨_, rfl⟩
    rw [← hr1] at hq
    rcases r1 with ⟨k1 | q1 | _, d1⟩
    · simp only at hq
      obtain ⟨hl1, hm1⟩ := tBatch_len hr1.symm
      obtain ⟨g1, a1⟩ := rdFold_rng (rng_d hg hm1) ([], 0, 0) W64.zero (fun a ha => by cases ha)
      change W64 (rdFold 0 d1).2.1 at g1
      change ∀ a ∈ (rdFold 0 d1).1, W64 a.2 at a1
      split at hq
      · simp at hq
      · unfold pRun2 at hq
        have hcand : ∀ a ∈ pCands bl (rdFold 0 d1).1, W64 a.2 := fun a ha => a1 a (List.mem_filter.1 ha).1
        obtain ⟨cs, hcs⟩ : ∃ x, x = pCands bl (rdFold 0 d1).1 := ⟨_, rfl⟩
        rw [← hcs] at hq hcand
        obtain ⟨r2, hr2⟩ : ∃ r, r = tBatch gs k1 (swAsk j (pPromise bl) cs) := ⟨_, rfl⟩
        rw [← hr2] at hq
        rcases r2 with ⟨k2 | q2 | _, d2⟩
        · simp only at hq
          obtain ⟨hl2, hm2⟩ := tBatch_len hr2.symm
          obtain ⟨g2, a2⟩ := swFold_rng (nx := pPromise bl) (l := cs) (fun x hx => pPromise_rng hb0 hb1 hx) (rng_d hg hm2) ⟨0, [], (rdFold 0 d1).2.1, 0⟩ g1 (fun a ha => by cases ha)
          change ∀ a ∈ (swFold (pPromise bl) cs (rdFold 0 d1).2.1 d2).sw, W64 a.2 at a2
          split at hq
          · simp at hq
          · unfold pRun3 at hq
            obtain ⟨s2, hs2⟩ : ∃ x, x = swFold (pPromise bl) cs (rdFold 0 d1).2.1 d2 := ⟨_, rfl⟩
            rw [← hs2] at hq a2
            have hvr := pVal_rng j.value s2.sw hv.1 (by omega) a2
            obtain ⟨r3, hr3⟩ : ∃ r, r = tBatch gs k2 (swAsk j (pAccept bl (pVal j.value s2.sw).1) s2.sw) := ⟨_, rfl⟩
            rw [← hr3] at hq
            rcases r3 with ⟨k3 | q3 | _, d3⟩
            · simp only at hq
              split at hq <;> simp at hq
            · simp only [Res.ask.injEq] at hq
              rw [← hq, tBatch_ask hr3.symm]
              exact sw_rng (fun x hx => by unfold pAccept W64; omega) a2
            · simp at hq
        · simp only [Res.ask.injEq] at hq
          rw [← hq, tBatch_ask hr2.symm]
          exact sw_rng (fun x hx => pPromise_rng hb0 hb1 hx) hcand
        · simp at hq
    · simp only [Res.ask.injEq] at hq
      rw [← hq, tBatch_ask hr1.symm]
      intro v hv
      obtain ⟨i, hi, rfl⟩ := List.mem_map.1 hv
      exact ⟨W64.zero, fun x hx => by cases hx⟩
    · simp at hq
  unfold pNext
  rw [← hbl]
  obtain ⟨r, hr⟩ : ∃ r, r = pRun j bl gs := ⟨_, rfl⟩
  rw [← hr] at key ⊢
  rcases r with ⟨o, k | q | _⟩
  · simp only
    split <;> (intro v hv; cases hv)
  · exact key q rfl
  · intro v hv; cases hv
theorem pTurn_rng {P : PF} (h : PRng P) {t : PT} (hj : pValid t.job = 0) (hv : W64 t.job.value) (hg : Rng t.gots) : PRng (pTurn P t).1 ∧ Rng (pTurn P t).2.gots := by
  unfold pTurn
  split
  · exact ⟨h, hg⟩
  · rename_i C hC
    have hcr := h.cs C (List.mem_of_getElem? hC)
    have hP1 : PRng (pTaken P t.client.toNat C) := by
      unfold pTaken; split
      · exact h
      · exact pTake_rng h _
    have hg1 : Rng (gotsTaken C t) := by
      unfold gotsTaken; split
      · exact hg
      · exact hg.snoc (fun d hd x hx => hcr.ds d hd x hx)
    split
    · exact ⟨h, hg⟩
    · split
      · exact ⟨hP1, hg1⟩
      · split
        · exact ⟨hP1, hg1⟩
        · exact ⟨pPost_rng hP1 _ _ (pNext_rng hj hv hg1), hg1⟩
theorem PRng.dsRng {F : FB} (h : PRng F.pure) {c : Nat} {C : CP} (hc : F.cs[c]? = some C) : DsRng C := by
  intro d hd x hx
  have e : C.pure ∈ F.pure.cs := List.mem_map_of_mem (List.mem_of_getElem? hc)
  exact (h.cs _ e).ds d.1 (List.mem_map_of_mem hd) x hx

variable {base : Nat} {w0 w : World} {L : List Blk}
/-- Turn, whatever it does. -/
theorem Turn_calls (F : FB) (hF : FbOk F) (c : Nat) (C : CP) (hc : F.cs[c]? = some C) (t : TK) (ht : TkOk F c t) (hlen0 : t.over = false → t.gts.length ≤ 200) (hdr : DsRng C) (h : St base w0 w (fbH F ++ (gotH t.r t.gts ++ L))) (R : Ending → World → Prop)
    (hR : ∀ v w', TurnOut base w0 F c t L v w' → R (.returned v) w') :
    Calls Tryz.prog 33 #[fP F, tkV t] w R := by
  by_cases hid : t.over = true ∨ C.alive = false ∨ 0 < C.waiting
  · exact Turn_idle F hF c C hc t ht hlen0 hid h R hR
  · have h1 : t.over = false := by cases ho : t.over with
      | true => exact absurd (.inl ho) hid
      | false => rfl
    have h2 : C.alive = true := by cases ho : C.alive with
      | true => rfl
      | false => exact absurd (.inr (.inl ho)) hid
    have h3 : C.waiting = 0 := by
      have := (hF.cs c C hc).wait
      have : ¬ 0 < C.waiting := fun e => hid (.inr (.inr e))
      omega
    by_cases hd : C.ds = []
    · exact Turn_first F hF c C hc t ht h1 h2 h3 hd h R hR
    · exact Turn_more F hF c C hc t ht hlen0 h1 h2 h3 hd hdr h R hR
end Go.Proofs.YtaojipegpjolcaaGreat
set_option linter.unusedVariables false
set_option linter.unusedSimpArgs false
namespace Go.Proofs.YtaojipegpjolcaaGreat
open Go.RowKit Go.Sort Go.Proofs.BodegaHeap
variable {base : Nat} {w0 w : World} {L : List Blk}

abbrev tkL (t : TK) : List Value := [.int .i64 t.kind, .int .i64 t.client, .int .i64 t.job.nodes, .int .i64 t.job.number, .int .i64 t.job.client, .int .i64 t.job.round, .int .u64 t.job.value, rowV t.r t.gts.length, .bool t.over, .bool t.bad, .int .i64 t.code, .int .u64 t.value]
abbrev tkG (t : TK) : List Blk := gotH t.r t.gts
theorem elem_tk : ElemOk Tryz.prog 40 54 12 104 where
  ut := Tryz.underlying40
  info := by
    have h : (Tryz.prog.info? 54).map (fun i => (i.zero, i.size, i.bytes)) = some (some (.agg #[.int .i64 0, .int .i64 0, .int .i64 0, .int .i64 0, .int .i64 0, .int .i64 0, .int .u64 0, .slice none 0 0, .bool false, .bool false, .int .i64 0, .int .u64 0]), 12, 104) := by kernel_rfl
    obtain ⟨i, hi, hz0, hz1, hz2⟩ := info_parts h
    exact ⟨i, _, hi, hz0, hz1, hz2, rfl⟩
  pos := by decide
  small := by decide
structure TsOk (F : FB) (ts : List TK) : Prop where
  each : ∀ t ∈ ts, ∃ c : Nat, c < F.cs.length ∧ TkOk F c t ∧ (t.over = false → t.gts.length ≤ 200)
theorem TkOk.mono {F F' : FB} {c : Nat} {t : TK} (h : TkOk F c t) (hn : F'.ns.length = F.ns.length) : TkOk F' c t :=
  ⟨h.kind, h.client, h.valid, h.value, by rw [hn]; exact h.nodes, h.num0, h.num1, h.got, h.rng, h.len⟩
theorem TsOk.set {F F' : FB} {ts : List TK} (h : TsOk F ts) (hn : F'.ns.length = F.ns.length) (hc : F'.cs.length = F.cs.length) {i c : Nat} {t' : TK} (hcl : c < F.cs.length) (ht : TkOk F' c t') (hl : t'.over = false → t'.gts.length ≤ 200) : TsOk F' (ts.set i t') :=
  ⟨fun x hx => by
    rcases mem_set hx with hx | rfl
    · obtain ⟨d, h1, h2, h3⟩ := h.each x hx
      exact ⟨d, by rw [hc]; exact h1, h2.mono hn, h3⟩
    · exact ⟨c, by rw [hc]; exact hcl, ht, hl⟩⟩
theorem TsOk.mono {F F' : FB} {ts : List TK} (h : TsOk F ts) (hn : F'.ns.length = F.ns.length) (hc : F'.cs.length = F.cs.length) : TsOk F' ts :=
  ⟨fun x hx => by
    obtain ⟨d, h1, h2, h3⟩ := h.each x hx
    exact ⟨d, by rw [hc]; exact h1, h2.mono hn, h3⟩⟩

def pTurns : PF → List PT → PF × List PT
  | P, [] => (P, [])
  | P, t :: tl => ((pTurns (pTurn P t).1 tl).1, (pTurn P t).2 :: (pTurns (pTurn P t).1 tl).2)
def pLoop (sched : List Int) : Nat → Nat → PF → List PT → PF × List PT
  | 0, _, P, ts => (P, ts)
  | k + 1, n, P, ts => if (pRunStep (pTurns P ts).1 sched n).2 then pLoop sched k (n + 1) (pRunStep (pTurns P ts).1 sched n).1 (pTurns P ts).2 else ((pRunStep (pTurns P ts).1 sched n).1, (pTurns P ts).2)
def pDrive (P : PF) (ts : List PT) (sched : List Int) (most : Nat) : PF × List PT := pTurns (pLoop sched most 0 P ts).1 (pLoop sched most 0 P ts).2

/-- Turn of one of a row. -/
theorem turn_row (F : FB) (hF : FbOk F) (hP : PRng F.pure) (ts : List TK) (hts : TsOk F ts) (i : Nat) (t : TK) (hi : ts[i]? = some t) (rl : Rw) (h : St base w0 w (fbH F ++ (rowH rl 54 (ts.flatMap tkL) ++ (ts.flatMap tkG ++ L)))) (R : Ending → World → Prop)
    (hR : ∀ (F' : FB) (t' : TK) w', FbOk F' → F'.fb = F.fb → F'.ns.length = F.ns.length → F'.cs.length = F.cs.length → PRng F'.pure → F'.pure = (pTurn F.pure t.pure).1 → t'.pure = (pTurn F.pure t.pure).2 → TsOk F' (ts.set i t') →
      St base w0 w' (rowH rl 54 (ts.flatMap tkL) ++ (fbH F' ++ ((ts.set i t').flatMap tkG ++ L))) → R (.returned (tkV t')) w') :
    Calls Tryz.prog 33 #[fP F, tkV t] w R := by
  obtain ⟨c, hc, ht, hl⟩ := hts.each t (List.mem_of_getElem? hi)
  obtain ⟨C, hC⟩ : ∃ C, F.cs[c]? = some C := ⟨F.cs[c], by simp [hc]⟩
  refine Turn_calls F hF c C hC t ht hl (hP.dsRng hC) (L := rowH rl 54 (ts.flatMap tkL) ++ ((ts.eraseIdx i).flatMap tkG ++ L)) (h.ac (fun y => ?_)) R ?_
  · have e := cnt_flat_get tkG y ts i t hi
    simp only [tkG, cnt_append] at *
    omega
  · rintro v w' ⟨F', t', rfl, q1, q2, q3, q4, q5, q6, q7, q8, q9⟩
    have hr := pTurn_rng hP (t := t.pure) ht.valid ht.value ht.rng
    refine hR F' t' w' q1 q2 q3 q4 (by rw [q5]; exact hr.1) q5 q6 (hts.set q3 q4 hc q7 q8) (q9.ac (fun y => ?_))
    have e := cnt_flat_set tkG y ts i t' (List.getElem?_eq_some_iff.1 hi).1
    simp only [tkG, cnt_append] at *
    omega

set_option maxHeartbeats 4000000 in
/-- A conversation stored into a row. -/
theorem tk_row_put {rl : Rw} {ts : List TK} {b i : Nat} {t t' : TK} (hb : rl.blk = some b) (hi : ts[i]? = some t) (h : St base w0 w (rowH rl 54 (ts.flatMap tkL) ++ L)) :
    St base w0 ((((((((((((w.setCell ⟨b, i * 12, none⟩ (.int .i64 t'.kind)).setCell ⟨b, i * 12 + 1, none⟩ (.int .i64 t'.client)).setCell ⟨b, i * 12 + 2, none⟩ (.int .i64 t'.job.nodes)).setCell ⟨b, i * 12 + 3, none⟩ (.int .i64 t'.job.number)).setCell ⟨b, i * 12 + 4, none⟩ (.int .i64 t'.job.client)).setCell ⟨b, i * 12 + 5, none⟩ (.int .i64 t'.job.round)).setCell ⟨b, i * 12 + 6, none⟩ (.int .u64 t'.job.value)).setCell ⟨b, i * 12 + 7, none⟩ (rowV t'.r t'.gts.length)).setCell ⟨b, i * 12 + 8, none⟩ (.bool t'.over)).setCell ⟨b, i * 12 + 9, none⟩ (.bool t'.bad)).setCell ⟨b, i * 12 + 10, none⟩ (.int .i64 t'.code)).setCell ⟨b, i * 12 + 11, none⟩ (.int .u64 t'.value))
      (rowH rl 54 ((ts.set i t').flatMap tkL) ++ L) := by
  have hil := (List.getElem?_eq_some_iff.1 hi).1
  have hg : ∀ x : TK, (ts.set i x)[i]? = some x := fun x => by simp [hil]
  have s := fun {W : World} {x : TK} (h : St base w0 W (rowH rl 54 ((ts.set i x).flatMap tkL) ++ L)) (j : Nat) (hj : j < 12) (v : Value) (y : TK) (hy : tkL y = (tkL x).set j v) => by
    have q := h.setRec (enc := tkL) (s := 12) (fun _ => rfl) hb (hg x) j hj v y hy
    rw [List.set_set] at q
    exact q
  have e0 : ts.set i t = ts := by
    apply List.ext_getElem?
    intro k
    by_cases hk : k = i
    · subst hk; rw [List.getElem?_set_self hil, hi]
    · rw [List.getElem?_set_ne (Ne.symm hk)]
  rw [← e0] at h
  have h0 := s h 0 (by decide) (.int .i64 t'.kind) { t with kind := t'.kind } rfl
  have h1 := s h0 1 (by decide) (.int .i64 t'.client) { t with kind := t'.kind, client := t'.client } rfl
  have h2 := s h1 2 (by decide) (.int .i64 t'.job.nodes) { t with kind := t'.kind, client := t'.client, job := { t.job with nodes := t'.job.nodes } } rfl
  have h3 := s h2 3 (by decide) (.int .i64 t'.job.number) { t with kind := t'.kind, client := t'.client, job := { t.job with nodes := t'.job.nodes, number := t'.job.number } } rfl
  have h4 := s h3 4 (by decide) (.int .i64 t'.job.client) { t with kind := t'.kind, client := t'.client, job := { t.job with nodes := t'.job.nodes, number := t'.job.number, client := t'.job.client } } rfl
  have h5 := s h4 5 (by decide) (.int .i64 t'.job.round) { t with kind := t'.kind, client := t'.client, job := { t.job with nodes := t'.job.nodes, number := t'.job.number, client := t'.job.client, round := t'.job.round } } rfl
  have h6 := s h5 6 (by decide) (.int .u64 t'.job.value) { t with kind := t'.kind, client := t'.client, job := t'.job } rfl
  have h7 := s h6 7 (by decide) (rowV t'.r t'.gts.length) { t with kind := t'.kind, client := t'.client, job := t'.job, r := t'.r, gts := t'.gts } rfl
  have h8 := s h7 8 (by decide) (.bool t'.over) { t with kind := t'.kind, client := t'.client, job := t'.job, r := t'.r, gts := t'.gts, over := t'.over } rfl
  have h9 := s h8 9 (by decide) (.bool t'.bad) { t with kind := t'.kind, client := t'.client, job := t'.job, r := t'.r, gts := t'.gts, over := t'.over, bad := t'.bad } rfl
  have h10 := s h9 10 (by decide) (.int .i64 t'.code) { t with kind := t'.kind, client := t'.client, job := t'.job, r := t'.r, gts := t'.gts, over := t'.over, bad := t'.bad, code := t'.code } rfl
  have h11 := s h10 11 (by decide) (.int .u64 t'.value) t' rfl
  exact h11
/-- What is read of a conversation in a row. -/
theorem tk_row_cells {rl : Rw} {ts : List TK} {b i : Nat} {t : TK} (hb : rl.blk = some b) (hi : ts[i]? = some t) (hm : ∀ p, p ∈ rowH rl 54 (ts.flatMap tkL) → p ∈ L) (h : St base w0 w L) :
    (w.cell? ⟨b, i * 12, none⟩ = some (.int .i64 t.kind) ∧ w.cell? ⟨b, i * 12 + 1, none⟩ = some (.int .i64 t.client) ∧ w.cell? ⟨b, i * 12 + 2, none⟩ = some (.int .i64 t.job.nodes) ∧ w.cell? ⟨b, i * 12 + 3, none⟩ = some (.int .i64 t.job.number)) ∧
    (w.cell? ⟨b, i * 12 + 4, none⟩ = some (.int .i64 t.job.client) ∧ w.cell? ⟨b, i * 12 + 5, none⟩ = some (.int .i64 t.job.round) ∧ w.cell? ⟨b, i * 12 + 6, none⟩ = some (.int .u64 t.job.value) ∧ w.cell? ⟨b, i * 12 + 7, none⟩ = some (rowV t.r t.gts.length)) ∧
    (w.cell? ⟨b, i * 12 + 8, none⟩ = some (.bool t.over) ∧ w.cell? ⟨b, i * 12 + 9, none⟩ = some (.bool t.bad) ∧ w.cell? ⟨b, i * 12 + 10, none⟩ = some (.int .i64 t.code) ∧ w.cell? ⟨b, i * 12 + 11, none⟩ = some (.int .u64 t.value)) ∧ ∀ k, w.frozen? ⟨b, k, none⟩ = false := by
  have f := fun j hj => h.recCell (enc := tkL) (s := 12) (fun _ => rfl) hb hm hi j hj
  exact ⟨⟨f 0 (by decide), f 1 (by decide), f 2 (by decide), f 3 (by decide)⟩, ⟨f 4 (by decide), f 5 (by decide), f 6 (by decide), f 7 (by decide)⟩, ⟨f 8 (by decide), f 9 (by decide), f 10 (by decide), f 11 (by decide)⟩, fun k => h.row_frozen hb hm k⟩
end Go.Proofs.YtaojipegpjolcaaGreat
set_option linter.unusedVariables false
set_option linter.unusedSimpArgs false
namespace Go.Proofs.YtaojipegpjolcaaGreat
open Go.RowKit Go.Sort Go.Proofs.BodegaHeap
variable {base : Nat} {w0 w : World} {L : List Blk}

/-- A fabric and a row of conversations, in order, in memory. -/
structure Dr (base : Nat) (w0 : World) (L : List Blk) (fb nn cn n : Nat) (rl : Rw) (F : FB) (ts : List TK) (wr : World) : Prop where
  ok : FbOk F
  rng : PRng F.pure
  tso : TsOk F ts
  len : ts.length = n
  fb : F.fb = fb
  ns : F.ns.length = nn
  cs : F.cs.length = cn
  row : RowOk rl 12 n (ts.flatMap tkL)
  st : St base w0 wr (fbH F ++ (rowH rl 54 (ts.flatMap tkL) ++ (ts.flatMap tkG ++ L)))
abbrev pts (ts : List TK) : List PT := ts.map TK.pure
/-- What a round of turns has come to. -/
structure Tn (D : PF × List PT) (F : FB) (ts : List TK) (i : Nat) : Prop where
  a : (pTurns F.pure (pts (ts.drop i))).1 = D.1
  b : pts (ts.take i) ++ (pTurns F.pure (pts (ts.drop i))).2 = D.2
theorem Tn.start {F : FB} {ts : List TK} : Tn (pTurns F.pure (pts ts)) F ts 0 := ⟨rfl, rfl⟩
theorem Tn.stop {D : PF × List PT} {F : FB} {ts : List TK} {n : Nat} (hn : ts.length = n) (h : Tn D F ts n) : F.pure = D.1 ∧ pts ts = D.2 := by
  obtain ⟨h1, h2⟩ := h
  rw [List.drop_of_length_le (by omega)] at h1 h2
  rw [List.take_of_length_le (by omega)] at h2
  exact ⟨h1, by simpa [pts, pTurns] using h2⟩
theorem Tn.next {D : PF × List PT} {F F' : FB} {ts : List TK} {i : Nat} {t t' : TK} (h : Tn D F ts i) (hi : ts[i]? = some t) (h1 : F'.pure = (pTurn F.pure t.pure).1) (h2 : t'.pure = (pTurn F.pure t.pure).2) : Tn D F' (ts.set i t') (i + 1) := by
  have hil := List.getElem?_eq_some_iff.1 hi
  have hd : ts.drop i = t :: ts.drop (i + 1) := by rw [List.drop_eq_getElem_cons hil.1, hil.2]
  obtain ⟨a, b⟩ := h
  rw [hd] at a b
  simp only [pts, List.map_cons, pTurns] at a b
  have e1 : (ts.set i t').drop (i + 1) = ts.drop (i + 1) := by rw [List.drop_set_of_lt (by omega)]
  have e2 : (ts.set i t').take (i + 1) = ts.take i ++ [t'] := by
    rw [List.take_succ_eq_append_getElem (by simpa using hil.1)]
    simp [List.take_set_of_le]
  refine ⟨?_, ?_⟩
  · rw [e1, h1]; exact a
  · rw [e1, e2, h1]
    simp only [pts, List.map_append, List.map_cons, List.map_nil, h2, List.append_assoc, List.singleton_append]
    exact b
theorem pStepLive_len (P : PF) (i j : Nat) : (pStepLive P i j).ns.length = P.ns.length ∧ (pStepLive P i j).cs.length = P.cs.length := by
  unfold pStepLive; split
  · split
    · split <;> simp
    · exact ⟨rfl, rfl⟩
  · exact ⟨rfl, rfl⟩
theorem pStepOrphan_len (P : PF) (i : Nat) : (pStepOrphan P i).ns.length = P.ns.length ∧ (pStepOrphan P i).cs.length = P.cs.length := by
  unfold pStepOrphan; split
  · split
    · split <;> simp
    · exact ⟨rfl, rfl⟩
  · exact ⟨rfl, rfl⟩
theorem pStep_len (P : PF) (c : Ch) : (pStep P c).ns.length = P.ns.length ∧ (pStep P c).cs.length = P.cs.length := by
  unfold pStep; split
  · exact pStepOrphan_len _ _
  · exact pStepLive_len _ _ _
theorem pRunStep_len {F F' : FB} {sched : List Int} {n : Nat} (h : F'.pure = (pRunStep F.pure sched n).1) : F'.ns.length = F.ns.length ∧ F'.cs.length = F.cs.length := by
  have e : (pRunStep F.pure sched n).1.ns.length = F.pure.ns.length ∧ (pRunStep F.pure sched n).1.cs.length = F.pure.cs.length := by
    unfold pRunStep; split
    · exact ⟨rfl, rfl⟩
    · exact pStep_len _ _
  rw [← h] at e
  simpa [FB.pure] using e
theorem tkL_one (ts : List TK) : ∀ u ∈ ts.flatMap tkL, u.oneCell' = true := by
  intro u hu
  obtain ⟨t, _, ht⟩ := List.mem_flatMap.1 hu
  simp only [tkL, List.mem_cons, List.not_mem_nil, or_false] at ht
  rcases ht with rfl | rfl | rfl | rfl | rfl | rfl | rfl | rfl | rfl | rfl | rfl | rfl <;> rfl

set_option maxRecDepth 100000 in
set_option maxHeartbeats 16000000 in
theorem Drive_calls (F : FB) (hF : FbOk F) (hP : PRng F.pure) (ts : List TK) (hts : TsOk F ts) (hne : ts ≠ []) (htl : ts.length ≤ 100) (r0 : Rw) (hr0 : RowOk r0 12 ts.length (ts.flatMap tkL)) (A : Option Addr) (sched : List Int) (cc : Nat) (ha : ArgI base w0 A sched) (hs : ∀ x ∈ sched, -9223372036854775808 ≤ x ∧ x ≤ 9223372036854775807) (hsl : sched.length ≤ maxLen)
    (most : Nat) (hmost : most ≤ 1000000) (h : St base w0 w (fbH F ++ (rowH r0 54 (ts.flatMap tkL) ++ (ts.flatMap tkG ++ L)))) (R : Ending → World → Prop)
    (hR : ∀ (F' : FB) (rl : Rw) (ts' : List TK) w', Dr base w0 L F.fb F.ns.length F.cs.length ts.length rl F' ts' w' → F'.pure = (pDrive F.pure (pts ts) sched most).1 → pts ts' = (pDrive F.pure (pts ts) sched most).2 → R (.returned (rowV rl ts.length)) w') :
    Calls Tryz.prog 16 #[fP F, rowV r0 ts.length, .slice A sched.length cc, .slice none 0 0, .int .i64 most] w R := by
  have hn0 : 0 < ts.length := List.length_pos_iff.2 hne
  have h1 : St base w0 w (rowH nilRw 54 [] ++ (rowH r0 54 (ts.flatMap tkL) ++ (fbH F ++ (ts.flatMap tkG ++ L)))) := by
    rw [rowH_nil, List.nil_append]; exact h.ac (fun y => by simp only [cnt_append]; omega)
  obtain ⟨T, hT⟩ : ∃ T, T = pDrive F.pure (pts ts) sched most := ⟨_, rfl⟩
  obtain ⟨fb, hfb⟩ : ∃ x, x = F.fb := ⟨_, rfl⟩
  obtain ⟨nn, hnn⟩ : ∃ x, x = F.ns.length := ⟨_, rfl⟩
  obtain ⟨cn, hcn⟩ : ∃ x, x = F.cs.length := ⟨_, rfl⟩
  obtain ⟨n, hn⟩ : ∃ x, x = ts.length := ⟨_, rfl⟩
  have hfp : fP F = .pointer (some ⟨fb, 0, none⟩) := by rw [hfb]
  have hgo := fun F' rl ts' w' hd h1 h2 => hR F' rl ts' w' hd h1 h2
  rw [← hT, ← hfb, ← hnn, ← hcn, ← hn] at hgo
  rw [← hn] at hn0 htl hr0 ⊢
  rw [hfp]
  have hdr : ∀ rl w', RowOk rl 12 n (ts.flatMap tkL) → St base w0 w' (fbH F ++ (rowH rl 54 (ts.flatMap tkL) ++ (ts.flatMap tkG ++ L))) → Dr base w0 L fb nn cn n rl F ts w' := fun rl w' q1 q2 => ⟨hF, hP, hts, hn.symm, hfb.symm, hnn.symm, hcn.symm, q1, q2⟩
  have H1 := Lib.hid h1
  have HR := Lib.hid hgo
  have HDR := Lib.hid hdr
  have HT := Lib.hid hT
  have HR0 := Lib.hid hr0
  have HAR := Lib.hid ha
  have HS := Lib.hid hs
  have HN := Lib.hid hn
  clear h h1 hR hgo hdr hT hr0 ha hs hne hF hP hts hfb hnn hcn hfp hn
  go_enter Tryz.func16, Tryz.ntmps16
  go_wp2_with (at_builtin; refine wp_appendRow elem_tk rfl _ _ rfl nilRw 0 [] rfl (nilRw_ok 12) r0 n (ts.flatMap tkL) rfl HR0.out H1.out (tkL_one ts) (by omega) ?_)
  intro rl w2 hrl h2
  try simp only [Nat.zero_add, List.nil_append] at hrl h2
  obtain ⟨b, hb⟩ := hrl.pos hn0
  have erl : rowV rl n = .slice (some ⟨b, 0, none⟩) n (n + rl.k) := by simp [rowV, rowA, hb]
  try simp only [Nat.zero_add]
  rw [erl]
  have hst2 : St base w0 w2 (fbH F ++ (rowH rl 54 (ts.flatMap tkL) ++ (ts.flatMap tkG ++ L))) := St.drop (L := rowH r0 54 (ts.flatMap tkL)) (h2.ac (fun y => by simp only [fbH, fbR, cnt_append, cnt_cons]; omega))
  have HD2 := Lib.hid (HDR.out rl w2 hrl hst2)
  have HDR2 := Lib.hid (fun w' q2 => HDR.out rl w' hrl q2)
  have HB := Lib.hid hb
  have HERL := Lib.hid erl
  clear hrl h2 hst2 H1 HDR hb erl HR0
  go_wp2_with fail
  -- the clients
  go_loopw [11, 12] (fun a i wr => ∃ (q : Nat) (rc : Rw) (cl : List Int), q ≤ n ∧ i = .int .i64 q ∧ cl.length = q ∧ a = rowV rc q ∧ RowOk rc 1 q (ints cl) ∧ St base w0 wr (rowH rc 3 (ints cl) ++ (fbH F ++ (rowH rl 54 (ts.flatMap tkL) ++ (ts.flatMap tkG ++ L))))) (fun a i wr => n - (intOf i).toNat)
  case atStart => exact ⟨0, nilRw, [], Nat.zero_le _, rfl, rfl, rfl, nilRw_ok 1, HD2.out.st⟩
  case round =>
    clear HD2
    obtain ⟨q, rc, cl, hq, rfl, hcl, rfl, hrc, hst⟩ := hrel
    by_cases hlt : q < n
    · obtain ⟨t, ht⟩ : ∃ t, ts[q]? = some t := ⟨ts[q]'(by have := HN.out; omega), by simp⟩
      obtain ⟨⟨_, d1, _, _⟩, _, _, _⟩ := tk_row_cells HB.out ht (fun p hp => by simp only [List.mem_append]; simp [hp]) hst
      have hltI : (q : Int) < (n : Int) := by omega
      have HST := Lib.hid hst
      have HRC := Lib.hid hrc
      have HCL := Lib.hid hcl
      clear hst hrc hcl ht
      go_wp2_with (at_builtin; refine wp_append1 elem_int rfl _ _ rfl rc q _ rfl HRC.out HST.out (.int .i64 t.client) rfl rfl (by omega) ?_)
      intro r' w4 hr' h4 _ _
      have e1 : ints cl ++ [Value.int .i64 t.client] = ints (cl ++ [t.client]) := by simp
      rw [e1] at hr' h4
      have H4 := Lib.hid h4
      have HR' := Lib.hid hr'
      clear h4 hr' e1 HST d1
      go_wp2
      go_roundw
      case rel => ((repeat apply Exists.intro (α := Value)); (first | refine ⟨?_, rfl⟩ | skip); (all_goals first | exact undef | skip)); exact ⟨q + 1, r', cl ++ [t.client], by omega, by go_num, by simp [HCL.out], by simp [rowV], HR'.out, H4.out.ac (fun y => by simp only [fbH, fbR, cnt_append, cnt_cons]; omega)⟩
      case measure => simp [intOf]; omega
    · obtain rfl : n = q := by omega
      obtain ⟨X, hX⟩ : ∃ X : Rw, X = rc := ⟨_, rfl⟩
      have hd3 : St base w0 wr (fbH F ++ (rowH rl 54 (ts.flatMap tkL) ++ (ts.flatMap tkG ++ L))) := hst.drop
      have HDR3 := Lib.hid (HDR2.out wr hd3)
      clear hst hrc hcl hd3 HDR2
      go_wp2_with fail
      go_loopw [13] (fun i wr => ∃ (q : Nat) (F : FB) (ts : List TK), q ≤ most ∧ i = .int .i64 q ∧ Dr base w0 L fb nn cn n rl F ts wr ∧ T = pTurns (pLoop sched (most - q) q F.pure (pts ts)).1 (pLoop sched (most - q) q F.pure (pts ts)).2) (fun i wr => most - (intOf i).toNat)
      case atStart => exact ⟨0, F, ts, Nat.zero_le _, rfl, HDR3.out, by rw [HT.out]; rfl⟩
      case round =>
        clear HDR3 HT
        obtain ⟨m, F, ts, hm, rfl, hd, hT⟩ := hrel
        by_cases hlt : m < most
        · have hltI : (m : Int) < (most : Int) := by omega
          have HD := Lib.hid hd
          have HT := Lib.hid hT
          clear hd hT
          go_wp2_with fail
          go_loopw [14] (fun i wr2 => i = .int .i64 0 ∧ wr2 = wr) (fun _ _ => 0)
          case atStart => exact ⟨rfl, rfl⟩
          case round =>
            obtain ⟨rfl, rfl⟩ := hrel
            obtain ⟨D, hD⟩ : ∃ D, D = pTurns F.pure (pts ts) := ⟨_, rfl⟩
            have hTD := HT.out
            rw [show most - m = (most - (m + 1)) + 1 by omega, pLoop, ← hD] at hTD
            have hst : Tn D F ts 0 := by rw [hD]; exact Tn.start
            have HTS := Lib.hid hst
            have HTD := Lib.hid hTD
            clear hD hTD hst HT
            go_wp2_with fail
            go_loopw [15] (fun i wr => ∃ (q : Nat) (F : FB) (ts : List TK), q ≤ n ∧ i = .int .i64 q ∧ Tn D F ts q ∧ Dr base w0 L fb nn cn n rl F ts wr) (fun i wr => n - (intOf i).toNat)
            case atStart => exact ⟨0, _, _, Nat.zero_le _, rfl, HTS.out, HD.out⟩
            case round =>
              clear HTS HD
              obtain ⟨q, F, ts, hq, rfl, htn, hd⟩ := hrel
              by_cases hlt : q < n
              · obtain ⟨t, ht⟩ : ∃ t, ts[q]? = some t := ⟨ts[q]'(by have := hd.len; omega), by simp⟩
                obtain ⟨⟨d0, d1, d2, d3⟩, ⟨d4, d5, d6, d7⟩, ⟨d8, d9, d10, d11⟩, df⟩ := tk_row_cells HB.out ht (fun p hp => by simp only [List.mem_append]; simp [hp]) hd.st
                have htr := fun R hR => turn_row F hd.ok hd.rng ts hd.tso q t ht rl hd.st R hR
                rw [show fP F = .pointer (some ⟨fb, 0, none⟩) by simp only [fP, hd.fb]] at htr
                have hltI : (q : Int) < (n : Int) := by omega
                have HTR := Lib.hid htr
                have HTN := Lib.hid htn
                have HD := Lib.hid hd
                have HTI := Lib.hid ht
                clear htr htn hd ht df
                go_wp2_with fail
                refine HTR.out _ ?_
                intro F' t' w5 q1 q2 q3 q4 q5 q6 q7 q8 h5
                have hrow : ∀ Y, (ts.set q t').flatMap tkL = Y → RowOk rl 12 n Y := fun Y hY => by rw [← hY]; have e := RowOk.setRec (enc := tkL) (s := 12) (fun _ => rfl) HD.out.row q t'; exact e
                obtain ⟨⟨e0, e1, e2, e3⟩, ⟨e4, e5, e6, e7⟩, ⟨e8, e9, e10, e11⟩, ef⟩ := tk_row_cells HB.out HTI.out (fun p hp => List.mem_append_left _ hp) h5
                have h6 := tk_row_put (t' := t') HB.out HTI.out h5
                have hd6 : Dr base w0 L fb nn cn n rl F' (ts.set q t') _ := ⟨q1, q5, q8, by rw [List.length_set]; exact HD.out.len, q2.trans HD.out.fb, q3.trans HD.out.ns, q4.trans HD.out.cs, hrow _ rfl, h6.ac (fun y => by simp only [fbH, fbR, cnt_append, cnt_cons]; omega)⟩
                have htn6 := HTN.out.next HTI.out q6 q7
                have HD6 := Lib.hid hd6
                have HTN6 := Lib.hid htn6
                clear h5 h6 hd6 htn6 q1 q2 q3 q4 q5 q6 q7 q8 hrow HD HTN HTR d0 d1 d2 d3 d4 d5 d6 d7 d8 d9 d10 d11
                go_wp2
                go_roundw
                case rel => ((repeat apply Exists.intro (α := Value)); (first | refine ⟨?_, rfl⟩ | skip); (all_goals first | exact undef | skip)); exact ⟨q + 1, F', ts.set q t', by omega, by go_num, HTN6.out, HD6.out⟩
                case measure => simp [intOf]; omega
              · obtain rfl : n = q := by omega
                obtain ⟨hp, ht⟩ := htn.stop hd.len
                have hstep := fun R hR => runStep_calls (n := m) F hd.ok A sched cc HAR.out HS.out hsl (by omega) hd.st R hR
                rw [show fP F = .pointer (some ⟨fb, 0, none⟩) by simp only [fP, hd.fb]] at hstep
                have hpr := pRunStep_rng hd.rng sched m
                have hTD := HTD.out
                rw [← hp, ← ht] at hTD
                obtain ⟨rs, hrs⟩ : ∃ x, x = pRunStep F.pure sched m := ⟨_, rfl⟩
                rw [← hrs] at hstep hpr hTD
                obtain ⟨P3, ok⟩ := rs
                simp only at hstep hpr hTD
                have HSTEP := Lib.hid hstep
                have HD := Lib.hid hd
                have HTD2 := Lib.hid hTD
                have HPR := Lib.hid hpr
                have HPP := Lib.hid hrs
                clear hstep hd hTD hpr htn hp ht hrs HTD
                go_wp2_with fail
                refine HSTEP.out _ ?_
                intro F' w6 q1 q2 q3 q4
                obtain ⟨l1, l2⟩ := pRunStep_len (sched := sched) (n := m) (F := F) (F' := F') (by rw [q3, ← HPP.out])
                have hd7 : Dr base w0 L fb nn cn n rl F' ts w6 := ⟨q1, by rw [q3]; exact HPR.out, HD.out.tso.mono l1 l2, HD.out.len, q2.trans HD.out.fb, l1.trans HD.out.ns, l2.trans HD.out.cs, HD.out.row, q4⟩
                have HD7 := Lib.hid hd7
                have HP3 := Lib.hid q3
                clear hd7 q1 q2 q3 q4 l1 l2 HSTEP HD HPR HPP
                cases ok with
                | true =>
                  have hT7 := HTD2.out
                  simp only [if_true] at hT7
                  rw [← HP3.out] at hT7
                  have HT7 := Lib.hid hT7
                  clear hT7 HTD2 HP3
                  go_wp2
                  go_roundw
                  case rel => ((repeat apply Exists.intro (α := Value)); (first | refine ⟨?_, rfl⟩ | skip); (all_goals first | exact undef | skip)); exact ⟨m + 1, F', ts, by omega, by go_num, HD7.out, HT7.out⟩
                  case measure => simp [intOf]; omega
                | false =>
                  have hT7 := HTD2.out
                  simp only [Bool.false_eq_true, if_false] at hT7
                  rw [← HP3.out] at hT7
                  have LT := Lib.hid hT7
                  have LST := HD7
                  clear hT7 HTD2 HP3 HD7
                  obtain ⟨F, hFF⟩ : ∃ x, x = F' := ⟨_, rfl⟩
                  subst hFF
                  obtain ⟨D, hD⟩ : ∃ D, D = pTurns F.pure (pts ts) := ⟨_, rfl⟩
                  have hTD := LT.out
                  rw [← hD] at hTD
                  have hst : Tn D F ts 0 := by rw [hD]; exact Tn.start
                  have HTS := Lib.hid hst
                  have HTD := Lib.hid hTD
                  clear hD hTD hst LT
                  go_wp2_with fail
                  go_loopw [16] (fun i wr => ∃ (q : Nat) (F : FB) (ts : List TK), q ≤ n ∧ i = .int .i64 q ∧ Tn D F ts q ∧ Dr base w0 L fb nn cn n rl F ts wr) (fun i wr => n - (intOf i).toNat)
                  case atStart => exact ⟨0, _, _, Nat.zero_le _, rfl, HTS.out, LST.out⟩
                  case round =>
                    clear HTS LST
                    obtain ⟨q, F, ts, hq, rfl, htn, hd⟩ := hrel
                    by_cases hlt : q < n
                    · obtain ⟨t, ht⟩ : ∃ t, ts[q]? = some t := ⟨ts[q]'(by have := hd.len; omega), by simp⟩
                      obtain ⟨⟨d0, d1, d2, d3⟩, ⟨d4, d5, d6, d7⟩, ⟨d8, d9, d10, d11⟩, df⟩ := tk_row_cells HB.out ht (fun p hp => by simp only [List.mem_append]; simp [hp]) hd.st
                      have htr := fun R hR => turn_row F hd.ok hd.rng ts hd.tso q t ht rl hd.st R hR
                      rw [show fP F = .pointer (some ⟨fb, 0, none⟩) by simp only [fP, hd.fb]] at htr
                      have hltI : (q : Int) < (n : Int) := by omega
                      have HTR := Lib.hid htr
                      have HTN := Lib.hid htn
                      have HD := Lib.hid hd
                      have HTI := Lib.hid ht
                      clear htr htn hd ht df
                      go_wp2_with fail
                      refine HTR.out _ ?_
                      intro F' t' w5 q1 q2 q3 q4 q5 q6 q7 q8 h5
                      have hrow : ∀ Y, (ts.set q t').flatMap tkL = Y → RowOk rl 12 n Y := fun Y hY => by rw [← hY]; have e := RowOk.setRec (enc := tkL) (s := 12) (fun _ => rfl) HD.out.row q t'; exact e
                      obtain ⟨⟨e0, e1, e2, e3⟩, ⟨e4, e5, e6, e7⟩, ⟨e8, e9, e10, e11⟩, ef⟩ := tk_row_cells HB.out HTI.out (fun p hp => List.mem_append_left _ hp) h5
                      have h6 := tk_row_put (t' := t') HB.out HTI.out h5
                      have hd6 : Dr base w0 L fb nn cn n rl F' (ts.set q t') _ := ⟨q1, q5, q8, by rw [List.length_set]; exact HD.out.len, q2.trans HD.out.fb, q3.trans HD.out.ns, q4.trans HD.out.cs, hrow _ rfl, h6.ac (fun y => by simp only [fbH, fbR, cnt_append, cnt_cons]; omega)⟩
                      have htn6 := HTN.out.next HTI.out q6 q7
                      have HD6 := Lib.hid hd6
                      have HTN6 := Lib.hid htn6
                      clear h5 h6 hd6 htn6 q1 q2 q3 q4 q5 q6 q7 q8 hrow HD HTN HTR d0 d1 d2 d3 d4 d5 d6 d7 d8 d9 d10 d11
                      go_wp2
                      go_roundw
                      case rel => ((repeat apply Exists.intro (α := Value)); (first | refine ⟨?_, rfl⟩ | skip); (all_goals first | exact undef | skip)); exact ⟨q + 1, F', ts.set q t', by omega, by go_num, HTN6.out, HD6.out⟩
                      case measure => simp [intOf]; omega
                    · obtain rfl : n = q := by omega
                      obtain ⟨hp, ht⟩ := htn.stop hd.len
                      rw [← HTD.out] at hp ht
                      have H9 := Lib.hid (HR.out F rl ts wr hd hp ht)
                      rw [HERL.out] at H9
                      clear hd hp ht HR htn
                      go_wp2
                      exact H9.out
        · obtain rfl : most = m := by omega
          have hT7 := hT
          rw [Nat.sub_self, pLoop] at hT7
          have LT := Lib.hid hT7
          have LST := Lib.hid hd
          clear hT7 hd hT
          obtain ⟨D, hD⟩ : ∃ D, D = pTurns F.pure (pts ts) := ⟨_, rfl⟩
          have hTD := LT.out
          rw [← hD] at hTD
          have hst : Tn D F ts 0 := by rw [hD]; exact Tn.start
          have HTS := Lib.hid hst
          have HTD := Lib.hid hTD
          clear hD hTD hst LT
          go_wp2_with fail
          go_loopw [16] (fun i wr => ∃ (q : Nat) (F : FB) (ts : List TK), q ≤ n ∧ i = .int .i64 q ∧ Tn D F ts q ∧ Dr base w0 L fb nn cn n rl F ts wr) (fun i wr => n - (intOf i).toNat)
          case atStart => exact ⟨0, _, _, Nat.zero_le _, rfl, HTS.out, LST.out⟩
          case round =>
            clear HTS LST
            obtain ⟨q, F, ts, hq, rfl, htn, hd⟩ := hrel
            by_cases hlt : q < n
            · obtain ⟨t, ht⟩ : ∃ t, ts[q]? = some t := ⟨ts[q]'(by have := hd.len; omega), by simp⟩
              obtain ⟨⟨d0, d1, d2, d3⟩, ⟨d4, d5, d6, d7⟩, ⟨d8, d9, d10, d11⟩, df⟩ := tk_row_cells HB.out ht (fun p hp => by simp only [List.mem_append]; simp [hp]) hd.st
              have htr := fun R hR => turn_row F hd.ok hd.rng ts hd.tso q t ht rl hd.st R hR
              rw [show fP F = .pointer (some ⟨fb, 0, none⟩) by simp only [fP, hd.fb]] at htr
              have hltI : (q : Int) < (n : Int) := by omega
              have HTR := Lib.hid htr
              have HTN := Lib.hid htn
              have HD := Lib.hid hd
              have HTI := Lib.hid ht
              clear htr htn hd ht df
              go_wp2_with fail
              refine HTR.out _ ?_
              intro F' t' w5 q1 q2 q3 q4 q5 q6 q7 q8 h5
              have hrow : ∀ Y, (ts.set q t').flatMap tkL = Y → RowOk rl 12 n Y := fun Y hY => by rw [← hY]; have e := RowOk.setRec (enc := tkL) (s := 12) (fun _ => rfl) HD.out.row q t'; exact e
              obtain ⟨⟨e0, e1, e2, e3⟩, ⟨e4, e5, e6, e7⟩, ⟨e8, e9, e10, e11⟩, ef⟩ := tk_row_cells HB.out HTI.out (fun p hp => List.mem_append_left _ hp) h5
              have h6 := tk_row_put (t' := t') HB.out HTI.out h5
              have hd6 : Dr base w0 L fb nn cn n rl F' (ts.set q t') _ := ⟨q1, q5, q8, by rw [List.length_set]; exact HD.out.len, q2.trans HD.out.fb, q3.trans HD.out.ns, q4.trans HD.out.cs, hrow _ rfl, h6.ac (fun y => by simp only [fbH, fbR, cnt_append, cnt_cons]; omega)⟩
              have htn6 := HTN.out.next HTI.out q6 q7
              have HD6 := Lib.hid hd6
              have HTN6 := Lib.hid htn6
              clear h5 h6 hd6 htn6 q1 q2 q3 q4 q5 q6 q7 q8 hrow HD HTN HTR d0 d1 d2 d3 d4 d5 d6 d7 d8 d9 d10 d11
              go_wp2
              go_roundw
              case rel => ((repeat apply Exists.intro (α := Value)); (first | refine ⟨?_, rfl⟩ | skip); (all_goals first | exact undef | skip)); exact ⟨q + 1, F', ts.set q t', by omega, by go_num, HTN6.out, HD6.out⟩
              case measure => simp [intOf]; omega
            · obtain rfl : n = q := by omega
              obtain ⟨hp, ht⟩ := htn.stop hd.len
              rw [← HTD.out] at hp ht
              have H9 := Lib.hid (HR.out F rl ts wr hd hp ht)
              rw [HERL.out] at H9
              clear hd hp ht HR htn
              go_wp2
              exact H9.out
end Go.Proofs.YtaojipegpjolcaaGreat
set_option linter.unusedVariables false
set_option linter.unusedSimpArgs false
namespace Go.Proofs.YtaojipegpjolcaaGreat
open Go.RowKit Go.Sort Go.Proofs.BodegaHeap
variable {base : Nat} {w0 w : World} {L : List Blk}

set_option maxRecDepth 100000 in
set_option maxHeartbeats 8000000 in
theorem Alone_calls (F : FB) (hF : FbOk F) (hP : PRng F.pure) (t : TK) (hts : TsOk F [t]) (h : St base w0 w (fbH F ++ (tkG t ++ L))) (R : Ending → World → Prop)
    (hR : ∀ (F' : FB) (t' : TK) w', FbOk F' → F'.fb = F.fb → F'.ns.length = F.ns.length → F'.cs.length = F.cs.length → PRng F'.pure → F'.pure = (pDrive F.pure [t.pure] [] 20000).1 → [t'.pure] = (pDrive F.pure [t.pure] [] 20000).2 → TsOk F' [t'] → St base w0 w' (fbH F' ++ (tkG t' ++ L)) → R (.returned (tkV t')) w') :
    Calls Tryz.prog 23 #[fP F, tkV t] w R := by
  obtain ⟨W, hW⟩ : ∃ W, W = ((w.alloc (.cells (tkCs t) 54)).alloc (.cells zeroTk 54)).alloc (.cells (tkCs t) 54) := ⟨_, rfl⟩
  have h2 : St base w0 W (fbH F ++ (rowH ⟨some (w.heap.size + 1 + 1), 0, []⟩ 54 ([t].flatMap tkL) ++ ([t].flatMap tkG ++ (zB12 (w.heap.size + 1) :: L)))) := by
    have q1 := (h.junk (.cells (tkCs t) 54)).alloc (.cells zeroTk 54)
    rw [World.size_alloc] at q1
    have q := q1.alloc (.cells (tkCs t) 54)
    rw [World.size_alloc, World.size_alloc, ← hW] at q
    have e : rowH ⟨some (w.heap.size + 1 + 1), 0, []⟩ 54 ([t].flatMap tkL) = [(w.heap.size + 1 + 1, .cells (tkCs t) 54 (0, 0))] := by simp [rowH]
    rw [e]
    exact q.ac (fun y => by simp only [zB12, List.flatMap_cons, List.flatMap_nil, List.append_nil, cnt_append, cnt_cons, cnt_nil]; omega)
  have hr0 : RowOk ⟨some (w.heap.size + 1 + 1), 0, []⟩ 12 [t].length ([t].flatMap tkL) := ⟨by simp, fun e => by simp at e, by simp, by simp [maxLen]⟩
  have hdr := fun R hR => Drive_calls (base := base) (w0 := w0) (w := W) F hF hP [t] hts (by simp) (by simp) ⟨some (w.heap.size + 1 + 1), 0, []⟩ hr0 none [] 0 (fun k x hx => by simp at hx) (fun x hx => by cases hx) (by simp) 20000 (by decide) h2 R hR
  have HDR := Lib.hid hdr
  have HR := Lib.hid hR
  have HW := Lib.hid hW
  clear hdr hR hW h2 hr0 h hF hP hts
  go_enter Tryz.func23, Tryz.ntmps23
  go_wp2_with fail
  rw [← HW.out]
  refine HDR.out _ ?_
  intro F' rl ts' w' hd h1 h2
  obtain ⟨t', rfl⟩ : ∃ t', ts' = [t'] := by
    have := hd.len
    rcases ts' with _ | ⟨a, _ | ⟨b, l⟩⟩
    · simp at this
    · exact ⟨a, rfl⟩
    · simp at this
  obtain ⟨b, hb⟩ := hd.row.pos (by simp)
  have erl : rowV rl [t].length = .slice (some ⟨b, 0, none⟩) 1 (1 + rl.k) := by simp [rowV, rowA, hb]
  rw [erl]
  obtain ⟨⟨d0, d1, d2, d3⟩, ⟨d4, d5, d6, d7⟩, ⟨d8, d9, d10, d11⟩, df⟩ := tk_row_cells hb (show [t'][0]? = some t' from rfl) (fun p hp => List.mem_append_right _ (List.mem_append_left _ hp)) hd.st
  simp only [Nat.zero_mul, Nat.zero_add] at d0 d1 d2 d3 d4 d5 d6 d7 d8 d9 d10 d11
  have hz : St base w0 w' (zB12 (w.heap.size + 1) :: (rowH rl 54 ([t'].flatMap tkL) ++ (fbH F' ++ (tkG t' ++ L)))) := hd.st.ac (fun y => by simp only [List.flatMap_cons, List.flatMap_nil, List.append_nil, fbH, fbR, cnt_append, cnt_cons, cnt_nil]; omega)
  have z8 := fun k => hz.cells (t := 54) (fr := (0, 0)) List.mem_cons_self k
  have zf8 := fun k => hz.frozen (t := 54) List.mem_cons_self k
  have hend := tk_put (tn := t') hz
  have H9 := Lib.hid (HR.out F' t' _ hd.ok hd.fb hd.ns hd.cs hd.rng h1 h2 hd.tso (St.drop (L := tkB12 (w.heap.size + 1) t' :: rowH rl 54 ([t'].flatMap tkL)) (hend.ac (fun y => by simp only [fbH, fbR, cnt_append, cnt_cons]; omega))))
  clear hd h1 h2 hb erl hz hend HR HDR HW df
  go_wp2
  exact bodyPost_ret (v := tkV t') (by simp [results, Tryz.results23, go_sem, z8]) rfl H9.out
end Go.Proofs.YtaojipegpjolcaaGreat
set_option linter.unusedVariables false
namespace Go.Proofs.YtaojipegpjolcaaGreat

def awT : PT := ⟨2, 0, ⟨3, 1, 0, 1, 5⟩, [], false, false, 0, 0⟩
def awOk (r : PF × List PT) : Bool :=
  (match r.2 with
    | [t] => t.over && !t.bad && decide (t.code = 0) && decide (t.value = 5)
    | _ => false) &&
  (match r.1.ns[2]? with
    | some N => !N.down && decide (N.words[9]? = some 40542292250984453)
    | none => false)
set_option maxRecDepth 1000000 in
theorem awake_pure : awOk (pDrive (pFresh 3 1 98) [awT] [] 20000) = true := by decide +kernel
end Go.Proofs.YtaojipegpjolcaaGreat
set_option linter.unusedVariables false
set_option linter.unusedSimpArgs false
namespace Go.Proofs.YtaojipegpjolcaaGreat
open Go.RowKit Go.Sort Go.Proofs.BodegaHeap
variable {base : Nat} {w0 w : World} {L : List Blk}

theorem Ws.set {xs : List Int} (h : Ws xs) (k : Nat) {v : Int} (hv : W64 v) : Ws (xs.set k v) := fun x hx => by
  rcases mem_set hx with hx | rfl
  · exact h x hx
  · exact hv
theorem fmtWords_rng (nodes lines : Nat) (hn : nodes ≤ 5) : Ws (fmtWords nodes lines) := by
  have hi : W64 (4504699138998272 + initV nodes) := by
    obtain rfl | rfl | rfl | rfl | rfl | rfl : nodes = 0 ∨ nodes = 1 ∨ nodes = 2 ∨ nodes = 3 ∨ nodes = 4 ∨ nodes = 5 := by omega
    all_goals exact ⟨by decide, by decide⟩
  have h1 : Ws (fmtA nodes (8 * lines)) := by
    unfold fmtA
    exact Ws.set (Ws.set (Ws.set (fun x hx => by rw [List.eq_of_mem_replicate hx]; exact W64.zero) 0 ⟨by decide, by decide⟩) 1 ⟨by decide, by decide⟩) 8 hi
  have h2 : ∀ xs n, Ws xs → Ws (fmtDoors xs n) := by
    intro xs n h
    induction n with
    | zero => exact h
    | succ n ih => exact Ws.set ih _ ⟨by decide, by decide⟩
  have h3 : ∀ xs n, Ws xs → Ws (fmtPages xs n) := by
    intro xs n h
    induction n with
    | zero => exact h
    | succ n ih => exact Ws.set ih _ ⟨by decide, by decide⟩
  exact h3 _ _ (h2 _ _ h1)
theorem pFresh_rng (nodes clients lines : Nat) (hn : nodes ≤ 5) : PRng (pFresh nodes clients lines) := by
  refine ⟨fun N hN => ?_, fun c hc => ?_, fun p hp => (by cases hp)⟩
  · simp only [pFresh] at hN
    rw [List.eq_of_mem_replicate hN]
    exact fmtWords_rng nodes lines hn
  · simp only [pFresh, List.mem_map] at hc
    obtain ⟨i, _, rfl⟩ := hc
    refine ⟨fun l hl => ?_, fun d hd => (by cases hd)⟩
    simp only [freshPC, List.mem_map] at hl
    obtain ⟨k, _, rfl⟩ := hl
    exact ⟨fun v hv => (by cases hv), fun x hx => (by cases hx)⟩

def awK : TK := ⟨2, 0, ⟨3, 1, 0, 1, 5⟩, nilRw, [], false, false, 0, 0⟩
theorem awK_pure : awK.pure = awT := rfl
theorem awK_ok (F : FB) (hn : F.ns.length = 3) (hc : F.cs.length = 1) : TsOk F [awK] :=
  ⟨fun t ht => by
    rw [List.mem_singleton] at ht
    subst ht
    exact ⟨0, by omega, ⟨rfl, rfl, by decide, ⟨by decide, by decide⟩, by rw [hn]; rfl, by decide, by decide, ⟨nilRw_ok 1, fun g hg => (by cases hg), by simp [awK]⟩, fun d hd => (by cases hd), by simp [awK]⟩, fun _ => by simp [awK]⟩⟩

set_option maxHeartbeats 400000 in
theorem RefCons_calls (w : World) (v : Int) (h0 : 0 ≤ v) (h1 : v ≤ 15) :
    Calls Tryz.prog 27 #[.int .i64 v] w fun e w' => e = .returned (.int .i64 (8 + v)) ∧ w' = w := by
  go_enter Tryz.func27, Tryz.ntmps27
  go_wp2
  go_ret
  exact ⟨rfl, rfl⟩

theorem aw_facts {F' : FB} {t' : TK} (h1 : F'.pure = (pDrive (pFresh 3 1 98) [awT] [] 20000).1) (h2 : [t'.pure] = (pDrive (pFresh 3 1 98) [awT] [] 20000).2) :
    (t'.over = true ∧ t'.bad = false ∧ t'.code = 0 ∧ t'.value = 5) ∧ ∃ x, F'.ns[2]? = some x ∧ x.N.down = false ∧ x.N.words[9]? = some 40542292250984453 := by
  have h := awake_pure
  unfold awOk at h
  rw [← h1, ← h2, Bool.and_eq_true] at h
  obtain ⟨ha, hb⟩ := h
  simp only [Bool.and_eq_true, decide_eq_true_eq, Bool.not_eq_true'] at ha
  refine ⟨⟨ha.1.1.1, ha.1.1.2, ha.1.2, ha.2⟩, ?_⟩
  simp only [FB.pure, List.getElem?_map] at hb
  cases hx : F'.ns[2]? with
  | none => rw [hx] at hb; simp at hb
  | some x =>
    rw [hx] at hb
    simp only [Option.map_some, Bool.and_eq_true, Bool.not_eq_true', decide_eq_true_eq] at hb
    exact ⟨x, rfl, hb.1, hb.2⟩

set_option maxRecDepth 100000 in
set_option maxHeartbeats 8000000 in
theorem awake_calls (w : World) : Calls Tryz.prog 8 #[] w fun e w' => e = .returned (.bool true) ∧ Below w.heap.size w w' := by
  have hfr := fun R hR => Fresh_calls (base := w.heap.size) (w0 := w) (w := w) (L := []) 3 1 98 (by decide) (by decide) (by decide) (by decide) (by decide) (by decide) (St.start w) R hR
  have HFR := Lib.hid hfr
  clear hfr
  go_enter Tryz.func8, Tryz.ntmps8
  go_wp2_with fail
  refine HFR.out _ ?_
  rintro fb w1 ⟨F, hF, rfl, hp, h1⟩
  have hn : F.ns.length = 3 := by have := congrArg (fun P : PF => P.ns.length) hp; simpa [FB.pure, pFresh] using this
  have hc : F.cs.length = 1 := by have := congrArg (fun P : PF => P.cs.length) hp; simpa [FB.pure, pFresh] using this
  have hal := fun R hR => Alone_calls (base := w.heap.size) (w0 := w) (w := w1) (L := []) F hF (by rw [hp]; exact pFresh_rng 3 1 98 (by decide)) awK (awK_ok F hn hc) h1 R hR
  rw [hp, awK_pure] at hal
  have HAL := Lib.hid hal
  have HN := Lib.hid hn
  clear hal hp h1 hn hc hF HFR
  go_wp2_with fail
  refine HAL.out _ ?_
  intro F' t' w2 q1 q2 q3 q4 q5 q6 q7 q8 h2
  obtain ⟨⟨e1, e2, e3, e4⟩, x, x1, x2, x3⟩ := aw_facts q6 q7
  obtain ⟨kind, client, job, r, gts, over, bad, code, value⟩ := t'
  simp only at e1 e2 e3 e4
  subst e1 e2 e3 e4
  have h3 := h2.junk (.cells (tkCs ⟨kind, client, job, r, gts, true, false, 0, 5⟩) 54)
  have h3k := h2.alloc (.cells (tkCs ⟨kind, client, job, r, gts, true, false, 0, 5⟩) 54)
  have hwr := fun W (hW : St w.heap.size w W (fbH F' ++ ((w2.heap.size, .cells (tkCs ⟨kind, client, job, r, gts, true, false, 0, 5⟩) 54 (0, 0)) :: (tkG ⟨kind, client, job, r, gts, true, false, 0, 5⟩ ++ [])))) R hR => Word_run (w := W) F' q1 2 x x1 x2 9 40542292250984453 x3 hW R hR
  rw [show fP F' = fP F by simp only [fP, q2]] at hwr
  have HWR := Lib.hid hwr
  have H3 := Lib.hid (h3k.ac (M := fbH F' ++ ((w2.heap.size, .cells (tkCs ⟨kind, client, job, r, gts, true, false, 0, 5⟩) 54 (0, 0)) :: (tkG ⟨kind, client, job, r, gts, true, false, 0, 5⟩ ++ []))) (fun y => by simp only [fbH, fbR, cnt_append, cnt_cons, cnt_nil]; omega))
  have HRC := Lib.hid (fun W => RefCons_calls W 1 (by decide) (by decide))
  clear h2 h3 h3k hwr q1 q2 q3 q4 q5 q6 q7 q8 x1 x2 x3 HAL
  go_wp2_with fail
  (refine Calls.mono (HRC.out _) ?_; intro e w' hh; rw [hh.1, hh.2]; clear hh w' e)
  go_wp2_with fail
  refine HWR.out _ H3.out _ ?_
  intro w3 h4
  have c4 := fun k => h4.cells (b := w2.heap.size) (cs := tkCs ⟨kind, client, job, r, gts, true, false, 0, 5⟩) (t := 54) (fr := (0, 0)) (by simp) k
  have HB := Lib.hid h4.below
  clear h4 HWR H3 HRC
  go_wp2
  go_ret
  exact ⟨rfl, HB.out⟩
end Go.Proofs.YtaojipegpjolcaaGreat
