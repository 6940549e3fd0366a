/- bodegarun.Happen. bodegarun9.Drive with events: its walk (printed by gen_drivee.py). PaxosAgrees: proposers, agreed. -/
import Derived.Test.YtaojipegpjolcaaGreatGP
set_option linter.unusedVariables false
set_option linter.unusedSimpArgs false
namespace Go.Proofs.YtaojipegpjolcaaGreat
open Go.RowKit Go.Sort Go.Proofs.BodegaHeap
variable {base : Nat} {w0 w : World} {L : List Blk}

set_option maxHeartbeats 800000 in
theorem Die_dead (F : FB) (hF : FbOk F) (c : Nat) (C : CP) (hc : F.cs[c]? = some C) (ha : C.alive = false) (h : St base w0 w (fbH F ++ L)) :
    Calls Tryz.prog 51 #[fP F, .int .i64 c] w fun e w' => e = .returned (.bool false) ∧ w' = w := by
  have hAl := Alive_calls F hF c C hc h
  rw [ha] at hAl
  have HAL := Lib.hid hAl
  clear hAl h hF hc ha
  go_enter Tryz.func51, Tryz.ntmps51
  go_wp2_with (first | (go_at_call 53; (refine Calls.mono HAL.out ?_; intro e w' hh; rw [hh.1, hh.2]; clear hh w' e)))
  go_ret
  exact ⟨rfl, rfl⟩
/-- What an event leaves. -/
structure HpOut (F F' : FB) (P : PF) : Prop where
  ok : FbOk F'
  fb : F'.fb = F.fb
  ns : F'.ns.length = F.ns.length
  cs : F'.cs.length = F.cs.length
  rng : PRng F'.pure
  pure : F'.pure = P
theorem pure_ns {F : FB} : F.pure.ns.length = F.ns.length := by simp [FB.pure]
theorem pure_cs {F : FB} : F.pure.cs.length = F.cs.length := by simp [FB.pure]
theorem pDie_len (P : PF) (c : Nat) : (pDie P c).ns.length = P.ns.length ∧ (pDie P c).cs.length = P.cs.length := by
  unfold pDie; split
  · split <;> simp
  · exact ⟨rfl, rfl⟩
theorem Die_any (F : FB) (hF : FbOk F) (hP : PRng F.pure) (c : Nat) (hc : c < F.cs.length) (h : St base w0 w (fbH F ++ L)) (R : Ending → World → Prop)
    (hR : ∀ r F' w', HpOut F F' (pDie F.pure c) → St base w0 w' (fbH F' ++ L) → R (.returned (.bool r)) w') :
    Calls Tryz.prog 51 #[fP F, .int .i64 c] w R := by
  obtain ⟨C, hC⟩ : ∃ C, F.cs[c]? = some C := ⟨F.cs[c], by simp [hc]⟩
  have hl := pDie_len F.pure c
  rw [pure_ns, pure_cs] at hl
  cases ha : C.alive with
  | true =>
    refine Die_calls F hF c C hC ha h R (fun F' w' g1 g2 g3 g4 => hR true F' w' ⟨g1, g2, ?_, ?_, by rw [g3]; exact pDie_rng hP c, g3⟩ g4)
    · rw [← pure_ns, g3, hl.1]
    · rw [← pure_cs, g3, hl.2]
  | false =>
    refine (Die_dead F hF c C hC ha h).mono ?_
    rintro e w' ⟨rfl, rfl⟩
    refine hR false F _ ⟨hF, rfl, rfl, rfl, hP, ?_⟩ h
    unfold pDie
    have e1 : F.pure.cs[c]? = some C.pure := by simp [FB.pure, hC]
    have e2 : C.pure.alive = false := ha
    rw [e1]
    simp only
    rw [e2, if_neg (by simp)]
theorem Drop_any (F : FB) (hF : FbOk F) (hP : PRng F.pure) (i : Nat) (hi : i ≤ 1000) (h : St base w0 w (fbH F ++ L)) (R : Ending → World → Prop)
    (hR : ∀ r F' w', HpOut F F' (pDrop F.pure i) → St base w0 w' (fbH F' ++ L) → R (.returned (.bool r)) w') :
    Calls Tryz.prog 52 #[fP F, .int .i64 i] w R := by
  have hol : F.os.length ≤ 30 := by have := hF.olen; omega
  by_cases hil : i < F.os.length
  · obtain ⟨g, hg⟩ : ∃ g, F.os[i]? = some g := ⟨F.os[i], by simp [hil]⟩
    refine DropOrphan_yes F hF.orr hol i g hg h R (fun r w' g1 g2 => hR true (F.dropped r i) w' ⟨?_, rfl, rfl, rfl, ?_, ?_⟩ g2)
    · refine ⟨hF.l0, hF.l1, hF.n0, hF.n1, hF.c0, hF.c1, hF.nodes, hF.nr, hF.cr, hF.cs, g1, fun x hx => hF.os x (List.mem_of_mem_eraseIdx hx), ?_⟩
      have h1 := hF.olen
      have h2 : (F.os.eraseIdx i).length ≤ F.os.length := by rw [List.length_eraseIdx]; split <;> omega
      simp only [FB.dropped]
      omega
    · have e : (F.dropped r i).pure = pDrop F.pure i := by simp [FB.pure, FB.dropped, pDrop, eraseIdx_map]
      rw [e]
      exact ⟨hP.ns, hP.cs, fun p hp => hP.os p (List.mem_of_mem_eraseIdx hp)⟩
    · simp [FB.pure, FB.dropped, pDrop, eraseIdx_map]
  · refine (DropOrphan_no F hol i (by omega) (by omega) h).mono ?_
    rintro e w' ⟨rfl, rfl⟩
    refine hR false F _ ⟨hF, rfl, rfl, rfl, hP, ?_⟩ h
    unfold pDrop
    rw [List.eraseIdx_of_length_le (by simp [FB.pure]; omega)]
structure EvR (e : Ev) : Prop where
  a : I64 e.at_
  b : I64 e.kind
  c : I64 e.a
abbrev evC (e : Ev) : Array Value := #[.int .i64 e.at_, .int .i64 e.kind, .int .i64 e.a]
abbrev evV (e : Ev) : Value := .agg (evC e)

set_option maxRecDepth 100000 in
set_option maxHeartbeats 8000000 in
theorem Happen_calls (F : FB) (hF : FbOk F) (hP : PRng F.pure) (cl : List Int) (hcl : ∀ x ∈ cl, 0 ≤ x ∧ x < (F.cs.length : Int)) (hcll : cl.length ≤ 100) (rc : Rw) (hrc : RowOk rc 1 cl.length (ints cl)) (hm : ∀ p, p ∈ rowH rc 3 (ints cl) → p ∈ L) (e : Ev) (he : EvR e) (h : St base w0 w (fbH F ++ L)) (R : Ending → World → Prop)
    (hR : ∀ F' w', HpOut F F' (pHappen F.pure cl e) → St base w0 w' (fbH F' ++ L) → R (.returned (.tuple #[])) w') :
    Calls Tryz.prog 32 #[fP F, rowV rc cl.length, evV e] w R := by
  have p1 := fun W => Pick_calls W e.kind 4 he.b (by decide)
  have b1 := pick_lo e.kind 4
  have b2 := pick_hi e.kind 4 (by decide)
  have hpu : pHappen F.pure cl e = pHappen F.pure cl e := rfl
  unfold pHappen at hR
  rw [pure_ns] at hR
  obtain ⟨k, hk⟩ : ∃ k, k = pick e.kind 4 := ⟨_, rfl⟩
  rw [← hk] at p1 b1 b2 hR
  clear hk hpu
  have hst : St base w0 (w.alloc (.cells (evC e) 69)) (fbH F ++ L) := h.junk _
  have HP1 := Lib.hid p1
  clear p1
  have hn5 := hF.n1
  have hn1 := hF.n0
  obtain rfl | rfl | rfl | rfl : k = 0 ∨ k = 1 ∨ k = 2 ∨ k = 3 := by omega
  · rw [if_pos rfl] at hR
    by_cases h0 : cl = []
    · rw [if_pos h0] at hR
      have hz : cl.length = 0 := by rw [h0]; rfl
      rw [hz]
      have hR2 := hR F _ ⟨hF, rfl, rfl, rfl, hP, rfl⟩ hst
      have HR2 := Lib.hid hR2
      clear hR hR2 h hst hP hF hcl hrc hm he h0 hz b1 b2 hn5 hn1
      go_enter Tryz.func32, Tryz.ntmps32
      go_wp2_with (first | (go_at_call 14; (refine Calls.mono (HP1.out _) ?_; intro e w' hh; rw [hh.1, hh.2]; clear hh w' e)))
      go_end0
      exact HR2.out
    · rw [if_neg h0] at hR
      have hl0 : 0 < cl.length := List.length_pos_iff.2 h0
      obtain ⟨b, hb⟩ := hrc.pos hl0
      have hrv : rowV rc cl.length = .slice (some ⟨b, 0, none⟩) cl.length (cl.length + rc.k) := by simp [rowV, rowA, hb]
      have p2 := fun W => Pick_calls W e.a (cl.length : Nat) he.c (by omega)
      have c1 := pick_lo e.a (cl.length : Nat)
      have c2 := pick_hi e.a (cl.length : Nat) (by omega)
      obtain ⟨j0, hj0⟩ : ∃ j, j = pick e.a (cl.length : Nat) := ⟨_, rfl⟩
      rw [← hj0] at p2 c1 c2 hR
      obtain ⟨j, rfl⟩ := Int.eq_ofNat_of_zero_le c1
      rw [Int.toNat_natCast] at hR
      obtain ⟨x, hx⟩ : ∃ x, cl[j]? = some x := ⟨cl[j]'(by omega), by simp⟩
      obtain ⟨x0, x1⟩ := hcl x (List.mem_of_getElem? hx)
      obtain ⟨c, rfl⟩ := Int.eq_ofNat_of_zero_le x0
      have hgd : cl.getD j 0 = (c : Int) := by rw [List.getD_eq_getElem?_getD, hx]; rfl
      rw [hgd, Int.toNat_natCast] at hR
      have hcell : (w.alloc (.cells (evC e) 69)).cell? ⟨b, j, none⟩ = some (.int .i64 (c : Int)) := by
        rw [hst.row_cell hb (fun p hp => List.mem_append_right _ (hm p hp)) j (by simp only [ints, List.length_map]; omega)]
        simp [ints, hx]
      have hdie := fun R hR => Die_any (R := R) F hF hP c (by omega) hst hR
      have HP2 := Lib.hid p2
      have HD := Lib.hid hdie
      have HR := Lib.hid hR
      have hl0I : (0 : Int) < (cl.length : Int) := by omega
      have hjI : (j : Int) < (cl.length : Int) := by omega
      rw [hrv]
      clear hR h hP hF hcl hrc hm he h0 hrv hb p2 hdie hj0 hx hgd hst b1 b2 hn5 hn1 c1
      go_enter Tryz.func32, Tryz.ntmps32
      go_wp2_with fail
      (refine Calls.mono (HP1.out _) ?_; intro e w' hh; rw [hh.1, hh.2]; clear hh w' e)
      go_wp2_with fail
      (refine Calls.mono (HP2.out _) ?_; intro e w' hh; rw [hh.1, hh.2]; clear hh w' e)
      go_wp2_with fail
      refine HD.out _ ?_
      intro r F' w' g1 g2
      have H9 := Lib.hid (HR.out F' w' g1 g2)
      clear g1 g2 HD HR hcell
      go_wp2
      go_end0
      exact H9.out
  · rw [if_neg (by decide), if_pos rfl] at hR
    have p2 := fun W => Pick_calls W e.a (F.ns.length : Nat) he.c (by omega)
    have c1 := pick_lo e.a (F.ns.length : Nat)
    have c2 := pick_hi e.a (F.ns.length : Nat) (by omega)
    obtain ⟨j0, hj0⟩ : ∃ j, j = pick e.a (F.ns.length : Nat) := ⟨_, rfl⟩
    rw [← hj0] at p2 c1 c2 hR
    obtain ⟨j, rfl⟩ := Int.eq_ofNat_of_zero_le c1
    rw [Int.toNat_natCast] at hR
    obtain ⟨x, hx⟩ : ∃ x, F.ns[j]? = some x := ⟨F.ns[j]'(by omega), by simp⟩
    obtain ⟨W, hW⟩ : ∃ W, W = w.alloc (.cells (evC e) 69) := ⟨_, rfl⟩
    obtain ⟨nb, hnb⟩ : ∃ x, x = w.heap.size := ⟨_, rfl⟩
    have hstW : St base w0 W (fbH F ++ ((nb, .cells (evC e) 69 (0, 0)) :: L)) := by
      rw [hW, hnb]; exact (h.alloc _).ac (fun y => by simp only [fbH, fbR, cnt_append, cnt_cons]; omega)
    have q1 := regrown (W := W) (fun w' hb => same_below (Nodes_calls F (hstW.grow hb)))
    have q2 := regrown (W := W) (fun w' hb => same_below (p2 w'))
    have q3 := regrown (W := W) (fun w' hb => same_below (Node_calls F j x hx hF.nr hF.n1 (hstW.grow hb)))
    have qc : ∀ d os i, (grow (redrawn W d) os).cell? ⟨nb, i, none⟩ = (evC e)[i]? := fun d os i => (hstW.grow (below_regrown W d os)).cells (cs := evC e) (t := 69) (fr := (0, 0)) (List.mem_append_right _ List.mem_cons_self) i
    have qc0 : ∀ i, W.cell? ⟨nb, i, none⟩ = (evC e)[i]? := fun i => hstW.cells (cs := evC e) (t := 69) (fr := (0, 0)) (List.mem_append_right _ List.mem_cons_self) i
    have hdo := fun W' (hb : Below W.heap.size W W') (h4 : St base w0 W' (fbH F ++ L)) R hR => Fail_fb (R := R) F hF j x hx h4 hR
    have HQ1 := Lib.hid q1
    have HQ2 := Lib.hid q2
    have HQ3 := Lib.hid q3
    have HQC := Lib.hid qc
    have HD := Lib.hid hdo
    have HSW := Lib.hid (hstW.ac (M := (nb, .cells (evC e) 69 (0, 0)) :: (fbH F ++ L)) (fun y => by simp only [fbH, fbR, cnt_append, cnt_cons]; omega))
    have HW := Lib.hid hW
    have hfin : ∀ F' w', NdOut F F' (pFail F.pure j) → St base w0 w' (fbH F' ++ L) → R (.returned (.tuple #[])) w' := fun F' w' g1 g2 => hR F' w' ⟨g1.ok, g1.fb, g1.ns, by rw [g1.cs], by rw [g1.pure]; exact pFail_rng hP j, g1.pure⟩ g2
    have HR := Lib.hid hfin
    clear hR hfin h hP hF hcl hrc hm he p2 hdo hj0 hst b1 b2 hn5 hn1 c1 c2 q1 q2 q3 qc qc0 hstW hx hW
    subst hnb
    go_enter Tryz.func32, Tryz.ntmps32
    go_wp2_with fail
    (refine Calls.mono (HP1.out _) ?_; intro e w' hh; rw [hh.1, hh.2]; clear hh w' e)
    go_wp2_with fail
    rw [← HW.out]
    have qc := HQC.out
    refine wp_region_quiet_below (by kernel_rfl) (by kernel_rfl) ?_
    iterate 4 quiet_step (fail)
    quiet_step (exact HQ1.out _ _)
    quiet_step (exact HQ2.out _ _)
    quiet_step (exact HQ3.out _ _)
    quiet_step (fail)
    refine wpQuiet_nil ?_
    intro w1 hw1
    have hb := quiet_out hw1
    have h4 := (HSW.out.grow hb).tail
    have HD2 := Lib.hid (fun R hR => HD.out w1 hb h4 R hR)
    clear hw1 hb h4 qc HQ1 HQ2 HQ3 HQC HD HSW
    go_wp2_with fail
    refine HD2.out _ ?_
    intro F' w' g1 g2
    have H9 := Lib.hid (HR.out F' w' g1 g2)
    clear g1 g2 HD2 HR
    go_wp2
    go_end0
    exact H9.out
  · rw [if_neg (by decide), if_neg (by decide), if_pos rfl] at hR
    have p2 := fun W => Pick_calls W e.a (F.ns.length : Nat) he.c (by omega)
    have c1 := pick_lo e.a (F.ns.length : Nat)
    have c2 := pick_hi e.a (F.ns.length : Nat) (by omega)
    obtain ⟨j0, hj0⟩ : ∃ j, j = pick e.a (F.ns.length : Nat) := ⟨_, rfl⟩
    rw [← hj0] at p2 c1 c2 hR
    obtain ⟨j, rfl⟩ := Int.eq_ofNat_of_zero_le c1
    rw [Int.toNat_natCast] at hR
    obtain ⟨x, hx⟩ : ∃ x, F.ns[j]? = some x := ⟨F.ns[j]'(by omega), by simp⟩
    obtain ⟨W, hW⟩ : ∃ W, W = w.alloc (.cells (evC e) 69) := ⟨_, rfl⟩
    obtain ⟨nb, hnb⟩ : ∃ x, x = w.heap.size := ⟨_, rfl⟩
    have hstW : St base w0 W (fbH F ++ ((nb, .cells (evC e) 69 (0, 0)) :: L)) := by
      rw [hW, hnb]; exact (h.alloc _).ac (fun y => by simp only [fbH, fbR, cnt_append, cnt_cons]; omega)
    have q1 := regrown (W := W) (fun w' hb => same_below (Nodes_calls F (hstW.grow hb)))
    have q2 := regrown (W := W) (fun w' hb => same_below (p2 w'))
    have q3 := regrown (W := W) (fun w' hb => same_below (Node_calls F j x hx hF.nr hF.n1 (hstW.grow hb)))
    have qc : ∀ d os i, (grow (redrawn W d) os).cell? ⟨nb, i, none⟩ = (evC e)[i]? := fun d os i => (hstW.grow (below_regrown W d os)).cells (cs := evC e) (t := 69) (fr := (0, 0)) (List.mem_append_right _ List.mem_cons_self) i
    have qc0 : ∀ i, W.cell? ⟨nb, i, none⟩ = (evC e)[i]? := fun i => hstW.cells (cs := evC e) (t := 69) (fr := (0, 0)) (List.mem_append_right _ List.mem_cons_self) i
    have hdo := fun W' (hb : Below W.heap.size W W') (h4 : St base w0 W' (fbH F ++ L)) R hR => Back_fb (R := R) F hF hP j x hx h4 hR
    have HQ1 := Lib.hid q1
    have HQ2 := Lib.hid q2
    have HQ3 := Lib.hid q3
    have HQC := Lib.hid qc
    have HD := Lib.hid hdo
    have HSW := Lib.hid (hstW.ac (M := (nb, .cells (evC e) 69 (0, 0)) :: (fbH F ++ L)) (fun y => by simp only [fbH, fbR, cnt_append, cnt_cons]; omega))
    have HW := Lib.hid hW
    have hfin : ∀ F' w', NdOut F F' (pBack F.pure j) → St base w0 w' (fbH F' ++ L) → R (.returned (.tuple #[])) w' := fun F' w' g1 g2 => hR F' w' ⟨g1.ok, g1.fb, g1.ns, by rw [g1.cs], by rw [g1.pure]; exact pBack_rng hP j, g1.pure⟩ g2
    have HR := Lib.hid hfin
    clear hR hfin h hP hF hcl hrc hm he p2 hdo hj0 hst b1 b2 hn5 hn1 c1 c2 q1 q2 q3 qc qc0 hstW hx hW
    subst hnb
    go_enter Tryz.func32, Tryz.ntmps32
    go_wp2_with fail
    (refine Calls.mono (HP1.out _) ?_; intro e w' hh; rw [hh.1, hh.2]; clear hh w' e)
    go_wp2_with fail
    rw [← HW.out]
    have qc := HQC.out
    refine wp_region_quiet_below (by kernel_rfl) (by kernel_rfl) ?_
    iterate 4 quiet_step (fail)
    quiet_step (exact HQ1.out _ _)
    quiet_step (exact HQ2.out _ _)
    quiet_step (exact HQ3.out _ _)
    quiet_step (fail)
    refine wpQuiet_nil ?_
    intro w1 hw1
    have hb := quiet_out hw1
    have h4 := (HSW.out.grow hb).tail
    have HD2 := Lib.hid (fun R hR => HD.out w1 hb h4 R hR)
    clear hw1 hb h4 qc HQ1 HQ2 HQ3 HQC HD HSW
    go_wp2_with fail
    refine HD2.out _ ?_
    intro r F' w' g1 g2
    have H9 := Lib.hid (HR.out F' w' g1 g2)
    clear g1 g2 HD2 HR
    go_wp2
    go_end0
    exact H9.out
  · rw [if_neg (by decide), if_neg (by decide), if_neg (by decide)] at hR
    have p2 := fun W => Pick_calls W e.a 3 he.c (by decide)
    have c1 := pick_lo e.a 3
    have c2 := pick_hi e.a 3 (by decide)
    obtain ⟨j0, hj0⟩ : ∃ j, j = pick e.a 3 := ⟨_, rfl⟩
    rw [← hj0] at p2 c1 c2 hR
    obtain ⟨j, rfl⟩ := Int.eq_ofNat_of_zero_le c1
    rw [Int.toNat_natCast] at hR
    have hdr := fun R hR => Drop_any (R := R) F hF hP j (by omega) hst hR
    have HP2 := Lib.hid p2
    have HD := Lib.hid hdr
    have HR := Lib.hid hR
    clear hR h hP hF hcl hrc hm he p2 hdr hj0 hst b1 b2 hn5 hn1 c1
    go_enter Tryz.func32, Tryz.ntmps32
    go_wp2_with fail
    (refine Calls.mono (HP1.out _) ?_; intro e w' hh; rw [hh.1, hh.2]; clear hh w' e)
    go_wp2_with fail
    (refine Calls.mono (HP2.out _) ?_; intro e w' hh; rw [hh.1, hh.2]; clear hh w' e)
    go_wp2_with fail
    refine HD.out _ ?_
    intro r F' w' g1 g2
    have H9 := Lib.hid (HR.out F' w' g1 g2)
    clear g1 g2 HD HR
    go_wp2
    go_end0
    exact H9.out
end Go.Proofs.YtaojipegpjolcaaGreat
set_option linter.unusedVariables false
set_option linter.unusedSimpArgs false
namespace Go.Proofs.YtaojipegpjolcaaGreat
open Go.RowKit Go.Sort Go.Proofs.BodegaHeap
variable {base : Nat} {w0 w : World} {L : List Blk}

/-- A slice of events that came from outside. -/
def ArgE (base : Nat) (w0 : World) (A : Option Addr) (evs : List Ev) : Prop := ∀ (k : Nat) e, evs[k]? = some e → ∃ ad : Addr, A = some ad ∧ ad.block < base ∧ w0.cell? (ad.add (k * 3)) = some (.int .i64 e.at_) ∧ w0.cell? ⟨(ad.add (k * 3)).block, (ad.add (k * 3)).off + 1, none⟩ = some (.int .i64 e.kind) ∧ w0.cell? ⟨(ad.add (k * 3)).block, (ad.add (k * 3)).off + 2, none⟩ = some (.int .i64 e.a)
theorem add_blk (a : Addr) (k : Nat) : (a.add k).block = a.block := by unfold Addr.add; split <;> rfl
theorem ArgE.cell {A : Option Addr} {evs : List Ev} (ha : ArgE base w0 A evs) (h : St base w0 w L) {k : Nat} {e : Ev} (he : evs[k]? = some e) : ∃ ad : Addr, A = some ad ∧ w.cell? (ad.add (k * 3)) = some (.int .i64 e.at_) ∧ w.cell? ⟨(ad.add (k * 3)).block, (ad.add (k * 3)).off + 1, none⟩ = some (.int .i64 e.kind) ∧ w.cell? ⟨(ad.add (k * 3)).block, (ad.add (k * 3)).off + 2, none⟩ = some (.int .i64 e.a) := by
  obtain ⟨ad, h1, h2, h3, h4, h5⟩ := ha k e he
  refine ⟨ad, h1, ?_, ?_, ?_⟩
  · rw [h.below.cell (p := ad.add (k * 3)) (by rw [add_blk]; exact h2)]; exact h3
  · rw [h.below.cell (p := ⟨(ad.add (k * 3)).block, (ad.add (k * 3)).off + 1, none⟩) (by simp only; rw [add_blk]; exact h2)]; exact h4
  · rw [h.below.cell (p := ⟨(ad.add (k * 3)).block, (ad.add (k * 3)).off + 2, none⟩) (by simp only; rw [add_blk]; exact h2)]; exact h5

set_option maxRecDepth 100000 in
set_option maxHeartbeats 16000000 in
theorem DriveE_calls (F : FB) (hF : FbOk F) (hP : PRng F.pure) (ts : List TK) (hts : TsOk F ts) (htl : ts.length ≤ 100) (r0 : Rw) (hr0 : RowOk r0 12 ts.length (ts.flatMap tkL)) (A : Option Addr) (sched : List Int) (cc : Nat) (ha : ArgI base w0 A sched) (hs : ∀ x ∈ sched, -9223372036854775808 ≤ x ∧ x ≤ 9223372036854775807) (hsl : sched.length ≤ maxLen)
    (E : Option Addr) (evs : List Ev) (ce : Nat) (hE : ArgE base w0 E evs) (hEr : ∀ e ∈ evs, EvR e) (hEl : evs.length ≤ maxLen) (most : Nat) (hmost : most ≤ 1000000) (h : St base w0 w (fbH F ++ (rowH r0 54 (ts.flatMap tkL) ++ (ts.flatMap tkG ++ L)))) (R : Ending → World → Prop)
    (hR : ∀ (F' : FB) (rl : Rw) (ts' : List TK) (L' : List Blk) w', Dr base w0 (L' ++ L) F.fb F.ns.length F.cs.length ts.length rl F' ts' w' → F'.pure = (pDriveE F.pure (pts ts) sched evs most).1 → pts ts' = (pDriveE F.pure (pts ts) sched evs most).2 → R (.returned (rowV rl ts.length)) w') :
    Calls Tryz.prog 16 #[fP F, rowV r0 ts.length, .slice A sched.length cc, .slice E evs.length ce, .int .i64 most] w R := by
  unfold maxLen at hEl
  have h1 : St base w0 w (rowH nilRw 54 [] ++ (rowH r0 54 (ts.flatMap tkL) ++ (fbH F ++ (ts.flatMap tkG ++ L)))) := by
    rw [rowH_nil, List.nil_append]; exact h.ac (fun y => by simp only [cnt_append]; omega)
  obtain ⟨T, hT⟩ : ∃ T, T = pDriveE F.pure (pts ts) sched evs most := ⟨_, rfl⟩
  obtain ⟨fb, hfb⟩ : ∃ x, x = F.fb := ⟨_, rfl⟩
  obtain ⟨nn, hnn⟩ : ∃ x, x = F.ns.length := ⟨_, rfl⟩
  obtain ⟨cn, hcn⟩ : ∃ x, x = F.cs.length := ⟨_, rfl⟩
  obtain ⟨n, hn⟩ : ∃ x, x = ts.length := ⟨_, rfl⟩
  have hfp : fP F = .pointer (some ⟨fb, 0, none⟩) := by rw [hfb]
  have hgo := fun F' rl ts' L' w' hd h1 h2 => hR F' rl ts' L' w' hd h1 h2
  rw [← hT, ← hfb, ← hnn, ← hcn, ← hn] at hgo
  rw [← hn] at htl hr0 ⊢
  rw [hfp]
  have hcls : ∀ x ∈ (pts ts).map (·.client), 0 ≤ x ∧ x < (cn : Int) := fun x hx => by
    simp only [pts, List.map_map] at hx
    obtain ⟨t, ht, rfl⟩ := List.mem_map.1 hx
    obtain ⟨c, h1, h2, _⟩ := hts.each t ht
    have := h2.client
    simp only [Function.comp_apply, TK.pure]
    omega
  have hdr : ∀ (L : List Blk) rl w', RowOk rl 12 n (ts.flatMap tkL) → St base w0 w' (fbH F ++ (rowH rl 54 (ts.flatMap tkL) ++ (ts.flatMap tkG ++ L))) → Dr base w0 L fb nn cn n rl F ts w' := fun L rl w' q1 q2 => ⟨hF, hP, hts, hn.symm, hfb.symm, hnn.symm, hcn.symm, q1, q2⟩
  have H1 := Lib.hid h1
  have HR := Lib.hid hgo
  have HDR := Lib.hid hdr
  have HT := Lib.hid hT
  have HR0 := Lib.hid hr0
  have HAR := Lib.hid ha
  have HS := Lib.hid hs
  have HN := Lib.hid hn
  have HE := Lib.hid hE
  have HER := Lib.hid hEr
  have HCLS := Lib.hid hcls
  clear hE hEr hcls h h1 hR hgo hdr hT hr0 ha hs hF hP hts hfb hnn hcn hfp hn
  go_enter Tryz.func16, Tryz.ntmps16
  go_wp2_with (at_builtin; refine wp_appendRow elem_tk rfl _ _ rfl nilRw 0 [] rfl (nilRw_ok 12) r0 n (ts.flatMap tkL) rfl HR0.out H1.out (tkL_one ts) (by omega) ?_)
  intro rl w2 hrl h2
  try simp only [Nat.zero_add, List.nil_append] at hrl h2
  obtain ⟨B, erl, hBp⟩ : ∃ B : Option Addr, rowV rl n = .slice B n (n + rl.k) ∧ (0 < n → ∃ b, rl.blk = some b ∧ B = some ⟨b, 0, none⟩) := ⟨rowA rl, rfl, fun h0 => by
    obtain ⟨b, hb⟩ := hrl.pos h0
    exact ⟨b, hb, by simp [rowA, hb]⟩⟩
  try simp only [Nat.zero_add]
  rw [erl]
  have hst2 : St base w0 w2 (fbH F ++ (rowH rl 54 (ts.flatMap tkL) ++ (ts.flatMap tkG ++ L))) := St.drop (L := rowH r0 54 (ts.flatMap tkL)) (h2.ac (fun y => by simp only [fbH, fbR, cnt_append, cnt_cons]; omega))
  have HD2 := Lib.hid (HDR.out L rl w2 hrl hst2)
  have HDR2 := Lib.hid (fun L w' q2 => HDR.out L rl w' hrl q2)
  have HBP := Lib.hid hBp
  have HERL := Lib.hid erl
  clear hrl h2 hst2 H1 HDR hBp erl HR0
  go_wp2_with fail
  -- the clients
  go_loopw [11, 12] (fun a i wr => ∃ (q : Nat) (rc : Rw) (cl : List Int), q ≤ n ∧ i = .int .i64 q ∧ cl = ((pts ts).map (·.client)).take q ∧ a = rowV rc q ∧ RowOk rc 1 q (ints cl) ∧ St base w0 wr (rowH rc 3 (ints cl) ++ (fbH F ++ (rowH rl 54 (ts.flatMap tkL) ++ (ts.flatMap tkG ++ L))))) (fun a i wr => n - (intOf i).toNat)
  case atStart => exact ⟨0, nilRw, [], Nat.zero_le _, rfl, rfl, rfl, nilRw_ok 1, HD2.out.st⟩
  case round =>
    clear HD2
    obtain ⟨q, rc, cl, hq, rfl, hcl, rfl, hrc, hst⟩ := hrel
    by_cases hlt : q < n
    · obtain ⟨t, ht⟩ : ∃ t, ts[q]? = some t := ⟨ts[q]'(by have := HN.out; omega), by simp⟩
      obtain ⟨b, hb, rfl⟩ := HBP.out (by omega)
      obtain ⟨⟨_, d1, _, _⟩, _, _, _⟩ := tk_row_cells hb ht (fun p hp => by simp only [List.mem_append]; simp [hp]) hst
      have hltI : (q : Int) < (n : Int) := by omega
      have hcl2 : cl ++ [t.client] = ((pts ts).map (·.client)).take (q + 1) := by
        have e : ((pts ts).map (·.client))[q]? = some t.client := by simp [pts, ht, TK.pure]
        rw [List.take_add_one, e, hcl]; rfl
      have HCL2 := Lib.hid hcl2
      clear hb hcl2
      have HST := Lib.hid hst
      have HRC := Lib.hid hrc
      have HCL := Lib.hid hcl
      clear hst hrc hcl ht
      go_wp2_with (at_builtin; refine wp_append1 elem_int rfl _ _ rfl rc q _ rfl HRC.out HST.out (.int .i64 t.client) rfl rfl (by omega) ?_)
      intro r' w4 hr' h4 _ _
      have e1 : ints cl ++ [Value.int .i64 t.client] = ints (cl ++ [t.client]) := by simp
      rw [e1] at hr' h4
      have H4 := Lib.hid h4
      have HR' := Lib.hid hr'
      clear h4 hr' e1 HST d1
      go_wp2
      go_roundw
      case rel => ((repeat apply Exists.intro (α := Value)); (first | refine ⟨?_, rfl⟩ | skip); (all_goals first | exact undef | skip)); exact ⟨q + 1, r', cl ++ [t.client], by omega, by go_num, HCL2.out, by simp [rowV], HR'.out, H4.out.ac (fun y => by simp only [fbH, fbR, cnt_append, cnt_cons]; omega)⟩
      case measure => simp [intOf]; omega
    · obtain rfl : n = q := by omega
      have hclt : cl = (pts ts).map (·.client) := by
        rw [hcl, List.take_of_length_le]
        have := HN.out
        simp only [pts, List.length_map]
        omega
      have hcln : cl.length = n := by have := HN.out; rw [hclt]; simp only [pts, List.length_map]; omega
      have hclr : ∀ x ∈ cl, 0 ≤ x ∧ x < (cn : Int) := by rw [hclt]; exact HCLS.out
      have hT := HT.out
      unfold pDriveE at hT
      rw [← hclt] at hT
      have HT2 := Lib.hid hT
      have hd3 : St base w0 wr (fbH F ++ (rowH rl 54 (ts.flatMap tkL) ++ (ts.flatMap tkG ++ (rowH rc 3 (ints cl) ++ L)))) := hst.ac (fun y => by simp only [fbH, fbR, cnt_append, cnt_cons]; omega)
      have HDR3 := Lib.hid (HDR2.out (rowH rc 3 (ints cl) ++ L) wr hd3)
      have HRC := Lib.hid hrc
      have HCLN := Lib.hid hcln
      have HCLR := Lib.hid hclr
      clear hst hrc hcl hd3 HDR2 hclt hT HT hcln hclr HCLS
      go_wp2_with fail
      go_loopw [13] (fun i wr => ∃ (q : Nat) (F : FB) (ts : List TK), q ≤ most ∧ i = .int .i64 q ∧ Dr base w0 (rowH rc 3 (ints cl) ++ L) fb nn cn n rl F ts wr ∧ T = pTurns (pLoopE sched cl evs (most - q) q F.pure (pts ts)).1 (pLoopE sched cl evs (most - q) q F.pure (pts ts)).2) (fun i wr => most - (intOf i).toNat)
      case atStart => exact ⟨0, F, ts, Nat.zero_le _, rfl, HDR3.out, by rw [HT2.out, Nat.sub_zero]⟩
      case round =>
        clear HDR3 HT2
        obtain ⟨m, F, ts, hm, rfl, hd, hT⟩ := hrel
        by_cases hlt : m < most
        · have hltI : (m : Int) < (most : Int) := by omega
          have HD := Lib.hid hd
          have HT := Lib.hid hT
          clear hd hT
          go_wp2_with fail
          obtain ⟨P1, hP1⟩ : ∃ P1, P1 = pEvents cl m F.pure evs := ⟨_, rfl⟩
          have hT1 := HT.out
          rw [show most - m = (most - (m + 1)) + 1 by omega, pLoopE, ← hP1] at hT1
          have HT1 := Lib.hid hT1
          have HP1 := Lib.hid hP1
          clear HT hT1 hP1
          go_loopw [14] (fun i wr => ∃ (q : Nat) (F : FB), q ≤ evs.length ∧ i = .int .i64 q ∧ P1 = pEvents cl m F.pure (evs.drop q) ∧ Dr base w0 (rowH rc 3 (ints cl) ++ L) fb nn cn n rl F ts wr) (fun i wr => evs.length - (intOf i).toNat)
          case atStart => exact ⟨0, F, Nat.zero_le _, rfl, by rw [HP1.out, List.drop_zero], HD.out⟩
          case round =>
           clear HP1 HD F
           obtain ⟨q, F, hq, rfl, hpe, hd⟩ := hrel
           by_cases hlt : q < evs.length
           · obtain ⟨e, he⟩ : ∃ e, evs[q]? = some e := ⟨evs[q], by simp [hlt]⟩
             obtain ⟨ad, hEd, hcells⟩ := HE.out.cell hd.st he
             have her := HER.out e (List.mem_of_getElem? he)
             have hpk := fun W => Pick_calls W e.at_ 60 her.a (by decide)
             have hdrop : evs.drop q = e :: evs.drop (q + 1) := by rw [List.drop_eq_getElem_cons (List.getElem?_eq_some_iff.1 he).1, (List.getElem?_eq_some_iff.1 he).2]
             rw [hdrop, pEvents] at hpe
             obtain ⟨a, ha⟩ : ∃ a, a = pick e.at_ 60 := ⟨_, rfl⟩
             rw [← ha] at hpk hpe
             have hltI : (q : Int) < (evs.length : Int) := by omega
             obtain ⟨k0, k1, k2⟩ := hcells
             subst hEd
             have HPK := Lib.hid hpk
             have HDD := Lib.hid hd
             have HRR := Lib.hid her
             have hns := fun (F' : FB) (w' : World) (P' : PF) (g : HpOut F F' P') (hs : St base w0 w' (fbH F' ++ (rowH rl 54 (ts.flatMap tkL) ++ (ts.flatMap tkG ++ (rowH rc 3 (ints cl) ++ L))))) => (show Dr base w0 (rowH rc 3 (ints cl) ++ L) fb nn cn n rl F' ts w' from ⟨g.ok, g.rng, hd.tso.mono g.ns g.cs, hd.len, g.fb.trans hd.fb, g.ns.trans hd.ns, g.cs.trans hd.cs, hd.row, hs⟩)
             have HNS := Lib.hid hns
             clear hpk hd her hns he hdrop ha
             by_cases hat : a = (m : Int)
             · rw [if_pos hat] at hpe
               have hatB : (a == (m : Int)) = true := by rw [beq_iff_eq]; exact hat
               have hhp := fun R hR => Happen_calls (R := R) F HDD.out.ok HDD.out.rng cl (by rw [HDD.out.cs]; exact HCLR.out) (by rw [HCLN.out]; exact htl) rc (by rw [HCLN.out]; exact HRC.out) (fun p hp => List.mem_append_right _ (List.mem_append_right _ (List.mem_append_left _ hp))) e HRR.out HDD.out.st hR
               rw [HCLN.out, show fP F = .pointer (some ⟨fb, 0, none⟩) by simp only [fP, HDD.out.fb]] at hhp
               have HHP := Lib.hid hhp
               have HPE := Lib.hid hpe
               clear hhp hpe hat
               go_wp2_with fail
               (refine Calls.mono (HPK.out _) ?_; intro e w' hh; rw [hh.1, hh.2]; clear hh w' e)
               go_wp2_with fail
               refine HHP.out _ ?_
               intro F' w' g1 g2
               have hd5 := HNS.out F' w' _ g1 g2
               have hpe5 := HPE.out
               rw [← g1.pure] at hpe5
               have HD5 := Lib.hid hd5
               have HPE5 := Lib.hid hpe5
               clear g1 g2 hd5 hpe5 HHP HPE HNS HDD HRR HPK k0 k1 k2 hatB
               go_wp2
               go_roundw
               case rel => exact ⟨q + 1, F', by omega, by go_num, HPE5.out, HD5.out⟩
               case measure => simp [intOf]; omega
             · rw [if_neg hat] at hpe
               have hatB : (a == (m : Int)) = false := by rw [beq_eq_false_iff_ne]; exact hat
               have HPE := Lib.hid hpe
               clear hpe hat
               go_wp2_with fail
               (refine Calls.mono (HPK.out _) ?_; intro e w' hh; rw [hh.1, hh.2]; clear hh w' e)
               go_wp2
               go_roundw
               case rel => exact ⟨q + 1, F, by omega, by go_num, HPE.out, HDD.out⟩
               case measure => simp [intOf]; omega
           · obtain rfl : evs.length = q := by omega
             rw [List.drop_of_length_le (Nat.le_refl _), pEvents] at hpe
             have hT1 := HT1.out
             rw [hpe] at hT1
             have HT := Lib.hid hT1
             have HD := Lib.hid hd
             clear hd hpe hT1 HT1
             obtain ⟨D, hD⟩ : ∃ D, D = pTurns F.pure (pts ts) := ⟨_, rfl⟩
             have hTD := HT.out
             rw [← hD] at hTD
             have hst : Tn D F ts 0 := by rw [hD]; exact Tn.start
             have HTS := Lib.hid hst
             have HTD := Lib.hid hTD
             clear hD hTD hst HT
             go_wp2_with fail
             go_loopw [15] (fun i wr => ∃ (q : Nat) (F : FB) (ts : List TK), q ≤ n ∧ i = .int .i64 q ∧ Tn D F ts q ∧ Dr base w0 (rowH rc 3 (ints cl) ++ L) fb nn cn n rl F ts wr) (fun i wr => n - (intOf i).toNat)
             case atStart => exact ⟨0, _, _, Nat.zero_le _, rfl, HTS.out, HD.out⟩
             case round =>
               clear HTS HD
               obtain ⟨q, F, ts, hq, rfl, htn, hd⟩ := hrel
               by_cases hlt : q < n
               · obtain ⟨t, ht⟩ : ∃ t, ts[q]? = some t := ⟨ts[q]'(by have := hd.len; omega), by simp⟩
                 obtain ⟨b, hb, rfl⟩ := HBP.out (by omega)
                 have HB := Lib.hid hb
                 clear hb
                 obtain ⟨⟨d0, d1, d2, d3⟩, ⟨d4, d5, d6, d7⟩, ⟨d8, d9, d10, d11⟩, df⟩ := tk_row_cells HB.out ht (fun p hp => by simp only [List.mem_append]; simp [hp]) hd.st
                 have htr := fun R hR => turn_row F hd.ok hd.rng ts hd.tso q t ht rl hd.st R hR
                 rw [show fP F = .pointer (some ⟨fb, 0, none⟩) by simp only [fP, hd.fb]] at htr
                 have hltI : (q : Int) < (n : Int) := by omega
                 have HTR := Lib.hid htr
                 have HTN := Lib.hid htn
                 have HD := Lib.hid hd
                 have HTI := Lib.hid ht
                 clear htr htn hd ht df
                 go_wp2_with fail
                 refine HTR.out _ ?_
                 intro F' t' w5 q1 q2 q3 q4 q5 q6 q7 q8 h5
                 have hrow : ∀ Y, (ts.set q t').flatMap tkL = Y → RowOk rl 12 n Y := fun Y hY => by rw [← hY]; have e := RowOk.setRec (enc := tkL) (s := 12) (fun _ => rfl) HD.out.row q t'; exact e
                 obtain ⟨⟨e0, e1, e2, e3⟩, ⟨e4, e5, e6, e7⟩, ⟨e8, e9, e10, e11⟩, ef⟩ := tk_row_cells HB.out HTI.out (fun p hp => List.mem_append_left _ hp) h5
                 have h6 := tk_row_put (t' := t') HB.out HTI.out h5
                 have hd6 : Dr base w0 (rowH rc 3 (ints cl) ++ L) fb nn cn n rl F' (ts.set q t') _ := ⟨q1, q5, q8, by rw [List.length_set]; exact HD.out.len, q2.trans HD.out.fb, q3.trans HD.out.ns, q4.trans HD.out.cs, hrow _ rfl, h6.ac (fun y => by simp only [fbH, fbR, cnt_append, cnt_cons]; omega)⟩
                 have htn6 := HTN.out.next HTI.out q6 q7
                 have HD6 := Lib.hid hd6
                 have HTN6 := Lib.hid htn6
                 clear h5 h6 hd6 htn6 q1 q2 q3 q4 q5 q6 q7 q8 hrow HD HTN HTR d0 d1 d2 d3 d4 d5 d6 d7 d8 d9 d10 d11
                 go_wp2
                 go_roundw
                 case rel => ((repeat apply Exists.intro (α := Value)); (first | refine ⟨?_, rfl⟩ | skip); (all_goals first | exact undef | skip)); exact ⟨q + 1, F', ts.set q t', by omega, by go_num, HTN6.out, HD6.out⟩
                 case measure => simp [intOf]; omega
               · obtain rfl : n = q := by omega
                 obtain ⟨hp, ht⟩ := htn.stop hd.len
                 have hstep := fun R hR => runStep_calls (n := m) F hd.ok A sched cc HAR.out HS.out hsl (by omega) hd.st R hR
                 rw [show fP F = .pointer (some ⟨fb, 0, none⟩) by simp only [fP, hd.fb]] at hstep
                 have hpr := pRunStep_rng hd.rng sched m
                 have hTD := HTD.out
                 rw [← hp, ← ht] at hTD
                 obtain ⟨rs, hrs⟩ : ∃ x, x = pRunStep F.pure sched m := ⟨_, rfl⟩
                 rw [← hrs] at hstep hpr hTD
                 obtain ⟨P3, ok⟩ := rs
                 simp only at hstep hpr hTD
                 have HSTEP := Lib.hid hstep
                 have HD := Lib.hid hd
                 have HTD2 := Lib.hid hTD
                 have HPR := Lib.hid hpr
                 have HPP := Lib.hid hrs
                 clear hstep hd hTD hpr htn hp ht hrs HTD
                 go_wp2_with fail
                 refine HSTEP.out _ ?_
                 intro F' w6 q1 q2 q3 q4
                 obtain ⟨l1, l2⟩ := pRunStep_len (sched := sched) (n := m) (F := F) (F' := F') (by rw [q3, ← HPP.out])
                 have hd7 : Dr base w0 (rowH rc 3 (ints cl) ++ L) fb nn cn n rl F' ts w6 := ⟨q1, by rw [q3]; exact HPR.out, HD.out.tso.mono l1 l2, HD.out.len, q2.trans HD.out.fb, l1.trans HD.out.ns, l2.trans HD.out.cs, HD.out.row, q4⟩
                 have HD7 := Lib.hid hd7
                 have HP3 := Lib.hid q3
                 clear hd7 q1 q2 q3 q4 l1 l2 HSTEP HD HPR HPP
                 cases ok with
                 | true =>
                   have hT7 := HTD2.out
                   simp only [if_true] at hT7
                   rw [← HP3.out] at hT7
                   have HT7 := Lib.hid hT7
                   clear hT7 HTD2 HP3
                   go_wp2
                   go_roundw
                   case rel => ((repeat apply Exists.intro (α := Value)); (first | refine ⟨?_, rfl⟩ | skip); (all_goals first | exact undef | skip)); exact ⟨m + 1, F', ts, by omega, by go_num, HD7.out, HT7.out⟩
                   case measure => simp [intOf]; omega
                 | false =>
                   have hT7 := HTD2.out
                   simp only [Bool.false_eq_true, if_false] at hT7
                   rw [← HP3.out] at hT7
                   have LT := Lib.hid hT7
                   have LST := HD7
                   clear hT7 HTD2 HP3 HD7
                   obtain ⟨F, hFF⟩ : ∃ x, x = F' := ⟨_, rfl⟩
                   subst hFF
                   obtain ⟨D, hD⟩ : ∃ D, D = pTurns F.pure (pts ts) := ⟨_, rfl⟩
                   have hTD := LT.out
                   rw [← hD] at hTD
                   have hst : Tn D F ts 0 := by rw [hD]; exact Tn.start
                   have HTS := Lib.hid hst
                   have HTD := Lib.hid hTD
                   clear hD hTD hst LT
                   go_wp2_with fail
                   go_loopw [16] (fun i wr => ∃ (q : Nat) (F : FB) (ts : List TK), q ≤ n ∧ i = .int .i64 q ∧ Tn D F ts q ∧ Dr base w0 (rowH rc 3 (ints cl) ++ L) fb nn cn n rl F ts wr) (fun i wr => n - (intOf i).toNat)
                   case atStart => exact ⟨0, _, _, Nat.zero_le _, rfl, HTS.out, LST.out⟩
                   case round =>
                     clear HTS LST
                     obtain ⟨q, F, ts, hq, rfl, htn, hd⟩ := hrel
                     by_cases hlt : q < n
                     · obtain ⟨t, ht⟩ : ∃ t, ts[q]? = some t := ⟨ts[q]'(by have := hd.len; omega), by simp⟩
                       obtain ⟨b, hb, rfl⟩ := HBP.out (by omega)
                       have HB := Lib.hid hb
                       clear hb
                       obtain ⟨⟨d0, d1, d2, d3⟩, ⟨d4, d5, d6, d7⟩, ⟨d8, d9, d10, d11⟩, df⟩ := tk_row_cells HB.out ht (fun p hp => by simp only [List.mem_append]; simp [hp]) hd.st
                       have htr := fun R hR => turn_row F hd.ok hd.rng ts hd.tso q t ht rl hd.st R hR
                       rw [show fP F = .pointer (some ⟨fb, 0, none⟩) by simp only [fP, hd.fb]] at htr
                       have hltI : (q : Int) < (n : Int) := by omega
                       have HTR := Lib.hid htr
                       have HTN := Lib.hid htn
                       have HD := Lib.hid hd
                       have HTI := Lib.hid ht
                       clear htr htn hd ht df
                       go_wp2_with fail
                       refine HTR.out _ ?_
                       intro F' t' w5 q1 q2 q3 q4 q5 q6 q7 q8 h5
                       have hrow : ∀ Y, (ts.set q t').flatMap tkL = Y → RowOk rl 12 n Y := fun Y hY => by rw [← hY]; have e := RowOk.setRec (enc := tkL) (s := 12) (fun _ => rfl) HD.out.row q t'; exact e
                       obtain ⟨⟨e0, e1, e2, e3⟩, ⟨e4, e5, e6, e7⟩, ⟨e8, e9, e10, e11⟩, ef⟩ := tk_row_cells HB.out HTI.out (fun p hp => List.mem_append_left _ hp) h5
                       have h6 := tk_row_put (t' := t') HB.out HTI.out h5
                       have hd6 : Dr base w0 (rowH rc 3 (ints cl) ++ L) fb nn cn n rl F' (ts.set q t') _ := ⟨q1, q5, q8, by rw [List.length_set]; exact HD.out.len, q2.trans HD.out.fb, q3.trans HD.out.ns, q4.trans HD.out.cs, hrow _ rfl, h6.ac (fun y => by simp only [fbH, fbR, cnt_append, cnt_cons]; omega)⟩
                       have htn6 := HTN.out.next HTI.out q6 q7
                       have HD6 := Lib.hid hd6
                       have HTN6 := Lib.hid htn6
                       clear h5 h6 hd6 htn6 q1 q2 q3 q4 q5 q6 q7 q8 hrow HD HTN HTR d0 d1 d2 d3 d4 d5 d6 d7 d8 d9 d10 d11
                       go_wp2
                       go_roundw
                       case rel => ((repeat apply Exists.intro (α := Value)); (first | refine ⟨?_, rfl⟩ | skip); (all_goals first | exact undef | skip)); exact ⟨q + 1, F', ts.set q t', by omega, by go_num, HTN6.out, HD6.out⟩
                       case measure => simp [intOf]; omega
                     · obtain rfl : n = q := by omega
                       obtain ⟨hp, ht⟩ := htn.stop hd.len
                       rw [← HTD.out] at hp ht
                       have H9 := Lib.hid (HR.out F rl ts (rowH rc 3 (ints cl)) wr hd hp ht)
                       rw [HERL.out] at H9
                       clear hd hp ht HR htn
                       go_wp2
                       exact H9.out
        · obtain rfl : most = m := by omega
          have hT7 := hT
          rw [Nat.sub_self, pLoopE] at hT7
          have LT := Lib.hid hT7
          have LST := Lib.hid hd
          clear hT7 hd hT
          obtain ⟨D, hD⟩ : ∃ D, D = pTurns F.pure (pts ts) := ⟨_, rfl⟩
          have hTD := LT.out
          rw [← hD] at hTD
          have hst : Tn D F ts 0 := by rw [hD]; exact Tn.start
          have HTS := Lib.hid hst
          have HTD := Lib.hid hTD
          clear hD hTD hst LT
          go_wp2_with fail
          go_loopw [16] (fun i wr => ∃ (q : Nat) (F : FB) (ts : List TK), q ≤ n ∧ i = .int .i64 q ∧ Tn D F ts q ∧ Dr base w0 (rowH rc 3 (ints cl) ++ L) fb nn cn n rl F ts wr) (fun i wr => n - (intOf i).toNat)
          case atStart => exact ⟨0, _, _, Nat.zero_le _, rfl, HTS.out, LST.out⟩
          case round =>
            clear HTS LST
            obtain ⟨q, F, ts, hq, rfl, htn, hd⟩ := hrel
            by_cases hlt : q < n
            · obtain ⟨t, ht⟩ : ∃ t, ts[q]? = some t := ⟨ts[q]'(by have := hd.len; omega), by simp⟩
              obtain ⟨b, hb, rfl⟩ := HBP.out (by omega)
              have HB := Lib.hid hb
              clear hb
              obtain ⟨⟨d0, d1, d2, d3⟩, ⟨d4, d5, d6, d7⟩, ⟨d8, d9, d10, d11⟩, df⟩ := tk_row_cells HB.out ht (fun p hp => by simp only [List.mem_append]; simp [hp]) hd.st
              have htr := fun R hR => turn_row F hd.ok hd.rng ts hd.tso q t ht rl hd.st R hR
              rw [show fP F = .pointer (some ⟨fb, 0, none⟩) by simp only [fP, hd.fb]] at htr
              have hltI : (q : Int) < (n : Int) := by omega
              have HTR := Lib.hid htr
              have HTN := Lib.hid htn
              have HD := Lib.hid hd
              have HTI := Lib.hid ht
              clear htr htn hd ht df
              go_wp2_with fail
              refine HTR.out _ ?_
              intro F' t' w5 q1 q2 q3 q4 q5 q6 q7 q8 h5
              have hrow : ∀ Y, (ts.set q t').flatMap tkL = Y → RowOk rl 12 n Y := fun Y hY => by rw [← hY]; have e := RowOk.setRec (enc := tkL) (s := 12) (fun _ => rfl) HD.out.row q t'; exact e
              obtain ⟨⟨e0, e1, e2, e3⟩, ⟨e4, e5, e6, e7⟩, ⟨e8, e9, e10, e11⟩, ef⟩ := tk_row_cells HB.out HTI.out (fun p hp => List.mem_append_left _ hp) h5
              have h6 := tk_row_put (t' := t') HB.out HTI.out h5
              have hd6 : Dr base w0 (rowH rc 3 (ints cl) ++ L) fb nn cn n rl F' (ts.set q t') _ := ⟨q1, q5, q8, by rw [List.length_set]; exact HD.out.len, q2.trans HD.out.fb, q3.trans HD.out.ns, q4.trans HD.out.cs, hrow _ rfl, h6.ac (fun y => by simp only [fbH, fbR, cnt_append, cnt_cons]; omega)⟩
              have htn6 := HTN.out.next HTI.out q6 q7
              have HD6 := Lib.hid hd6
              have HTN6 := Lib.hid htn6
              clear h5 h6 hd6 htn6 q1 q2 q3 q4 q5 q6 q7 q8 hrow HD HTN HTR d0 d1 d2 d3 d4 d5 d6 d7 d8 d9 d10 d11
              go_wp2
              go_roundw
              case rel => ((repeat apply Exists.intro (α := Value)); (first | refine ⟨?_, rfl⟩ | skip); (all_goals first | exact undef | skip)); exact ⟨q + 1, F', ts.set q t', by omega, by go_num, HTN6.out, HD6.out⟩
              case measure => simp [intOf]; omega
            · obtain rfl : n = q := by omega
              obtain ⟨hp, ht⟩ := htn.stop hd.len
              rw [← HTD.out] at hp ht
              have H9 := Lib.hid (HR.out F rl ts (rowH rc 3 (ints cl)) wr hd hp ht)
              rw [HERL.out] at H9
              clear hd hp ht HR htn
              go_wp2
              exact H9.out
end Go.Proofs.YtaojipegpjolcaaGreat
set_option linter.unusedVariables false
set_option linter.unusedSimpArgs false
namespace Go.Proofs.YtaojipegpjolcaaGreat
open Go.RowKit Go.Sort Go.Proofs.BodegaHeap
variable {base : Nat} {w0 w : World} {L : List Blk}

def agK (n i : Nat) (r : Int) : TK := ⟨2, i, agJ n i r, nilRw, [], false, false, 0, 0⟩
def propsK (n : Nat) (raw : List Int) : List TK := (List.range (min raw.length 4)).map (fun (i : Nat) => agK n i (pick (raw.getD i 0) 4 + 1))
theorem propsK_len (n : Nat) (raw : List Int) : (propsK n raw).length = min raw.length 4 := by simp [propsK]
theorem propsK_pure (n : Nat) (raw : List Int) : pts (propsK n raw) = props n raw := by
  unfold pts propsK props
  rw [List.map_map]; rfl
theorem propsK_get {n : Nat} {raw : List Int} {i : Nat} (hi : i < min raw.length 4) : (propsK n raw)[i]? = some (agK n i (pick (raw.getD i 0) 4 + 1)) := by
  unfold propsK
  rw [List.getElem?_map, List.getElem?_range hi]; rfl
theorem agJ_valid {n i : Nat} {r : Int} (n1 : 1 ≤ n) (n5 : n ≤ 5) (hi : i < 4) (r0 : 1 ≤ r) (r1 : r ≤ 4) : pValid (agJ n i r) = 0 := by
  unfold pValid agJ
  simp only
  rw [if_neg (by omega), if_neg (by omega)]
  have hb : pBal r i = 0 := by unfold pBal; rw [if_neg (by omega), if_neg (by omega)]
  rw [if_neg (by rw [hb]; simp), if_neg (by omega)]
theorem propsK_ok (F : FB) {n : Nat} (raw : List Int) (hn : F.ns.length = n) (hc : F.cs.length = 6) (n1 : 1 ≤ n) (n5 : n ≤ 5) : TsOk F (propsK n raw) :=
  ⟨fun t ht => by
    obtain ⟨i, hi⟩ := List.getElem?_of_mem ht
    have hil : i < min raw.length 4 := by have := (List.getElem?_eq_some_iff.1 hi).1; rwa [propsK_len] at this
    rw [propsK_get hil] at hi
    cases hi
    have r1 := pick_lo (raw.getD i 0) 4
    have r2 := pick_hi (raw.getD i 0) 4 (by decide)
    exact ⟨i, by omega, ⟨rfl, rfl, agJ_valid n1 n5 (by omega) (by omega) (by omega), ⟨by simp only [agK, agJ]; omega, by simp only [agK, agJ]; omega⟩, by rw [hn]; rfl, by simp [agK, agJ], by simp [agK, agJ], ⟨nilRw_ok 1, fun g hg => (by cases hg), by simp [agK]⟩, fun d hd => (by cases hd), by simp [agK]⟩, fun _ => by simp [agK]⟩⟩
theorem propsK_G (n : Nat) (raw : List Int) : (propsK n raw).flatMap tkG = [] := by
  rw [List.flatMap_eq_nil_iff]
  intro t ht
  obtain ⟨i, _, rfl⟩ := List.mem_map.1 ht
  simp [tkG, gotH, agK, rowH_nil]

set_option maxRecDepth 100000 in
set_option maxHeartbeats 4000000 in
theorem proposers_calls (A : Option Addr) (raw : List Int) (ca : Nat) (hA : ArgI base w0 A raw) (hAr : ∀ x ∈ raw, I64 x) (hAl : raw.length ≤ maxLen) (n : Nat) (hn5 : n ≤ 5) (h : St base w0 w L) (R : Ending → World → Prop)
    (hR : ∀ r w', RowOk r 12 (min raw.length 4) ((propsK n raw).flatMap tkL) → St base w0 w' (rowH r 54 ((propsK n raw).flatMap tkL) ++ L) → R (.returned (rowV r (min raw.length 4))) w') :
    Calls Tryz.prog 17 #[.slice A raw.length ca, .int .i64 n] w R := by
  unfold maxLen at hAl
  obtain ⟨tot, htot⟩ : ∃ k, k = min raw.length 4 := ⟨_, rfl⟩
  rw [← htot] at hR
  have HA := Lib.hid hA
  have HAR := Lib.hid hAr
  have HR := Lib.hid hR
  have HTOT := Lib.hid htot
  have HH := Lib.hid h
  clear hA hAr hR h htot
  go_enter Tryz.func17, Tryz.ntmps17
  go_wp2_with fail
  go_loopw [5, 6] (fun a i wr => ∃ (q : Nat) (r : Rw), q ≤ tot ∧ i = .int .i64 q ∧ a = rowV r q ∧ RowOk r 12 q (((propsK n raw).take q).flatMap tkL) ∧ St base w0 wr (rowH r 54 (((propsK n raw).take q).flatMap tkL) ++ L)) (fun a i wr => tot - (intOf i).toNat)
  case atStart => exact ⟨0, nilRw, Nat.zero_le _, rfl, rfl, nilRw_ok 12, HH.out⟩
  case round =>
    clear HH
    obtain ⟨q, r, hq, rfl, rfl, hr, hst⟩ := hrel
    by_cases hlt : q < tot
    · have htt := HTOT.out
      have hq4 : q < 4 := by omega
      have hqr : q < raw.length := by omega
      obtain ⟨x, hx⟩ : ∃ x, raw[q]? = some x := ⟨raw[q], by simp [hqr]⟩
      obtain ⟨ad, hAd, hcell⟩ := HA.out.cell hst hx
      have hpk := fun W => Pick_calls W x 4 (HAR.out x (List.mem_of_getElem? hx)) (by decide)
      have b1 := pick_lo x 4
      have b2 := pick_hi x 4 (by decide)
      have hsn : ((propsK n raw).take q).flatMap tkL ++ (tkL (agK n q (pick x 4 + 1))) = ((propsK n raw).take (q + 1)).flatMap tkL := by
        have e := propsK_get (n := n) (raw := raw) (i := q) (by omega)
        rw [List.getD_eq_getElem?_getD, hx] at e
        rw [List.take_add_one, e]
        simp
      obtain ⟨p, hp⟩ : ∃ p, p = pick x 4 := ⟨_, rfl⟩
      rw [← hp] at hpk b1 b2 hsn
      have hqI : (q : Int) < (raw.length : Int) := by omega
      have hq4I : (q : Int) < 4 := by omega
      subst hAd
      have HPK := Lib.hid hpk
      have HST := Lib.hid hst
      have HRO := Lib.hid hr
      have HSN := Lib.hid hsn
      clear hpk hst hr hx hp hsn htt
      go_wp2_with fail
      (refine Calls.mono (HPK.out _) ?_; intro e w' hh; rw [hh.1, hh.2]; clear hh w' e)
      go_wp2_with (at_builtin; refine wp_appendN elem_tk rfl _ _ rfl r q _ rfl HRO.out HST.out (tkCs (agK n q (p + 1))) rfl rfl (by simp [Value.oneCell']) (by omega) ?_)
      intro r' w4 hr' h4 _ _
      have e2 : ((propsK n raw).take q).flatMap tkL ++ (tkCs (agK n q (p + 1))).toList = ((propsK n raw).take (q + 1)).flatMap tkL := HSN.out
      have hr2 : RowOk r' 12 (q + 1) (((propsK n raw).take (q + 1)).flatMap tkL) := by rw [← e2]; exact hr'
      have h5 : St base w0 w4 (rowH r' 54 (((propsK n raw).take (q + 1)).flatMap tkL) ++ L) := by rw [← e2]; exact h4
      have H5 := Lib.hid h5
      have HR' := Lib.hid hr2
      clear h4 hr' hr2 h5 e2 HST HRO HSN hcell
      go_wp2
      go_roundw
      case rel => exact ⟨q + 1, r', by omega, by go_num, by simp [rowV], HR'.out, H5.out⟩
      case measure => simp [intOf]; omega
    · obtain rfl : tot = q := by omega
      have htk : (propsK n raw).take tot = propsK n raw := by rw [List.take_of_length_le (by rw [propsK_len]; have := HTOT.out; omega)]
      rw [htk] at hr hst
      have H9 := Lib.hid (HR.out r wr hr hst)
      have hcase : (¬ (tot : Int) < (raw.length : Int)) ∨ ((tot : Int) < (raw.length : Int) ∧ ¬ (tot : Int) < 4) := by have := HTOT.out; omega
      clear hr hst htk HR
      rcases hcase with hqI | ⟨hqI, hq4I⟩
      all_goals
        go_wp2
        exact H9.out

/-- What agreed hands back. -/
def AgRes (ts : List PT) (w0 : World) (e : Ending) (w' : World) : Prop := ∃ (value : Int) (any : Bool), e = .returned (.tuple #[.int .u64 value, .bool true, .bool any]) ∧ w' = w0 ∧ (any = true → ∃ t ∈ ts, decd t ∧ t.value = value) ∧ (any = false → ∀ t ∈ ts, ¬ decd t)
/-- Behind q conversations. -/
structure AgS (ts : List TK) (w : World) (q : Nat) (value : Int) (any : Bool) (wr : World) : Prop where
  aw : wr = w
  aany : any = true → ∃ t ∈ ts, decd t.pure ∧ t.value = value
  ano : any = false → ∀ t ∈ ts.take q, ¬ decd t.pure
set_option maxRecDepth 100000 in
set_option maxHeartbeats 4000000 in
theorem agreed_calls (ts : List TK) (hag : Ag (pts ts)) (htl : ts.length ≤ 100) (rl : Rw) (hrl : RowOk rl 12 ts.length (ts.flatMap tkL)) (hm : ∀ p, p ∈ rowH rl 54 (ts.flatMap tkL) → p ∈ L) (h : St base w0 w L) :
    Calls Tryz.prog 18 #[rowV rl ts.length] w (AgRes (pts ts) w) := by
  obtain ⟨n, hn⟩ : ∃ n, n = ts.length := ⟨_, rfl⟩
  rw [← hn] at htl ⊢
  obtain ⟨B, erl, hBp⟩ : ∃ B : Option Addr, rowV rl n = .slice B n (n + rl.k) ∧ (0 < n → ∃ b, rl.blk = some b ∧ B = some ⟨b, 0, none⟩) := ⟨rowA rl, rfl, fun h0 => by
    obtain ⟨b, hb⟩ := hrl.pos (by omega)
    exact ⟨b, hb, by simp [rowA, hb]⟩⟩
  rw [erl]
  have HAG := Lib.hid hag
  have HN := Lib.hid hn
  have HBP := Lib.hid hBp
  have HM := Lib.hid hm
  have HH := Lib.hid h
  clear hag hn hBp hm h hrl erl
  go_enter Tryz.func18, Tryz.ntmps18
  go_wp2_with fail
  go_loopw [2, 4, 5] (fun a c i wr => ∃ (q : Nat) (value : Int) (any : Bool), q ≤ n ∧ a = .int .u64 value ∧ c = .bool any ∧ i = .int .i64 q ∧ AgS ts w q value any wr) (fun a c i wr => n - (intOf i).toNat)
  case atStart => exact ⟨0, 0, false, Nat.zero_le _, rfl, rfl, rfl, ⟨rfl, fun e => by simp at e, fun _ t ht => by simp at ht⟩⟩
  case round =>
    obtain ⟨q, value, any, hq, rfl, rfl, rfl, ⟨rfl, hany, hno⟩⟩ := hrel
    by_cases hlt : q < n
    · obtain ⟨t, ht⟩ : ∃ t, ts[q]? = some t := ⟨ts[q]'(by have := HN.out; omega), by simp⟩
      obtain ⟨b, hb, rfl⟩ := HBP.out (by omega)
      obtain ⟨⟨d0, d1, d2, d3⟩, ⟨d4, d5, d6, d7⟩, ⟨d8, d9, d10, d11⟩, df⟩ := tk_row_cells hb ht HM.out HH.out
      have htm : t ∈ ts := List.mem_of_getElem? ht
      have hbad : t.bad = false := HAG.out.bad t.pure (List.mem_map_of_mem htm)
      rw [hbad] at d9
      have hqI : (q : Int) < (n : Int) := by omega
      have htake : ∀ P : TK → Prop, (∀ x ∈ ts.take q, P x) → P t → ∀ x ∈ ts.take (q + 1), P x := fun P h1 h2 x hx => by
        rw [List.take_add_one, ht] at hx
        rcases List.mem_append.1 hx with hx | hx
        · exact h1 x hx
        · simp at hx; rw [hx]; exact h2
      have HTAKE := Lib.hid htake
      have HANY := Lib.hid hany
      have HNO := Lib.hid hno
      have HTM := Lib.hid htm
      obtain ⟨kind, client, job, rr, gts, over, bad, code, val⟩ := t
      simp only at d8 d9 d10 d11 hbad
      clear d0 d1 d2 d3 d4 d5 d6 d7 df hb ht hbad htake hany hno htm
      cases over with
      | false =>
        have hnd : ¬ decd (TK.pure ⟨kind, client, job, rr, gts, false, bad, code, val⟩) := fun e => by simp [decd, TK.pure] at e
        have HND := Lib.hid hnd
        clear hnd
        go_wp2
        go_roundw
        case rel => exact ⟨q + 1, value, any, by omega, rfl, rfl, by go_num, ⟨rfl, HANY.out, fun e => HTAKE.out _ (HNO.out e) HND.out⟩⟩
        case measure => simp [intOf]; omega
      | true =>
        by_cases hc : code = 0
        · subst hc
          have hd : decd (TK.pure ⟨kind, client, job, rr, gts, true, bad, 0, val⟩) := ⟨rfl, rfl⟩
          cases any with
          | true =>
            obtain ⟨t0, h1, h2, h3⟩ := HANY.out rfl
            have hv : val = value := by
              have := HAG.out.eq _ (List.mem_map_of_mem HTM.out) _ (List.mem_map_of_mem h1) hd h2
              rw [← h3]; exact this
            subst hv
            clear h1 h2 h3 hd
            go_wp2
            go_roundw
            case rel => exact ⟨q + 1, val, true, by omega, rfl, rfl, by go_num, ⟨rfl, HANY.out, fun e => (by cases e)⟩⟩
            case measure => simp [intOf]; omega
          | false =>
            have HD := Lib.hid hd
            clear hd
            go_wp2
            go_roundw
            case rel => exact ⟨q + 1, val, true, by omega, rfl, rfl, by go_num, ⟨rfl, fun _ => ⟨_, HTM.out, HD.out, rfl⟩, fun e => (by cases e)⟩⟩
            case measure => simp [intOf]; omega
        · have hcB : (code == 0) = false := by rw [beq_eq_false_iff_ne]; exact hc
          have hcB2 : (code != 0) = true := by rw [bne_iff_ne]; exact hc
          have hnd : ¬ decd (TK.pure ⟨kind, client, job, rr, gts, true, bad, code, val⟩) := fun e => hc e.2
          have HND := Lib.hid hnd
          clear hnd hc
          go_wp2
          go_roundw
          case rel => exact ⟨q + 1, value, any, by omega, rfl, rfl, by go_num, ⟨rfl, HANY.out, fun e => HTAKE.out _ (HNO.out e) HND.out⟩⟩
          case measure => simp [intOf]; omega
    · obtain rfl : n = q := by omega
      have HANY := Lib.hid hany
      have htk : ts.take n = ts := by rw [List.take_of_length_le (by have := HN.out; omega)]
      rw [htk] at hno
      have HNO := Lib.hid hno
      clear hany hno htk
      go_wp2
      refine bodyPost_ret (v := .tuple #[.int .u64 value, .bool true, .bool any]) (by simp [results, Tryz.results18, go_sem]) rfl ?_
      refine ⟨value, any, rfl, rfl, fun e => ?_, fun e t ht => ?_⟩
      · obtain ⟨t, h1, h2, h3⟩ := HANY.out e
        exact ⟨t.pure, List.mem_map_of_mem h1, h2, h3⟩
      · obtain ⟨t0, h1, rfl⟩ := List.mem_map.1 ht
        exact HNO.out e t0 h1
end Go.Proofs.YtaojipegpjolcaaGreat
