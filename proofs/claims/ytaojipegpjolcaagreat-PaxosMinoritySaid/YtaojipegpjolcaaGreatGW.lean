/- PaxosMinority: the law's walk. The statement PaxosMinority: the row's step (the guide's frame at this function), over the walk of MW. -/
import Derived.Test.YtaojipegpjolcaaGreatGN
import Derived.Test.YtaojipegpjolcaaGreatRows
import Derived.WalkKit
import Derived.ProofKit
import Derived.OpenShut
import Derived.ChangeOld
import Derived.Below
import Derived.Lib.SmallJoins
set_option linter.unusedVariables false
set_option linter.unusedSimpArgs false
namespace Go.Proofs.YtaojipegpjolcaaGreat
open Go.RowKit Go.Sort Go.Proofs.BodegaHeap
variable {base : Nat} {w0 w : World} {L : List Blk}

theorem minN_fail {n k : Nat} (h : k < n) {P : PF} (hP : P.ns = minN n k) : pFail P (n - 1 - k) = { P with ns := minN n (k + 1) } := by
  have e : P.ns[n - 1 - k]? = some (fmtNd n 98) := by
    rw [hP, minN, List.getElem?_append_left (by simp; omega), List.getElem?_replicate, if_pos (by omega)]
  unfold pFail pSetN
  rw [e]
  simp only
  congr 1
  rw [hP, minN, minN]
  apply List.ext_getElem?
  intro i
  by_cases hi : n - 1 - k = i
  · subst hi
    rw [List.getElem?_set_self (by simp; omega), List.getElem?_append_right (by simp; omega)]
    simp only [List.length_replicate, List.getElem?_replicate]
    rw [if_pos (by omega)]
  · rw [List.getElem?_set_ne hi]
    by_cases hl : i < n - 1 - k
    · rw [List.getElem?_append_left (by simp; omega), List.getElem?_append_left (by simp; omega)]
      simp only [List.getElem?_replicate]
      rw [if_pos (by omega), if_pos (by omega)]
    · rw [List.getElem?_append_right (by simp; omega), List.getElem?_append_right (by simp; omega)]
      simp only [List.length_replicate, List.getElem?_replicate]
      by_cases h2 : i < n
      · rw [if_pos (by omega), if_pos (by omega)]
      · rw [if_neg (by omega), if_neg (by omega)]

def minK (n : Nat) (r : Int) : TK := ⟨2, 0, minJ n r, nilRw, [], false, false, 0, 0⟩
theorem minK_ok (F : FB) (n : Nat) (r : Int) (hn : F.ns.length = n) (hc : F.cs.length = 1) (n1 : 1 ≤ n) (n5 : n ≤ 5) (r1 : 1 ≤ r) (r2 : r ≤ 500) : TsOk F [minK n r] :=
  ⟨fun t ht => by
    rw [List.mem_singleton] at ht
    subst ht
    exact ⟨0, by omega, ⟨rfl, rfl, minJ_valid n1 n5 r1 r2, ⟨by simp [minK, minJ], by simp [minK, minJ]⟩, by rw [hn]; rfl, by simp [minK, minJ], by simp [minK, minJ], ⟨nilRw_ok 1, fun g hg => (by cases hg), by simp [minK]⟩, fun d hd => (by cases hd), by simp [minK]⟩, fun _ => by simp [minK]⟩⟩
/-- What the law asks. -/
def minEnd (n d : Nat) (t : TK) (C : CP) : Prop := t.over = true ∧ ((n : Int) - d < (n : Int) / 2 + 1 → t.code = 9 ∧ C.trips = 1) ∧ (¬ (n : Int) - d < (n : Int) / 2 + 1 → t.code = 0 ∧ t.value = 77 ∧ C.trips = 3)
theorem min_facts {F F' : FB} {t' : TK} {n d : Nat} {r : Int} (n1 : 1 ≤ n) (n5 : n ≤ 5) (dl : d ≤ n) (r1 : 1 ≤ r) (r2 : r ≤ 500) (hF : F.pure = { pFresh n 1 98 with ns := minN n d }) (h1 : F'.pure = (pDrive F.pure [(minK n r).pure] [] 20000).1) (h2 : [t'.pure] = (pDrive F.pure [(minK n r).pure] [] 20000).2) : ∃ C, F'.cs[0]? = some C ∧ minEnd n d t' C := by
  obtain ⟨P', q, e, o, C', hC, k1, k2⟩ := minority_pure n d r n1 n5 dl r1 r2 F.pure hF
  have e' : pDrive F.pure [(minK n r).pure] [] 20000 = (P', [q]) := e
  rw [e'] at h1 h2
  simp only at h1 h2
  obtain rfl : t'.pure = q := by simpa using h2
  rw [← h1] at hC
  simp only [FB.pure, List.getElem?_map] at hC
  cases hx : F'.cs[0]? with
  | none => rw [hx] at hC; simp at hC
  | some C =>
    rw [hx] at hC
    simp only [Option.map_some, Option.some.injEq] at hC
    subst hC
    exact ⟨C, rfl, o, k1, k2⟩

set_option maxRecDepth 100000 in
set_option maxHeartbeats 8000000 in
theorem PaxosMinority_calls (w : World) (nodes down round : Int) (hn : I64 nodes) (hd : I64 down) (hr : I64 round) : Calls Tryz.prog 6 #[.int .i64 nodes, .int .i64 down, .int .i64 round] w fun e w' => e = .returned (.bool true) ∧ Below w.heap.size w w' := by
  have p1 := fun W => Pick_calls W nodes 5 hn (by decide)
  have p2 := fun W => Pick_calls W round 500 hr (by decide)
  have q1 := pick_lo nodes 5
  have q2 := pick_hi nodes 5 (by decide)
  have q3 := pick_lo round 500
  have q4 := pick_hi round 500 (by decide)
  obtain ⟨a, ha⟩ : ∃ a, a = pick nodes 5 := ⟨_, rfl⟩
  obtain ⟨r, hr2⟩ : ∃ a, a = pick round 500 := ⟨_, rfl⟩
  rw [← ha] at p1 q1 q2
  rw [← hr2] at p2 q3 q4
  obtain ⟨m, rfl⟩ := Int.eq_ofNat_of_zero_le q1
  have P1 := Lib.hid p1
  have P2 := Lib.hid p2
  clear p1 p2 ha hr2
  go_enter Tryz.func6, Tryz.ntmps6
  go_wp2_with fail
  (refine Calls.mono (P1.out _) ?_; intro e w' hh; rw [hh.1, hh.2]; clear hh w' e)
  go_wp2_with fail
  (refine Calls.mono (P2.out _) ?_; intro e w' hh; rw [hh.1, hh.2]; clear hh w' e)
  go_wp2_with fail
  obtain ⟨n, hn1⟩ : ∃ n : Nat, n = m + 1 := ⟨_, rfl⟩
  rw [show ((m : Int) + 1) = (n : Int) by omega]
  have hp3 := fun W => Pick_calls W down ((n : Int) + 1) hd (by omega)
  have q5 := pick_lo down ((n : Int) + 1)
  have q6 := pick_hi down ((n : Int) + 1) (by omega)
  obtain ⟨dn, hdn⟩ : ∃ a, a = pick down ((n : Int) + 1) := ⟨_, rfl⟩
  rw [← hdn] at hp3 q5 q6
  obtain ⟨d, rfl⟩ := Int.eq_ofNat_of_zero_le q5
  have P3 := Lib.hid hp3
  clear hp3 hdn P1 P2
  (refine Calls.mono (P3.out _) ?_; intro e w' hh; rw [hh.1, hh.2]; clear hh w' e)
  have n1 : 1 ≤ n := by omega
  have n5 : n ≤ 5 := by omega
  have dl : d ≤ n := by omega
  have r1 : 1 ≤ r + 1 := by omega
  have r2 : r + 1 ≤ 500 := by omega
  clear hn1 q1 q2 q3 q4 q5 q6 P3
  have hfr := fun R hR => Fresh_calls (base := w.heap.size) (w0 := w) (w := w) (L := []) n 1 98 n1 n5 (by decide) (by decide) (by decide) (by decide) (St.start w) R hR
  have HFR := Lib.hid hfr
  clear hfr
  go_wp2_with fail
  refine HFR.out _ ?_
  rintro fb w1 ⟨F, hF, rfl, hp, h1⟩
  have hnl : F.ns.length = n := by have := congrArg (fun P : PF => P.ns.length) hp; simpa [FB.pure, pFresh] using this
  have hcl : F.cs.length = 1 := by have := congrArg (fun P : PF => P.cs.length) hp; simpa [FB.pure, pFresh] using this
  have haw := awake_calls w1
  have HAW := Lib.hid haw
  have H1 := Lib.hid h1
  have HP := Lib.hid hp
  have HF := Lib.hid hF
  have HN := Lib.hid hnl
  have HC := Lib.hid hcl
  obtain ⟨fb, hfb⟩ : ∃ x, x = F.fb := ⟨_, rfl⟩
  have hpt : Value.pointer (some ⟨F.fb, 0, none⟩) = .pointer (some ⟨fb, 0, none⟩) := by rw [hfb]
  rw [hpt]
  have HFB := Lib.hid hfb
  clear haw h1 hp hF hnl hcl hfb hpt HFR
  go_wp2_with fail
  refine HAW.out.mono ?_
  rintro e w2 ⟨rfl, hb2⟩
  have h2 := H1.out.grow hb2
  have H2 := Lib.hid h2
  clear h2 hb2 H1 HAW
  go_wp2_with fail
  go_loopw [9] (fun i wr => ∃ (k : Nat) (F : FB), k ≤ d ∧ i = .int .i64 k ∧ F.fb = fb ∧ FbOk F ∧ F.ns.length = n ∧ F.cs.length = 1 ∧ F.pure = { pFresh n 1 98 with ns := minN n k } ∧ St w.heap.size w wr (fbH F ++ [])) (fun i wr => d - (intOf i).toNat)
  case atStart => exact ⟨0, F, Nat.zero_le _, rfl, HFB.out.symm, HF.out, HN.out, HC.out, by rw [HP.out]; simp [minN, pFresh], H2.out⟩
  case round =>
    clear HF HN HC HP HFB H2
    obtain ⟨k, F, hk, rfl, hfb, hF, hnl, hcl, hp, hst⟩ := hrel
    by_cases hlt : k < d
    · have hltI : (k : Int) < (d : Int) := by omega
      obtain ⟨x, hx⟩ : ∃ x, F.ns[n - 1 - k]? = some x := ⟨F.ns[n - 1 - k]'(by omega), by simp [show n - 1 - k < F.ns.length by omega]⟩
      have hnode := Node_calls F (n - 1 - k) x hx hF.nr hF.n1 hst
      rw [show (((n - 1 - k : Nat) : Nat) : Int) = (n : Int) - 1 - k by omega] at hnode
      rw [show fP F = .pointer (some ⟨fb, 0, none⟩) by simp only [fP, hfb]] at hnode
      have hfail := fun R hR => Fail_fb (R := R) F hF (n - 1 - k) x hx hst hR
      have hpf := minN_fail (n := n) (k := k) (by omega) (P := F.pure) (by rw [hp])
      have HNODE := Lib.hid hnode
      have HFAIL := Lib.hid hfail
      have HPF := Lib.hid hpf
      have HFB := Lib.hid hfb
      have HN := Lib.hid hnl
      have HC := Lib.hid hcl
      have HP := Lib.hid hp
      clear hnode hfail hpf hfb hnl hcl hp hx hst hF
      go_wp2_with fail
      (refine Calls.mono HNODE.out ?_; intro e w' hh; rw [hh.1, hh.2]; clear hh w' e)
      go_wp2_with fail
      refine HFAIL.out _ ?_
      intro F' w5 hd5 h5
      have e1 : F'.pure = { pFresh n 1 98 with ns := minN n (k + 1) } := by rw [hd5.pure, HPF.out, HP.out]
      have e2 : F'.fb = fb := hd5.fb.trans HFB.out
      have e3 : F'.ns.length = n := hd5.ns.trans HN.out
      have e4 : F'.cs.length = 1 := by rw [hd5.cs]; exact HC.out
      have HALL := Lib.hid (show FbOk F' ∧ F'.fb = fb ∧ F'.ns.length = n ∧ F'.cs.length = 1 ∧ F'.pure = { pFresh n 1 98 with ns := minN n (k + 1) } ∧ St w.heap.size w w5 (fbH F' ++ []) from ⟨hd5.ok, e2, e3, e4, e1, h5⟩)
      clear hd5 h5 e1 e2 e3 e4 HFAIL HNODE HPF HFB HN HC HP
      go_wp2
      go_roundw
      case rel => exact ⟨k + 1, F', by omega, by go_num, HALL.out.2.1, HALL.out.1, HALL.out.2.2.1, HALL.out.2.2.2.1, HALL.out.2.2.2.2.1, HALL.out.2.2.2.2.2⟩
      case measure => simp [intOf]; omega
    · obtain rfl : d = k := by omega
      have hal := fun R hR => Alone_calls (base := w.heap.size) (w0 := w) (w := wr) (L := []) F hF (by rw [hp]; exact { pFresh_rng n 1 98 n5 with ns := fun N hN => by rw [minN_mem hN]; exact fmtWords_rng n 98 n5 }) (minK n (r + 1)) (minK_ok F n (r + 1) hnl hcl n1 n5 r1 r2) hst R hR
      rw [show fP F = .pointer (some ⟨fb, 0, none⟩) by simp only [fP, hfb]] at hal
      have hpp := fun F' t' => min_facts (F := F) (F' := F') (t' := t') n1 n5 dl r1 r2 hp
      have HAL := Lib.hid hal
      have HPP := Lib.hid hpp
      have HFB := Lib.hid hfb
      clear hal hpp hfb hnl hcl hp hst hF
      go_wp2_with fail
      refine HAL.out _ ?_
      intro F' t' w3 g1 g2 g3 g4 g5 g6 g7 g8 h3
      obtain ⟨C, hC, hover, hm1, hm2⟩ := HPP.out F' t' g6 g7
      have htr := fun W hW => Trips_calls (w := W) (base := w.heap.size) (w0 := w) (L := (w3.heap.size, .cells (tkCs t') 54 (0, 0)) :: (tkG t' ++ [])) F' g1 0 C hC hW
      rw [show fP F' = .pointer (some ⟨fb, 0, none⟩) by simp only [fP, g2, HFB.out]] at htr
      have h4 : St w.heap.size w (w3.alloc (.cells (tkCs t') 54)) (fbH F' ++ ((w3.heap.size, .cells (tkCs t') 54 (0, 0)) :: (tkG t' ++ []))) := (h3.alloc (.cells (tkCs t') 54)).ac (fun y => by simp only [fbH, fbR, cnt_append, cnt_cons, cnt_nil]; omega)
      obtain ⟨kind, client, job, rr, gts, over, bad, code, value⟩ := t'
      obtain ⟨alive, inc, lr, ls, br, ds, waiting, trips, posted⟩ := C
      simp only at hover hm1 hm2
      subst hover
      have H4 := Lib.hid h4
      have hz := h4.below
      have HZ := Lib.hid hz
      by_cases hm : (n : Int) - d < (n : Int) / 2 + 1
      · obtain ⟨rfl, rfl⟩ := hm1 hm
        have h5 := htr _ h4
        have H5 := Lib.hid h5
        clear htr h3 h4 h5 hz hm1 hm2 g1 g2 g3 g4 g5 g6 g7 g8 hC HAL HPP
        go_wp2_with fail
        (refine Calls.mono H5.out ?_; intro e w' hh; rw [hh.1, hh.2]; clear hh w' e)
        go_wp2
        go_ret
        exact ⟨rfl, HZ.out⟩
      · obtain ⟨rfl, rfl, rfl⟩ := hm2 hm
        have h5 := htr _ h4
        have H5 := Lib.hid h5
        clear htr h3 h4 h5 hz hm1 hm2 g1 g2 g3 g4 g5 g6 g7 g8 hC HAL HPP
        go_wp2_with fail
        (refine Calls.mono H5.out ?_; intro e w' hh; rw [hh.1, hh.2]; clear hh w' e)
        go_wp2
        go_ret
        exact ⟨rfl, HZ.out⟩
end Go.Proofs.YtaojipegpjolcaaGreat
set_option linter.unusedVariables false
namespace Go.Proofs.YtaojipegpjolcaaGreat.lawPaxosMinority
open Go.ChangeShapes Go.WideShapes Go.ChangeAt Go.RowKit Go.Joins Go.Deep

theorem own : ownKnob Tryz.prog.godebug = none := by kernel_rfl
theorem laidOut : laidOutB Tryz.prog = true := by kernel_rfl
set_option maxRecDepth 100000 in
theorem lifted (os : Os) (started : os.Started) (H : Type) (enc : TypeId × Value → H) :
    ReturnsInHanded {} Tryz.checked os 6 .any (Rows.paxosMinoritySpec.pre6 enc Tryz.prog Tryz.f6 Rows.paxosMinorityRow.domain false) (Rows.paxosMinoritySpec.post enc Tryz.prog Tryz.f6 false true false false) := by
  refine returnsInHanded_of_change (C := Tryz.checked) own started (by kernel_rfl) Tryz.func6
    (ChangeSpec.witness6 (enc := enc) (C := Tryz.checked) false ⟨#[], #[.int .i64 0, .int .i64 0, .int .i64 0], []⟩ 8 (by kernel_rfl) (by kernel_rfl) (by kernel_rfl) (by kernel_rfl)) ?_
  intro W base args ds gs before hval0 hW hcnd _
  have hval : ∀ (j : Nat) t v, Tryz.f6.params[j]? = some t → args[j]? = some v → Value.okWide Tryz.prog W .any base t v := hval0
  have hW' := hW
  obtain ⟨p, q, hA0, hV, rfl, hfz, hnd⟩ := hW
  have hA : DataW.TrodAll enc Tryz.prog W 0 (fun _ => true) true Tryz.f6.params.toList args.toList ds p := hA0
  rw [Tryz.params6] at hA hval
  obtain ⟨v0, v1, v2, d0, d1, d2, p0, p1, p2, rfl, rfl, rfl, h0, h1, h2⟩ := trodAll_three hA
  obtain ⟨rfl, rfl⟩ := trodVars_none hV
  obtain ⟨a, rfl, rfl, rfl, wa⟩ := open_int Tryz.underlying3 (hval 0 3 v0 rfl rfl) h0
  obtain ⟨b, rfl, rfl, rfl, wb⟩ := open_int Tryz.underlying3 (hval 1 3 v1 rfl rfl) h1
  obtain ⟨c, rfl, rfl, rfl, wc⟩ := open_int Tryz.underlying3 (hval 2 3 v2 rfl rfl) h2
  clear hA0 hval0
  refine (PaxosMinority_calls W a b c (int_bounds wa) (int_bounds wb) (int_bounds wc)).mono fun e W' ⟨he, bel⟩ => ?_
  subst he
  exact ⟨_, rfl, _, _, _, [], _, [], hW', trodAll_mk1 (shut_bool Tryz.underlying4 _), (trodAll_cons_mk (shut_int Tryz.underlying3 wa) (trodAll_cons_mk (shut_int Tryz.underlying3 wb) (trodAll_cons_mk (shut_int Tryz.underlying3 wc) trodAll_mk0))), rfl, bel.frame _, fun h => by cases h⟩

theorem over : Rows.paxosMinorityRow.holds Tryz.pinned (OpenSpec.ofChange Rows.paxosMinoritySpec) :=
  OpenClaim.holds_of_wide 6 Tryz.f6 rfl rfl rfl rfl rfl rfl rfl ⟨rfl, rfl, rfl, rfl, rfl⟩ rfl rfl rfl rfl rfl (by kernel_rfl) Tryz.func6 (by kernel_rfl)
    (of_decide_eq_true (by kernel_rfl)) (by unfold Func.isWrapper; first | (rw [if_pos (by decide +kernel)]; kernel_rfl) | (rw [if_neg (by decide +kernel)]; exact ⟨rfl, rfl⟩))
    (fun os started H enc _ => lifted os started H enc)

theorem proved : Rows.PaxosMinoritySaid := over
#print axioms proved
end Go.Proofs.YtaojipegpjolcaaGreat.lawPaxosMinority
