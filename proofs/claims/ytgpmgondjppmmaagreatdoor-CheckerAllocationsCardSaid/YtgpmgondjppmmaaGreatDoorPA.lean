/- The machine on symbols: allocation.Verify. No condition. -/
import Derived.Test.YtgpmgondjppmmaaGreatDoorP6
import Derived.Test.YtgpmgondjppmmaaGreatDoorP5
set_option linter.unnecessarySimpa false
set_option linter.unusedSectionVars false
set_option linter.unusedSimpArgs false
set_option linter.unusedVariables false
set_option maxHeartbeats 8000000
set_option maxRecDepth 100000
namespace Go.Proofs.Tryz
open Go Go.Pi Go.Num Go.Lin Go.Alc
variable [Hole] {G:Nat → Option PV}
attribute [local simp] slice3Op clearOp
noncomputable def verR:CRel | [X,a],r => ∃ e,r = .int .i64 e ∧ (e = 0 ↔ Accept (offV X) (alV a)) | _,_ => False
theorem verify_ok (lib:ReadLib G) {d o r va:PV} (h:Vld d o r) (hop:Gives prog G 29 [.agg [d,o,r]] (openR [.agg [d,o,r]])) (ha:IsAl va):Gives prog G 16 [.agg [d,o,r],va] (verR [.agg [d,o,r],va]) := by
 obtain ⟨O,hO⟩:∃ O,O = offV (.agg [d,o,r]) := ⟨_,rfl⟩
 have hON:O.n = (els d).length := by rw [hO]; exact h.n
 have hN := h.n1
 obtain ⟨d1,d2,d3,d4,d5⟩ := h.dim.cell
 obtain ⟨o1,o2,o3,o4,o5⟩ := h.opt.cell
 obtain ⟨r1,r2,r3,r4,r5⟩ := h.req.cell
 have pX := h.pure
 have ha0 := ha
 have pa := ha.pure
 obtain ⟨p,ch,c,pf,rfl,a1,a2,hcl,hpl⟩ := ha
 obtain ⟨c1,c2,c3,c4,c5⟩ := a1.cell
 obtain ⟨g1,g2,g3,g4,g5⟩ := a2.cell
 have lc := a1.len
 have hpf:pf = .nil ∨ ∃ es,pf = .slice es := a2.imp id fun ⟨es,h,_⟩ => ⟨es,h⟩
 obtain ⟨A,hA⟩:∃ A,A = alV (.agg [.bool p,ch,.int .i64 c,pf]) := ⟨_,rfl⟩
 have hAp:A.poss = p := by rw [hA]; rfl
 have hAc:A.choice = intsV ch := by rw [hA]; rfl
 have hAx:A.cost = c := by rw [hA]; rfl
 have hAf:A.proof = (els pf).map bdV := by rw [hA]; rfl
 have hfe:verR [.agg [d,o,r],.agg [.bool p,ch,.int .i64 c,pf]] = fun r => ∃ e,r = .int .i64 e ∧ (e = 0 ↔ Accept O A) := by funext x; simp only [verR,← hO,← hA]
 rw [hfe]
 refine gives_q fun Q hQ => ?_
 have no:∀ {e:Int} {s:St},e ≠ 0 → ¬ Accept O A → outK Q (.int .i64 e) s := fun he hn => outK_pure rfl (hQ _ ⟨_,rfl,fun h => absurd h he,fun h => absurd h hn⟩)
 have yes:∀ {s:St},Accept O A → outK Q (.int .i64 0) s := fun hn => outK_pure rfl (hQ _ ⟨_,rfl,fun _ => hn,fun _ => rfl⟩)
 refine gives (S := WS) (by kernel_rfl) (by kernel_rfl) (callW_of ann16 func16 rfl (by kernel_rfl) ?_)
 simp [run_draw,tb,d1,o1,r1,c1,g1]
 refine callK_pure rfl (by simp only [PV.pureL,pX]; rfl) hop fun y hy => ?_
 simp only [openR] at hy
 obtain ⟨vs,vc,vh,rfl,hD⟩ := hy
 have ptrp:∀ w:PV,w.pureB = true → PV.pureL [.eptr (.agg [d,o,r,vs,vc,vh]) 0,w] = true := fun w hw => by simp [PV.pureL,PV.pureB,hw]
 cases p with
 | true =>
  simp [run_draw,tb]
  refine callK_pure (S := WS) rfl (ptrp _ c5) (whole_okd hD a1 hcl) fun y hy => ?_
  simp only [choiceR,offV_app,← hO] at hy
  obtain ⟨e,rfl,he⟩ := hy
  by_cases he0:e = 0
  ·subst he0
   have hwh := he.1 rfl
   obtain ⟨l,hl⟩:∃ l,l = natL (intsV ch) := ⟨_,rfl⟩
   have hpre := pre_of a1 fun i hi => (hwh.2 i (by rw [intsV_len]; exact hi)).1
   rw [← hl] at hpre
   have hll:l.length = (els ch).length := by rw [hl,natL_len,intsV_len]
   have hld:l.length = (els d).length := by rw [hll,← intsV_len,hwh.1,hON]
   have hin:InR O l := fun i hi => by
    have := hwh.2 i (by rw [intsV_len]; omega)
    rw [hl,natL_get]; omega
   have hch:ChOk O A ↔ c = bound O l ∧ okAll O l := by
    unfold ChOk
    rw [hAc,hAx,← hl]
    refine ⟨fun h => ⟨h.2.2.1,h.2.2.2⟩,fun h => ⟨hwh.1,fun i hi => hwh.2 i (by rw [intsV_len]; omega),h.1,h.2⟩⟩
   obtain ⟨p1,p2,p3,p4,p5⟩ := hpre.cell
   simp [run_draw,tb]
   refine dcallK_pure (S := WS) rfl (ptrp _ c5) (bound_ok hD hpre (by rw [← hO]; exact hin) (by omega)) fun y hy => ?_
   simp only [boundR,offV_app,hpre.nats,← hO] at hy
   subst hy
   by_cases hco:c = bound O l
   ·have hco1:(c != bound O l) = false := by simpa using hco
    simp [run_draw,tb,hco1]
    refine ⟨logOk_free (by simp [okTri,tri,tb]),?_⟩
    refine callK_pure (S := WS) rfl (ptrp _ c5) (fails_ok lib hD hpre (by rw [← hO]; exact hin) (by omega)) fun y hy => ?_
    simp only [failsR,offV_app,hpre.nats,← hO] at hy
    subst hy
    by_cases hfl:(fl O l).2 = 0
    ·have hfl1:((fl O l).2 != 0) = false := by simpa using hfl
     have hcs:ChOk O A := hch.2 ⟨hco,fl_ok O hfl⟩
     rcases hpf with rfl | ⟨es,rfl⟩
     ·simp [run_draw,tb,hfl1]
      refine callK_run rfl (callW_to (vwalk_ok (bl := 42) (bd := 8) (ba := 1) (bo := 0) (bw := 44) lib hD ha0 (by omega) (by omega) (by omega) (by omega) (els d).length [] _ 0 48 _ [] (by simp) (fun i hi => by simp at hi) ⟨fun h => absurd h (Nat.lt_irrefl 0),rfl,rfl,rfl,rfl,rfl,by simp,by simp,by simp,a2,hpl⟩) fun v s' hp => ?_)
      rw [← hO,← hA] at hp
      obtain ⟨k4,H4,Z4,v4,b,rfl,rfl,hk4,hlt4,hZ4,hf4,hl4,hfr4,hv4,hv4l,ht,hf⟩ := hp
      obtain ⟨u1,u2,u3,u4,u5⟩ := hv4.cell
      have lv4 := hv4.len
      rw [← hON,← hAf] at ht hf
      cases b with
      | true =>
       by_cases hz:(els v4).length = 0
       ·simp [run_draw,tb,hl4,u1,u2,u3,u4,lv4,hz]
        exact yes ⟨fun _ => hcs,fun h => (by rw [hAp] at h; cases h),by rw [ht rfl,List.eq_nil_of_length_eq_zero hz]; rfl⟩
       ·have hz1:0 < (els v4).length := by omega
        simp [run_draw,tb,hl4,u1,u2,u3,u4,lv4,hz1]
        exact no (e := 27) (by decide) fun hh => hz (by
         have := hh.2.2
         rw [ht rfl] at this
         simpa using this)
      | false =>
       simp [run_draw,tb]
       exact no (e := 27) (by decide) fun hh => by
        have := hh.2.2
        rw [hf rfl] at this
        cases this
     ·simp [run_draw,tb,hfl1]
      refine callK_run rfl (callW_to (vwalk_ok (bl := 42) (bd := 8) (ba := 1) (bo := 0) (bw := 44) lib hD ha0 (by omega) (by omega) (by omega) (by omega) (els d).length [] _ 0 48 _ [] (by simp) (fun i hi => by simp at hi) ⟨fun h => absurd h (Nat.lt_irrefl 0),rfl,rfl,rfl,rfl,rfl,by simp,by simp,by simp,a2,hpl⟩) fun v s' hp => ?_)
      rw [← hO,← hA] at hp
      obtain ⟨k4,H4,Z4,v4,b,rfl,rfl,hk4,hlt4,hZ4,hf4,hl4,hfr4,hv4,hv4l,ht,hf⟩ := hp
      obtain ⟨u1,u2,u3,u4,u5⟩ := hv4.cell
      have lv4 := hv4.len
      rw [← hON,← hAf] at ht hf
      cases b with
      | true =>
       by_cases hz:(els v4).length = 0
       ·simp [run_draw,tb,hl4,u1,u2,u3,u4,lv4,hz]
        exact yes ⟨fun _ => hcs,fun h => (by rw [hAp] at h; cases h),by rw [ht rfl,List.eq_nil_of_length_eq_zero hz]; rfl⟩
       ·have hz1:0 < (els v4).length := by omega
        simp [run_draw,tb,hl4,u1,u2,u3,u4,lv4,hz1]
        exact no (e := 27) (by decide) fun hh => hz (by
         have := hh.2.2
         rw [ht rfl] at this
         simpa using this)
      | false =>
       simp [run_draw,tb]
       exact no (e := 27) (by decide) fun hh => by
        have := hh.2.2
        rw [hf rfl] at this
        cases this
    ·have hfl1:((fl O l).2 != 0) = true := by simpa using hfl
     simp [run_draw,tb,hfl1]
     exact no (e := 35) (by decide) fun hh => hfl ((fl_iff O).2 (hch.1 (hh.1 hAp)).2)
   ·have hco1:(c != bound O l) = true := by simpa using hco
    simp [run_draw,tb,hco1]
    refine ⟨logOk_free (by simp [okTri,tri,tb]),?_⟩
    exact no (e := 17) (by decide) fun hh => hco (hch.1 (hh.1 hAp)).1
  ·have he1:(e != 0) = true := by simpa using he0
   simp [run_draw,tb,he1]
   exact no he0 fun hh => he0 (he.2 (by
    obtain ⟨h1,h2,_⟩ := hh.1 hAp
    rw [hAc] at h1 h2
    exact ⟨h1,fun i hi => h2 i (by omega)⟩))
 | false =>
  by_cases hch:(els ch).length = 0
  ·by_cases hc0:c = 0
   ·subst hc0
    rcases hpf with rfl | ⟨es,rfl⟩
    ·simp [run_draw,tb,lc,hch]
     refine callK_run rfl (callW_to (vwalk_ok (bl := 26) (bd := 8) (ba := 1) (bo := 0) (bw := 28) lib hD ha0 (by omega) (by omega) (by omega) (by omega) (els d).length [] _ 0 32 _ [] (by simp) (fun i hi => by simp at hi) ⟨fun h => absurd h (Nat.lt_irrefl 0),rfl,rfl,rfl,rfl,rfl,by simp,by simp,by simp,a2,hpl⟩) fun v s' hp => ?_)
     rw [← hO,← hA] at hp
     obtain ⟨k4,H4,Z4,v4,b,rfl,rfl,hk4,hlt4,hZ4,hf4,hl4,hfr4,hv4,hv4l,ht,hf⟩ := hp
     obtain ⟨u1,u2,u3,u4,u5⟩ := hv4.cell
     have lv4 := hv4.len
     rw [← hON,← hAf] at ht hf
     cases b with
     | true =>
      by_cases hz:(els v4).length = 0
      ·simp [run_draw,tb,hl4,u1,u2,u3,u4,lv4,hz]
       exact yes ⟨fun h => (by rw [hAp] at h; cases h),fun _ => ⟨by rw [hAc]; exact List.eq_nil_of_length_eq_zero (by rw [intsV_len]; exact hch),hAx⟩,by rw [ht rfl,List.eq_nil_of_length_eq_zero hz]; rfl⟩
      ·have hz1:0 < (els v4).length := by omega
       simp [run_draw,tb,hl4,u1,u2,u3,u4,lv4,hz1]
       exact no (e := 27) (by decide) fun hh => hz (by
        have := hh.2.2
        rw [ht rfl] at this
        simpa using this)
     | false =>
      simp [run_draw,tb]
      exact no (e := 27) (by decide) fun hh => by
       have := hh.2.2
       rw [hf rfl] at this
       cases this
    ·simp [run_draw,tb,lc,hch]
     refine callK_run rfl (callW_to (vwalk_ok (bl := 26) (bd := 8) (ba := 1) (bo := 0) (bw := 28) lib hD ha0 (by omega) (by omega) (by omega) (by omega) (els d).length [] _ 0 32 _ [] (by simp) (fun i hi => by simp at hi) ⟨fun h => absurd h (Nat.lt_irrefl 0),rfl,rfl,rfl,rfl,rfl,by simp,by simp,by simp,a2,hpl⟩) fun v s' hp => ?_)
     rw [← hO,← hA] at hp
     obtain ⟨k4,H4,Z4,v4,b,rfl,rfl,hk4,hlt4,hZ4,hf4,hl4,hfr4,hv4,hv4l,ht,hf⟩ := hp
     obtain ⟨u1,u2,u3,u4,u5⟩ := hv4.cell
     have lv4 := hv4.len
     rw [← hON,← hAf] at ht hf
     cases b with
     | true =>
      by_cases hz:(els v4).length = 0
      ·simp [run_draw,tb,hl4,u1,u2,u3,u4,lv4,hz]
       exact yes ⟨fun h => (by rw [hAp] at h; cases h),fun _ => ⟨by rw [hAc]; exact List.eq_nil_of_length_eq_zero (by rw [intsV_len]; exact hch),hAx⟩,by rw [ht rfl,List.eq_nil_of_length_eq_zero hz]; rfl⟩
      ·have hz1:0 < (els v4).length := by omega
       simp [run_draw,tb,hl4,u1,u2,u3,u4,lv4,hz1]
       exact no (e := 27) (by decide) fun hh => hz (by
        have := hh.2.2
        rw [ht rfl] at this
        simpa using this)
     | false =>
      simp [run_draw,tb]
      exact no (e := 27) (by decide) fun hh => by
       have := hh.2.2
       rw [hf rfl] at this
       cases this
   ·have hc0':(c != 0) = true := by simpa using hc0
    have hc0b:(c == 0) = false := by simpa using hc0
    simp [run_draw,tb,lc,hch,hc0',hc0b]
    exact no (e := 3) (by decide) fun hh => hc0 (by rw [← hAx]; exact (hh.2.1 hAp).2)
  ·have hch':0 < (els ch).length := by omega
   simp [run_draw,tb,lc,hch']
   exact no (e := 3) (by decide) fun hh => hch (by rw [← intsV_len,← hAc,(hh.2.1 hAp).1]; rfl)
end Go.Proofs.Tryz
