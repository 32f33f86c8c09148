/- The machine on symbols: the checker's leaves and covers. No condition. -/
import Derived.Test.YtgpmgondjppmmaaGreatDoorP2
import Derived.Test.YtgpmgondjppmmaaGreatDoorP3
set_option linter.unnecessarySimpa false
set_option linter.unusedSectionVars false
set_option linter.unusedSimpArgs false
set_option linter.unusedVariables false
set_option maxHeartbeats 8000000
set_option maxRecDepth 100000
namespace Go.Proofs.Tryz
open Go Go.Pi Go.Num Go.Lin Go.Alc
variable [Hole] {G:Nat → Option PV}
attribute [local simp] slice3Op clearOp
noncomputable def cfailsR:CRel | [X,.int _ q,.int _ s,l],r => r = .bool (if s = 1 then above (offV X) q.toNat (natsV l) else below (offV X) q.toNat (natsV l)) | _,_ => False
theorem cfails_ok (lib:ReadLib G) {d o r fs vl:PV} {l:List Nat} {q:Nat} {s:Int} (hs:s = 1 ∨ s = -1) (h:XOk d o r fs) (hl:IsPre vl l) (hi:InR (offV (.agg [d,o,r])) l) (hn:l.length ≤ (els d).length) (hq:q < (els r).length):Gives prog G 78 [.agg [d,o,r,fs],.int .i64 (q:Int),.int .i64 s,vl] (cfailsR [.agg [d,o,r,fs],.int .i64 (q:Int),.int .i64 s,vl]) := by
 obtain ⟨O,hO⟩:∃ O,O = offV (.agg [d,o,r]) := ⟨_,rfl⟩
 have hfe:cfailsR [.agg [d,o,r,fs],.int .i64 (q:Int),.int .i64 s,vl] = fun x => x = .bool (if s = 1 then above O q l else below O q l) := by funext x; simp only [cfailsR,offV_app,hl.nats,Int.toNat_natCast,← hO]
 rw [hfe]
 obtain ⟨p1,p2,p3,p4,p5⟩ := hl.cell
 obtain ⟨d1,d2,d3,d4,d5⟩ := h.dim.cell
 obtain ⟨o1,o2,o3,o4,o5⟩ := h.opt.cell
 obtain ⟨s1,s2,s3,s4,s5⟩ := h.cell
 have pX:PV.pureL [.agg [d,o,r,fs],.int .i64 (q:Int),vl] = true := by simp only [PV.pureL,h.pure,p5]; rfl
 have hR := reach_ok (G := G) h hl hi hn hq
 have hst := h.wst hi hq (els d).length (Nat.le_refl _)
 rw [← h.n] at hst
 rw [← hO] at hst
 have hN := h.n1
 have hnn := h.n
 rw [← hO] at hnn
 have w1:RFits (worst O q l).1 100000 := hst.1.mono (by omega)
 have w2:RFits (worst O q l).2 100000 := hst.2.mono (by omega)
 obtain ⟨rs,nm,op,c,ts,fc,ar,lo,hh,rfl,k1,k2,k3,k4,k5,k6,⟨k71,k72,k73,k74,k75⟩,k8⟩ := h.rq hq
 rw [← hO] at k8
 have eH:(O.rq q).high = numT hh := by rw [k8]
 have eL:(O.rq q).low = numT lo := by rw [k8]
 have k1' := getE k1
 have hqr:q < rs.length := by simpa [els_slice] using hq
 obtain ⟨t1,t2,t3,t4,t5⟩ := k3.cell
 refine gives (S := [(116,reachR),(77,readR),(67,rcompareR)]) (by kernel_rfl) (by kernel_rfl) (callW_of ann78 func78 rfl (by kernel_rfl) ?_)
 simp [run_draw,tb,d1,o1,s1]
 refine callK_pure rfl pX hR fun x hx => ?_
 simp only [reachR,offV_app,hl.nats,Int.toNat_natCast,← hO] at hx
 obtain ⟨A,B,rfl,hA,hB⟩ := hx
 obtain ⟨v1,v2,v3,v4,rfl⟩ := hA.sh
 obtain ⟨⟨q1,q2,q3,q4,q5⟩,⟨q6,q7,q8,q9,q10⟩⟩ := hA.cf
 obtain ⟨z1,z2,z3,z4,rfl⟩ := hB.sh
 obtain ⟨⟨u1,u2,u3,u4,u5⟩,⟨u6,u7,u8,u9,u10⟩⟩ := hB.cf
 rcases hs with rfl | rfl
 ·simp [run_draw,tb,q1,q6,u1,u6,d1,o1,s1,k1,k1',hqr,t1,k72]
  refine callK_pure rfl rfl (Read_ok lib hh (by have := k6.len; omega)) fun y hy => ?_
  simp only [readR,ba_list] at hy
  obtain ⟨b,m,c',u,e,x,rfl,hy1,hy2⟩ := hy.cases
  obtain ⟨⟨a1,a2,a3,a4,a5⟩,⟨b1,b2,b3,b4,b5⟩⟩ := hy1.cf
  rcases hy2 with ⟨rfl,hy2⟩ | ⟨he,hy2⟩
  ·have fx:RFits x 100000 := (fit400 hy2 k6.len).mono (by omega)
   simp [run_draw,tb,a1,b1,u1,u6]
   refine callK_pure rfl (by simp [PV.pureL,hB.pure,hy1.pure]) (rcompare_ok _ _ _ _ hB hy1 w2 fx) fun z hz => ?_
   simp only [rcompareR,ratv_eq hB,ratv_eq hy1] at hz
   subst hz
   have eA := above_eq (l := l) eH hy2
   simp [run_draw,tb,← eA]
   exact outK_pure rfl rfl
  ·have eA := above_no (l := l) eH hy2
   have he':(e == 0) = false := by simpa using he
   simp [run_draw,tb,a1,b1,he']
   exact outK_pure rfl (by rw [eA])
 ·simp [run_draw,tb,q1,q6,u1,u6,d1,o1,s1,k1,k1',hqr,t1,k72]
  refine callK_pure rfl rfl (Read_ok lib lo (by have := k5.len; omega)) fun y hy => ?_
  simp only [readR,ba_list] at hy
  obtain ⟨b,m,c',u,e,x,rfl,hy1,hy2⟩ := hy.cases
  obtain ⟨⟨a1,a2,a3,a4,a5⟩,⟨b1,b2,b3,b4,b5⟩⟩ := hy1.cf
  rcases hy2 with ⟨rfl,hy2⟩ | ⟨he,hy2⟩
  ·have fx:RFits x 100000 := (fit400 hy2 k5.len).mono (by omega)
   simp [run_draw,tb,a1,b1,q1,q6]
   refine callK_pure rfl (by simp [PV.pureL,hA.pure,hy1.pure]) (rcompare_ok _ _ _ _ hA hy1 w1 fx) fun z hz => ?_
   simp only [rcompareR,ratv_eq hA,ratv_eq hy1] at hz
   subst hz
   have eA := below_eq (l := l) eL hy2
   simp [run_draw,tb,← eA]
   exact outK_pure rfl rfl
  ·have eA := below_no (l := l) eL hy2
   have he':(e == 0) = false := by simpa using he
   simp [run_draw,tb,a1,b1,he']
   exact outK_pure rfl (by rw [eA])
noncomputable def leafR:CRel | [X,a,b,l],r => r = .bool (leafB (offV X) (alV a) (bdV b) (natsV l)) | _,_ => False
theorem leaf_ok (lib:ReadLib G) {d o r fs vl va vb:PV} {l:List Nat} (h:XOk d o r fs) (hl:IsPre vl l) (hi:InR (offV (.agg [d,o,r])) l) (hn:l.length ≤ (els d).length) (ha:IsAl va) (hb:IsBd vb):Gives prog G 80 [.agg [d,o,r,fs],va,vb,vl] (leafR [.agg [d,o,r,fs],va,vb,vl]) := by
 classical
 obtain ⟨O,hO⟩:∃ O,O = offV (.agg [d,o,r]) := ⟨_,rfl⟩
 have fin:∀ {B:Bool} {s:St},(B = true ↔ leafOk O (alV va) (bdV vb) l) → outK (leafR [.agg [d,o,r,fs],va,vb,vl]) (.bool B) s := fun {B s} hB => by
  refine outK_pure rfl ?_
  simp only [leafR,offV_app,hl.nats,← hO]
  congr 1
  rw [Bool.eq_iff_iff,leafB_iff]; exact hB
 have hOM:O.m = (els r).length := by rw [hO]; exact h.m
 have hM := h.m1
 obtain ⟨p1,p2,p3,p4,p5⟩ := hl.cell
 obtain ⟨d1,d2,d3,d4,d5⟩ := h.dim.cell
 obtain ⟨o1,o2,o3,o4,o5⟩ := h.opt.cell
 obtain ⟨r1,r2,r3,r4,r5⟩ := h.req.cell
 obtain ⟨s1,s2,s3,s4,s5⟩ := h.cell
 have pX := h.pure
 have lr := h.req.len
 obtain ⟨p,ch,c,pf,rfl,a1,a2,_⟩ := ha
 obtain ⟨fx,a,q,du,rfl,b1,b2,_⟩ := hb
 have ld := b2.len
 obtain ⟨c1,c2,c3,c4,c5⟩ := a1.cell
 obtain ⟨g1,g2,g3,g4,g5⟩ := a2.cell
 obtain ⟨e1,e2,e3,e4,e5⟩ := b1.cell
 obtain ⟨f1,f2,f3,f4,f5⟩ := b2.cell
 have bnd:PV.pureL [.agg [d,o,r,fs],vl] = true := by simp only [PV.pureL,pX,p5]; rfl
 refine gives (S := [(79,costR),(78,cfailsR)]) (by kernel_rfl) (by kernel_rfl) (callW_of ann80 func80 rfl (by kernel_rfl) ?_)
 by_cases hq:q = -1
 ·subst hq
  have hleaf:leafOk O (alV (.agg [.bool p,ch,.int .i64 c,pf])) (bdV (.agg [fx,.int .i64 a,.int .i64 (-1),du])) l ↔ (els du).length = 0 ∧ p = true ∧ a = bound O l ∧ c ≤ a := by
   unfold leafOk
   simp [alV,bdV]
  by_cases hd:(els du).length = 0
  ·cases p with
   | false =>
    simp [run_draw,tb,c1,g1,e1,f1,ld,hd,d1,o1,r1,s1]
    exact ⟨logOk_free (by simp [okTri,tri,tb]),fin (by rw [hleaf]; simp)⟩
   | true =>
    simp [run_draw,tb,c1,g1,e1,f1,ld,hd,d1,o1,r1,s1]
    refine dcallK_pure rfl bnd (cost_ok h hl hi hn) fun x hx => ?_
    simp only [costR,offV_app,hl.nats,← hO] at hx
    subst hx
    by_cases hab:a = bound O l
    ·subst hab
     simp [run_draw,tb]
     exact ⟨logOk_free (by simp [okTri,tri,tb]),fin (by rw [hleaf]; simp [hd])⟩
    ·have hab':(a == bound O l) = false := by simpa using hab
     simp [run_draw,tb,hab']
     exact ⟨logOk_free (by simp [okTri,tri,tb]),fin (by rw [hleaf]; simp [hab])⟩
  ·have hd':(((els du).length:Int) == 0) = false := by simp only [beq_eq_false_iff_ne,ne_eq]; omega
   simp [run_draw,tb,c1,g1,e1,f1,ld,hd',d1,o1,r1,s1]
   exact ⟨logOk_free (by simp [okTri,tri,tb]),fin (by rw [hleaf]; simp [hd])⟩
 ·have hq':(q == -1) = false := by simpa using hq
  have hleaf:leafOk O (alV (.agg [.bool p,ch,.int .i64 c,pf])) (bdV (.agg [fx,.int .i64 a,.int .i64 q,du])) l ↔ 0 ≤ q ∧ q < O.m ∧ a = 0 ∧ (((els du).map strV = [[49]] ∧ above O q.toNat l = true) ∨ ((els du).map strV = [[45,49]] ∧ below O q.toNat l = true)) := by
   unfold leafOk
   simp [alV,bdV,hq]
  by_cases h0:q < 0
  ·simp [run_draw,tb,c1,g1,e1,f1,hq',h0,d1,o1,r1,s1]
   exact fin (by rw [hleaf]; simp; omega)
  ·by_cases h1:((els r).length:Int) ≤ q
   ·simp [run_draw,tb,c1,g1,e1,f1,hq',h0,lr,h1,d1,o1,r1,s1]
    exact fin (by rw [hleaf,hOM]; simp; omega)
   ·by_cases h2:a = 0
    ·subst h2
     by_cases h3:(els du).length = 1
     ·obtain ⟨t,rfl⟩ := one_dual b2 h3
      obtain ⟨Q,rfl⟩:∃ Q:Nat,q = Q := ⟨q.toNat,by omega⟩
      have pD:∀ s:Int,PV.pureL [.agg [d,o,r,fs],.int .i64 (Q:Int),.int .i64 s,vl] = true := fun s => by simp only [PV.pureL,pX,p5]; rfl
      simp only [els_slice,List.map_cons,List.map_nil,strV_ba,Int.toNat_natCast] at hleaf
      by_cases t1:t = [49]
      ·subst t1
       have e1' := sb_eql [49] [49]
       have e2' := sb_eql [49] [45,49]
       simp only [decide_true] at e1'
       rw [show decide (([49]:List UInt8) = [45,49]) = false from by decide] at e2'
       simp [run_draw,tb,c1,g1,e1,f1,hq',h0,lr,h1,d1,o1,r1,s1,c49,c4549,e1',e2']
       refine callK_pure rfl (pD 1) (cfails_ok lib (.inl rfl) h hl hi hn (by omega)) fun x hx => ?_
       simp only [cfailsR,offV_app,hl.nats,Int.toNat_natCast,← hO,if_true] at hx
       subst hx
       cases hab:above O Q l
       all_goals
        simp [run_draw,tb,c49,c4549,e1',e2',e1,f1]
        exact fin (by rw [hleaf,hOM]; simp [hab]; try omega)
      ·by_cases t2:t = [45,49]
       ·subst t2
        have e1' := sb_eql [45,49] [49]
        have e2' := sb_eql [45,49] [45,49]
        simp only [decide_true] at e2'
        rw [show decide (([45,49]:List UInt8) = [49]) = false from by decide] at e1'
        simp [run_draw,tb,c1,g1,e1,f1,hq',h0,lr,h1,d1,o1,r1,s1,c49,c4549,e1',e2']
        refine callK_pure rfl (pD (-1)) (cfails_ok lib (.inr rfl) h hl hi hn (by omega)) fun x hx => ?_
        simp only [cfailsR,offV_app,hl.nats,Int.toNat_natCast,← hO,if_neg (show ¬ (-1:Int) = 1 by decide)] at hx
        subst hx
        cases hbe:below O Q l
        all_goals
         simp [run_draw,tb,c49,c4549,e1',e2',e1,f1]
         exact fin (by rw [hleaf,hOM]; simp [hbe]; try omega)
       ·have e1' := sb_eql t [49]
        have e2' := sb_eql t [45,49]
        rw [decide_eq_false t1] at e1'
        rw [decide_eq_false t2] at e2'
        simp [run_draw,tb,c1,g1,e1,f1,hq',h0,lr,h1,d1,o1,r1,s1,c49,c4549,e1',e2']
        exact fin (by rw [hleaf]; simp [t1,t2])
     ·have h3':(((els du).length:Int) != 1) = true := by simp only [bne_iff_ne,ne_eq]; omega
      simp [run_draw,tb,c1,g1,e1,f1,hq',h0,lr,h1,ld,h3',d1,o1,r1,s1]
      refine fin ?_
      rw [hleaf]
      have k1:(els du).map strV ≠ [[49]] := fun e => h3 (by have := congrArg List.length e; simpa using this)
      have k2:(els du).map strV ≠ [[45,49]] := fun e => h3 (by have := congrArg List.length e; simpa using this)
      simp [k1,k2]
    ·have h2':(a != 0) = true := by simpa using h2
     simp [run_draw,tb,c1,g1,e1,f1,hq',h0,lr,h1,h2',d1,o1,r1,s1]
     exact fin (by rw [hleaf]; simp [h2])
theorem RV.pure {es:List PV} {n:Nat} {f:Nat → Rat} (h:RV es n f):∀ v ∈ es,v.pureB = true := fun v hv => by
 obtain ⟨k,hk,rfl⟩ := List.getElem_of_mem hv
 obtain ⟨w,h1,h2⟩ := h.at_ k (by rw [← h.len]; exact hk)
 rw [List.getElem?_eq_getElem hk] at h1
 cases h1
 exact h2.pure
noncomputable def facN (n:Nat) (ts:List PV) (i:Nat):List Rat := (ts.take i).foldl setF (List.replicate n 0)
theorem facN_len (n:Nat) (ts:List PV) (i:Nat):(facN n ts i).length = n := by simp [facN,facs_len]
theorem facN_all (n:Nat) (ts:List PV):facN n ts ts.length = facs n ts := by simp [facN,facs]
theorem facN_succ {n i d:Nat} {ts:List PV} {l:List UInt8} {x:Rat} (h:ts[i]? = some (.agg [.int .i64 (d:Int),.str (ba l)])) (hd:d < n) (hx:RatText l x) (k:Nat):(facN n ts (i+1)).getD k 0 = if k = d then x else (facN n ts i).getD k 0 := by
 have hi:i < ts.length := (List.getElem?_eq_some_iff.1 h).1
 have e:facN n ts (i+1) = (facN n ts i).set d x := by
  unfold facN
  rw [List.take_add_one,h]
  simp only [Option.toList_some,List.foldl_append,List.foldl_cons,List.foldl_nil]
  simp [setF,ba_list,numT_some hx]
 rw [e]
 simp only [List.getD,List.getElem?_set,facN_len]
 by_cases hk:k = d
 ·subst hk; simp [hd]
 ·rw [if_neg hk,if_neg (fun e => hk e.symm)]
theorem RV.fac0 (n:Nat) (ts:List PV):RV (List.replicate n ratZero) n (fun k => (facN n ts 0).getD k 0) := (RV.zero n).congr fun k hk => by
 simp [facN,List.getD,hk]
theorem gives_q {f:FuncId} {vs:List PV} {R:PV → Prop} (h:∀ Q:PV → Prop,(∀ r,R r → Q r) → Gives prog G f vs Q):Gives prog G f vs R := h R fun _ h => h
noncomputable def formR:CRel | [.agg [.str c,ts],.int _ n],r => ∃ b m c' u fe,r = .agg [.bool b,m,.bool c',u,.slice fe] ∧ IsRat (.agg [.bool b,m,.bool c',u]) ((numT c.data.toList).getD 0) ∧ RV fe n.toNat (fun i => (facs n.toNat (els ts)).getD i 0) | _,_ => False
noncomputable def foI (ts:PV) (n:Nat) (b:Bool) (m:PV) (c':Bool) (u:PV):Nat → List PV → St → Prop := fun w vs st => ∃ (i k:Nat) (es:List PV) (H:List (Nat × Ent)),vs = [.int .i64 (i:Int),.int .i64 ((els ts).length:Int),.ptr 5 0 0,ts,.ptr 1 0 0] ∧ i + w = (els ts).length ∧
 RV es n (fun k => (facN n (els ts) i).getD k 0) ∧ Go.Pi.look H 5 = some ⟨5,[.agg [.bool b,m,.bool c',u,.own 3 0 n]]⟩ ∧ Go.Pi.look H 3 = some ⟨4,es⟩ ∧ (∃ z,Go.Pi.look H 1 = some ⟨5,[.agg [.bool false,.nil,.bool false,.nil,z]]⟩) ∧ (∀ p ∈ H,p.1 < k) ∧ 5 < k ∧ st = ⟨k,H,[]⟩
theorem formOf_ok (lib:ReadLib G) {c:List UInt8} {ts:PV} {n:Nat} (hc:NumOk c) (ht:Lst (TermOk n) ts) (htl:(els ts).length ≤ 64) (hn:n ≤ 12):Gives prog G 37 [.agg [.str (ba c),ts],.int .i64 (n:Int)] (formR [.agg [.str (ba c),ts],.int .i64 (n:Int)]) := by
 have hfe:formR [.agg [.str (ba c),ts],.int .i64 (n:Int)] = fun r => ∃ b m c' u fe,r = .agg [.bool b,m,.bool c',u,.slice fe] ∧ IsRat (.agg [.bool b,m,.bool c',u]) ((numT c).getD 0) ∧ RV fe n (fun i => (facs n (els ts)).getD i 0) := by funext r; simp only [formR,ba_list,Int.toNat_natCast]
 rw [hfe]
 obtain ⟨x0,hx0,hx1,_⟩ := num400 hc
 rw [hx1,Option.getD_some]
 refine gives_q fun Q hQ => ?_
 obtain ⟨t1,t2,t3,t4,t5⟩ := ht.cell
 have lt := ht.len
 have mk:n * 64 ≤ 140737488355328 := by omega
 have mk2:n < 9223372036854775808 := by omega
 have rz:repeatP (.agg [.bool false,.nil,.bool false,.nil]) n = List.replicate n ratZero := rep_eq _ n
 refine gives (S := [(77,readR)]) (by kernel_rfl) (by kernel_rfl) (callW_of ann37 func37 rfl (by kernel_rfl) ?_)
 simp [run_draw,tb,t1,mk,mk2,rz]
 refine callK_pure rfl rfl (Read_ok lib c (by have := hc.1; omega)) fun y hy => ?_
 simp only [readR,ba_list] at hy
 obtain ⟨b,m,c',u,e,x,rfl,hy1,hy2⟩ := hy.cases
 obtain ⟨⟨a1,a2,a3,a4,a5⟩,⟨b1,b2,b3,b4,b5⟩⟩ := hy1.cf
 have ex:x = x0 := by
  rcases hy2 with ⟨_,h⟩ | ⟨_,h⟩
  ·exact h.inj hx0
  ·exact absurd hx0 (h x0)
 subst ex
 simp [run_draw,tb,a1,b1,lt]
 refine loopK_of (foI ts n b m c' u) rfl rfl ?step (els ts).length _ _ ?init
 case init => exact ⟨0,_,_,_,rfl,by omega,RV.fac0 n _,rfl,rfl,⟨_,rfl⟩,by simp,by omega,rfl⟩
 case step =>
 rintro w vs st ⟨i,k,es,H,rfl,hiw,hR,l5,l3,⟨z,l1⟩,hlt,hk,rfl⟩
 rcases Nat.eq_zero_or_pos w with hw0 | hw0
 ·have hi:i = (els ts).length := by omega
  subst hi
  rw [facN_all] at hR
  have lus1:∀ E,Go.Pi.look (Go.Pi.upd H 1 E) 1 = some E := fun E => look_upd_same l1
  simp [run_draw,tb,l5,l1,lus1,a1,b1]
  have l3':∀ E,Go.Pi.look (Go.Pi.upd H 1 E) 3 = some ⟨4,es⟩ := fun E => (look_upd_ne (by omega)).trans l3
  refine outK_agg (ws := [.bool b,m,.bool c',u,.slice es]) (fl := [3]) (by simp [PV.pureL,PV.pureB,a5,b5]) ?_ (hQ _ ⟨b,m,c',u,es,rfl,hy1,hR⟩)
  have hr := reifyW_own (hp := (St.mk (k+1+1+1) (Go.Pi.upd H 1 ⟨5,[.agg [.bool b,m,.bool c',u,.own 3 0 n]]⟩) []).hp) (d := 4) (n := n) (l3' _) hR.len (by decide) hR.pure
  simp only [reifyWL,hr,reifyW_pure m a5,reifyW_pure u b5,reifyW_pure (.bool b) rfl,reifyW_pure (.bool c') rfl]
  rfl
 ·have hi:i < (els ts).length := by omega
  have hii:(i:Int) < (els ts).length := by omega
  have wi:IntKind.i64.wrap ((i:Int)+1) = ((i+1:Nat):Int) := w_i64 (by omega)
  obtain ⟨es',w',rfl,f1,d,l,rfl,hd0,hdn,hl⟩ := ht.at hi
  obtain ⟨d,rfl⟩:∃ D:Nat,d = D := ⟨d.toNat,by omega⟩
  have f1' := getE f1
  simp only [els_slice] at hi hii hiw hR ⊢
  obtain ⟨x2,hx2,_⟩ := num400 hl
  have hdn':d < n := by omega
  have hsucc := facN_succ (n := n) f1 hdn' hx2
  have lus3:∀ E,Go.Pi.look (Go.Pi.upd H 3 E) 3 = some E := fun E => look_upd_same l3
  obtain ⟨bb,mm,cc,uu,_,g1,g2,_⟩ := hR.get hdn'
  have g1' := getE g1
  have hesl := hR.len
  have hde:d < es.length := by omega
  have nk2:¬ k = 2 := by omega
  have nk0:¬ k = 0 := by omega
  simp [run_draw,tb,hi,hii,f1,f1',l5,a1,b1,nk2,nk0]
  refine dcallK_pure rfl rfl (Read_ok lib l (by have := hl.1; omega)) fun y hy => ?_
  simp only [readR,ba_list] at hy
  obtain ⟨b',m',c'',u',e',x',rfl,hv1,hv2⟩ := hy.cases
  obtain ⟨⟨a1',a2',a3',a4',a5'⟩,⟨b1',b2',b3',b4',b5'⟩⟩ := hv1.cf
  have ex:x' = x2 := by
   rcases hv2 with ⟨_,h⟩ | ⟨_,h⟩
   ·exact h.inj hx2
   ·exact absurd hx2 (h x2)
  subst ex
  simp [run_draw,tb,a1',b1',a3',b3',l3,hdn',g1,g1',wi,hde,nk2,nk0]
  refine ⟨logOk_free (by simp [okTri,tri,tb]),w - 1,by omega,i+1,_,es.set d (.agg [.bool b',m',.bool c'',u']),_,by rfl,by simp only [els_slice]; omega,?_,?_,?_,⟨z,?_⟩,?_,?_,rfl⟩
  ·refine (hR.set hv1).congr fun q _ => ?_
   simp only [els_slice]
   exact (hsucc q).symm
  ·rw [look_cons_ne (by omega),look_upd_ne (by omega)]; exact l5
  ·rw [look_cons_ne (by omega)]; exact lus3 _
  ·rw [look_cons_ne (by omega),look_upd_ne (by omega)]; exact l1
  ·exact cons_lt (upd_lt hlt) (by omega) (by omega)
  ·omega
def preV (l:List Nat):PV := if l = [] then .nil else .slice (NL l)
theorem preV_nil:preV [] = .nil := rfl
theorem preV_ne {l:List Nat} (h:l ≠ []):preV l = .slice (NL l) := if_neg h
theorem preV_is (l:List Nat):IsPre (preV l) l := by
 unfold preV
 split
 ·rename_i h; exact .inl ⟨rfl,h⟩
 ·exact .inr rfl
theorem preV_app (l:List Nat) (k:Nat):preV (l ++ [k]) = .slice (NL (l ++ [k])) := preV_ne (by simp)
theorem eqSnil {t e:TypeId} (ht:prog.underlying t = some (.slice e)) (x:PV) (xs:List PV):eqPV prog 50 t (.slice (x :: xs)) .nil = some false := by simp [eqPV,ht]
theorem eqNnil {t e:TypeId} (ht:prog.underlying t = some (.slice e)):eqPV prog 50 t .nil .nil = some true := by simp [eqPV,ht]
theorem guardS (t:TypeId) (p q:Bool) (x:List PV):guardB prog t p q (.slice x) .nil = true := rfl
theorem guardN (t:TypeId) (p q:Bool):guardB prog t p q .nil .nil = true := rfl
theorem cloneI_own {S:Specs} {l:List Nat} (hl:l ≠ []) (hn:l.length ≤ 100):CallW prog (specEnv prog G S) G A1 11 [.slice (NL l)] ⟨0,[],[]⟩ fun v s2 => ∃ e,ownRes s2 v = some e ∧ e = ⟨1,NL l⟩ := by
 obtain ⟨a,l,rfl⟩:∃ a l',l = a :: l' := by cases l with | nil => exact absurd rfl hl | cons a l => exact ⟨a,l,rfl⟩
 have e0:NL (a :: l) = .int .i64 (a:Int) :: NL l := rfl
 have hln := NL_len l
 have hu:(NL l).all (fun e => decide (e.cells.length = 1) && e.cells.all PV.cellOk) = true := by
  rw [List.all_eq_true]
  intro v hv
  obtain ⟨k,_,rfl⟩ := List.mem_map.1 hv
  rfl
 have hp := pure_NL l
 rw [e0]
 simp only [List.length_cons] at hn
 refine callW_of ann11 func11 rfl (by kernel_rfl) ?_
 have mk:(2 * (l.length+1)+1000) * 8 ≤ 140737488355328 := by omega
 simp [run_draw,tb,eqSnil und37,guardS,buildSliceOp,putParts,repeatP,PV.pureL,uniform,appendOp,appended,elems,hln,mk,hu]
 simp [ownRes,PV.pureL,hp,hln,PV.pureB]
theorem cloneI_nil {S:Specs}:CallW prog (specEnv prog G S) G A1 11 [.nil] ⟨0,[],[]⟩ fun v s2 => ownRes s2 v = none ∧ ∃ r fl,reify s2.hp v = some (r,fl) ∧ r = .nil := by
 refine callW_of ann11 func11 rfl (by kernel_rfl) ?_
 simp [run_draw,tb,eqNnil und37,guardN]
 exact ⟨rfl,_,reify_pure rfl⟩
def CovP (O:Off) (A:Al) (d:Nat) (l:List Nat) (Left:List Bd) (r:PV):Prop := ∃ v b,r = .tuple [v,.bool b] ∧ Lst IsBd v ∧ (els v).length ≤ maxLen ∧ (b = true → walkL O A d l Left = some ((els v).map bdV)) ∧ (b = false → walkL O A d l Left = none)
noncomputable def coversR:CRel | [X,a,v,l],r => CovP (offV X) (alV a) ((offV X).n - (natsV l).length) (natsV l) ((els v).map bdV) r | _,_ => False
def cpI (X va v vl:PV) (l:List Nat):Nat → List PV → St → Prop := fun n vs st => ∃ (i k j:Nat) (H:List (Nat × Ent)),vs = [.int .i64 (i:Int),.int .i64 (l.length:Int),slv j i,vl,v,vl,.ptr 0 0 0,.ptr 1 0 0] ∧ i + n = l.length ∧ (0 < i → Go.Pi.look H j = some ⟨2,PK (pkN l i)⟩ ∧ j < k ∧ 1 < j) ∧
 Go.Pi.look H 0 = some ⟨4,[X]⟩ ∧ Go.Pi.look H 1 = some ⟨4,[va]⟩ ∧ 1 < k ∧ (∀ p ∈ H,p.1 < k) ∧ st = ⟨k,H,[]⟩
noncomputable def cvI (O:Off) (A:Al) (X va:PV) (l:List Nat) (D C:Nat) (L0:List Bd):Nat → List PV → St → Prop := fun n vs st => ∃ (e k:Nat) (v:PV) (H:List (Nat × Ent)) (Z:List Nat),vs = [.int .i64 (e:Int),.int .i64 (C:Int),v,.ptr 0 0 0,.ptr 1 0 0,preV l] ∧ e + n = C ∧ Lst IsBd v ∧ (els v).length ≤ maxLen ∧
 walkK (fun k lf => walkL O A D (l ++ [k]) lf) n e ((els v).map bdV) = walkK (fun k lf => walkL O A D (l ++ [k]) lf) C 0 L0 ∧
 Go.Pi.look H 0 = some ⟨4,[X]⟩ ∧ Go.Pi.look H 1 = some ⟨4,[va]⟩ ∧ 1 < k ∧ (∀ p ∈ H,p.1 < k) ∧ (∀ q ∈ Z,q < k) ∧ st = ⟨k,H,Z⟩
theorem reifyL_picks {hp:Nat → Option Ent} {v:PV} {j n:Nat} {es:List PV} (hv:v.pureB = true) (h:0 < n → hp j = some ⟨2,es⟩) (hn:es.length = n) (he:∀ x ∈ es,x.pureB = true):reifyL hp [v,slv j n] = some ([v,sv n es],if n = 0 then [] else [j]) := by
 rcases Nat.eq_zero_or_pos n with z | z
 ·subst z
  simp only [slv,sv,if_true]
  exact reifyL_pure (by simp [PV.pureL,hv,PV.pureB])
 ·rw [slv_pos z,sv_pos z,if_neg (by omega)]
  have:reify hp (.own j 0 n) = some (.slice es,[j]) := by
   unfold reify
   show reifyW _ (reifyN _ 5) _ = _
   exact reifyW_own (d := 4) (h z) hn (by decide) he
  simp only [reifyL,mapR,reify_pure hv,this]
  rfl
theorem slice_rest {hp:Nat → Option Ent} {es:List PV} (he:∀ w ∈ es,IsBd w) (h0:0 < es.length):sliceOp prog hp 38 (.slice es) (some (.int .i64 1)) none = some { val := .slice (es.drop 1) } := by
 have e:es.all (fun e => decide (e.cells.length = 4)) = true := by
  rw [List.all_eq_true]
  intro v hv
  obtain ⟨fx,a,q,du,rfl,_⟩ := he v hv
  rfl
 have h1:(es.drop 1).take (es.length - 1) = es.drop 1 := List.take_of_length_le (by simp)
 simp only [sliceOp,lowOf,natOf_1,und38,sliceOf,size49,highOf,ble_lit,beq_lit,e,Nat.le_refl,show 1 ≤ es.length by omega,decide_true,Bool.and_self,cond_true,h1]
open Classical in
theorem walkL_fix {O:Off} {A:Al} {D:Nat} {l:List Nat} {x:Bd} {L:List Bd} (h:x.fixed = pk l):walkL O A D l (x :: L) = if leafOk O A x l then some L else none := by cases D <;> simp [walkL,stepL,h]
theorem walkL_none {O:Off} {A:Al} {l:List Nat} {x:Bd} {L:List Bd} (h:¬ x.fixed = pk l):walkL O A 0 l (x :: L) = none := by simp [walkL,stepL,h]
theorem walkL_deep {O:Off} {A:Al} {D:Nat} {l:List Nat} {x:Bd} {L:List Bd} (h:¬ x.fixed = pk l):walkL O A (D+1) l (x :: L) = walkK (fun k lf => walkL O A D (l ++ [k]) lf) (O.cnt l.length) 0 (x :: L) := by simp [walkL,stepL,h]
theorem reifyL_cov {hp:Nat → Option Ent} {x y z:PV} {j n:Nat} {es:List PV} (h1:x.pureB = true) (h2:y.pureB = true) (h3:z.pureB = true) (h:hp j = some ⟨1,es⟩) (hn:es.length = n) (he:PV.pureL es = true):reifyL hp [x,y,z,.own j 0 n] = some ([x,y,z,.slice es],[j]) := by
 have:reify hp (.own j 0 n) = some (.slice es,[j]) := by
  unfold reify
  show reifyW _ (reifyN _ 5) _ = _
  exact reifyW_own (d := 4) h hn (by decide) ((pureL_iff es).1 he)
 simp only [reifyL,mapR,reify_pure h1,reify_pure h2,reify_pure h3,this]
 rfl
theorem memB_none {Z:List Nat} {k q:Nat} (h:∀ x ∈ Z,x < k) (hq:k ≤ q):memB Z q = false := by
 cases hm:memB Z q with
 | false => rfl
 | true => have := h q ((memB_iff Z q).1 hm); omega
theorem cons_ltZ {Z:List Nat} {k j k2:Nat} (h:∀ q ∈ Z,q < k) (h1:k ≤ k2) (h2:j < k2):∀ q ∈ (j :: Z),q < k2 := by
 intro q hq
 rcases List.mem_cons.1 hq with rfl | h'
 ·exact h2
 ·have := h q h'; omega
theorem covers_ok (lib:ReadLib G) {d o r fs va:PV} (h:XOk d o r fs) (ha:IsAl va):∀ (D:Nat) (l:List Nat) (v:PV),l.length + D = (els d).length → InR (offV (.agg [d,o,r])) l → Lst IsBd v → (els v).length ≤ maxLen → Gives prog G 39 [.agg [d,o,r,fs],va,v,preV l] (coversR [.agg [d,o,r,fs],va,v,preV l]) := by
 obtain ⟨O,hO⟩:∃ O,O = offV (.agg [d,o,r]) := ⟨_,rfl⟩
 have hON:O.n = (els d).length := by rw [hO]; exact h.n
 have hN := h.n1
 obtain ⟨d1,d2,d3,d4,d5⟩ := h.dim.cell
 obtain ⟨o1,o2,o3,o4,o5⟩ := h.opt.cell
 obtain ⟨r1,r2,r3,r4,r5⟩ := h.req.cell
 obtain ⟨s1,s2,s3,s4,s5⟩ := h.cell
 have pX := h.pure
 have ha0 := ha
 have pa := ha.pure
 have ld := h.dim.len
 obtain ⟨p,ch,c,pf,rfl,a1,a2,_⟩ := ha
 obtain ⟨c1,c2,c3,c4,c5⟩ := a1.cell
 obtain ⟨g1,g2,g3,g4,g5⟩ := a2.cell
 intro D
 induction D using Nat.strongRecOn with
 | ind D ih =>
 intro l v hlD hi hv hvl
 have hfe:coversR [.agg [d,o,r,fs],.agg [.bool p,ch,.int .i64 c,pf],v,preV l] = CovP O (alV (.agg [.bool p,ch,.int .i64 c,pf])) D l ((els v).map bdV) := by funext x; simp only [coversR,offV_app,(preV_is l).nats,← hO]; rw [hON,show (els d).length - l.length = D by omega]
 rw [hfe]
 refine gives_q fun Q hQ => ?_
 obtain ⟨v1,v2,v3,v4,v5⟩ := hv.cell
 obtain ⟨p1,p2,p3,p4,p5⟩ := (preV_is l).cell
 have lv := hv.len
 have ll := (preV_is l).len
 have no:∀ {s:St},walkL O (alV (.agg [.bool p,ch,.int .i64 c,pf])) D l ((els v).map bdV) = none → outK Q (.tuple [.nil,.bool false]) s := fun hw => outK_pure rfl (hQ _ ⟨.nil,false,rfl,.inl rfl,by simp [els],fun h => (by cases h),fun _ => hw⟩)
 refine gives (S := [(44,equalR),(80,leafR),(39,coversR)]) (by kernel_rfl) (by kernel_rfl) (callW_of ann39 func39 rfl (by kernel_rfl) ?_)
 by_cases hv0:(els v).length = 0
 ·have hv0':els v = [] := List.eq_nil_of_length_eq_zero hv0
  simp [tb,d1,o1,r1,s1,c1,g1,lv,hv0]
  refine no ?_
  rw [hv0']
  cases D <;> rfl
 ·have hv0':(((els v).length:Int) == 0) = false := by simp only [beq_eq_false_iff_ne,ne_eq]; omega
  simp [tb,d1,o1,r1,s1,c1,g1,lv,hv0',ll]
  refine loopK_of (cpI (.agg [d,o,r,fs]) (.agg [.bool p,ch,.int .i64 c,pf]) v (preV l) l) rfl rfl ?step l.length _ _ ?init
  case init => exact ⟨0,_,0,_,rfl,by omega,fun h => absurd h (Nat.lt_irrefl 0),rfl,rfl,by omega,by simp,rfl⟩
  case step =>
  rintro n vs st ⟨i,k,j,H,rfl,hin,lj,l0,l1,hk1,hlt,rfl⟩
  rcases Nat.eq_zero_or_pos n with hn0 | hn0
  ·have hi0:i = l.length := by omega
   subst hi0
   obtain ⟨es,w,rfl,f1,hw⟩ := hv.at (i := 0) (by omega)
   have hw0 := hw
   obtain ⟨fx,a,q,du,rfl,b1,b2,b3,b4⟩ := hw
   have f1' := getE f1
   obtain ⟨e1,e2,e3,e4,e5⟩ := b1.cell
   obtain ⟨h1,h2,h3,h4,h5⟩ := b2.cell
   simp only [els_slice] at hv0 hv0' no hQ
   have hes0:0 < es.length := by omega
   obtain ⟨x,es',rfl⟩:∃ x es',es = x :: es' := by cases es with | nil => simp at hes0 | cons x es' => exact ⟨x,es',rfl⟩
   simp only [List.getElem?_cons_zero,Option.some.injEq] at f1
   subst f1
   obtain ⟨bd,hbd⟩:∃ bd,bd = bdV (.agg [fx,.int .i64 a,.int .i64 q,du]) := ⟨_,rfl⟩
   have hbf:bd.fixed = pksV fx := by rw [hbd]; rfl
   simp only [List.map_cons,← hbd] at no hQ
   have hall:∀ w ∈ (.agg [fx,.int .i64 a,.int .i64 q,du] :: es':List PV),IsBd w := hv.all
   simp [tb,h1,e1]
   refine callK_spec rfl (reifyL_picks e5 (fun h => (lj h).1) (by rw [PK_len,pkN_len]) (pure_PK _)) (equal_ok b1 (by
    unfold sv
    split
    ·exact .inl rfl
    ·exact .inr ⟨_,rfl,fun w hw => by obtain ⟨y,_,rfl⟩ := List.mem_map.1 hw; exact ⟨_,_,rfl⟩⟩) b3) fun y hy => ?_
   simp only [equalR] at hy
   have hpk := pksV_sv (pkN l l.length)
   rw [pkN_len] at hpk
   rw [hpk,← pk_eq] at hy
   subst hy
   by_cases hfix:pksV fx = pk l
   ·have so := fun hp => slice_rest (hp := hp) hall (by simp)
    simp only [List.drop_succ_cons,List.drop_zero] at so
    simp [run_draw,tb,hfix,thaw,PV.bareB,l0,l1,so,d1,o1,r1,s1,c1,g1,h1,e1]
    refine dcallK_pure rfl (by simp only [PV.pureL,pX,pa,hw0.pure,p5]; rfl) (leaf_ok lib h (preV_is l) hi (by omega) ha0 hw0) fun y hy => ?_
    simp only [leafR,offV_app,(preV_is l).nats,← hO,← hbd] at hy
    subst hy
    simp [run_draw,tb,d4,o4,r4,s4,c4,g4,e4,h4,p4]
    refine ⟨logOk_free (by simp [okTri,tri,tb]),outK_pure rfl (hQ _ ⟨.slice es',_,rfl,.inr ⟨es',rfl,fun w hw => hall w (List.mem_cons_of_mem _ hw)⟩,?_,fun hB => ?_,fun hB => ?_⟩)⟩
    ·simp only [els_slice,List.length_cons] at hvl ⊢; omega
    ·rw [walkL_fix (by rw [hbf]; exact hfix),if_pos (leafB_iff.1 hB)]; rfl
    ·rw [walkL_fix (by rw [hbf]; exact hfix),if_neg (fun h => by rw [leafB_iff.2 h] at hB; cases hB)]
   ·have hfix':¬ bd.fixed = pk l := by rw [hbf]; exact hfix
    rcases Nat.eq_zero_or_pos D with hD | hD
    ·subst hD
     have hln:((l.length:Int) == (els d).length) = true := by simp only [beq_iff_eq]; omega
     simp [tb,hfix,thaw,PV.bareB,l0,l1,d1,o1,r1,s1,c1,g1,h1,e1,ll,ld,hln]
     exact no (walkL_none hfix')
    ·obtain ⟨D,rfl⟩:∃ D',D = D'+1 := ⟨D - 1,by omega⟩
     have hln:((l.length:Int) == (els d).length) = false := by simp only [beq_eq_false_iff_ne,ne_eq]; omega
     obtain ⟨os,row,rfl,k1,k2,k3,k4,k5,k6⟩ := h.row (i := l.length) (by omega)
     have k1' := getE k1
     have hol := h.on
     simp only [els_slice] at hol
     have hlo:l.length < os.length := by omega
     rw [← hO] at k5
     simp only [walkL_deep hfix',k5] at no hQ
     simp [tb,hfix,thaw,PV.bareB,l0,l1,d1,o1,r1,s1,c1,g1,h1,e1,ll,ld,hln,k1,k1',hlo]
     refine loopK_of (cvI O (alV (.agg [.bool p,ch,.int .i64 c,pf])) (.agg [d,.slice os,r,fs]) (.agg [.bool p,ch,.int .i64 c,pf]) l D row.length (bd :: es'.map bdV)) rfl rfl ?step2 row.length _ _ ?init2
     case init2 => exact ⟨0,_,_,_,_,rfl,by omega,.inr ⟨_,rfl,hall⟩,hvl,by rw [hbd]; rfl,l0,l1,by omega,lt_mono hlt (by omega),by simp,rfl⟩
     case step2 =>
     clear l0 l1 hlt lj hv hvl lv hv0 hv0'
     rintro m vs2 st ⟨e,k',v',H2,Z,rfl,hem,hv',hvl',hwk,l0,l1,hk',hlt,hZ,rfl⟩
     obtain ⟨v1',v2',v3',v4',v5'⟩ := hv'.cell
     rcases Nat.eq_zero_or_pos m with hm | hm
     ·subst hm
      have he:e = row.length := by omega
      subst he
      simp [tb]
      refine outK_pure (by simp [PV.pureB,PV.pureL,v5']) (hQ _ ⟨v',true,rfl,hv',hvl',fun _ => ?_,fun h => by cases h⟩)
      rw [walkL_deep hfix',k5,← hwk]; rfl
     ·obtain ⟨m,rfl⟩:∃ m',m = m'+1 := ⟨m - 1,by omega⟩
      have he:e < row.length := by omega
      have hee:(e:Int) < row.length := by omega
      have we:IntKind.i64.wrap ((e:Int)+1) = ((e+1:Nat):Int) := w_i64 (by omega)
      have hsn:InR O (l ++ [e]) := InR.snoc O (by rw [hO]; exact hi) (by rw [k5]; exact he)
      have hln1:¬ l = [] → (NL l).length = l.length := fun _ => NL_len l
      have IH := ih D (by omega) (l ++ [e]) v' (by simp; omega) (by rw [← hO]; exact hsn) hv' hvl'
      rw [preV_app] at IH
      have pI:PV.pureL [.agg [d,.slice os,r,fs],.agg [.bool p,ch,.int .i64 c,pf],v',.slice (NL (l ++ [e]))] = true := by simp only [PV.pureL,pX,pa,v5']; rfl
      by_cases hl0:l = []
      ·subst hl0
       simp [run_draw,tb,hee,l0,l1,d1,o1,r1,s1,c1,g1,preV_nil]
       refine dcallK_run rfl (ws := [.nil]) (fr := []) rfl rfl cloneI_nil fun E hE => ?_
       subst hE
       simp [run_draw,tb,buildSliceOp,putParts,repeatP,uniform,PV.pureL,PV.pureB,appendOp,appended,elems]
       refine dcallK_spec rfl (reifyL_cov pX pa v5' (look_one_cons _ _ _) rfl rfl) (by exact IH) (by simp [blt_lit]) fun y hy => ?_
       have hy2:CovP O (alV (.agg [.bool p,ch,.int .i64 c,pf])) D (([]:List Nat) ++ [e]) ((els v').map bdV) y := by
        rw [show (PV.slice [PV.int .i64 (e:Int)]) = preV (([]:List Nat) ++ [e]) from (preV_app [] e).symm] at hy
        simp only [coversR,offV_app,(preV_is (([]:List Nat) ++ [e])).nats,← hO] at hy
        rwa [hON,show (els d).length - (([]:List Nat) ++ [e]).length = D by simp only [List.length_append,List.length_cons,List.length_nil] at hlD ⊢; omega] at hy
       clear hy
       obtain ⟨w2,b,rfl,hw2,hw2l,ht,hf⟩ := hy2
       obtain ⟨u1,u2,u3,u4,u5⟩ := hw2.cell
       cases b with
       | true =>
        simp [tb,u1,u2,u3,u4,d4,o4,r4,s4,c4,g4,v4',p4]
        refine ⟨logOk_code (fun x => if x = k'+1+1+1+1+1+1+1+1+1+1 then 2 else 0) (by simp [code] <;> decide +kernel),m,by omega,e+1,_,w2,_,_,by rw [we,preV_nil],by omega,hw2,hw2l,?_,by rw [look_cons_ne (by omega)]; exact l0,by rw [look_cons_ne (by omega)]; exact l1,by omega,cons_lt hlt (by omega) (by omega),cons_ltZ hZ (by omega) (by omega),rfl⟩
        rw [← hwk,walkK,ht rfl]
        rfl
       | false =>
        simp [tb,u1,u2,u3,u4,d4,o4,r4,s4,c4,g4,v4',p4]
        refine ⟨logOk_code (fun x => if x = k'+1+1+1+1+1+1+1+1+1+1 then 2 else 0) (by simp [code] <;> decide +kernel),no ?_⟩
        rw [← hwk,walkK,hf rfl]
        rfl
      ·rw [preV_ne hl0]
       simp [run_draw,tb,hee,l0,l1,d1,o1,r1,s1,c1,g1]
       refine dcallK_own rfl rfl (cloneI_own hl0 (by omega)) fun E hE => ?_
       subst hE
       have mz := memB_none hZ (q := k'+1+1+1+1+1+1+1) (by omega)
       have nll := NL_len l
       have mk:(2 * (l.length+1)+1000) * 8 ≤ 140737488355328 := by omega
       have sx:¬ l.length+1 ≤ l.length := by omega
       simp [run_draw,tb,mz,nll,mk,sx,buildSliceOp,putParts,repeatP,uniform,PV.pureL,PV.pureB,appendOp,appended,elems,del]
       have pNL:PV.pureL (NL l ++ [.int .i64 (e:Int)]) = true := by rw [← NL_app]; exact pure_NL _
       refine dcallK_spec rfl (reifyL_cov pX pa v5' (look_one_cons _ _ _) (by simp [NL_len]) pNL) (by rw [← NL_app]; exact IH) (by simp [blt_lit]) fun y hy => ?_
       have hy2:CovP O (alV (.agg [.bool p,ch,.int .i64 c,pf])) D (l ++ [e]) ((els v').map bdV) y := by
        rw [← NL_app] at hy
        rw [show (PV.slice (NL (l ++ [e]))) = preV (l ++ [e]) from (preV_app l e).symm] at hy
        simp only [coversR,offV_app,(preV_is (l ++ [e])).nats,← hO] at hy
        rwa [hON,show (els d).length - (l ++ [e]).length = D by simp; omega] at hy
       clear hy
       obtain ⟨w2,b,rfl,hw2,hw2l,ht,hf⟩ := hy2
       obtain ⟨u1,u2,u3,u4,u5⟩ := hw2.cell
       cases b with
       | true =>
        simp [tb,u1,u2,u3,u4,d4,o4,r4,s4,c4,g4,v4',p4]
        refine ⟨logOk_code (fun x => if x = k'+1+1+1+1+1+1+1 then 1 else if x = k'+1+1+1+1+1+1+1+1+1+1 then 2 else 0) (by simp [code,show ¬ k'+1+1+1 = k' by omega] <;> decide +kernel),m,by omega,e+1,_,w2,_,_,by rw [we,preV_ne hl0],by omega,hw2,hw2l,?_,by rw [look_cons_ne (by omega),look_del_ne (by omega)]; exact l0,by rw [look_cons_ne (by omega),look_del_ne (by omega)]; exact l1,by omega,cons_lt (del_lt hlt) (by omega) (by omega),cons_ltZ hZ (by omega) (by omega),rfl⟩
        rw [← hwk,walkK,ht rfl]
        rfl
       | false =>
        simp [tb,u1,u2,u3,u4,d4,o4,r4,s4,c4,g4,v4',p4]
        refine ⟨logOk_code (fun x => if x = k'+1+1+1+1+1+1+1 then 1 else if x = k'+1+1+1+1+1+1+1+1+1+1 then 2 else 0) (by simp [code,show ¬ k'+1+1+1 = k' by omega] <;> decide +kernel),no ?_⟩
        rw [← hwk,walkK,hf rfl]
        rfl
  ·have hi0:i < l.length := by omega
   have hii:(i:Int) < l.length := by omega
   have wi:IntKind.i64.wrap ((i:Int)+1) = ((i+1:Nat):Int) := w_i64 (by omega)
   have hlne:l ≠ [] := by intro h; rw [h] at hi0; exact absurd hi0 (Nat.not_lt_zero i)
   have hg := NL_get hi0
   have hs := pkN_succ l i
   rw [preV_ne hlne] at *
   have next:∀ (k3 j1:Nat) (H3:List (Nat × Ent)),Go.Pi.look H3 j1 = some ⟨2,PK (pkN l i) ++ [.agg [.int .i64 (i:Int),.int .i64 ((l.getD i 0:Nat):Int)]]⟩ → Go.Pi.look H3 0 = some ⟨4,[.agg [d,o,r,fs]]⟩ → Go.Pi.look H3 1 = some ⟨4,[.agg [.bool p,ch,.int .i64 c,pf]]⟩ → 1 < k3 → (∀ q ∈ H3,q.1 < k3) → j1 < k3 → 1 < j1 → ∃ m',m' < n ∧ cpI (.agg [d,o,r,fs]) (.agg [.bool p,ch,.int .i64 c,pf]) v (.slice (NL l)) l m' [.int .i64 (IntKind.i64.wrap ((i:Int)+1)),.int .i64 (l.length:Int),.own j1 0 (i+1),.slice (NL l),v,.slice (NL l),.ptr 0 0 0,.ptr 1 0 0] ⟨k3,H3,[]⟩ := fun k3 j1 H3 g1 g2 g3 g4 g5 g6 g7 =>
    ⟨n - 1,by omega,i+1,k3,j1,H3,by rw [wi,slv_pos (by omega)],by omega,fun _ => ⟨by rw [hs]; exact g1,g6,g7⟩,g2,g3,g4,g5,rfl⟩
   clear hs
   generalize l.getD i 0 = q at hg next
   have hg' := getE hg
   rcases Nat.eq_zero_or_pos i with i0 | i0
   ·subst i0
    have es0:slv j 0 = .nil := rfl
    rw [es0]
    simp [run_draw,tb,hii,hi0,NL_len,hg,hg',buildSliceOp,putParts,repeatP,uniform,PV.pureL,PV.pureB,appendOp,appended,elems]
    exact next _ _ _ (by rw [look_one_cons]; rfl) (by rw [look_cons_ne (by omega)]; exact l0) (by rw [look_cons_ne (by omega)]; exact l1) (by omega) (cons_lt hlt (by omega) (by omega)) (by omega) (by omega)
   ·rw [slv_pos i0]
    obtain ⟨lj1,jk,j1⟩ := lj i0
    have hL:(PK (pkN l i)).length = i := by rw [PK_len,pkN_len]
    have mk:(2 * (i+1)+1000) * 16 ≤ 140737488355328 := by omega
    have sx:¬ i+1 ≤ i := by omega
    simp [run_draw,tb,hii,hi0,NL_len,hg,hg',buildSliceOp,putParts,repeatP,uniform,PV.pureL,PV.pureB,appendOp,appended,elems,lj1,hL,mk,sx]
    exact next _ _ _ (by rw [look_one_cons]) (by rw [look_cons_ne (by omega),look_del_ne (by omega)]; exact l0) (by rw [look_cons_ne (by omega),look_del_ne (by omega)]; exact l1) (by omega) (cons_lt (del_lt hlt) (by omega) (by omega)) (by omega) (by omega)
end Go.Proofs.Tryz
