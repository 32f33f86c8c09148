/- The machine on symbols: an allocation's parts. No condition. -/
import Derived.Test.YtgpmgondjppmmaaGreatDoorP1
set_option linter.unnecessarySimpa false
set_option linter.unusedSectionVars false
set_option linter.unusedSimpArgs false
set_option linter.unusedVariables false
set_option maxHeartbeats 8000000
set_option maxRecDepth 100000
namespace Go.Proofs.Tryz
open Go Go.Pi Go.Num Go.Lin Go.Alc
variable [Hole] {G:Nat → Option PV}
attribute [local simp] slice3Op clearOp
def CellF (m:PV):Prop := m.cellOk = true ∧ m.ids = [] ∧ m.cells = [m] ∧ m.isTop = false ∧ m.pureB = true
theorem _root_.Go.Pi.IsRat.cf {b c:Bool} {m u:PV} {q:Rat} (h:IsRat (.agg [.bool b,m,.bool c,u]) q):CellF m ∧ CellF u := by
 obtain ⟨b',m',c',u',d,e,h1,h2,_⟩ := h.cases
 simp only [PV.agg.injEq,List.cons.injEq,PV.bool.injEq,and_true] at e
 obtain ⟨rfl,rfl,rfl,rfl⟩ := e
 exact ⟨h1.cell,h2.cell⟩
theorem _root_.Go.Pi.IsRat.sh {v:PV} {q:Rat} (h:IsRat v q):∃ b m c u,v = .agg [.bool b,m,.bool c,u] := by
 obtain ⟨b,m,c,u,d,e,_⟩ := h.cases
 exact ⟨b,m,c,u,e⟩
def ZSp:PV := .agg [.bool false,.nil,.bool false,.nil,.bool false,.nil,.bool false,.nil]
noncomputable def worstR:CRel | [.eptr D 0,l,.int _ q],r => IsSp r (worst (offV D) q.toNat (natsV l)) | _,_ => False
noncomputable def woI (O:Off) (vl:PV) (rows:List PV) (q:Nat) (l:List Nat):Nat → List PV → St → Prop := fun n vs st => ∃ (i k:Nat) (w:PV) (H:List (Nat × Ent)),vs = [.int .i64 (i:Int),.ptr 16 0 0,vl,.int .i64 (rows.length:Int),.slice rows,.ptr 0 0 0] ∧ i + n = rows.length ∧
 Go.Pi.look H 16 = some ⟨8,[w]⟩ ∧ IsSp w (wst O q l i) ∧ Go.Pi.look H 0 = some ⟨8,[ZSp]⟩ ∧ 16 < k ∧ (∀ p ∈ H,p.1 < k) ∧ st = ⟨k,H,[]⟩
noncomputable def wjI (O:Off) (vl:PV) (rows row:List PV) (q i a:Nat) (w:PV):Nat → List PV → St → Prop := fun n vs st => ∃ (j k:Nat) (x:PV) (H:List (Nat × Ent)),vs = [.int .i64 (j:Int),.ptr a 0 0,.int .i64 (row.length:Int),.slice row,.ptr 16 0 0,.int .i64 (i:Int),.int .i64 (rows.length:Int),.ptr 0 0 0,.slice rows,vl] ∧ j + n = row.length ∧
 Go.Pi.look H 16 = some ⟨8,[w]⟩ ∧ Go.Pi.look H 0 = some ⟨8,[ZSp]⟩ ∧ Go.Pi.look H a = some ⟨8,[x]⟩ ∧ IsSp x (glA O q i j) ∧ a < k ∧ (∀ p ∈ H,p.1 < k) ∧ st = ⟨k,H,[]⟩
theorem worst_ok {d o r vs vc vh vl:PV} {l:List Nat} {q:Nat} (h:DeskOk d o r vs vc vh) (hl:IsPre vl l) (hi:InR (offV (.agg [d,o,r])) l) (hn:l.length ≤ (els d).length) (hq:q < (els r).length):Gives prog G 107 [.eptr (.agg [d,o,r,vs,vc,vh]) 0,vl,.int .i64 (q:Int)] (worstR [.eptr (.agg [d,o,r,vs,vc,vh]) 0,vl,.int .i64 (q:Int)]) := by
 have hfe:worstR [.eptr (.agg [d,o,r,vs,vc,vh]) 0,vl,.int .i64 (q:Int)] = fun x => IsSp x (worst (offV (.agg [d,o,r])) q l) := by funext x; simp only [worstR,offV_app,hl.nats,Int.toNat_natCast]
 rw [hfe]
 obtain ⟨O,hO⟩:∃ O,O = offV (.agg [d,o,r]) := ⟨_,rfl⟩
 have hi0' := hi
 rw [← hO] at hi ⊢
 have hON:O.n = (els d).length := by rw [hO]; exact h.n
 have hN := h.n1
 obtain ⟨p1,p2,p3,p4,p5⟩ := hl.cell
 have ll := hl.len
 rcases h.const with ⟨z,_⟩ | ⟨cs,rfl,hcl,hcs⟩
 ·omega
 rcases h.spans with ⟨z,_⟩ | ⟨ss,rfl,hsl,hss⟩
 ·omega
 obtain ⟨wc,hc1,hc2⟩ := hcs q hq
 rw [← hO] at hc2
 obtain ⟨b,m,c,u,rfl⟩ := hc2.sh
 obtain ⟨⟨a1,a2,a3,a4,a5⟩,⟨b1,b2,b3,b4,b5⟩⟩ := hc2.cf
 obtain ⟨ws,hs1,rows,rfl,hrl,hrows⟩ := hss q hq
 rw [← hO] at hrl hrows
 have hc1' := getE hc1
 have hs1' := getE hs1
 have hqc:q < cs.length := by omega
 have hqs:q < ss.length := by omega
 refine gives (S := [(72,rmaxR),(71,rminR),(90,raddR)]) (by kernel_rfl) (by kernel_rfl) (callW_of ann107 func107 rfl (by kernel_rfl) ?_)
 simp [run_draw,tb,hc1,hc1',hqc,hs1,hs1',hqs,a1,a3,a4,b1,b3,b4]
 refine ⟨by decide +kernel,?_⟩
 refine loopK_of (woI O vl rows q l) rfl rfl ?step rows.length _ _ ?init
 case init => exact ⟨0,_,_,_,rfl,by omega,rfl,⟨b,m,c,u,b,m,c,u,rfl,hc2,hc2⟩,rfl,by omega,by simp,rfl⟩
 case step =>
 rintro n vs' st ⟨i,k,w,H,rfl,hin,l16,hw,l0,hk16,hlt,rfl⟩
 have lus0:∀ E,Go.Pi.look (Go.Pi.upd H 0 E) 0 = some E := fun E => look_upd_same l0
 obtain ⟨x1,x2,x3,x4,x5,x6,x7,x8,rfl,hw1,hw2⟩ := hw
 obtain ⟨⟨e1,e2,e3,e4,e5⟩,⟨f1,f2,f3,f4,f5⟩⟩ := hw1.cf
 obtain ⟨⟨g1,g2,g3,g4,g5⟩,⟨i1,i2,i3,i4,i5⟩⟩ := hw2.cf
 rcases Nat.eq_zero_or_pos n with hn0 | hn0
 ·have hi0:i = rows.length := by omega
  subst hi0
  have l0' := l0
  unfold ZSp at l0'
  simp [tb,l16,l0',lus0,e1,f1,g1,i1]
  refine outK_pure (by simp [PV.pureB,PV.pureL,e5,f5,g5,i5]) ?_
  exact ⟨x1,x2,x3,x4,x5,x6,x7,x8,rfl,by rw [hrl] at hw1; exact hw1,by rw [hrl] at hw2; exact hw2⟩
 ·have hi0:i < rows.length := by omega
  have hii:(i:Int) < rows.length := by omega
  have wi:IntKind.i64.wrap ((i:Int)+1) = ((i+1:Nat):Int) := w_i64 (by omega)
  obtain ⟨row,r1,r2,r3⟩ := hrows i (by omega)
  have r1' := getE r1
  have hc0 := h.cnt0 (i := i) (by omega)
  have hc8 := h.cnt8 (i := i) (by omega)
  rw [← hO] at hc0 hc8
  obtain ⟨y,y1,y2⟩ := r3 0 hc0
  have y1' := getE y1
  have y20 := y2
  obtain ⟨z1,z2,z3,z4,z5,z6,z7,z8,rfl,hz1,hz2⟩ := y2
  obtain ⟨⟨j1,j2,j3,j4,j5⟩,⟨o1,o2,o3,o4,o5⟩⟩ := hz1.cf
  obtain ⟨⟨q1,q2,q3,q4,q5⟩,⟨t1,t2,t3,t4,t5⟩⟩ := hz2.cf
  have hr0:0 < row.length := by omega
  have hwst := h.wst hi0' hq i (by omega)
  have hsi := h.si hi0' hq (i := i) (by omega)
  have na16:¬ k+1+1+1+1+1+1+1+1+1 = 16 := by omega
  have na0:¬ k+1+1+1+1+1+1+1+1+1 = 0 := by omega
  have lus16:∀ E,Go.Pi.look (Go.Pi.upd H 16 E) 16 = some E := fun E => look_upd_same l16
  have hsi1:si O q l i = if i < l.length then sp O q i (l.getD i 0) else gl O q i (O.cnt i - 1) := rfl
  have hw13:wst O q l (i+1) = ((wst O q l i).1 + (si O q l i).1,(wst O q l i).2 + (si O q l i).2) := rfl
  rw [← hO] at hwst hsi
  have fw1 := hwst.1.mono (l := 100000) (by omega)
  have fw2 := hwst.2.mono (l := 100000) (by omega)
  have fs1 := hsi.1.mono (l := 100000) (by omega)
  have fs2 := hsi.2.mono (l := 100000) (by omega)
  by_cases hil:i < l.length
  ·have hil':(i:Int) < l.length := by omega
   obtain rfl := hl.at hil
   rw [if_pos hil] at hsi1
   have hg := NL_get hil
   have hg' := getE hg
   have hk := hi i hil
   generalize l.getD i 0 = p at hk hg hg' hsi1
   obtain ⟨y',y3,hy'⟩ := r3 p hk
   rw [← hsi1] at hy'
   have y3' := getE y3
   have hpr:p < row.length := by omega
   obtain ⟨u1,u2,u3,u4,u5,u6,u7,u8,rfl,hu1,hu2⟩ := hy'
   obtain ⟨⟨v1,v2,v3,v4,v5⟩,⟨v6,v7,v8,v9,v10⟩⟩ := hu1.cf
   obtain ⟨⟨w1,w2,w3,w4,w5⟩,⟨w6,w7,w8,w9,w10⟩⟩ := hu2.cf
   simp [run_draw,tb,hii,hi0,r1,r1',y1,y1',hr0,j1,o1,q1,t1,hil',hil,NL_len,j3,o3,q3,t3,hg,hg',y3,y3',hpr,na16,l16,v1,v6,w1,w6,v3,v8,w3,w8,e1,f1,g1,i1,e3,f3,g3,i3]
   refine dcallK_pure rfl (by simp [PV.pureL,hw1.pure,hu1.pure]) (radd_ok _ _ _ _ hw1 hu1 fw1 fs1) fun s1 hs1 => ?_
   simp only [raddR,ratv_eq hw1,ratv_eq hu1] at hs1
   obtain ⟨d1,d2,d3,d4,rfl⟩ := hs1.sh
   obtain ⟨⟨k1,k2,k3,k4,k5⟩,⟨k6,k7,k8,k9,k10⟩⟩ := hs1.cf
   simp [run_draw,tb,na16,l16,v1,v6,w1,w6,v3,v8,w3,w8,e1,f1,g1,i1,e3,f3,g3,i3]
   refine dcallK_pure rfl (by simp [PV.pureL,hw2.pure,hu2.pure]) (radd_ok _ _ _ _ hw2 hu2 fw2 fs2) fun s2 hs2 => ?_
   simp only [raddR,ratv_eq hw2,ratv_eq hu2] at hs2
   obtain ⟨m1,m2,m3,m4,rfl⟩ := hs2.sh
   obtain ⟨⟨n1,n2,n3,n4,n5⟩,⟨n6,n7,n8,n9,n10⟩⟩ := hs2.cf
   simp [run_draw,tb,na16,l16,k1,k6,n1,n6,k3,k8,n3,n8,k4,k9,n4,n9,wi,lus16,e1,f1,g1,i1]
   refine ⟨logOk_free (by simp [okTri,tri,tb]),n - 1,by omega,i+1,_,_,_,rfl,by omega,?_,⟨d1,d2,d3,d4,m1,m2,m3,m4,rfl,by rw [hw13]; exact hs1,by rw [hw13]; exact hs2⟩,?_,?_,?_,rfl⟩
   ·rw [look_cons_ne (by omega)]; exact look_upd_same l16
   ·rw [look_cons_ne (by omega),look_upd_ne (by omega)]; exact l0
   ·omega
   ·exact cons_lt (upd_lt hlt) (by omega) (by omega)
  ·have hil':¬ (i:Int) < l.length := by omega
   rw [if_neg hil] at hsi1
   simp [tb,hii,hi0,r1,r1',y1,y1',hr0,j1,o1,q1,t1,hil',ll,j3,o3,q3,t3]
   refine loopK_of (wjI O vl rows row q i (k+1+1+1+1+1+1+1+1+1) (.agg [.bool x1,x2,.bool x3,x4,.bool x5,x6,.bool x7,x8])) rfl rfl ?step2 row.length _ _ ?init2
   case init2 => exact ⟨0,_,_,_,rfl,by omega,by rw [look_cons_ne (by omega)]; exact l16,by rw [look_cons_ne (by omega)]; exact l0,by rw [look_one_cons],y20,by omega,cons_lt hlt (by omega) (by omega),rfl⟩
   case step2 =>
   generalize ha:k+1+1+1+1+1+1+1+1+1 = a at na16 na0 ⊢
   clear l16 l0 hlt lus0 lus16
   rintro n2 vs2 st ⟨j,k2,x,H2,rfl,hjn,l16,l0,la,hx,hak,hlt,rfl⟩
   obtain ⟨u1,u2,u3,u4,u5,u6,u7,u8,rfl,hu1,hu2⟩ := hx
   obtain ⟨⟨v1,v2,v3,v4,v5⟩,⟨v6,v7,v8,v9,v10⟩⟩ := hu1.cf
   obtain ⟨⟨w1,w2,w3,w4,w5⟩,⟨w6,w7,w8,w9,w10⟩⟩ := hu2.cf
   have lus16:∀ E,Go.Pi.look (Go.Pi.upd H2 16 E) 16 = some E := fun E => look_upd_same l16
   have lusa:∀ E,Go.Pi.look (Go.Pi.upd H2 a E) a = some E := fun E => look_upd_same la
   rcases Nat.eq_zero_or_pos n2 with hn2 | hn2
   ·have hj0:j = row.length := by omega
    subst hj0
    have hgl:glA O q i row.length = si O q l i := by
     rw [hsi1,r2]
     obtain ⟨t,ht⟩:∃ t,O.cnt i = t+1 := ⟨O.cnt i - 1,by omega⟩
     rw [ht,glA_eq]; rfl
    rw [hgl] at hu1 hu2
    simp [run_draw,tb,na16,l16,la,v1,v6,w1,w6,v3,v8,w3,w8,e1,f1,g1,i1,e3,f3,g3,i3]
    refine dcallK_pure rfl (by simp [PV.pureL,hw1.pure,hu1.pure]) (radd_ok _ _ _ _ hw1 hu1 fw1 fs1) fun s1 hs1 => ?_
    simp only [raddR,ratv_eq hw1,ratv_eq hu1] at hs1
    obtain ⟨d1,d2,d3,d4,rfl⟩ := hs1.sh
    obtain ⟨⟨k1,k2,k3,k4,k5⟩,⟨k6,k7,k8,k9,k10⟩⟩ := hs1.cf
    simp [run_draw,tb,na16,l16,la,v1,v6,w1,w6,v3,v8,w3,w8,e1,f1,g1,i1,e3,f3,g3,i3]
    refine dcallK_pure rfl (by simp [PV.pureL,hw2.pure,hu2.pure]) (radd_ok _ _ _ _ hw2 hu2 fw2 fs2) fun s2 hs2 => ?_
    simp only [raddR,ratv_eq hw2,ratv_eq hu2] at hs2
    obtain ⟨m1,m2,m3,m4,rfl⟩ := hs2.sh
    obtain ⟨⟨n1,n2,n3,n4,n5⟩,⟨n6,n7,n8,n9,n10⟩⟩ := hs2.cf
    simp [run_draw,tb,na16,l16,k1,k6,n1,n6,k3,k8,n3,n8,k4,k9,n4,n9,wi,lus16,e1,f1,g1,i1]
    refine ⟨logOk_free (by simp [okTri,tri,tb]),n - 1,by omega,i+1,_,_,_,rfl,by omega,?_,⟨d1,d2,d3,d4,m1,m2,m3,m4,rfl,by rw [hw13]; exact hs1,by rw [hw13]; exact hs2⟩,?_,?_,?_,rfl⟩
    ·exact look_upd_same l16
    ·rw [look_upd_ne (by omega)]; exact l0
    ·omega
    ·exact lt_mono (upd_lt hlt) (by omega)
   ·have hj0:j < row.length := by omega
    have hjj:(j:Int) < row.length := by omega
    have wj:IntKind.i64.wrap ((j:Int)+1) = ((j+1:Nat):Int) := w_i64 (by omega)
    obtain ⟨y',y3,hy'⟩ := r3 j (by omega)
    have y3' := getE y3
    have fg := h.glA hq (i := i) (by omega) j (by rw [← hO]; omega)
    have fp := h.sp hq (i := i) (k := j) (by omega) (by rw [← hO]; omega)
    rw [← hO] at fg fp
    obtain ⟨c1,c2,c3,c4,c5,c6,c7,c8,rfl,hc1,hc2⟩ := hy'
    obtain ⟨⟨k1,k2',k3,k4,k5⟩,⟨k6,k7,k8,k9,k10⟩⟩ := hc1.cf
    obtain ⟨⟨n1,n2',n3,n4,n5⟩,⟨n6,n7,n8,n9,n10⟩⟩ := hc2.cf
    have nb16:¬ k2+1+1+1 = 16 := by omega
    have nba:¬ k2+1+1+1 = a := by omega
    have gg1 := fg.1.mono (l := 100000) (by omega)
    have gg2 := fg.2.mono (l := 100000) (by omega)
    have gp1 := fp.1.mono (l := 100000) (by omega)
    have gp2 := fp.2.mono (l := 100000) (by omega)
    simp [run_draw,tb,hjj,hj0,y3,y3',nba,la,v1,v6,w1,w6,v3,v8,w3,w8,k1,k6,n1,n6,k3,k8,n3,n8]
    refine dcallK_pure rfl (by simp [PV.pureL,hu1.pure,hc1.pure]) (rmax_ok _ _ _ _ hu1 hc1 gg1 gp1) fun s1 hs1 => ?_
    simp only [rmaxR,ratv_eq hu1,ratv_eq hc1] at hs1
    obtain ⟨d1,d2,d3,d4,rfl⟩ := hs1.sh
    obtain ⟨⟨b1',b2',b3',b4',b5'⟩,⟨b6',b7',b8',b9',b10'⟩⟩ := hs1.cf
    simp [run_draw,tb,nba,la,v1,v6,w1,w6,v3,v8,w3,w8,k1,k6,n1,n6,k3,k8,n3,n8]
    refine dcallK_pure rfl (by simp [PV.pureL,hu2.pure,hc2.pure]) (rmin_ok _ _ _ _ hu2 hc2 gg2 gp2) fun s2 hs2 => ?_
    simp only [rminR,ratv_eq hu2,ratv_eq hc2] at hs2
    obtain ⟨m1,m2,m3,m4,rfl⟩ := hs2.sh
    obtain ⟨⟨a1',a2',a3',a4',a5'⟩,⟨a6',a7',a8',a9',a10'⟩⟩ := hs2.cf
    simp [run_draw,tb,nba,la,b1',b6',a1',a6',b3',b8',a3',a8',b4',b9',a4',a9',wj,lusa,v1,v6,w1,w6]
    refine ⟨logOk_free (by simp [okTri,tri,tb]),n2 - 1,by omega,j+1,_,_,_,rfl,by omega,?_,?_,?_,⟨d1,d2,d3,d4,m1,m2,m3,m4,rfl,hs1,hs2⟩,?_,?_,rfl⟩
    ·rw [look_cons_ne (by omega),look_upd_ne (by omega)]; exact l16
    ·rw [look_cons_ne (by omega),look_upd_ne (by omega)]; exact l0
    ·rw [look_cons_ne (by omega)]; exact look_upd_same la
    ·omega
    ·exact cons_lt (upd_lt hlt) (by omega) (by omega)
theorem EndOk.len {l:List UInt8} (h:EndOk l):l.length ≤ 400 := by
 rcases h with rfl | h
 ·simp
 ·exact h.1
theorem above_eq {O:Off} {q:Nat} {l:List Nat} {hi:List UInt8} (hh:(O.rq q).high = numT hi) {x:Rat} (hx:RatText hi x):above O q l = decide (0 < cmpR (worst O q l).2 x) := by
 unfold above
 rw [hh,numT_some hx]
 rw [Bool.eq_iff_iff,decide_eq_true_eq,decide_eq_true_eq,cmpR_gt0]
theorem above_no {O:Off} {q:Nat} {l:List Nat} {hi:List UInt8} (hh:(O.rq q).high = numT hi) (hx:∀ x,¬ RatText hi x):above O q l = false := by
 unfold above
 rw [hh,numT_none hx]
theorem below_eq {O:Off} {q:Nat} {l:List Nat} {lo:List UInt8} (hh:(O.rq q).low = numT lo) {x:Rat} (hx:RatText lo x):below O q l = decide (cmpR (worst O q l).1 x < 0) := by
 unfold below
 rw [hh,numT_some hx]
 rw [Bool.eq_iff_iff,decide_eq_true_eq,decide_eq_true_eq,cmpR_lt0]
theorem below_no {O:Off} {q:Nat} {l:List Nat} {lo:List UInt8} (hh:(O.rq q).low = numT lo) (hx:∀ x,¬ RatText lo x):below O q l = false := by
 unfold below
 rw [hh,numT_none hx]
noncomputable def sidesR:CRel | [.eptr D 0,l,.int _ q],r => r = .tuple [.bool (above (offV D) q.toNat (natsV l)),.bool (below (offV D) q.toNat (natsV l))] | _,_ => False
theorem sides_ok (lib:ReadLib G) {d o r vs vc vh vl:PV} {l:List Nat} {q:Nat} (h:DeskOk d o r vs vc vh) (hl:IsPre vl l) (hi:InR (offV (.agg [d,o,r])) l) (hn:l.length ≤ (els d).length) (hq:q < (els r).length):Gives prog G 73 [.eptr (.agg [d,o,r,vs,vc,vh]) 0,vl,.int .i64 (q:Int)] (sidesR [.eptr (.agg [d,o,r,vs,vc,vh]) 0,vl,.int .i64 (q:Int)]) := by
 have hfe:sidesR [.eptr (.agg [d,o,r,vs,vc,vh]) 0,vl,.int .i64 (q:Int)] = fun x => x = .tuple [.bool (above (offV (.agg [d,o,r])) q l),.bool (below (offV (.agg [d,o,r])) q l)] := by funext x; simp only [sidesR,offV_app,hl.nats,Int.toNat_natCast]
 rw [hfe]
 obtain ⟨O,hO⟩:∃ O,O = offV (.agg [d,o,r]) := ⟨_,rfl⟩
 have hON:O.n = (els d).length := by rw [hO]; exact h.n
 have hN := h.n1
 have hM := h.m1
 obtain ⟨p1,p2,p3,p4,p5⟩ := hl.cell
 obtain ⟨rs,nm,op,c,ts,fc,ar,lo,hh,rfl,k1,k2,k3,k4,k5,k6,⟨k71,k72,k73,k74,k75⟩,k8⟩ := h.rq hq
 have k1' := getE k1
 have hqr:q < rs.length := by simpa [els_slice] using hq
 obtain ⟨t1,t2,t3,t4,t5⟩ := k3.cell
 have hst := h.wst hi hq (els d).length (Nat.le_refl _)
 rw [← h.n] at hst
 rw [← hO] at hst ⊢
 rw [← hO] at k8
 have f1:RFits (worst O q l).1 100000 := hst.1.mono (by omega)
 have f2:RFits (worst O q l).2 100000 := hst.2.mono (by omega)
 have eH:(O.rq q).high = numT hh := by rw [k8]
 have eL:(O.rq q).low = numT lo := by rw [k8]
 refine gives (S := [(107,worstR),(66,readR),(67,rcompareR)]) (by kernel_rfl) (by kernel_rfl) (callW_of ann73 func73 rfl (by kernel_rfl) ?_)
 have pD:PV.pureL [.eptr (.agg [d,o,.slice rs,vs,vc,vh]) 0,vl,.int .i64 (q:Int)] = true := by simp [PV.pureL,PV.pureB,p5]
 simp [run_draw,tb]
 refine dcallK_pure rfl pD (worst_ok h hl hi hn hq) fun x hx => ?_
 simp only [worstR,offV_app,hl.nats,Int.toNat_natCast,← hO] at hx
 obtain ⟨x1,x2,x3,x4,x5,x6,x7,x8,rfl,hw1,hw2⟩ := hx
 obtain ⟨⟨e1,e2,e3,e4,e5⟩,⟨g1,g2,g3,g4,g5⟩⟩ := hw1.cf
 obtain ⟨⟨i1,i2,i3,i4,i5⟩,⟨j1,j2,j3,j4,j5⟩⟩ := hw2.cf
 simp [run_draw,tb,k1,k1',hqr,e1,g1,i1,j1,t1,k72]
 refine ⟨by simp only [p4,List.nil_append,List.append_nil]; decide +kernel,?_⟩
 refine callK_pure rfl rfl (Parse_ok lib hh k6.len) fun y hy => ?_
 simp only [readR,ba_list] at hy
 obtain ⟨b,m,c',u,e,x,rfl,hy1,hy2⟩ := hy.cases
 obtain ⟨⟨a1,a2,a3,a4,a5⟩,⟨b1,b2,b3,b4,b5⟩⟩ := hy1.cf
 rcases hy2 with ⟨rfl,hy2⟩ | ⟨he,hy2⟩
 ·have fx:RFits x 100000 := (fit400 hy2 k6.len).mono (by omega)
  simp [run_draw,tb,a1,b1,a3,b3,i3,j3,i1,j1]
  refine callK_pure rfl (by simp [PV.pureL,hw2.pure,hy1.pure]) (rcompare_ok _ _ _ _ hw2 hy1 f2 fx) fun z hz => ?_
  simp only [rcompareR,ratv_eq hw2,ratv_eq hy1] at hz
  subst hz
  have eA := above_eq (l := l) eH hy2
  simp [run_draw,tb,e1,g1,i1,j1,t1,k72,← eA]
  refine callK_pure rfl rfl (Parse_ok lib lo k5.len) fun y hy => ?_
  simp only [readR,ba_list] at hy
  obtain ⟨b',m',c'',u',e',x',rfl,hv1,hv2⟩ := hy.cases
  obtain ⟨⟨a1',a2',a3',a4',a5'⟩,⟨b1',b2',b3',b4',b5'⟩⟩ := hv1.cf
  rcases hv2 with ⟨rfl,hv2⟩ | ⟨he,hv2⟩
  ·have fx':RFits x' 100000 := (fit400 hv2 k5.len).mono (by omega)
   simp [run_draw,tb,a1',b1',a3',b3',e3,g3,e1,g1]
   refine callK_pure rfl (by simp [PV.pureL,hw1.pure,hv1.pure]) (rcompare_ok _ _ _ _ hw1 hv1 f1 fx') fun z hz => ?_
   simp only [rcompareR,ratv_eq hw1,ratv_eq hv1] at hz
   subst hz
   have eB := below_eq (l := l) eL hv2
   simp [run_draw,tb,← eB]
   exact outK_pure rfl rfl
  ·have eB := below_no (l := l) eL hv2
   have he':(e' == 0) = false := by simpa using he
   simp [run_draw,tb,a1',b1',he']
   exact outK_pure rfl (by rw [eB])
 ·have eA := above_no (l := l) eH hy2
  have he':(e == 0) = false := by simpa using he
  simp [run_draw,tb,a1,b1,he',e1,g1,i1,j1,t1,k72]
  refine callK_pure rfl rfl (Parse_ok lib lo k5.len) fun y hy => ?_
  simp only [readR,ba_list] at hy
  obtain ⟨b',m',c'',u',e',x',rfl,hv1,hv2⟩ := hy.cases
  obtain ⟨⟨a1',a2',a3',a4',a5'⟩,⟨b1',b2',b3',b4',b5'⟩⟩ := hv1.cf
  rcases hv2 with ⟨rfl,hv2⟩ | ⟨he,hv2⟩
  ·have fx':RFits x' 100000 := (fit400 hv2 k5.len).mono (by omega)
   simp [run_draw,tb,a1',b1',a3',b3',e3,g3,e1,g1]
   refine callK_pure rfl (by simp [PV.pureL,hw1.pure,hv1.pure]) (rcompare_ok _ _ _ _ hw1 hv1 f1 fx') fun z hz => ?_
   simp only [rcompareR,ratv_eq hw1,ratv_eq hv1] at hz
   subst hz
   have eB := below_eq (l := l) eL hv2
   simp [run_draw,tb,← eB]
   exact outK_pure rfl (by rw [eA])
  ·have eB := below_no (l := l) eL hv2
   have he':(e' == 0) = false := by simpa using he
   simp [run_draw,tb,a1',b1',he']
   exact outK_pure rfl (by rw [eA,eB])
noncomputable def failsR:CRel | [.eptr D 0,l],r => r = .tuple [.int .i64 (fl (offV D) (natsV l)).1,.int .i64 (fl (offV D) (natsV l)).2] | _,_ => False
noncomputable def faI (O:Off) (D vl:PV) (l:List Nat) (N:Nat):Nat → List PV → St → Prop := fun n vs st => ∃ (i k:Nat) (H:List (Nat × Ent)),vs = [.int .i64 (i:Int),.int .i64 (N:Int),.eptr D 0,vl] ∧ i + n = N ∧ ff O l n i = fl O l ∧ st = ⟨k,H,[]⟩
theorem fails_ok (lib:ReadLib G) {d o r vs vc vh vl:PV} {l:List Nat} (h:DeskOk d o r vs vc vh) (hl:IsPre vl l) (hi:InR (offV (.agg [d,o,r])) l) (hn:l.length ≤ (els d).length):Gives prog G 32 [.eptr (.agg [d,o,r,vs,vc,vh]) 0,vl] (failsR [.eptr (.agg [d,o,r,vs,vc,vh]) 0,vl]) := by
 have hfe:failsR [.eptr (.agg [d,o,r,vs,vc,vh]) 0,vl] = fun x => x = .tuple [.int .i64 (fl (offV (.agg [d,o,r])) l).1,.int .i64 (fl (offV (.agg [d,o,r])) l).2] := by funext x; simp only [failsR,offV_app,hl.nats]
 rw [hfe]
 obtain ⟨O,hO⟩:∃ O,O = offV (.agg [d,o,r]) := ⟨_,rfl⟩
 have hOM:O.m = (els r).length := by rw [hO]; exact h.m
 have hM := h.m1
 obtain ⟨p1,p2,p3,p4,p5⟩ := hl.cell
 have lr := h.req.len
 refine gives (S := [(73,sidesR)]) (by kernel_rfl) (by kernel_rfl) (callW_of ann32 func32 rfl (by kernel_rfl) ?_)
 simp [run_draw,tb,lr]
 rw [← hO]
 refine loopK_of (faI O (.agg [d,o,r,vs,vc,vh]) vl l (els r).length) rfl rfl ?step (els r).length _ _ ?init
 case init => exact ⟨0,_,_,rfl,by omega,by unfold fl; rw [hOM],rfl⟩
 case step =>
 rintro n vs' st ⟨i,k,H,rfl,hin,hff,rfl⟩
 rcases Nat.eq_zero_or_pos n with hn0 | hn0
 ·have hi0:i = (els r).length := by omega
  subst hi0
  subst hn0
  simp [run_draw,tb]
  refine outK_pure rfl ?_
  rw [← hff]
  rfl
 ·have hi0:i < (els r).length := by omega
  have hii:(i:Int) < (els r).length := by omega
  have wi:IntKind.i64.wrap ((i:Int)+1) = ((i+1:Nat):Int) := w_i64 (by omega)
  obtain ⟨n,rfl⟩:∃ n',n = n'+1 := ⟨n - 1,by omega⟩
  have pD:PV.pureL [.eptr (.agg [d,o,r,vs,vc,vh]) 0,vl,.int .i64 (i:Int)] = true := by simp [PV.pureL,PV.pureB,p5]
  simp [run_draw,tb,hii]
  refine callK_pure rfl pD (sides_ok lib h hl hi hn hi0) fun x hx => ?_
  simp only [sidesR,offV_app,hl.nats,Int.toNat_natCast,← hO] at hx
  subst hx
  unfold ff at hff
  cases ha:above O i l with
  | true =>
   have hf:fa O i l = 1 := by unfold fa; rw [if_pos ha]
   rw [if_neg (by omega)] at hff
   simp [run_draw,tb]
   exact outK_pure rfl (by rw [← hff,hf])
  | false =>
   cases hb:below O i l with
   | true =>
    have hf:fa O i l = -1 := by unfold fa; rw [if_neg (by simp [ha]),if_pos hb]
    rw [if_neg (by omega)] at hff
    simp [run_draw,tb]
    exact outK_pure rfl (by rw [← hff,hf])
   | false =>
    have hf:fa O i l = 0 := by unfold fa; rw [if_neg (by simp [ha]),if_neg (by simp [hb])]
    rw [if_pos hf] at hff
    simp [run_draw,tb,wi]
    exact ⟨n,by omega,i+1,_,_,rfl,by omega,hff,rfl⟩
def encP (p:Int × Int):PV := .agg [.int .i64 p.1,.int .i64 p.2]
def decP:PV → Int × Int
 | .agg [.int _ a,.int _ b] => (a,b)
 | _ => (0,0)
def pksV (v:PV):List (Int × Int) := (els v).map decP
def PK (l:List (Int × Int)):List PV := l.map encP
theorem PK_len (l:List (Int × Int)):(PK l).length = l.length := by simp [PK]
theorem pksV_PK (l:List (Int × Int)):pksV (.slice (PK l)) = l := by
 simp [pksV,els,PK,List.map_map,Function.comp_def,encP,decP]
theorem pksV_sv (l:List (Int × Int)):pksV (sv l.length (PK l)) = l := by
 unfold sv
 split
 ·rename_i h
  rw [List.eq_nil_of_length_eq_zero h]; rfl
 ·exact pksV_PK l
theorem pure_PK (l:List (Int × Int)):∀ v ∈ PK l,v.pureB = true := by
 intro v hv
 obtain ⟨k,_,rfl⟩ := List.mem_map.1 hv
 rfl
def pkN (l:List Nat) (i:Nat):List (Int × Int) := (List.range i).map fun (j:Nat) => ((j:Int),((l.getD j 0:Nat):Int))
theorem pkN_len (l:List Nat) (i:Nat):(pkN l i).length = i := by simp [pkN]
theorem pkN_succ (l:List Nat) (i:Nat):PK (pkN l (i+1)) = PK (pkN l i) ++ [.agg [.int .i64 (i:Int),.int .i64 ((l.getD i 0:Nat):Int)]] := by
 simp [PK,pkN,List.range_succ,encP]
theorem pk_eq (l:List Nat):pk l = pkN l l.length := rfl
def picksR:CRel | [l],r => r = sv (pk (natsV l)).length (PK (pk (natsV l))) | _,_ => False
def piI (vl:PV) (l:List Nat):Nat → List PV → St → Prop := fun n vs st => ∃ (i k j:Nat) (H:List (Nat × Ent)),vs = [.int .i64 (i:Int),.int .i64 (l.length:Int),slv j i,vl] ∧ i + n = l.length ∧ (0 < i → Go.Pi.look H j = some ⟨2,PK (pkN l i)⟩ ∧ j < k) ∧ (∀ p ∈ H,p.1 < k) ∧ st = ⟨k,H,[]⟩
theorem picks_ok {vl:PV} {l:List Nat} (hl:IsPre vl l) (hn:l.length ≤ 12):Gives prog G 34 [vl] (picksR [vl]) := by
 have hfe:picksR [vl] = fun x => x = sv (pk l).length (PK (pk l)) := by funext x; simp only [picksR,hl.nats]
 rw [hfe]
 have ll := hl.len
 refine gives (S := []) (by kernel_rfl) (by kernel_rfl) (callW_of ann34 func34 rfl (by kernel_rfl) ?_)
 simp [run_draw,tb,ll]
 refine loopK_of (piI vl l) rfl rfl ?step l.length _ _ ?init
 case init => exact ⟨0,_,0,_,rfl,by omega,fun h => absurd h (Nat.lt_irrefl 0),by simp,rfl⟩
 case step =>
 rintro n vs' st ⟨i,k,j,H,rfl,hin,lj,hlt,rfl⟩
 rcases Nat.eq_zero_or_pos n with hn0 | hn0
 ·have hi0:i = l.length := by omega
  subst hi0
  simp [run_draw,tb]
  rcases Nat.eq_zero_or_pos l.length with z | z
  ·have e1:slv j l.length = .nil := by rw [z]; rfl
   have e2:∀ es,sv l.length es = .nil := fun es => by rw [z]; rfl
   rw [pk_len,e1,e2]
   exact outK_pure rfl rfl
  ·rw [pk_len,slv_pos z,sv_pos z]
   obtain ⟨l1,_⟩ := lj z
   refine ⟨.slice (PK (pkN l l.length)),[j],?_,rfl⟩
   unfold reify
   show reifyW _ (reifyN _ 5) _ = _
   exact reifyW_own (d := 4) l1 (by rw [PK_len,pkN_len]) (by decide) (pure_PK _)
 ·have hi0:i < l.length := by omega
  have hii:(i:Int) < l.length := by omega
  have wi:IntKind.i64.wrap ((i:Int)+1) = ((i+1:Nat):Int) := w_i64 (by omega)
  obtain rfl := hl.at hi0
  have hg := NL_get hi0
  have hs := pkN_succ l i
  have next:∀ (k3 j1:Nat) (H3:List (Nat × Ent)),Go.Pi.look H3 j1 = some ⟨2,PK (pkN l i) ++ [.agg [.int .i64 (i:Int),.int .i64 ((l.getD i 0:Nat):Int)]]⟩ → (∀ q ∈ H3,q.1 < k3) → j1 < k3 → ∃ m',m' < n ∧ piI (.slice (NL l)) l m' [.int .i64 (IntKind.i64.wrap ((i:Int)+1)),.int .i64 (l.length:Int),.own j1 0 (i+1),.slice (NL l)] ⟨k3,H3,[]⟩ := fun k3 j1 H3 g1 g2 g3 =>
   ⟨n - 1,by omega,i+1,k3,j1,H3,by rw [wi,slv_pos (by omega)],by omega,fun _ => ⟨by rw [hs]; exact g1,g3⟩,g2,rfl⟩
  clear hs
  generalize l.getD i 0 = p at hg next
  have hg' := getE hg
  rcases Nat.eq_zero_or_pos i with i0 | i0
  ·subst i0
   have es0:slv j 0 = .nil := rfl
   rw [es0]
   simp [run_draw,tb,hii,hi0,NL_len,hg,hg',buildSliceOp,putParts,repeatP,uniform,PV.pureL,PV.pureB,appendOp,appended,elems]
   exact next _ _ _ (by rw [look_one_cons]; rfl) (cons_lt hlt (by omega) (by omega)) (by omega)
  ·rw [slv_pos i0]
   obtain ⟨l1,jk⟩ := lj i0
   have hL:(PK (pkN l i)).length = i := by rw [PK_len,pkN_len]
   have mk:(2 * (i+1)+1000) * 16 ≤ 140737488355328 := by omega
   have sx:¬ i+1 ≤ i := by omega
   simp [run_draw,tb,hii,hi0,NL_len,hg,hg',buildSliceOp,putParts,repeatP,uniform,PV.pureL,PV.pureB,appendOp,appended,elems,l1,hL,mk,sx]
   exact next _ _ _ (by rw [look_one_cons]) (cons_lt (del_lt hlt) (by omega) (by omega)) (by omega)
def IsPick (w:PV):Prop := ∃ a b,w = .agg [.int .i64 a,.int .i64 b]
theorem eqPick (a b c d:Int):eqPV prog 50 135 (.agg [.int .i64 a,.int .i64 b]) (.agg [.int .i64 c,.int .i64 d]) = some (a == c && b == d) := by
 have h1:prog.stoodInHeld 135 = false := by kernel_rfl
 have h2:prog.underlying 135 = _ := underlying135
 unfold eqPV
 simp [h2,h1,eqFields,eqPV]
 cases hac:a == c <;> cases hbd:b == d <;> simp [hac,hbd]
theorem guardPick (p q:Bool) (x y:List PV):guardB prog 135 p q (.agg x) (.agg y) = true := by
 have:prog.eqGuardType prog.depth 135 = false := by kernel_rfl
 simp [guardB,this]
def equalR:CRel | [a,b],r => r = .bool (decide (pksV a = pksV b)) | _,_ => False
def eqI (a b:PV):Nat → List PV → St → Prop := fun n vs st => ∃ (i k:Nat) (H:List (Nat × Ent)),vs = [.int .i64 (i:Int),.int .i64 ((els a).length:Int),a,b] ∧ i + n = (els a).length ∧ (∀ j,j < i → (pksV a)[j]? = (pksV b)[j]?) ∧ st = ⟨k,H,[]⟩
theorem equal_ok {a b:PV} (ha:Lst IsPick a) (hb:Lst IsPick b) (hal:(els a).length ≤ maxLen):Gives prog G 44 [a,b] (equalR [a,b]) := by
 have la := ha.len
 have lb := hb.len
 have hm:maxLen ≤ 9223372036854775807 := by decide
 have pa:(pksV a).length = (els a).length := by simp [pksV]
 have pb:(pksV b).length = (els b).length := by simp [pksV]
 refine gives (S := []) (by kernel_rfl) (by kernel_rfl) (callW_of ann44 func44 rfl (by kernel_rfl) ?_)
 by_cases hab:(els a).length = (els b).length
 rotate_left
 ·have hne:((((els a).length:Int) != ((els b).length:Int)) = true) := by simp only [bne_iff_ne,ne_eq]; omega
  simp [run_draw,tb,la,lb,hne]
  refine outK_pure rfl ?_
  show PV.bool false = PV.bool _
  congr 1
  symm
  rw [decide_eq_false_iff_not]
  intro e
  rw [e] at pa; omega
 ·have hne:((((els a).length:Int) != ((els b).length:Int)) = false) := by rw [hab]; simp
  simp [run_draw,tb,la,lb,hne]
  refine loopK_of (eqI a b) rfl rfl ?step (els a).length _ _ ?init
  case init => exact ⟨0,_,_,rfl,by omega,fun j h => absurd h (Nat.not_lt_zero j),rfl⟩
  case step =>
  rintro n vs' st ⟨i,k,H,rfl,hin,hall,rfl⟩
  rcases Nat.eq_zero_or_pos n with hn0 | hn0
  ·have hi0:i = (els a).length := by omega
   subst hi0
   simp [run_draw,tb]
   refine outK_pure rfl ?_
   show PV.bool true = PV.bool _
   congr 1
   symm
   rw [decide_eq_true_eq]
   refine List.ext_getElem? fun j => ?_
   rcases Nat.lt_or_ge j (els a).length with h | h
   ·exact hall j h
   ·rw [List.getElem?_eq_none (by omega),List.getElem?_eq_none (by omega)]
  ·have hi0:i < (els a).length := by omega
   have hii:(i:Int) < (els a).length := by omega
   have wi:IntKind.i64.wrap ((i:Int)+1) = ((i+1:Nat):Int) := w_i64 (by omega)
   obtain ⟨es,w,rfl,f1,x,y,rfl⟩ := ha.at hi0
   obtain ⟨es',w',rfl,f2,x',y',rfl⟩ := hb.at (i := i) (by omega)
   have f1' := getE f1
   have f2' := getE f2
   simp only [els_slice] at hii hi0 hab ⊢
   have hi2:i < es'.length := by omega
   have g1:(pksV (.slice es))[i]? = some (x,y) := by simp [pksV,els,f1,decP]
   have g2:(pksV (.slice es'))[i]? = some (x',y') := by simp [pksV,els,f2,decP]
   by_cases hxy:x = x' ∧ y = y'
   ·obtain ⟨rfl,rfl⟩ := hxy
    simp [run_draw,tb,hii,hi0,f1,f1',f2,f2',hi2,guardPick,eqPick,wi]
    refine ⟨logOk_free (by simp [okTri,tri,tb]),n - 1,by omega,i+1,_,_,by rfl,by simp only [els_slice] at hin ⊢; omega,fun j hj => ?_,rfl⟩
    rcases lt_succ_cases hj with h | rfl
    ·exact hall j h
    ·rw [g1,g2]
   ·have hxy':(x == x' && y == y') = false := by
     rw [Bool.and_eq_false_iff]
     by_cases hx:x = x'
     ·exact .inr (by simpa using fun e => hxy ⟨hx,e⟩)
     ·exact .inl (by simpa using hx)
    simp [run_draw,tb,hii,hi0,f1,f1',f2,f2',hi2,guardPick,eqPick,hxy']
    refine ⟨logOk_free (by simp [okTri,tri,tb]),outK_pure rfl ?_⟩
    show PV.bool false = PV.bool _
    congr 1
    symm
    rw [decide_eq_false_iff_not]
    intro e
    rw [e,g2] at g1
    simp only [Option.some.injEq,Prod.mk.injEq] at g1
    exact hxy ⟨g1.1.symm,g1.2.symm⟩
def IsStr (w:PV):Prop := ∃ l,w = .str (ba l)
def IsBd (w:PV):Prop := ∃ fx a q du,w = .agg [fx,.int .i64 a,.int .i64 q,du] ∧ Lst IsPick fx ∧ Lst IsStr du ∧ (els fx).length ≤ maxLen ∧ (els du).length ≤ maxLen
def IsAl (v:PV):Prop := ∃ p ch c pf,v = .agg [.bool p,ch,.int .i64 c,pf] ∧ Lst IsI ch ∧ Lst IsBd pf ∧ (els ch).length ≤ maxLen ∧ (els pf).length ≤ maxLen
def bdV:PV → Bd
 | .agg [fx,.int _ a,.int _ q,du] => ⟨pksV fx,a,q,(els du).map strV⟩
 | _ => ⟨[],0,0,[]⟩
def alV:PV → Al
 | .agg [.bool p,ch,.int _ c,pf] => ⟨p,intsV ch,c,(els pf).map bdV⟩
 | _ => ⟨false,[],0,[]⟩
theorem c49:(⟨#[49]⟩:ByteArray) = ba [49] := rfl
theorem c4549:(⟨#[45,49]⟩:ByteArray) = ba [45,49] := rfl
theorem IsBd.pure {w:PV} (h:IsBd w):w.pureB = true := by
 obtain ⟨fx,a,q,du,rfl,h1,h2,_⟩ := h
 simp [PV.pureB,PV.pureL,h1.cell.2.2.2.2,h2.cell.2.2.2.2]
theorem IsAl.pure {w:PV} (h:IsAl w):w.pureB = true := by
 obtain ⟨p,ch,c,pf,rfl,h1,h2,_⟩ := h
 simp [PV.pureB,PV.pureL,h1.cell.2.2.2.2,h2.cell.2.2.2.2]
theorem one_dual {du:PV} (h:Lst IsStr du) (h1:(els du).length = 1):∃ l,du = .slice [.str (ba l)] := by
 obtain ⟨es,w,rfl,f1,l,rfl⟩ := h.at (i := 0) (by omega)
 match es,h1 with
 | [x],_ =>
  simp at f1
  exact ⟨l,by rw [f1]⟩
open Classical in
noncomputable def leafB (O:Off) (A:Al) (x:Bd) (l:List Nat):Bool := decide (leafOk O A x l)
theorem leafB_iff {O:Off} {A:Al} {x:Bd} {l:List Nat}:leafB O A x l = true ↔ leafOk O A x l := by classical unfold leafB; exact decide_eq_true_iff
noncomputable def provesR:CRel | [.eptr D 0,a,b,l],r => r = .bool (leafB (offV D) (alV a) (bdV b) (natsV l)) | _,_ => False
theorem proves_ok (lib:ReadLib G) {d o r vs vc vh vl va vb:PV} {l:List Nat} (h:DeskOk d o r vs vc vh) (hl:IsPre vl l) (hi:InR (offV (.agg [d,o,r])) l) (hn:l.length ≤ (els d).length) (ha:IsAl va) (hb:IsBd vb):Gives prog G 45 [.eptr (.agg [d,o,r,vs,vc,vh]) 0,va,vb,vl] (provesR [.eptr (.agg [d,o,r,vs,vc,vh]) 0,va,vb,vl]) := by
 classical
 obtain ⟨O,hO⟩:∃ O,O = offV (.agg [d,o,r]) := ⟨_,rfl⟩
 have fin:∀ {B:Bool} {s:St},(B = true ↔ leafOk O (alV va) (bdV vb) l) → outK (provesR [.eptr (.agg [d,o,r,vs,vc,vh]) 0,va,vb,vl]) (.bool B) s := fun {B s} hB => by
  refine outK_pure rfl ?_
  simp only [provesR,offV_app,hl.nats,← hO]
  congr 1
  rw [Bool.eq_iff_iff,leafB_iff]; exact hB
 have hOM:O.m = (els r).length := by rw [hO]; exact h.m
 have hM := h.m1
 obtain ⟨p1,p2,p3,p4,p5⟩ := hl.cell
 have lr := h.req.len
 obtain ⟨p,ch,c,pf,rfl,a1,a2,_⟩ := ha
 obtain ⟨fx,a,q,du,rfl,b1,b2,_⟩ := hb
 have ld := b2.len
 obtain ⟨c1,c2,c3,c4,c5⟩ := a1.cell
 obtain ⟨d1,d2,d3,d4,d5⟩ := a2.cell
 obtain ⟨e1,e2,e3,e4,e5⟩ := b1.cell
 obtain ⟨f1,f2,f3,f4,f5⟩ := b2.cell
 have bnd:PV.pureL [.eptr (.agg [d,o,r,vs,vc,vh]) 0,vl] = true := by simp [PV.pureL,PV.pureB,p5]
 refine gives (S := [(31,boundR),(73,sidesR)]) (by kernel_rfl) (by kernel_rfl) (callW_of ann45 func45 rfl (by kernel_rfl) ?_)
 by_cases hq:q = -1
 ·subst hq
  have hleaf:leafOk O (alV (.agg [.bool p,ch,.int .i64 c,pf])) (bdV (.agg [fx,.int .i64 a,.int .i64 (-1),du])) l ↔ (els du).length = 0 ∧ p = true ∧ a = bound O l ∧ c ≤ a := by
   unfold leafOk
   simp [alV,bdV]
  by_cases hd:(els du).length = 0
  ·cases p with
   | false =>
    simp [run_draw,tb,c1,d1,e1,f1,ld,hd]
    exact ⟨logOk_free (by simp [okTri,tri,tb]),fin (by rw [hleaf]; simp)⟩
   | true =>
    simp [run_draw,tb,c1,d1,e1,f1,ld,hd]
    refine dcallK_pure rfl bnd (bound_ok h hl hi hn) fun x hx => ?_
    simp only [boundR,offV_app,hl.nats,← hO] at hx
    subst hx
    by_cases hab:a = bound O l
    ·subst hab
     simp [run_draw,tb]
     exact ⟨logOk_free (by simp [okTri,tri,tb]),fin (by rw [hleaf]; simp [hd])⟩
    ·have hab':(a == bound O l) = false := by simpa using hab
     simp [run_draw,tb,hab']
     exact ⟨logOk_free (by simp [okTri,tri,tb]),fin (by rw [hleaf]; simp [hab])⟩
  ·have hd':(((els du).length:Int) == 0) = false := by simp only [beq_eq_false_iff_ne,ne_eq]; omega
   simp [run_draw,tb,c1,d1,e1,f1,ld,hd']
   exact ⟨logOk_free (by simp [okTri,tri,tb]),fin (by rw [hleaf]; simp [hd])⟩
 ·have hq':(q == -1) = false := by simpa using hq
  have hleaf:leafOk O (alV (.agg [.bool p,ch,.int .i64 c,pf])) (bdV (.agg [fx,.int .i64 a,.int .i64 q,du])) l ↔ 0 ≤ q ∧ q < O.m ∧ a = 0 ∧ (((els du).map strV = [[49]] ∧ above O q.toNat l = true) ∨ ((els du).map strV = [[45,49]] ∧ below O q.toNat l = true)) := by
   unfold leafOk
   simp [alV,bdV,hq]
  by_cases h0:q < 0
  ·simp [run_draw,tb,c1,d1,e1,f1,hq',h0]
   exact fin (by rw [hleaf]; simp; omega)
  ·by_cases h1:((els r).length:Int) ≤ q
   ·simp [run_draw,tb,c1,d1,e1,f1,hq',h0,lr,h1]
    exact fin (by rw [hleaf,hOM]; simp; omega)
   ·by_cases h2:a = 0
    ·subst h2
     by_cases h3:(els du).length = 1
     ·obtain ⟨t,rfl⟩ := one_dual b2 h3
      obtain ⟨Q,rfl⟩:∃ Q:Nat,q = Q := ⟨q.toNat,by omega⟩
      have pD:PV.pureL [.eptr (.agg [d,o,r,vs,vc,vh]) 0,vl,.int .i64 (Q:Int)] = true := by simp [PV.pureL,PV.pureB,p5]
      simp [run_draw,tb,c1,d1,e1,f1,hq',h0,lr,h1]
      refine callK_pure rfl pD (sides_ok lib h hl hi hn (by omega)) fun x hx => ?_
      simp only [sidesR,offV_app,hl.nats,Int.toNat_natCast,← hO] at hx
      subst hx
      simp only [els_slice,List.map_cons,List.map_nil,strV_ba,Int.toNat_natCast] at hleaf
      by_cases t1:t = [49]
      ·subst t1
       have e1' := sb_eql [49] [49]
       have e2' := sb_eql [49] [45,49]
       simp only [decide_true] at e1'
       rw [show decide (([49]:List UInt8) = [45,49]) = false from by decide] at e2'
       cases hab:above O Q l <;> cases hbe:below O Q l
       all_goals
        simp [run_draw,tb,c49,c4549,e1',e2',e1,f1]
        exact fin (by rw [hleaf,hOM]; simp [hab,hbe]; try omega)
      ·by_cases t2:t = [45,49]
       ·subst t2
        have e1' := sb_eql [45,49] [49]
        have e2' := sb_eql [45,49] [45,49]
        simp only [decide_true] at e2'
        rw [show decide (([45,49]:List UInt8) = [49]) = false from by decide] at e1'
        cases hab:above O Q l <;> cases hbe:below O Q l
        all_goals
         simp [run_draw,tb,c49,c4549,e1',e2',e1,f1]
         exact fin (by rw [hleaf,hOM]; simp [hab,hbe]; try omega)
       ·have e1' := sb_eql t [49]
        have e2' := sb_eql t [45,49]
        rw [decide_eq_false t1] at e1'
        rw [decide_eq_false t2] at e2'
        simp [run_draw,tb,c49,c4549,e1',e2',e1,f1]
        exact fin (by rw [hleaf]; simp [t1,t2])
     ·have h3':(((els du).length:Int) != 1) = true := by simp only [bne_iff_ne,ne_eq]; omega
      simp [run_draw,tb,c1,d1,e1,f1,hq',h0,lr,h1,ld,h3']
      refine fin ?_
      rw [hleaf]
      have k1:(els du).map strV ≠ [[49]] := fun e => h3 (by have := congrArg List.length e; simpa using this)
      have k2:(els du).map strV ≠ [[45,49]] := fun e => h3 (by have := congrArg List.length e; simpa using this)
      simp [k1,k2]
    ·have h2':(a != 0) = true := by simpa using h2
     simp [run_draw,tb,c1,d1,e1,f1,hq',h0,lr,h1,h2']
     exact fin (by rw [hleaf]; simp [h2])
end Go.Proofs.Tryz
