/- The machine on symbols: the ends that are reached. No condition. -/
import Derived.Test.YtgpmgondjppmmaaGreatDoorP2
set_option linter.unnecessarySimpa false
set_option linter.unusedSectionVars false
set_option linter.unusedSimpArgs false
set_option linter.unusedVariables false
set_option maxHeartbeats 8000000
set_option maxRecDepth 100000
namespace Go.Proofs.Tryz
open Go Go.Pi Go.Num Go.Lin Go.Alc
variable [Hole] {G:Nat → Option PV}
attribute [local simp] slice3Op clearOp
noncomputable def endsR:CRel | [X,.int _ q,.int _ i,.int _ k],r => ∃ a b,r = .tuple [a,b] ∧ IsRat a (sp (offV X) q.toNat i.toNat k.toNat).1 ∧ IsRat b (sp (offV X) q.toNat i.toNat k.toNat).2 | _,_ => False
theorem ends_ok {d o r fs:PV} {q i k:Nat} (h:XOk d o r fs) (hq:q < (els r).length) (hi:i < (els d).length) (hk:k < (offV (.agg [d,o,r])).cnt i):Gives prog G 154 [.agg [d,o,r,fs],.int .i64 (q:Int),.int .i64 (i:Int),.int .i64 (k:Int)] (endsR [.agg [d,o,r,fs],.int .i64 (q:Int),.int .i64 (i:Int),.int .i64 (k:Int)]) := by
 obtain ⟨O,hO⟩:∃ O,O = offV (.agg [d,o,r]) := ⟨_,rfl⟩
 have hfe:endsR [.agg [d,o,r,fs],.int .i64 (q:Int),.int .i64 (i:Int),.int .i64 (k:Int)] = fun x => ∃ a b,x = .tuple [a,b] ∧ IsRat a (sp O q i k).1 ∧ IsRat b (sp O q i k).2 := by funext x; simp only [endsR,offV_app,Int.toNat_natCast,← hO]
 rw [hfe]
 have fe := h.ends hq hi hk
 obtain ⟨r1,r2,r3,r4,r5⟩ := h.req.cell
 rcases h.forms with ⟨z,_⟩ | ⟨fes,rfl,hfl,hfs⟩
 ·omega
 obtain ⟨b,m,c,u,fe',g1,g2,g3,g4⟩ := hfs q hq
 obtain ⟨x,g5,g6⟩ := g4 i hi
 have hx := (h.fits hq).2 i
 obtain ⟨os,row,rfl,h1,h2,h3,h4,h5,h6⟩ := h.row hi
 have hol := h.on
 simp only [els_slice] at hol
 obtain ⟨ds,nl,a,b',c',rfl,k1,k2,k3,k4⟩ := h.nom hi
 simp only [els_slice] at hol hi g3 hfl
 rw [← hO] at g6 hx h5 h6 k4 hk fe
 rw [h5] at hk
 obtain ⟨a1,b1,c1,ew,j1,j2,j3,j4,_⟩ := h2 _ (List.getElem_mem hk)
 have hr:row[k]? = some (.agg [.int .i64 a1,.int .i64 b1,.int .i64 c1]) := by rw [List.getElem?_eq_getElem hk,ew]
 have hopt := h6 k hk
 rw [ew] at hopt
 have e1:(ends O q i k).1 = (O.rq q).f.getD i 0 * ((a + a1:Int):Rat) := by unfold ends; rw [k4,hopt]; rfl
 have e2:(ends O q i k).2 = (O.rq q).f.getD i 0 * ((a + b1:Int):Rat) := by unfold ends; rw [k4,hopt]; rfl
 rw [e1,e2] at fe
 have es:sp O q i k = (rmin (ends O q i k).1 (ends O q i k).2,rmax (ends O q i k).1 (ends O q i k).2) := rfl
 rw [es,e1,e2]
 clear es e1 e2 hfe
 generalize (O.rq q).f.getD i 0 = F at *
 have g1' := getE g1
 have g5' := getE g5
 have h1' := getE h1
 have hr' := getE hr
 have k1' := getE k1
 obtain ⟨x1,x2,x3,x4,rfl⟩ := g6.sh
 obtain ⟨⟨p1,p2,p3,p4,p5⟩,⟨q1,q2,q3,q4,q5⟩⟩ := g6.cf
 obtain ⟨⟨s1,s2,s3,s4,s5⟩,⟨t1,t2,t3,t4,t5⟩⟩ := g2.cf
 have i2:i < os.length := by omega
 have i3:q < fes.length := by omega
 have i4:i < fe'.length := by omega
 have w1:IntKind.i64.wrap (a + a1) = a + a1 := w_i64 (by omega)
 have w2:IntKind.i64.wrap (a + b1) = a + b1 := w_i64 (by omega)
 have fx:RFits F 100000 := hx.mono (by omega)
 have fi1:RFits ((a + a1:Int):Rat) 100000 := (rfits_int (by omega)).mono (by omega)
 have fi2:RFits ((a + b1:Int):Rat) 100000 := (rfits_int (by omega)).mono (by omega)
 obtain ⟨A,hA⟩:∃ A:Rat,A = ((a + a1:Int):Rat) := ⟨_,rfl⟩
 obtain ⟨B,hB⟩:∃ B:Rat,B = ((a + b1:Int):Rat) := ⟨_,rfl⟩
 rw [← hA] at fi1
 rw [← hB] at fi2
 rw [← hA,← hB] at fe
 rw [← hA,← hB]
 refine gives (S := [(72,rmaxR),(71,rminR),(70,rmulR),(35,rfromR)]) (by kernel_rfl) (by kernel_rfl) (callW_of ann154 func154 rfl (by kernel_rfl) ?_)
 simp [run_draw,tb,r1,h1,h1',hr,hr',hk,i2,g1,g1',i3,g5,g5',i4,p1,q1,s1,t1,k1,k1',hi,p3,q3]
 refine ⟨by decide +kernel,?_⟩
 refine dcallK_pure rfl rfl (rfrom_ok (IntKind.i64.wrap (a + a1)) (by rw [w1]; omega)) fun y hy => ?_
 simp only [rfromR,w1] at hy
 rw [← hA] at hy
 obtain ⟨y1,y2,y3,y4,rfl⟩ := hy.sh
 obtain ⟨⟨v1,v2,v3,v4,v5⟩,⟨v6,v7,v8,v9,v10⟩⟩ := hy.cf
 simp [run_draw,tb,v1,v6]
 refine dcallK_pure rfl (by simp [PV.pureL,g6.pure,hy.pure]) (rmul_ok _ _ _ _ g6 hy fx fi1) fun z hz => ?_
 simp only [rmulR,ratv_eq g6,ratv_eq hy] at hz
 obtain ⟨z1,z2,z3,z4,rfl⟩ := hz.sh
 obtain ⟨⟨a1',a2',a3',a4',a5'⟩,⟨a6',a7',a8',a9',a10'⟩⟩ := hz.cf
 simp [run_draw,tb,r1,k1,k1',hi,p1,q1,p3,q3,a1',a6',p2,q2,v2,v7]
 refine ⟨by decide +kernel,?_⟩
 refine dcallK_pure rfl rfl (rfrom_ok (IntKind.i64.wrap (a + b1)) (by rw [w2]; omega)) fun y' hy' => ?_
 simp only [rfromR,w2] at hy'
 rw [← hB] at hy'
 obtain ⟨y1',y2',y3',y4',rfl⟩ := hy'.sh
 obtain ⟨⟨v1',v2',v3',v4',v5'⟩,⟨v6',v7',v8',v9',v10'⟩⟩ := hy'.cf
 simp [run_draw,tb,v1',v6']
 refine dcallK_pure rfl (by simp [PV.pureL,g6.pure,hy'.pure]) (rmul_ok _ _ _ _ g6 hy' fx fi2) fun z' hz' => ?_
 simp only [rmulR,ratv_eq g6,ratv_eq hy'] at hz'
 obtain ⟨z1',z2',z3',z4',rfl⟩ := hz'.sh
 obtain ⟨⟨b1',b2',b3',b4',b5'⟩,⟨b6',b7',b8',b9',b10'⟩⟩ := hz'.cf
 simp [run_draw,tb,a1',a6',b1',b6',p2,q2,v2',v7']
 refine ⟨by decide +kernel,?_⟩
 refine dcallK_pure rfl (by simp [PV.pureL,hz.pure,hz'.pure]) (rmin_ok _ _ _ _ hz hz' (fe.1.mono (by omega)) (fe.2.mono (by omega))) fun n1 hn1 => ?_
 simp only [rminR,ratv_eq hz,ratv_eq hz'] at hn1
 obtain ⟨c1',c2',c3',c4',rfl⟩ := hn1.sh
 obtain ⟨⟨d1,d2,d3,d4,d5⟩,⟨d6,d7,d8,d9,d10⟩⟩ := hn1.cf
 simp [run_draw,tb,a1',a6',b1',b6',d1,d6]
 refine dcallK_pure rfl (by simp [PV.pureL,hz.pure,hz'.pure]) (rmax_ok _ _ _ _ hz hz' (fe.1.mono (by omega)) (fe.2.mono (by omega))) fun n2 hn2 => ?_
 simp only [rmaxR,ratv_eq hz,ratv_eq hz'] at hn2
 obtain ⟨e1',e2',e3',e4',rfl⟩ := hn2.sh
 obtain ⟨⟨f1,f2,f3,f4,f5⟩,⟨f6,f7,f8,f9,f10⟩⟩ := hn2.cf
 simp [run_draw,tb,d1,d6,f1,f6,a2',a7',b2',b7']
 refine ⟨by decide +kernel,?_⟩
 exact outK_pure (by simp [PV.pureB,PV.pureL,d5,d10,f5,f10]) ⟨_,_,rfl,hn1,hn2⟩
theorem slice_one {hp:Nat → Option Ent} {l:List Nat} {i p:Nat} (hi:i < l.length) (hg:(NL l)[i]? = some (.int .i64 (p:Int))):sliceOp prog hp 37 (.slice (NL l)) (some (.int .i64 (i:Int))) (some (.int .i64 ((i:Int)+1))) = some { val := .slice [.int .i64 (p:Int)] } := by
 have e:(NL l).all (fun e => decide (e.cells.length = 1)) = true := by
  rw [List.all_eq_true]
  intro v hv
  obtain ⟨k,_,rfl⟩ := List.mem_map.1 hv
  rfl
 have d:((NL l).drop i).take (i+1 - i) = [.int .i64 (p:Int)] := by
  rw [show i+1 - i = 1 by omega]
  have hi':i < (NL l).length := by rw [NL_len]; exact hi
  rw [List.drop_eq_getElem_cons hi']
  simp [getE hg]
 have hl:i+1 ≤ (NL l).length := by rw [NL_len]; omega
 simp only [sliceOp,lowOf,natOf_int,und37,sliceOf,size3,highOf,natOf_succ,ble_lit,beq_lit,hl,e,d,decide_true,Bool.and_self,cond_true,show i ≤ i+1 by omega]
theorem slice_tail {hp:Nat → Option Ent} {j n:Nat} {es:List PV} (h:hp j = some ⟨1,es⟩) (hn:0 < n):sliceOp prog hp 37 (.own j 0 n) (some (.int .i64 1)) none = some { val := if n = 1 then .slice [] else .own j 1 (n - 1) } := by
 simp only [sliceOp,lowOf,natOf_1,und37,sliceOf,size3,highOf,h,ble_lit,beq_lit,blt_lit,show 1 ≤ n by omega,Nat.le_refl,decide_true,Bool.true_or,Bool.and_self,cond_true,show (0 < 1) = True from by simp,Nat.zero_add,Bool.and_true]
 by_cases h1:n = 1
 ·subst h1; rfl
 ·have h2:¬ 1 = n := by omega
  simp [h1,h2]
theorem slice_tail1 {hp:Nat → Option Ent} {v:PV} (hv:v.cells.length = 1):sliceOp prog hp 37 (.slice [v]) (some (.int .i64 1)) none = some { val := .slice [] } := by
 simp [sliceOp,lowOf,natOf_1,und37,sliceOf,size3,highOf,ble_lit,beq_lit,blt_lit,hv]
section
variable {P:Program} {env:Env} {A:FuncId → Option Ann} {cx:Cx}
theorem loopK_zero {b:Code} {k:Kont} {keep:List Nat} {T:Tm} {s:St} (hg:cx.ann.noGc = true) (hk:Go.Pi.look cx.ann.loops (firstRegion b) = some keep)
  (step:run P env G A cx (keep.zip (keep.map (lookT T))) s b (.done (roundK P env G A cx keep (fun _ _ _ => False) 0 k))):loopK P env G A cx T s b k := by
 refine loopK_of (fun m vs st => m = 0 ∧ vs = keep.map (lookT T) ∧ st = s) hg hk ?_ 0 T s ⟨rfl,rfl,rfl⟩
 rintro m vs st ⟨rfl,rfl,rfl⟩
 obtain ⟨n,ex,T',s',he,hr⟩ := step
 refine ⟨n,ex,T',s',he,?_⟩
 simp only [retK] at hr ⊢
 cases ex with
 | normal => obtain ⟨_,_,h⟩ := hr; exact h.elim
 | exit id => exact hr
 | ret => exact hr
end
theorem NL_range {C i:Nat} (h:i < C):(NL (List.range C))[i]? = some (.int .i64 (i:Int)) := by simp [NL,h]
noncomputable def reachR:CRel | [X,.int _ q,l],r => ∃ a b,r = .tuple [a,b] ∧ IsRat a (worst (offV X) q.toNat (natsV l)).1 ∧ IsRat b (worst (offV X) q.toNat (natsV l)).2 | _,_ => False
noncomputable def reI (O:Off) (X vl:PV) (q N:Nat) (l:List Nat):Nat → List PV → St → Prop := fun n vs st => ∃ (i k:Nat) (a b:PV) (H:List (Nat × Ent)),vs = [.ptr 0 0 0,.int .i64 (q:Int),.int .i64 (i:Int),.ptr 1 0 0,.ptr 2 0 0,vl,.int .i64 (N:Int)] ∧ i + n = N ∧
 Go.Pi.look H 0 = some ⟨4,[X]⟩ ∧ Go.Pi.look H 1 = some ⟨4,[a]⟩ ∧ Go.Pi.look H 2 = some ⟨4,[b]⟩ ∧ IsRat a (wst O q l i).1 ∧ IsRat b (wst O q l i).2 ∧ 2 < k ∧ (∀ p ∈ H,p.1 < k) ∧ st = ⟨k,H,[]⟩
def rlI (X vl a b:PV) (q i N C:Nat):Nat → List PV → St → Prop := fun n vs st => ∃ (e k j:Nat) (H:List (Nat × Ent)),vs = [.int .i64 (e:Int),.int .i64 (C:Int),.own j 0 e,.ptr 0 0 0,.int .i64 (q:Int),.int .i64 (i:Int),.ptr 1 0 0,.ptr 2 0 0,.int .i64 (i:Int),.int .i64 (N:Int),vl] ∧ e + n = C ∧
 Go.Pi.look H 0 = some ⟨4,[X]⟩ ∧ Go.Pi.look H 1 = some ⟨4,[a]⟩ ∧ Go.Pi.look H 2 = some ⟨4,[b]⟩ ∧ Go.Pi.look H j = some ⟨1,NL (List.range e)⟩ ∧ 2 < j ∧ j < k ∧ (∀ p ∈ H,p.1 < k) ∧ st = ⟨k,H,[]⟩
noncomputable def rfI (O:Off) (X vl a b:PV) (q i N C j na nb:Nat):Nat → List PV → St → Prop := fun n vs st => ∃ (e k:Nat) (x y:PV) (H:List (Nat × Ent)),vs = [.int .i64 (e:Int),.ptr na 0 0,.ptr nb 0 0,.int .i64 ((C - 1:Nat):Int),.ptr 0 0 0,.int .i64 (q:Int),if C = 1 then .slice [] else .own j 1 (C - 1),.int .i64 (i:Int),.ptr 1 0 0,.ptr 2 0 0,.int .i64 (i:Int),.int .i64 (N:Int),vl] ∧ e + n = C - 1 ∧
 Go.Pi.look H 0 = some ⟨4,[X]⟩ ∧ Go.Pi.look H 1 = some ⟨4,[a]⟩ ∧ Go.Pi.look H 2 = some ⟨4,[b]⟩ ∧ Go.Pi.look H j = some ⟨1,NL (List.range C)⟩ ∧ Go.Pi.look H na = some ⟨4,[x]⟩ ∧ Go.Pi.look H nb = some ⟨4,[y]⟩ ∧ IsRat x (gl O q i e).1 ∧ IsRat y (gl O q i e).2 ∧ nb < k ∧ (∀ p ∈ H,p.1 < k) ∧ st = ⟨k,H,[]⟩
theorem reach_ok {d o r fs vl:PV} {l:List Nat} {q:Nat} (h:XOk d o r fs) (hl:IsPre vl l) (hi:InR (offV (.agg [d,o,r])) l) (hn:l.length ≤ (els d).length) (hq:q < (els r).length):Gives prog G 116 [.agg [d,o,r,fs],.int .i64 (q:Int),vl] (reachR [.agg [d,o,r,fs],.int .i64 (q:Int),vl]) := by
 obtain ⟨O,hO⟩:∃ O,O = offV (.agg [d,o,r]) := ⟨_,rfl⟩
 have hfe:reachR [.agg [d,o,r,fs],.int .i64 (q:Int),vl] = fun x => ∃ a b,x = .tuple [a,b] ∧ IsRat a (worst O q l).1 ∧ IsRat b (worst O q l).2 := by funext x; simp only [reachR,offV_app,hl.nats,Int.toNat_natCast,← hO]
 rw [hfe]
 have hON:O.n = (els d).length := by rw [hO]; exact h.n
 have hN := h.n1
 have hi' := hi
 rw [← hO] at hi
 obtain ⟨p1,p2,p3,p4,p5⟩ := hl.cell
 obtain ⟨d1,d2,d3,d4,d5⟩ := h.dim.cell
 obtain ⟨o1,o2,o3,o4,o5⟩ := h.opt.cell
 obtain ⟨r1,r2,r3,r4,r5⟩ := h.req.cell
 obtain ⟨s1,s2,s3,s4,s5⟩ := h.cell
 have pX := h.pure
 have ll := hl.len
 have ld := h.dim.len
 rcases h.forms with ⟨z,_⟩ | ⟨fes,rfl,hfl,hfs⟩
 ·omega
 obtain ⟨b,m,c,u,fe',g1,g2,g3,g4⟩ := hfs q hq
 rw [← hO] at g2
 have g1' := getE g1
 have i3:q < fes.length := by omega
 obtain ⟨⟨a1,a2,a3,a4,a5⟩,⟨b1,b2,b3,b4,b5⟩⟩ := g2.cf
 have hX:∀ (i k:Nat),i < (els d).length → k < O.cnt i → Gives prog G 154 [.agg [d,o,r,.slice fes],.int .i64 (q:Int),.int .i64 (i:Int),.int .i64 (k:Int)] (endsR [.agg [d,o,r,.slice fes],.int .i64 (q:Int),.int .i64 (i:Int),.int .i64 (k:Int)]) := fun i k h1 h2 => ends_ok h hq h1 (by rw [← hO]; exact h2)
 have pE:∀ (i k:Int),PV.pureL [.agg [d,o,r,.slice fes],.int .i64 (q:Int),.int .i64 i,.int .i64 k] = true := fun i k => by simp only [PV.pureL,pX]; rfl
 refine gives (S := [(72,rmaxR),(71,rminR),(90,raddR),(154,endsR)]) (by kernel_rfl) (by kernel_rfl) (callW_of ann116 func116 rfl (by kernel_rfl) ?_)
 simp [run_draw,tb,d1,o1,r1,g1,g1',i3,a1,b1,ld]
 refine ⟨by decide +kernel,?_⟩
 refine loopK_of (reI O (.agg [d,o,r,.slice fes]) vl q (els d).length l) rfl rfl ?step (els d).length _ _ ?init
 case init => exact ⟨0,_,_,_,_,rfl,by omega,rfl,rfl,rfl,g2,g2,by omega,by simp,rfl⟩
 case step =>
 rintro n vs' st ⟨i,k,w1,w2,H,rfl,hin,l0,l1,l2,hw1,hw2,hk,hlt,rfl⟩
 obtain ⟨x1,x2,x3,x4,rfl⟩ := hw1.sh
 obtain ⟨⟨e1,e2,e3,e4,e5⟩,⟨e6,e7,e8,e9,e10⟩⟩ := hw1.cf
 obtain ⟨y1,y2,y3,y4,rfl⟩ := hw2.sh
 obtain ⟨⟨f1,f2,f3,f4,f5⟩,⟨f6,f7,f8,f9,f10⟩⟩ := hw2.cf
 have lus1:∀ E,Go.Pi.look (Go.Pi.upd H 1 E) 1 = some E := fun E => look_upd_same l1
 have lus2:∀ E,Go.Pi.look (Go.Pi.upd H 2 E) 2 = some E := fun E => look_upd_same l2
 have lus12:∀ E,Go.Pi.look (Go.Pi.upd H 1 E) 2 = some _ := fun E => (look_upd_ne (by omega)).trans l2
 have lus121:∀ E E',Go.Pi.look (Go.Pi.upd (Go.Pi.upd H 1 E) 2 E') 1 = some E := fun E E' => (look_upd_ne (by omega)).trans (look_upd_same l1)
 have lus122:∀ E E',Go.Pi.look (Go.Pi.upd (Go.Pi.upd H 1 E) 2 E') 2 = some E' := fun E E' => look_upd_same (lus12 E)
 rcases Nat.eq_zero_or_pos n with hn0 | hn0
 ·have hi0:i = (els d).length := by omega
  subst hi0
  simp [run_draw,tb,l1,l2,lus12,lus121,lus122,e1,e6,f1,f6]
  refine ⟨by decide +kernel,?_⟩
  refine outK_pure (by simp [PV.pureB,PV.pureL,e5,e10,f5,f10]) ⟨_,_,rfl,by unfold worst; rw [hON]; exact hw1,by unfold worst; rw [hON]; exact hw2⟩
 ·have hi0:i < (els d).length := by omega
  have hii:(i:Int) < (els d).length := by omega
  have wi:IntKind.i64.wrap ((i:Int)+1) = (i:Int)+1 := w_i64 (by omega)
  have hc0 := h.cnt0 (i := i) (by omega)
  have hc8 := h.cnt8 (i := i) (by omega)
  have hwst := h.wst hi' hq i (by omega)
  have hsi := h.si hi' hq (i := i) (by omega)
  rw [← hO] at hc0 hc8 hwst hsi
  have hsi1:si O q l i = if i < l.length then sp O q i (l.getD i 0) else gl O q i (O.cnt i - 1) := rfl
  have hw13:wst O q l (i+1) = ((wst O q l i).1 + (si O q l i).1,(wst O q l i).2 + (si O q l i).2) := rfl
  have fw1 := hwst.1.mono (l := 100000) (by omega)
  have fw2 := hwst.2.mono (l := 100000) (by omega)
  have fs1 := hsi.1.mono (l := 100000) (by omega)
  have fs2 := hsi.2.mono (l := 100000) (by omega)
  by_cases hil:i < l.length
  ·have hil':(i:Int) < l.length := by omega
   obtain rfl := hl.at hil
   rw [if_pos hil] at hsi1
   have hg := NL_get hil
   have hkk := hi i hil
   generalize l.getD i 0 = p at hkk hg hsi1
   have so:∀ hp,sliceOp prog hp 37 (.slice (NL l)) (some (.int .i64 (i:Int))) (some (.int .i64 ((i:Int)+1))) = some { val := .slice [.int .i64 (p:Int)] } := fun hp => slice_one hil hg
   have so2:∀ hp,sliceOp prog hp 37 (.slice [.int .i64 (p:Int)]) (some (.int .i64 1)) none = some { val := .slice [] } := fun hp => slice_tail1 rfl
   have nb0:¬ k+1+1 = 0 := by omega
   have nb1:¬ k+1+1 = 1 := by omega
   have nb2:¬ k+1+1 = 2 := by omega
   simp [run_draw,tb,hii,NL_len,hil',wi,so,so2,buildSliceOp,putParts,repeatP,uniform,PV.pureL,PV.pureB,l0,nb0,nb1,nb2,d1,o1,r1]
   refine dcallK_pure rfl (pE i p) (hX i p hi0 hkk) fun y hy => ?_
   simp only [endsR,offV_app,Int.toNat_natCast,← hO,← hsi1] at hy
   obtain ⟨A,B,rfl,hA,hB⟩ := hy
   obtain ⟨v1,v2,v3,v4,rfl⟩ := hA.sh
   obtain ⟨⟨q1,q2,q3,q4,q5⟩,⟨q6,q7,q8,q9,q10⟩⟩ := hA.cf
   obtain ⟨z1,z2,z3,z4,rfl⟩ := hB.sh
   obtain ⟨⟨t1,t2,t3,t4,t5⟩,⟨t6,t7,t8,t9,t10⟩⟩ := hB.cf
   simp [run_draw,tb,q1,q6,t1,t6,so2,d4,o4,r4]
   have eK1:k+1+1+1+1+1+1+1+1+1+1+1+1+1+1+1+1+1+1+1+1+1+1+1+1+1 - (k+1+1+1+1+1+1+1+1+1+1+1+1+1+1+1+1+1+1+1+1+1+1+1+1) = 1 := by omega
   have eK2:k+1+1+1+1+1+1+1+1+1+1+1+1+1+1+1+1+1+1+1+1+1+1+1+1+1+1 - (k+1+1+1+1+1+1+1+1+1+1+1+1+1+1+1+1+1+1+1+1+1+1+1+1) = 2 := by omega
   refine ⟨logOk_code (fun x => x - (k+1+1+1+1+1+1+1+1+1+1+1+1+1+1+1+1+1+1+1+1+1+1+1+1)) (by simp only [List.map_cons,List.map_nil,code,eK1,eK2,Nat.zero_sub]; decide +kernel),?_⟩
   clear eK1 eK2
   refine loopK_zero rfl rfl ?_
   simp [run_draw,tb,l1,l2,e1,e6,f1,f6]
   refine dcallK_pure rfl (by simp [PV.pureL,hw1.pure,hA.pure]) (radd_ok _ _ _ _ hw1 hA fw1 fs1) fun s1 hs1 => ?_
   simp only [raddR,ratv_eq hw1,ratv_eq hA] at hs1
   obtain ⟨m1,m2,m3,m4,rfl⟩ := hs1.sh
   obtain ⟨⟨n1,n2,n3,n4,n5⟩,⟨n6,n7,n8,n9,n10⟩⟩ := hs1.cf
   simp [run_draw,tb,l1,l2,e1,e6,f1,f6,n1,n6,t1,t6,lus12,lus1,e2,e7,q2,q7]
   refine dcallK_pure rfl (by simp [PV.pureL,hw2.pure,hB.pure]) (radd_ok _ _ _ _ hw2 hB fw2 fs2) fun s2 hs2 => ?_
   simp only [raddR,ratv_eq hw2,ratv_eq hB] at hs2
   obtain ⟨c1',c2',c3',c4',rfl⟩ := hs2.sh
   obtain ⟨⟨b1',b2',b3',b4',b5'⟩,⟨b6',b7',b8',b9',b10'⟩⟩ := hs2.cf
   simp [run_draw,tb,l1,l2,e1,e6,f1,f6,n1,n6,b1',b6',lus12,lus1,f2,f7,t2,t7,wi]
   refine ⟨logOk_code (fun x => if x = 1 then 1 else if x = 2 then 2 else 0) (by simp [code]; decide +kernel),n - 1,by omega,i+1,_,_,_,_,rfl,by omega,?_,?_,?_,by rw [hw13]; exact hs1,by rw [hw13]; exact hs2,by omega,?_,rfl⟩
   ·rw [look_cons_ne (by omega),look_cons_ne (by omega),look_cons_ne (by omega),look_upd_ne (by omega),look_upd_ne (by omega)]; exact l0
   ·rw [look_cons_ne (by omega),look_cons_ne (by omega),look_cons_ne (by omega),look_upd_ne (by omega)]; exact look_upd_same l1
   ·rw [look_cons_ne (by omega),look_cons_ne (by omega),look_cons_ne (by omega)]; exact look_upd_same (lus12 _)
   ·exact cons_lt (cons_lt (cons_lt (upd_lt (upd_lt hlt)) (by omega) (by omega):∀ p ∈ (_:List (Nat × Ent)),p.1 < k+1+1+1+1) (by omega) (by omega):∀ p ∈ (_:List (Nat × Ent)),p.1 < k+1+1+1+1+1+1+1+1+1+1+1+1+1+1+1+1+1+1+1+1+1+1+1+1+1+1) (by omega) (by omega)
  ·have hil':¬ (i:Int) < l.length := by omega
   rw [if_neg hil] at hsi1
   obtain ⟨os,row,rfl,h1,h2,h3,h4,h5,h6⟩ := h.row hi0
   have h1' := getE h1
   have hol := h.on
   simp only [els_slice] at hol
   have hio:i < os.length := by omega
   rw [← hO] at h5
   simp [run_draw,tb,hii,hil',ll,buildSliceOp,putParts,repeatP,uniform,PV.pureL,PV.pureB,l0,d1,o1,r1,h1,h1',hio]
   refine loopK_of (rlI (.agg [d,.slice os,r,.slice fes]) vl (.agg [.bool x1,x2,.bool x3,x4]) (.agg [.bool y1,y2,.bool y3,y4]) q i (els d).length row.length) rfl rfl ?step2 row.length _ _ ?init2
   case init2 => exact ⟨0,_,_,_,rfl,by omega,by rw [look_cons_ne (by omega)]; exact l0,by rw [look_cons_ne (by omega)]; exact l1,by rw [look_cons_ne (by omega)]; exact l2,by rw [look_one_cons]; rfl,by omega,by omega,cons_lt hlt (by omega) (by omega),rfl⟩
   case step2 =>
   clear l0 l1 l2 lus1 lus2 lus12 lus121 lus122 hlt
   rintro m vs2 st ⟨e,k2,j,H2,rfl,hem,l0,l1,l2,lj,hj2,hjk,hlt,rfl⟩
   rcases Nat.eq_zero_or_pos m with hm0 | hm0
   ·have he:e = row.length := by omega
    subst he
    have hg0:(NL (List.range row.length))[0]? = some (.int .i64 0) := by simp [NL,h3]
    have hg0' := getE hg0
    have nlz:(NL (List.range row.length)).length = row.length := by simp [NL]
    have st2:∀ hp:Nat → Option Ent,hp j = some ⟨1,NL (List.range row.length)⟩ → sliceOp prog hp 37 (.own j 0 row.length) (some (.int .i64 1)) none = some { val := if row.length = 1 then .slice [] else .own j 1 (row.length - 1) } := fun hp hh => slice_tail hh h3
    have ltl:lenPV (if row.length = 1 then .slice [] else .own j 1 (row.length - 1)) = some (row.length - 1) := by
     split
     ·rename_i h; rw [h]; rfl
     ·rfl
    have cst:((if row.length = 1 then PV.slice [] else .own j 1 (row.length - 1)):PV).ids = if row.length = 1 then [] else [j] := by split <;> rfl
    have nj1:¬ k2+1+1+1+1+1+1+1+1+1+1+1 = j := by omega
    have nj2:¬ k2+1+1+1+1+1+1+1+1+1+1+1+1 = j := by omega
    simp [run_draw,tb,lj,hg0,hg0',h3,nlz,l0,d1,o1,r1]
    refine dcallK_pure rfl (pE i 0) (hX i 0 hi0 (by omega)) fun y hy => ?_
    simp only [endsR,offV_app,Int.toNat_natCast,← hO] at hy
    obtain ⟨A,B,rfl,hA,hB⟩ := hy
    obtain ⟨v1,v2,v3,v4,rfl⟩ := hA.sh
    obtain ⟨⟨q1,q2,q3,q4,q5⟩,⟨q6,q7,q8,q9,q10⟩⟩ := hA.cf
    obtain ⟨z1,z2,z3,z4,rfl⟩ := hB.sh
    obtain ⟨⟨t1,t2,t3,t4,t5⟩,⟨t6,t7,t8,t9,t10⟩⟩ := hB.cf
    simp [run_draw,tb,q1,q6,t1,t6,d4,o4,r4,st2,nj1,nj2,lj,ltl]
    have eK1:k2+1+1+1+1+1+1+1+1+1+1+1 - k2 = 11 := by omega
    have eK2:k2+1+1+1+1+1+1+1+1+1+1+1+1 - k2 = 12 := by omega
    have eK3:j - k2 = 0 := by omega
    refine ⟨logOk_code (fun x => x - k2) (by simp only [List.map_cons,List.map_nil,code,eK1,eK2,eK3,Nat.zero_sub]; decide +kernel),?_⟩
    clear eK1 eK2 eK3
    refine loopK_of (rfI O (.agg [d,.slice os,r,.slice fes]) vl (.agg [.bool x1,x2,.bool x3,x4]) (.agg [.bool y1,y2,.bool y3,y4]) q i (els d).length row.length j (k2+1+1+1+1+1+1+1+1+1+1+1) (k2+1+1+1+1+1+1+1+1+1+1+1+1)) rfl rfl ?step3 (row.length - 1) _ _ ?init3
    case init3 => exact ⟨0,_,_,_,_,rfl,by omega,by rw [look_cons_ne (by omega),look_cons_ne (by omega)]; exact l0,by rw [look_cons_ne (by omega),look_cons_ne (by omega)]; exact l1,by rw [look_cons_ne (by omega),look_cons_ne (by omega)]; exact l2,by rw [look_cons_ne (by omega),look_cons_ne (by omega)]; exact lj,by rw [look_cons_ne (by omega),look_one_cons],by rw [look_one_cons],hA,hB,by omega,cons_lt (cons_lt hlt (by omega) (by omega):∀ p ∈ (_:List (Nat × Ent)),p.1 < k2+1+1+1+1+1+1+1+1+1+1+1+1) (by omega) (by omega),rfl⟩
    case step3 =>
    have hnb:k2+1+1+1+1+1+1+1+1+1+1+1+1 = k2+1+1+1+1+1+1+1+1+1+1+1+1 := rfl
    rw [hnb]
    generalize hna:k2+1+1+1+1+1+1+1+1+1+1+1 = na at nj1 ⊢
    rw [hnb,hna] at nj2
    clear hnb
    have na2:j < na := by omega
    clear l0 l1 l2 lj hlt
    rintro m2 vs3 st ⟨e,k3,A',B',H3,rfl,hem2,l0,l1,l2,lj,la,lb,hA',hB',hbk,hlt,rfl⟩
    obtain ⟨v1',v2',v3',v4',rfl⟩ := hA'.sh
    obtain ⟨⟨q1',q2',q3',q4',q5'⟩,⟨q6',q7',q8',q9',q10'⟩⟩ := hA'.cf
    obtain ⟨z1',z2',z3',z4',rfl⟩ := hB'.sh
    obtain ⟨⟨t1',t2',t3',t4',t5'⟩,⟨t6',t7',t8',t9',t10'⟩⟩ := hB'.cf
    have lus1:∀ E,Go.Pi.look (Go.Pi.upd H3 1 E) 1 = some E := fun E => look_upd_same l1
    have lus12:∀ E,Go.Pi.look (Go.Pi.upd H3 1 E) 2 = some _ := fun E => (look_upd_ne (by omega)).trans l2
    rcases Nat.eq_zero_or_pos m2 with hm20 | hm20
    ·have he2:e = row.length - 1 := by omega
     subst he2
     rw [← h5,← hsi1] at hA' hB'
     simp [run_draw,tb,l1,l2,la,lb,e1,e6,f1,f6]
     refine dcallK_pure rfl (by simp [PV.pureL,hw1.pure,hA'.pure]) (radd_ok _ _ _ _ hw1 hA' fw1 fs1) fun s1 hs1 => ?_
     simp only [raddR,ratv_eq hw1,ratv_eq hA'] at hs1
     obtain ⟨m1,m2,m3,m4,rfl⟩ := hs1.sh
     obtain ⟨⟨n1,n2,n3,n4,n5⟩,⟨n6,n7,n8,n9,n10⟩⟩ := hs1.cf
     simp [run_draw,tb,l1,l2,la,lb,e1,e6,f1,f6,n1,n6,t1',t6',lus12,lus1,e2,e7,q2',q7']
     refine dcallK_pure rfl (by simp [PV.pureL,hw2.pure,hB'.pure]) (radd_ok _ _ _ _ hw2 hB' fw2 fs2) fun s2 hs2 => ?_
     simp only [raddR,ratv_eq hw2,ratv_eq hB'] at hs2
     obtain ⟨c1',c2',c3',c4',rfl⟩ := hs2.sh
     obtain ⟨⟨b1',b2',b3',b4',b5'⟩,⟨b6',b7',b8',b9',b10'⟩⟩ := hs2.cf
     simp [run_draw,tb,l1,l2,e1,e6,f1,f6,n1,n6,b1',b6',lus12,lus1,f2,f7,t2',t7',wi]
     refine ⟨logOk_code (fun x => if x = 1 then 1 else if x = 2 then 2 else 0) (by simp [code,show ¬ na = 1 by omega,show ¬ na = 2 by omega,show ¬ na+1 = 1 by omega,show ¬ na+1 = 2 by omega,show ¬ na = 0 by omega]; decide +kernel),n - 1,by omega,i+1,_,_,_,_,rfl,by omega,?_,?_,?_,by rw [hw13]; exact hs1,by rw [hw13]; exact hs2,by omega,?_,rfl⟩
     ·rw [look_upd_ne (by omega),look_upd_ne (by omega)]; exact l0
     ·rw [look_upd_ne (by omega)]; exact look_upd_same l1
     ·exact look_upd_same (lus12 _)
     ·exact lt_mono (upd_lt (upd_lt hlt)) (by omega)
    ·have hc1:¬ row.length = 1 := by omega
     have he2:e < row.length - 1 := by omega
     have hee:(e:Int) < ((row.length - 1:Nat):Int) := by omega
     have we:IntKind.i64.wrap ((e:Int)+1) = ((e+1:Nat):Int) := w_i64 (by omega)
     have hge:(NL (List.range row.length))[1 + e]? = some (.int .i64 ((1 + e:Nat):Int)) := NL_range (by omega)
     have hge' := getE hge
     have nle:1 + e < (NL (List.range row.length)).length := by rw [nlz]; omega
     have fg := h.gl hq (i := i) hi0 e (by rw [← hO]; omega)
     have fp := h.sp hq (i := i) (k := 1 + e) hi0 (by rw [← hO]; omega)
     rw [← hO] at fg fp
     have g1c:((1:Int) + (e:Int)) = ((1 + e:Nat):Int) := by omega
     rw [if_neg hc1]
     simp [run_draw,tb,hee,he2,lj,hge,hge',nle,l0,d1,o1,r1]
     rw [g1c]
     refine callK_pure rfl (pE i _) (hX i (1 + e) hi0 (by omega)) fun y hy => ?_
     simp only [endsR,offV_app,Int.toNat_natCast,← hO] at hy
     rw [Nat.add_comm 1 e] at hy fp
     obtain ⟨A2,B2,rfl,hA2,hB2⟩ := hy
     obtain ⟨c1',c2',c3',c4',rfl⟩ := hA2.sh
     obtain ⟨⟨b1',b2',b3',b4',b5'⟩,⟨b6',b7',b8',b9',b10'⟩⟩ := hA2.cf
     obtain ⟨mm1,mm2,mm3,mm4,rfl⟩ := hB2.sh
     obtain ⟨⟨n1,n2,n3,n4,n5⟩,⟨n6,n7,n8,n9,n10⟩⟩ := hB2.cf
     have x1n:¬ k3+1+1+1+1+1+1+1+1+1+1+1+1 = na := by omega
     have x2n:¬ k3+1+1+1+1+1+1+1+1+1+1+1+1+1 = na := by omega
     have x3n:¬ k3+1+1+1+1+1+1+1+1+1+1+1+1 = na+1 := by omega
     have x5n:¬ k3+1+1+1+1+1+1+1+1+1+1+1 = na := by omega
     have x4n:¬ k3+1+1+1+1+1+1+1+1+1+1+1+1+1 = na+1 := by omega
     simp [run_draw,tb,b1',b6',n1,n6,x1n,x2n,x3n,x4n,x5n,la,lb,q1',q6',t1',t6']
     refine dcallK_pure rfl (by simp [PV.pureL,hA'.pure,hA2.pure]) (rmax_ok _ _ _ _ hA' hA2 (fg.1.mono (by omega)) (fp.1.mono (by omega))) fun s1 hs1 => ?_
     simp only [rmaxR,ratv_eq hA',ratv_eq hA2] at hs1
     obtain ⟨w1,w2,w3,w4,rfl⟩ := hs1.sh
     obtain ⟨⟨j1,j2,j3,j4,j5⟩,⟨j6,j7,j8,j9,j10⟩⟩ := hs1.cf
     simp [run_draw,tb,b1',b6',n1,n6,x1n,x2n,x3n,x4n,x5n,la,lb,q1',q6',t1',t6',q2',q7',b2',b7',j1,j6]
     refine dcallK_pure rfl (by simp [PV.pureL,hB'.pure,hB2.pure]) (rmin_ok _ _ _ _ hB' hB2 (fg.2.mono (by omega)) (fp.2.mono (by omega))) fun s2 hs2 => ?_
     simp only [rminR,ratv_eq hB',ratv_eq hB2] at hs2
     obtain ⟨u1',u2',u3',u4',rfl⟩ := hs2.sh
     obtain ⟨⟨i1',i2',i3',i4',i5'⟩,⟨i6',i7',i8',i9',i10'⟩⟩ := hs2.cf
     have lab:∀ E,Go.Pi.look (Go.Pi.upd H3 na E) (na+1) = some _ := fun E => (look_upd_ne (by omega)).trans lb
     simp [run_draw,tb,b1',b6',n1,n6,x1n,x2n,x3n,x4n,x5n,la,lb,lab,t1',t6',q1',q6',t2',t7',n2,n7,j1,j6,i1',i6',we]
     have eK1:k3+1+1+1+1+1+1+1+1+1+1+1+1 - na = k3 - na+12 := by omega
     refine ⟨logOk_code (fun x => if x = na then 1 else if x = na+1 then 2 else 0) (by simp only [List.map_cons,List.map_nil,code,if_neg x1n,if_neg x2n,if_neg x3n,if_neg x4n,if_pos,if_neg (show ¬ na+1 = na by omega),if_true]; decide +kernel),m2 - 1,by omega,e+1,_,_,_,_,by rw [if_neg hc1]; rfl,by omega,?_,?_,?_,?_,?_,?_,hs1,hs2,?_,?_,rfl⟩
     ·rw [look_cons_ne (by omega),look_cons_ne (by omega),look_upd_ne (by omega),look_upd_ne (by omega)]; exact l0
     ·rw [look_cons_ne (by omega),look_cons_ne (by omega),look_upd_ne (by omega),look_upd_ne (by omega)]; exact l1
     ·rw [look_cons_ne (by omega),look_cons_ne (by omega),look_upd_ne (by omega),look_upd_ne (by omega)]; exact l2
     ·rw [look_cons_ne (by omega),look_cons_ne (by omega),look_upd_ne (by omega),look_upd_ne (by omega)]; exact lj
     ·rw [look_cons_ne (by omega),look_cons_ne (by omega),look_upd_ne (by omega)]; exact look_upd_same la
     ·rw [look_cons_ne (by omega),look_cons_ne (by omega)]; exact look_upd_same (lab _)
     ·omega
     ·exact cons_lt (cons_lt (upd_lt (upd_lt hlt)) (by omega) (by omega):∀ p ∈ (_:List (Nat × Ent)),p.1 < k3+1+1+1+1+1+1+1+1+1+1+1+1+1) (by omega) (by omega)
   ·have he:e < row.length := by omega
    have hee:(e:Int) < row.length := by omega
    have we:IntKind.i64.wrap ((e:Int)+1) = ((e+1:Nat):Int) := w_i64 (by omega)
    have nle:(NL (List.range e)).length = e := by simp [NL]
    have hsn:NL (List.range e) ++ [.int .i64 (e:Int)] = NL (List.range (e+1)) := by rw [List.range_succ,NL_app]
    have mk:(2 * (e+1)+1000) * 8 ≤ 140737488355328 := by omega
    have sx:¬ e+1 ≤ e := by omega
    simp [run_draw,tb,hee,buildSliceOp,putParts,repeatP,uniform,PV.pureL,PV.pureB,appendOp,appended,elems,lj,nle,mk,sx,we]
    refine ⟨m - 1,by omega,e+1,_,_,_,rfl,by omega,?_,?_,?_,by rw [look_one_cons,hsn],by omega,by omega,cons_lt (del_lt hlt) (by omega) (by omega),rfl⟩
    ·rw [look_cons_ne (by omega),look_del_ne (by omega)]; exact l0
    ·rw [look_cons_ne (by omega),look_del_ne (by omega)]; exact l1
    ·rw [look_cons_ne (by omega),look_del_ne (by omega)]; exact l2
end Go.Proofs.Tryz
