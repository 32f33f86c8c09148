/- The machine on symbols: allocation.open's inner loops. No condition. -/
import Derived.Test.YtgpmgondjppmmaaGreatDoorP2
set_option linter.unnecessarySimpa false
set_option linter.unusedSectionVars false
set_option linter.unusedSimpArgs false
set_option linter.unusedVariables false
set_option maxHeartbeats 8000000
set_option maxRecDepth 100000
namespace Go.Proofs.Tryz
open Go Go.Pi
variable [Hole] {G:Nat → Option PV}
attribute [local simp] slice3Op clearOp
theorem mapR_snoc {f:PV → Option (PV × List Nat)} {v w:PV} {l:List Nat} (hv:f v = some (w,l)):∀ {vs ws:List PV} {fl:List Nat},mapR f vs = some (ws,fl) → mapR f (vs ++ [v]) = some (ws ++ [w],fl ++ l)
 | [],ws,fl,h => by
  simp only [mapR,Option.some.injEq,Prod.mk.injEq] at h
  obtain ⟨rfl,rfl⟩ := h
  simp [mapR,hv]
 | x :: vs,ws,fl,h => by
  simp only [mapR] at h
  split at h
  case h_2 => cases h
  rename_i v1 l1 vs1 l2 h1 h2
  cases h
  rw [List.cons_append,mapR,h1,mapR_snoc hv h2]
  simp
theorem rd_own {hp:Nat → Option Ent} {d r n sz:Nat} {es ws:List PV} {fl:List Nat} (h:hp r = some ⟨sz,es⟩) (hn:es.length = n) (hs:0 < sz) (hm:mapR (reifyN hp d) es = some (ws,fl)):reifyN hp (d+1) (.own r 0 n) = some (.slice ws,r :: fl) := by
 show reifyW hp (reifyN hp d) (.own r 0 n) = _
 simp only [reifyW,h,List.drop_zero]
 rw [List.take_of_length_le (by omega),hm]
 have h1:Nat.ble (0 + n) es.length = true := by rw [ble_iff]; omega
 have h2:Nat.blt 0 sz = true := by rw [blt_iff]; exact hs
 simp only [h1,h2,Bool.and_self,cond_true]
end Go.Proofs.Tryz
namespace Go.Proofs.Tryz
open Go Go.Pi Go.Num Go.Lin Go.Alc
variable [Hole] {G:Nat → Option PV}
attribute [local simp] slice3Op clearOp
def loopIn (id:Nat):Code → Option Code
 | .loop b => bif Nat.beq (firstRegion b) id then some b else loopIn id b
 | .seq a b => match loopIn id a with | some c => some c | none => loopIn id b
 | .cond _ a b => match loopIn id a with | some c => some c | none => loopIn id b
 | .block _ b => loopIn id b
 | .scope b => loopIn id b
 | _ => none
def checkR (X:PV):CRel | [Y],r => Y = X → r = .int .i64 0 | _,_ => False
abbrev OS (X:PV):Specs := [(8,checkR X),(68,minR),(66,readR),(35,rfromR),(70,rmulR),(71,rminR),(72,rmaxR)]
noncomputable def o5I (O:Off) (q i:Nat) (row:List PV) (k0:Nat) (H0:List (Nat × Ent)) (jf N:Nat) (v13 v9 v54 v53 v52 v83:PV):Nat → List PV → St → Prop := fun n vs st => ∃ (j k jr:Nat) (H:List (Nat × Ent)) (rs:List PV),
 vs = [.int .i64 (i:Int),.int .i64 (j:Int),.ptr 0 0 0,.own jf 0 N,.int .i64 (row.length:Int),slv jr j,.slice row,v13,.int .i64 (i:Int),.int .i64 (N:Int),v9,.ptr 10 0 0,v54,v53,v52,v83] ∧ j + n = row.length ∧ rs.length = j ∧
 (∀ p,p < j → ∃ w,rs[p]? = some w ∧ IsSp w (sp O q i p)) ∧ (0 < j → Go.Pi.look H jr = some ⟨8,rs⟩ ∧ k0 ≤ jr ∧ jr < k) ∧ (∀ b,b < k0 → Go.Pi.look H b = Go.Pi.look H0 b) ∧ (∀ p ∈ H,p.1 < k) ∧ k0 ≤ k ∧ st = ⟨k,H,[]⟩
theorem o5_ok {d o r:PV} (h:Vld d o r) {q i:Nat} (hq:q < (els r).length) (hi:i < (els d).length) {row es:List PV} (ho:o = .slice es) (hrow:es[i]? = some (.slice row)) {k0 jf N:Nat} {H0:List (Nat × Ent)} (l0:Go.Pi.look H0 0 = some ⟨3,[.agg [d,o,r]]⟩) {fs:List PV} (lf:Go.Pi.look H0 jf = some ⟨4,fs⟩) (hN:N = (els d).length) (hfl:fs.length = N)
  (hff:∀ p,p < N → ∃ w,fs[p]? = some w ∧ IsRat w (((offV (.agg [d,o,r])).rq q).f.getD p 0)) (hj0:0 < jf) (hjk:jf < k0) (hlt0:∀ p ∈ H0,p.1 < k0) {X v13 v9 v54 v53 v52 v83:PV} {k:Kont} {an:Ann} (han:A1 29 = some an) {T:Tm}
  (hT:[14,92,1,10,91,16,90,13,85,84,9,5,54,53,52,83].map (lookT T) = [.int .i64 (i:Int),.int .i64 0,.ptr 0 0 0,.own jf 0 N,.int .i64 (row.length:Int),.nil,.slice row,v13,.int .i64 (i:Int),.int .i64 (N:Int),v9,.ptr 10 0 0,v54,v53,v52,v83]) {cd:Code} (hcd:loopIn 25 (Tryz.f29.body.getD .skip) = some cd)
  (cont:∀ (k1 jr:Nat) (H1:List (Nat × Ent)) (rs:List PV),rs.length = row.length → (∀ p,p < row.length → ∃ w,rs[p]? = some w ∧ IsSp w (sp (offV (.agg [d,o,r])) q i p)) → Go.Pi.look H1 jr = some ⟨8,rs⟩ → k0 ≤ jr → jr < k1 → (∀ b,b < k0 → Go.Pi.look H1 b = Go.Pi.look H0 b) → (∀ p ∈ H1,p.1 < k1) → k0 ≤ k1 →
   retK prog (specEnv prog G (OS X)) G A1 ⟨an,0⟩ k (.exit 8) ((93,.bool false) :: [14,92,1,10,91,16,90,13,85,84,9,5,54,53,52,83].zip [.int .i64 (i:Int),.int .i64 (row.length:Int),.ptr 0 0 0,.own jf 0 N,.int .i64 (row.length:Int),.own jr 0 row.length,.slice row,v13,.int .i64 (i:Int),.int .i64 (N:Int),v9,.ptr 10 0 0,v54,v53,v52,v83]) ⟨k1,H1,[]⟩) :
  loopK prog (specEnv prog G (OS X)) G A1 ⟨an,0⟩ T ⟨k0,H0,[]⟩ cd k := by
 obtain rfl := Option.some.inj (ann29.symm.trans han)
 obtain rfl := Option.some.inj ((show loopIn 25 (Tryz.f29.body.getD .skip) = some _ by rfl).symm.trans hcd)
 obtain ⟨O,hO⟩:∃ O,O = offV (.agg [d,o,r]) := ⟨_,rfl⟩
 obtain ⟨es',row',e1,g1,g2,g3,g4,g5,g6⟩ := h.row hi
 obtain rfl := PV.slice.inj (ho.symm.trans e1)
 obtain rfl := PV.slice.inj (Option.some.inj (hrow.symm.trans g1))
 subst ho
 have hsp := fun (p:Nat) (hp:p < row.length) => h.sp (i := i) (k := p) hq hi (by rw [g5]; exact hp)
 have hen := fun (p:Nat) (hp:p < row.length) => h.ends (i := i) (k := p) hq hi (by rw [g5]; exact hp)
 obtain ⟨ds,nl,na,nb,nc,rfl,m1,m2,m3,m4⟩ := h.nom hi
 have hfi := (h.fits hq).2 i
 rw [← hO] at hff g5 g6 m4 hsp hen hfi cont
 refine loopK_of (o5I O q i row k0 H0 jf N v13 v9 v54 v53 v52 v83) rfl rfl ?step row.length _ _ ?init
 case init =>
  show o5I _ _ _ _ _ _ _ _ _ _ _ _ _ _ _ (List.map _ _) _
  rw [hT]
  exact ⟨0,k0,0,H0,[],rfl,by omega,rfl,fun p hp => absurd hp (Nat.not_lt_zero _),fun h => absurd h (Nat.lt_irrefl 0),fun _ _ => rfl,hlt0,Nat.le_refl _,rfl⟩
 case step =>
 rintro n vs' st ⟨j,k,jr,H,rs,rfl,hjn,hrl,hrs,ljr,hfr,hlt,hk,rfl⟩
 have f0:Go.Pi.look H 0 = some ⟨3,[.agg [.slice ds,.slice es,r]]⟩ := (hfr 0 (by omega)).trans l0
 have ff:Go.Pi.look H jf = some ⟨4,fs⟩ := (hfr jf hjk).trans lf
 rcases Nat.eq_zero_or_pos n with hn0 | hn0
 ·have hj:j = row.length := by omega
  subst hj
  obtain ⟨t1,t2,t3⟩ := ljr (by omega)
  simp only [slv_pos g3]
  simp [tb]
  exact cont _ _ _ _ hrl hrs t1 t2 (by omega) hfr (lt_mono hlt (by omega)) (by omega)
 ·have hj:j < row.length := by omega
  have hjj:(j:Int) < row.length := by omega
  have wj:IntKind.i64.wrap ((j:Int)+1) = ((j+1:Nat):Int) := w_i64 (by omega)
  obtain ⟨wf,w1,w2⟩ := hff i (by omega)
  obtain ⟨b,m,c,u,rfl⟩ := w2.sh
  obtain ⟨⟨a1,a2,a3,a4,a5⟩,⟨b1,b2,b3,b4,b5⟩⟩ := w2.cf
  have w1' := getE w1
  have m1' := getE m1
  have hiN:i < N := by omega
  have hids:i < ds.length := by simpa [els_slice] using hi
  obtain ⟨x,y,z,hx,x1,x2,y1,y2,z1,z2⟩ := g2 _ (List.getElem_mem hj)
  have hxr:row[j]? = some (.agg [.int .i64 x,.int .i64 y,.int .i64 z]) := by rw [List.getElem?_eq_getElem hj,hx]
  have hxr' := getE hxr
  have wx:IntKind.i64.wrap (na + x) = na + x := w_i64 (by omega)
  have wy:IntKind.i64.wrap (na + y) = na + y := w_i64 (by omega)
  simp [run_draw,tb,hjj,hj,hxr,hxr',f0,ff,hiN,w1,w1',m1,m1',hids,wx,wy,a1,b1,ne60 (show jf < k by omega),ne60 (show 0 < k by omega)]
  refine dcallK_pure rfl rfl (rfrom_ok (na + x) (by omega)) fun s1 hs1 => ?_
  simp only [rfromR] at hs1
  obtain ⟨d1,d2,d3,d4,rfl⟩ := hs1.sh
  obtain ⟨⟨c1,c2,c3,c4,c5⟩,⟨c6,c7,c8,c9,c10⟩⟩ := hs1.cf
  simp [run_draw,tb]
  refine dcallK_pure rfl (by simp [PV.pureL,w2.pure,hs1.pure]) (rmul_ok _ _ _ _ w2 hs1 (hfi.mono (by omega)) ((rfits_int (by omega)).mono (by omega))) fun s2 hs2 => ?_
  simp only [rmulR,ratv_eq w2,ratv_eq hs1] at hs2
  obtain ⟨e1,e2,e3,e4,rfl⟩ := hs2.sh
  obtain ⟨⟨p1,p2,p3,p4,p5⟩,⟨p6,p7,p8,p9,p10⟩⟩ := hs2.cf
  simp [tb,p1,p3,p6,p8,a2,b2,c2,c7]
  refine ⟨logOk_code (fun q => if q = k+1+1+1+1+1+1+1+1+1+1+1+1+1+1+1+1+1+1+1+1 then 1 else 0) (by simp only [List.map_cons,List.map_nil,code,if_true,if_neg (show ¬ k+1+1+1 = k+1+1+1+1+1+1+1+1+1+1+1+1+1+1+1+1+1+1+1+1 by omega),if_neg (show ¬ jf = k+1+1+1+1+1+1+1+1+1+1+1+1+1+1+1+1+1+1+1+1 by omega),if_neg (show ¬ 0 = k+1+1+1+1+1+1+1+1+1+1+1+1+1+1+1+1+1+1+1+1 by omega)]; decide +kernel),?_⟩
  generalize eA:k+1+1+1+1+1+1+1+1+1+1+1+1+1+1+1+1+1+1+1+1 = A
  generalize eB:k+1+1+1 = B
  have hBA:B < A := by omega
  have hkB:k < B := by omega
  have Ajf:¬ A = jf := by omega
  have A0:¬ A = 0 := by omega
  have AB:¬ A = B := by omega
  have Bjf:¬ B = jf := by omega
  have B0:¬ B = 0 := by omega
  clear eA eB
  rw [run_draw]
  simp [run_draw,tb,f0,ff,hiN,w1,w1',m1,m1',hids,wx,wy,a1,b1,Ajf,A0,AB,Bjf,B0]
  refine dcallK_pure rfl rfl (rfrom_ok (na + y) (by omega)) fun s3 hs3 => ?_
  simp only [rfromR] at hs3
  obtain ⟨d1',d2',d3',d4',rfl⟩ := hs3.sh
  obtain ⟨⟨c1',c2',c3',c4',c5'⟩,⟨c6',c7',c8',c9',c10'⟩⟩ := hs3.cf
  simp [run_draw,tb]
  refine dcallK_pure rfl (by simp [PV.pureL,w2.pure,hs3.pure]) (rmul_ok _ _ _ _ w2 hs3 (hfi.mono (by omega)) ((rfits_int (by omega)).mono (by omega))) fun s4 hs4 => ?_
  simp only [rmulR,ratv_eq w2,ratv_eq hs3] at hs4
  obtain ⟨e1',e2',e3',e4',rfl⟩ := hs4.sh
  obtain ⟨⟨p1',p2',p3',p4',p5'⟩,⟨p6',p7',p8',p9',p10'⟩⟩ := hs4.cf
  simp [tb,p1',p3',p6',p8',a2,b2,c2',c7']
  refine ⟨logOk_code (fun q => if q = A+1+1+1+1+1+1+1+1+1+1+1+1+1+1+1+1+1 then 1 else 0) (by simp only [List.map_cons,List.map_nil,code,if_true,if_neg (show ¬ B = A+1+1+1+1+1+1+1+1+1+1+1+1+1+1+1+1+1 by omega),if_neg (show ¬ jf = A+1+1+1+1+1+1+1+1+1+1+1+1+1+1+1+1+1 by omega),if_neg (show ¬ 0 = A+1+1+1+1+1+1+1+1+1+1+1+1+1+1+1+1+1 by omega)]; decide +kernel),?_⟩
  generalize eC:A+1+1+1+1+1+1+1+1+1+1+1+1+1+1+1+1+1 = C
  have hAC:A < C := by omega
  have CA:¬ C = A := by omega
  have CB:¬ C = B := by omega
  have hlC:∀ p ∈ ((C,(⟨4,[PV.agg [PV.bool e1',e2',PV.bool e3',e4']]⟩:Ent)) :: (A,⟨4,[PV.agg [PV.bool e1,e2,PV.bool e3,e4]]⟩) :: (B,⟨3,[PV.agg [PV.int IntKind.i64 x,PV.int IntKind.i64 y,PV.int IntKind.i64 z]]⟩) :: H),p.1 < C+1 := cons_lt (cons_lt (cons_lt hlt (by omega) (by omega:B < A)) (by omega) hAC) (by omega) (by omega)
  have hfC:∀ q,q < B → Go.Pi.look ((C,(⟨4,[PV.agg [PV.bool e1',e2',PV.bool e3',e4']]⟩:Ent)) :: (A,⟨4,[PV.agg [PV.bool e1,e2,PV.bool e3,e4]]⟩) :: (B,⟨3,[PV.agg [PV.int IntKind.i64 x,PV.int IntKind.i64 y,PV.int IntKind.i64 z]]⟩) :: H) q = Go.Pi.look H q := fun q hq => by rw [look_cons_ne (by omega),look_cons_ne (by omega),look_cons_ne (by omega)]
  have lA:Go.Pi.look ((C,(⟨4,[PV.agg [PV.bool e1',e2',PV.bool e3',e4']]⟩:Ent)) :: (A,⟨4,[PV.agg [PV.bool e1,e2,PV.bool e3,e4]]⟩) :: (B,⟨3,[PV.agg [PV.int IntKind.i64 x,PV.int IntKind.i64 y,PV.int IntKind.i64 z]]⟩) :: H) A = some ⟨4,[PV.agg [PV.bool e1,e2,PV.bool e3,e4]]⟩ := by rw [look_cons_ne (by omega),look_one_cons]
  have lC:Go.Pi.look ((C,(⟨4,[PV.agg [PV.bool e1',e2',PV.bool e3',e4']]⟩:Ent)) :: (A,⟨4,[PV.agg [PV.bool e1,e2,PV.bool e3,e4]]⟩) :: (B,⟨3,[PV.agg [PV.int IntKind.i64 x,PV.int IntKind.i64 y,PV.int IntKind.i64 z]]⟩) :: H) C = some ⟨4,[PV.agg [PV.bool e1',e2',PV.bool e3',e4']]⟩ := look_one_cons _ _ _
  clear eC
  generalize ((C,(⟨4,[PV.agg [PV.bool e1',e2',PV.bool e3',e4']]⟩:Ent)) :: (A,⟨4,[PV.agg [PV.bool e1,e2,PV.bool e3,e4]]⟩) :: (B,⟨3,[PV.agg [PV.int IntKind.i64 x,PV.int IntKind.i64 y,PV.int IntKind.i64 z]]⟩) :: H) = HC at hlC hfC lA lC ⊢
  have hend:Alc.ends O q i j = (((O.rq q).f.getD i 0) * ((na + x:Int):Rat),((O.rq q).f.getD i 0) * ((na + y:Int):Rat)) := by
   unfold Alc.ends
   rw [m4,g6 j hj,hx]
   rfl
  have hfit := hen j hj
  rw [hend] at hfit
  have hspj:sp O q i j = (rmin (((O.rq q).f.getD i 0) * ((na + x:Int):Rat)) (((O.rq q).f.getD i 0) * ((na + y:Int):Rat)),rmax (((O.rq q).f.getD i 0) * ((na + x:Int):Rat)) (((O.rq q).f.getD i 0) * ((na + y:Int):Rat))) := by
   unfold Alc.sp
   rw [hend]
  obtain ⟨u1,u2,u3,u4⟩ := slv_ids jr j
  rw [run_draw]
  simp [run_draw,tb,lA,lC,p1,p3,p6,p8,p1',p3',p6',p8']
  refine dcallK_pure rfl (by simp [PV.pureL,hs2.pure,hs4.pure]) (rmin_ok _ _ _ _ hs2 hs4 (hfit.1.mono (by omega)) (hfit.2.mono (by omega))) fun s5 hs5 => ?_
  simp only [rminR,ratv_eq hs2,ratv_eq hs4] at hs5
  obtain ⟨q1,q2,q3,q4,rfl⟩ := hs5.sh
  obtain ⟨⟨r1,r2,r3,r4,r5⟩,⟨r6,r7,r8,r9,r10⟩⟩ := hs5.cf
  simp [run_draw,tb,lA,lC,p1,p3,p6,p8,p1',p3',p6',p8']
  refine dcallK_pure rfl (by simp [PV.pureL,hs2.pure,hs4.pure]) (rmax_ok _ _ _ _ hs2 hs4 (hfit.1.mono (by omega)) (hfit.2.mono (by omega))) fun s6 hs6 => ?_
  simp only [rmaxR,ratv_eq hs2,ratv_eq hs4] at hs6
  obtain ⟨q1',q2',q3',q4',rfl⟩ := hs6.sh
  obtain ⟨⟨r1',r2',r3',r4',r5'⟩,⟨r6',r7',r8',r9',r10'⟩⟩ := hs6.cf
  have hnew:IsSp (.agg [.bool q1,q2,.bool q3,q4,.bool q1',q2',.bool q3',q4']) (sp O q i j) := ⟨_,_,_,_,_,_,_,_,rfl,by rw [hspj]; exact hs5,by rw [hspj]; exact hs6⟩
  have next:∀ (k3 j1:Nat) (H3:List (Nat × Ent)) (rs3:List PV),Go.Pi.look H3 j1 = some ⟨8,rs3⟩ → rs3 = rs ++ [.agg [.bool q1,q2,.bool q3,q4,.bool q1',q2',.bool q3',q4']] → (∀ b,b < k0 → Go.Pi.look H3 b = Go.Pi.look H0 b) → (∀ q ∈ H3,q.1 < k3) → k0 ≤ k3 → j1 < k3 → k0 ≤ j1 → ∃ m',m' < n ∧ o5I O q i row k0 H0 jf N v13 v9 v54 v53 v52 v83 m' [.int .i64 (i:Int),.int .i64 (IntKind.i64.wrap ((j:Int)+1)),.ptr 0 0 0,.own jf 0 N,.int .i64 (row.length:Int),.own j1 0 (j+1),.slice row,v13,.int .i64 (i:Int),.int .i64 (N:Int),v9,.ptr 10 0 0,v54,v53,v52,v83] ⟨k3,H3,[]⟩ := fun k3 j1 H3 rs3 n1 n2 n3 n4 n5 n6 n7 =>
   ⟨n - 1,by omega,j+1,k3,j1,H3,rs3,by rw [wj,slv_pos (by omega)],by omega,by rw [n2]; simp [hrl],fun p hp => by
    rw [n2]
    rcases lt_succ_cases hp with hp | rfl
    ·obtain ⟨w,t1,t2⟩ := hrs p hp
     exact ⟨w,by rw [List.getElem?_append_left (by omega)]; exact t1,t2⟩
    ·exact ⟨_,by rw [List.getElem?_append_right (by omega),hrl]; simp,hnew⟩,fun _ => ⟨n1,n7,n6⟩,n3,n4,n5,rfl⟩
  rcases Nat.eq_zero_or_pos j with z | z
  ·subst z
   have sl0:slv jr 0 = .nil := rfl
   simp only [sl0]
   simp [run_draw,tb,r1,r3,r6,r8,r1',r3',r6',r8',r4,r9,r4',r9',r2,r7,r2',r7',r5,r10,r5',r10',buildSliceOp,putParts,repeatP,uniform,PV.pureL,PV.pureB,appendOp,appended,elems]
   refine ⟨logOk_free (by simp [okTri,tri,tb,p2,p7,p2',p7']),?_⟩
   have hnx := next (C+1+1+1+1+1+1+1+1+1+1+1+1+1+1+1) (C+1+1+1+1+1+1+1+1+1+1+1) _ _ (look_one_cons _ _ HC) (by rw [List.eq_nil_of_length_eq_zero hrl]) (fun b hb => by rw [look_cons_ne (by omega),hfC b (by omega)]; exact hfr b hb) (cons_lt hlC (by omega) (by omega)) (by omega) (by omega) (by omega)
   simpa using hnx
  ·rw [slv_pos z]
   obtain ⟨lj1,jk0,jk⟩ := ljr z
   have mk:(2 * (j+1)+1000) * 128 ≤ 140737488355328 := by omega
   have sx:¬ j+1 ≤ j := by omega
   have lj1' := (hfC jr (by omega)).trans lj1
   simp [run_draw,tb,r1,r3,r6,r8,r1',r3',r6',r8',r4,r9,r4',r9',r2,r7,r2',r7',r5,r10,r5',r10',buildSliceOp,putParts,repeatP,uniform,PV.pureL,PV.pureB,appendOp,appended,elems,lj1',hrl,mk,sx]
   refine ⟨logOk_free (by simp [okTri,tri,tb,p2,p7,p2',p7']),?_⟩
   exact next _ _ _ _ (look_one_cons _ _ _) rfl (fun b hb => by rw [look_cons_ne (by omega),look_del_ne (by omega),hfC b (by omega)]; exact hfr b hb) (cons_lt (del_lt hlC) (by omega) (by omega)) (by omega) (by omega) (by omega)
theorem spPure {w:PV} {p:Rat × Rat} (h:IsSp w p):w.pureB = true := by
 obtain ⟨b,m,c,u,b',m',c',u',rfl,h1,h2⟩ := h
 have e1 := h1.pure
 have e2 := h2.pure
 simp only [PV.pureB,PV.pureL,Bool.and_eq_true] at e1 e2 ⊢
 simp [e1,e2]
def RowsTo (O:Off) (q i:Nat) (ws:List PV):Prop := ws.length = i ∧ ∀ p,p < i → ∃ row,ws[p]? = some (.slice row) ∧ row.length = O.cnt p ∧ ∀ k,k < O.cnt p → ∃ x,row[k]? = some x ∧ IsSp x (sp O q p k)
noncomputable def o4I (O:Off) (q:Nat) (es:List PV) (k0:Nat) (H0:List (Nat × Ent)) (jf N:Nat) (v9 v54 v53 v52:PV):Nat → List PV → St → Prop := fun n vs st => ∃ (i k jR:Nat) (H:List (Nat × Ent)) (rs ws:List PV) (fl:List Nat),
 vs = [.ptr 0 0 0,.own jf 0 N,.int .i64 (i:Int),.int .i64 (N:Int),slv jR i,.slice es,v9,.ptr 10 0 0,v54,v53,v52] ∧ i + n = N ∧ rs.length = i ∧ mapR (reifyN (Go.Pi.look H) 3) rs = some (ws,fl) ∧ RowsTo O q i ws ∧ (∀ b ∈ fl,k0 ≤ b ∧ b < k ∧ b ≠ jR) ∧
 (0 < i → Go.Pi.look H jR = some ⟨1,rs⟩ ∧ k0 ≤ jR ∧ jR < k) ∧ (∀ b,b < k0 → Go.Pi.look H b = Go.Pi.look H0 b) ∧ (∀ p ∈ H,p.1 < k) ∧ k0 ≤ k ∧ st = ⟨k,H,[]⟩
theorem o4_ok {d o r:PV} (h:Vld d o r) {q:Nat} (hq:q < (els r).length) {es:List PV} (ho:o = .slice es) {k0 jf N:Nat} {H0:List (Nat × Ent)} (l0:Go.Pi.look H0 0 = some ⟨3,[.agg [d,o,r]]⟩) {fs:List PV} (lf:Go.Pi.look H0 jf = some ⟨4,fs⟩) (hN:N = (els d).length) (hfl:fs.length = N)
  (hff:∀ p,p < N → ∃ w,fs[p]? = some w ∧ IsRat w (((offV (.agg [d,o,r])).rq q).f.getD p 0)) (hj0:0 < jf) (hjk:jf < k0) (hlt0:∀ p ∈ H0,p.1 < k0) {X v9 v54 v53 v52:PV} {k:Kont} {an:Ann} (han:A1 29 = some an) {T:Tm}
  (hT:[1,10,85,84,13,83,9,5,54,53,52].map (lookT T) = [.ptr 0 0 0,.own jf 0 N,.int .i64 0,.int .i64 (N:Int),.nil,.slice es,v9,.ptr 10 0 0,v54,v53,v52]) {cd:Code} (hcd:loopIn 21 (Tryz.f29.body.getD .skip) = some cd)
  (cont:∀ (k1 jR:Nat) (H1:List (Nat × Ent)) (rs ws:List PV) (fl:List Nat),rs.length = N → mapR (reifyN (Go.Pi.look H1) 3) rs = some (ws,fl) → RowsTo (offV (.agg [d,o,r])) q N ws → (∀ b ∈ fl,k0 ≤ b ∧ b < k1 ∧ b ≠ jR) → Go.Pi.look H1 jR = some ⟨1,rs⟩ → k0 ≤ jR → jR < k1 → (∀ b,b < k0 → Go.Pi.look H1 b = Go.Pi.look H0 b) → (∀ p ∈ H1,p.1 < k1) → k0 ≤ k1 →
   retK prog (specEnv prog G (OS X)) G A1 ⟨an,0⟩ k (.exit 6) ((86,.bool false) :: [1,10,85,84,13,83,9,5,54,53,52].zip [.ptr 0 0 0,.own jf 0 N,.int .i64 (N:Int),.int .i64 (N:Int),.own jR 0 N,.slice es,v9,.ptr 10 0 0,v54,v53,v52]) ⟨k1,H1,[]⟩) :
  loopK prog (specEnv prog G (OS X)) G A1 ⟨an,0⟩ T ⟨k0,H0,[]⟩ cd k := by
 obtain rfl := Option.some.inj (ann29.symm.trans han)
 obtain rfl := Option.some.inj ((show loopIn 21 (Tryz.f29.body.getD .skip) = some _ by rfl).symm.trans hcd)
 obtain ⟨O,hO⟩:∃ O,O = offV (.agg [d,o,r]) := ⟨_,rfl⟩
 have hN0 := h.n0
 have hN1 := h.n1
 have hon := h.on
 rw [← hO] at cont
 refine loopK_of (o4I O q es k0 H0 jf N v9 v54 v53 v52) rfl rfl ?step N _ _ ?init
 case init =>
  show o4I _ _ _ _ _ _ _ _ _ _ _ _ (List.map _ _) _
  rw [hT]
  exact ⟨0,k0,0,H0,[],[],[],rfl,by omega,rfl,rfl,⟨rfl,fun p hp => absurd hp (Nat.not_lt_zero _)⟩,fun b hb => by simp at hb,fun h => absurd h (Nat.lt_irrefl 0),fun _ _ => rfl,hlt0,Nat.le_refl _,rfl⟩
 case step =>
 rintro n vs' st ⟨i,k,jR,H,rs,ws,fl,rfl,hin,hrl,hmp,hws,hfl2,ljR,hfr,hlt,hk,rfl⟩
 have f0:Go.Pi.look H 0 = some ⟨3,[.agg [d,o,r]]⟩ := (hfr 0 (by omega)).trans l0
 have ff:Go.Pi.look H jf = some ⟨4,fs⟩ := (hfr jf hjk).trans lf
 rcases Nat.eq_zero_or_pos n with hn0 | hn0
 ·have hi:i = N := by omega
  subst hi
  obtain ⟨t1,t2,t3⟩ := ljR (by omega)
  simp only [slv_pos (show 0 < i by omega)]
  simp [tb]
  exact cont _ _ _ _ _ _ hrl hmp hws (fun b hb => by have := hfl2 b hb; omega) t1 t2 (by omega) hfr (lt_mono hlt (by omega)) (by omega)
 ·have hi:i < N := by omega
  have hii:(i:Int) < N := by omega
  have wi:IntKind.i64.wrap ((i:Int)+1) = ((i+1:Nat):Int) := w_i64 (by omega)
  obtain ⟨es',row,e1,g1,g2,g3,g4,g5,g6⟩ := h.row (i := i) (by omega)
  obtain rfl := PV.slice.inj (ho.symm.trans e1)
  have g1' := getE g1
  have hies:i < es.length := by rw [ho,els_slice] at hon; omega
  rw [← hO] at g5
  simp [tb,hii,hi,g1,g1',hies]
  refine o5_ok h hq (i := i) (by omega) ho g1 f0 ff hN hfl hff hj0 (by omega) ?_ (v13 := slv jR i) (v9 := v9) (v54 := v54) (v53 := v53) (v52 := v52) (v83 := .slice es) ann29 rfl rfl ?_
  ·exact lt_mono hlt (by omega)
  intro k1 jr H1 rs1 a1 a2 a3 a4 a5 a6 a7 a8
  rw [← hO] at a2
  have hloc:∀ {H3:List (Nat × Ent)},(∀ b,b < k → b ≠ jR → Go.Pi.look H3 b = Go.Pi.look H b) → Go.Pi.look H3 jr = Go.Pi.look H1 jr → ∃ fl3,mapR (reifyN (Go.Pi.look H3) 3) (rs ++ [.own jr 0 row.length]) = some (ws ++ [.slice rs1],fl3) ∧ ∀ b ∈ fl3,(k0 ≤ b ∧ b < k ∧ b ≠ jR) ∨ b = jr := fun {H3} n1 n2 => by
   have m1 := mapR_local (reifyN_local 3) (hp' := Go.Pi.look H3) _ _ _ hmp fun b hb => n1 b (hfl2 b hb).2.1 (hfl2 b hb).2.2
   have m2:reifyN (Go.Pi.look H3) 3 (.own jr 0 row.length) = some (.slice rs1,[jr]) := reifyW_own (n2.trans a3) a1 (by decide) fun v hv => by
    obtain ⟨p,hp,rfl⟩ := List.mem_iff_getElem.1 hv
    obtain ⟨w,w1,w2⟩ := a2 p (by omega)
    rw [List.getElem?_eq_getElem hp] at w1
    cases w1
    exact spPure w2
   refine ⟨_,mapR_snoc m2 m1,fun b hb => ?_⟩
   rcases List.mem_append.1 hb with hb | hb
   ·exact .inl (hfl2 b hb)
   ·exact .inr (List.mem_singleton.1 hb)
  have hws2:RowsTo O q (i+1) (ws ++ [.slice rs1]) := by
   refine ⟨by simp [hws.1],fun p hp => ?_⟩
   rcases lt_succ_cases hp with hp | rfl
   ·obtain ⟨w,t1,t2⟩ := hws.2 p hp
    exact ⟨w,by rw [List.getElem?_append_left (by rw [hws.1]; omega)]; exact t1,t2⟩
   ·exact ⟨rs1,by rw [List.getElem?_append_right (by rw [hws.1]; omega),hws.1]; simp,by rw [a1,g5],fun t ht => a2 t (by omega)⟩
  have next:∀ (k3 j1:Nat) (H3:List (Nat × Ent)),Go.Pi.look H3 j1 = some ⟨1,rs ++ [.own jr 0 row.length]⟩ → (∀ b,b < k → b ≠ jR → Go.Pi.look H3 b = Go.Pi.look H b) → Go.Pi.look H3 jr = Go.Pi.look H1 jr → (∀ b,b < k0 → Go.Pi.look H3 b = Go.Pi.look H0 b) → (∀ q ∈ H3,q.1 < k3) → k1 ≤ j1 → j1 < k3 → ∃ m',m' < n ∧ o4I O q es k0 H0 jf N v9 v54 v53 v52 m' [.ptr 0 0 0,.own jf 0 N,.int .i64 (IntKind.i64.wrap ((i:Int)+1)),.int .i64 (N:Int),.own j1 0 (i+1),.slice es,v9,.ptr 10 0 0,v54,v53,v52] ⟨k3,H3,[]⟩ := fun k3 j1 H3 n1 n2 n3 n4 n5 n6 n7 => by
   obtain ⟨fl3,e3,e4⟩ := hloc n2 n3
   exact ⟨n - 1,by omega,i+1,k3,j1,H3,_,_,_,by rw [wi,slv_pos (by omega)],by omega,by simp [hrl],e3,hws2,fun b hb => by rcases e4 b hb with e | e <;> omega,fun _ => ⟨n1,by omega,n7⟩,n4,n5,by omega,rfl⟩
  rcases Nat.eq_zero_or_pos i with z | z
  ·subst z
   have sl0:slv jR 0 = .nil := rfl
   simp only [sl0]
   simp [run_draw,tb,buildSliceOp,putParts,repeatP,uniform,PV.pureL,PV.pureB,appendOp,appended,elems]
   have hnx := next (k1+1+1+1+1+1+1+1) (k1+1+1+1) ((k1+1+1+1,⟨1,[.own jr 0 row.length]⟩) :: (k1+1+1,⟨1,[.own jr 0 row.length]⟩) :: H1) (by rw [look_one_cons,List.eq_nil_of_length_eq_zero hrl]; rfl) (fun b hb hb2 => by rw [look_cons_ne (by omega),look_cons_ne (by omega)]; exact a6 b (by omega)) (by rw [look_cons_ne (by omega),look_cons_ne (by omega)]) (fun b hb => by rw [look_cons_ne (by omega),look_cons_ne (by omega),a6 b (by omega)]; exact hfr b hb) (cons_lt (m := k1+1+1+1+1+1+1+1) (cons_lt (m := k1+1+1+1) a7 (by omega) (by omega)) (by omega) (by omega)) (by omega) (by omega)
   simpa using hnx
  ·rw [slv_pos z]
   obtain ⟨lj1,jk0,jk⟩ := ljR z
   have mk:(2 * (i+1)+1000) * 24 ≤ 140737488355328 := by omega
   have sx:¬ i+1 ≤ i := by omega
   have lj1' := (a6 jR (by omega)).trans lj1
   simp [run_draw,tb,buildSliceOp,putParts,repeatP,uniform,PV.pureL,PV.pureB,appendOp,appended,elems,lj1',hrl,mk,sx,(show ¬ k1+1+1 = jR by omega)]
   exact next _ _ _ (by rw [look_one_cons]) (fun b hb hb2 => by rw [look_cons_ne (by omega),look_del_ne (by omega),look_cons_ne (by omega)]; exact a6 b (by omega)) (by rw [look_cons_ne (by omega),look_del_ne (by omega),look_cons_ne (by omega)]) (fun b hb => by rw [look_cons_ne (by omega),look_del_ne (by omega),look_cons_ne (by omega),a6 b (by omega)]; exact hfr b hb) (cons_lt (del_lt (cons_lt (m := k1+1+1+1) a7 (by omega) (by omega))) (by omega) (by omega)) (by omega) (by omega)
noncomputable def fcs (N:Nat) (ts:List PV) (t:Nat):List Rat := (ts.take t).foldl setF (List.replicate N 0)
theorem fcs_len (N:Nat) (ts:List PV) (t:Nat):(fcs N ts t).length = N := by unfold fcs; rw [facs_len]; simp
theorem fcs_succ {N:Nat} {ts:List PV} {t:Nat} {d:Int} {l:List UInt8} {x:Rat} (ht:ts[t]? = some (.agg [.int .i64 d,.str (ba l)])) (hx:numT l = some x):fcs N ts (t+1) = (fcs N ts t).set d.toNat x := by
 unfold fcs
 rw [List.take_add_one,ht]
 simp only [Option.toList_some,List.foldl_append,List.foldl_cons,List.foldl_nil]
 rw [setF]
 simp only [ba_list,hx,Option.getD_some]
noncomputable def o3I (ts:PV) (N:Nat) (k0:Nat) (H0:List (Nat × Ent)) (jf:Nat) (v9 v54 v53 v52:PV):Nat → List PV → St → Prop := fun n vs st => ∃ (t k:Nat) (H:List (Nat × Ent)) (fs:List PV),
 vs = [.int .i64 (t:Int),.int .i64 ((els ts).length:Int),.own jf 0 N,ts,.ptr 0 0 0,v9,.ptr 10 0 0,v54,v53,v52] ∧ t + n = (els ts).length ∧ Go.Pi.look H jf = some ⟨4,fs⟩ ∧ fs.length = N ∧ (∀ p,p < N → ∃ w,fs[p]? = some w ∧ IsRat w ((fcs N (els ts) t).getD p 0)) ∧
 (∀ b,b < k0 → b ≠ jf → Go.Pi.look H b = Go.Pi.look H0 b) ∧ (∀ p ∈ H,p.1 < k) ∧ k0 ≤ k ∧ st = ⟨k,H,[]⟩
theorem o3_ok (lib:ReadLib G) {ts:PV} {N:Nat} (hts:Lst (TermOk N) ts) (htl:(els ts).length ≤ 64) {k0 jf:Nat} {H0:List (Nat × Ent)} {fs0:List PV} (lf:Go.Pi.look H0 jf = some ⟨4,fs0⟩) (hfl0:fs0.length = N) (hff:∀ p,p < N → ∃ w,fs0[p]? = some w ∧ IsRat w 0) (hjk:jf < k0) (hlt0:∀ p ∈ H0,p.1 < k0) {X v9 v54 v53 v52:PV} {k:Kont} {an:Ann} (han:A1 29 = some an) {T:Tm}
  (hT:[67,66,10,65,1,9,5,54,53,52].map (lookT T) = [.int .i64 0,.int .i64 ((els ts).length:Int),.own jf 0 N,ts,.ptr 0 0 0,v9,.ptr 10 0 0,v54,v53,v52]) {cd:Code} (hcd:loopIn 15 (Tryz.f29.body.getD .skip) = some cd)
  (cont:∀ (k1:Nat) (H1:List (Nat × Ent)) (fs:List PV),Go.Pi.look H1 jf = some ⟨4,fs⟩ → fs.length = N → (∀ p,p < N → ∃ w,fs[p]? = some w ∧ IsRat w ((facs N (els ts)).getD p 0)) → (∀ b,b < k0 → b ≠ jf → Go.Pi.look H1 b = Go.Pi.look H0 b) → (∀ p ∈ H1,p.1 < k1) → k0 ≤ k1 →
   retK prog (specEnv prog G (OS X)) G A1 ⟨an,0⟩ k (.exit 4) ((68,.bool false) :: [67,66,10,65,1,9,5,54,53,52].zip [.int .i64 ((els ts).length:Int),.int .i64 ((els ts).length:Int),.own jf 0 N,ts,.ptr 0 0 0,v9,.ptr 10 0 0,v54,v53,v52]) ⟨k1,H1,[]⟩) :
  loopK prog (specEnv prog G (OS X)) G A1 ⟨an,0⟩ T ⟨k0,H0,[]⟩ cd k := by
 obtain rfl := Option.some.inj (ann29.symm.trans han)
 obtain rfl := Option.some.inj ((show loopIn 15 (Tryz.f29.body.getD .skip) = some _ by rfl).symm.trans hcd)
 refine loopK_of (o3I ts N k0 H0 jf v9 v54 v53 v52) rfl rfl ?step (els ts).length _ _ ?init
 case init =>
  show o3I _ _ _ _ _ _ _ _ _ _ (List.map _ _) _
  rw [hT]
  refine ⟨0,k0,H0,fs0,rfl,by omega,lf,hfl0,fun p hp => ?_,fun _ _ _ => rfl,hlt0,Nat.le_refl _,rfl⟩
  obtain ⟨w,w1,w2⟩ := hff p hp
  refine ⟨w,w1,?_⟩
  have:(fcs N (els ts) 0).getD p 0 = 0 := by
   unfold fcs
   simp only [List.take_zero,List.foldl_nil,List.getD,List.getElem?_replicate]
   split <;> rfl
  rw [this]
  exact w2
 case step =>
 rintro n vs' st ⟨t,k,H,fs,rfl,htn,ljf,hfl,hfs,hfr,hlt,hk,rfl⟩
 rcases Nat.eq_zero_or_pos n with hn0 | hn0
 ·have ht:t = (els ts).length := by omega
  subst ht
  simp [tb]
  refine cont _ _ _ ljf hfl ?_ hfr (lt_mono hlt (by omega)) (by omega)
  have:fcs N (els ts) (els ts).length = facs N (els ts) := by unfold fcs facs; rw [List.take_length]
  rw [← this]
  exact hfs
 ·have ht:t < (els ts).length := by omega
  have htt:(t:Int) < (els ts).length := by omega
  have wt:IntKind.i64.wrap ((t:Int)+1) = ((t+1:Nat):Int) := w_i64 (by omega)
  obtain ⟨es,w,rfl,g1,d,l,rfl,d0,d1,nl,x,hx⟩ := hts.at ht
  simp only [els_slice] at ht htt
  have g1' := getE g1
  obtain ⟨dn,rfl⟩ := Int.eq_ofNat_of_zero_le d0
  have hdN:dn < N := by omega
  have hs := fcs_succ (N := N) g1 (numT_some hx)
  rw [Int.toNat_natCast] at hs
  have lus:∀ E,Go.Pi.look (Go.Pi.upd H jf E) jf = some E := fun E => look_upd_same ljf
  simp [run_draw,tb,els_slice,htt,ht,g1,g1',ljf,hdN,ne30 (show jf < k by omega)]
  refine dcallK_pure rfl rfl (Parse_ok lib l nl) fun y hy => ?_
  simp only [readR,ba_list] at hy
  obtain ⟨b,m,c,u,e,x',rfl,hy1,hy2⟩ := hy.cases
  obtain ⟨⟨a1,a2,a3,a4,a5⟩,⟨b1,b2,b3,b4,b5⟩⟩ := hy1.cf
  rcases hy2 with ⟨rfl,hy2⟩ | ⟨he,hy2⟩
  case inr => exact absurd hx (hy2 x)
  obtain rfl := hy2.inj hx
  obtain ⟨wd,wd1,wd2⟩ := hfs dn hdN
  obtain ⟨h1,h2,h3,h4,rfl⟩ := wd2.sh
  simp [run_draw,tb,els_slice,a1,b1,a3,b3,ljf,hdN,wd1,ne30 (show jf < k by omega)]
  refine ⟨logOk_free (by simp [okTri,tri,tb]),n - 1,by omega,t+1,_,_,fs.set dn (.agg [.bool b,m,.bool c,u]),by rw [wt]; rfl,by omega,?_,by simp [hfl],fun p hp => ?_,fun b hb hb2 => ?_,?_,?_,rfl⟩
  ·rw [look_cons_ne (by omega)]; exact look_upd_same ljf
  ·rw [els_slice]
   rw [hs]
   by_cases hpd:p = dn
   ·subst hpd
    refine ⟨.agg [.bool b,m,.bool c,u],by rw [List.getElem?_set]; simp [hfl,hp],?_⟩
    have:((fcs N es t).set p x').getD p 0 = x' := by simp [List.getD,List.getElem?_set,fcs_len,hp]
    rw [this]
    exact hy1
   ·obtain ⟨w,w1,w2⟩ := hfs p hp
    rw [els_slice] at w2
    refine ⟨w,by rw [List.getElem?_set_ne (fun e => hpd e.symm)]; exact w1,?_⟩
    have:((fcs N es t).set dn x').getD p 0 = (fcs N es t).getD p 0 := by simp only [List.getD]; rw [List.getElem?_set_ne (fun e => hpd e.symm)]
    rw [this]
    exact w2
  ·rw [look_cons_ne (by omega),look_upd_ne (by omega)]; exact hfr b hb hb2
  ·exact cons_lt (upd_lt hlt) (by omega) (by omega)
  ·omega
end Go.Proofs.Tryz
