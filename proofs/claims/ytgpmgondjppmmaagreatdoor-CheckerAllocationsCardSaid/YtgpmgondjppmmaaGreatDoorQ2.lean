/- The machine on symbols: allocation.open's outer loop. No condition. -/
import Derived.Test.YtgpmgondjppmmaaGreatDoorQ1
set_option linter.unnecessarySimpa false
set_option linter.unusedSectionVars false
set_option linter.unusedSimpArgs false
set_option linter.unusedVariables false
set_option maxHeartbeats 8000000
set_option maxRecDepth 100000
namespace Go.Proofs.Tryz
open Go Go.Pi Go.Num Go.Lin Go.Alc
variable [Hole] {G:Nat → Option PV}
attribute [local simp] slice3Op clearOp
structure SaidTo (O:Off) (k0:Nat) (H0:List (Nat × Ent)) (X:List PV) (jh:PV) (q k js jc:Nat) (H:List (Nat × Ent)) (ss cs ws:List PV) (fl:List Nat):Prop where
 desk:Go.Pi.look H 10 = some ⟨6,[.agg (X ++ [slv js q,slv jc q,jh])]⟩
 sl:ss.length = q
 cl:cs.length = q
 wl:ws.length = q
 map:mapR (reifyN (Go.Pi.look H) 4) ss = some (ws,fl)
 rows:∀ p,p < q → ∃ w,ws[p]? = some w ∧ IsRows O p w
 fls:∀ b ∈ fl,k0 ≤ b ∧ b < k ∧ b ≠ js ∧ b ≠ jc
 own:0 < q → Go.Pi.look H js = some ⟨1,ss⟩ ∧ Go.Pi.look H jc = some ⟨4,cs⟩ ∧ k0 ≤ js ∧ js < k ∧ k0 ≤ jc ∧ jc < k ∧ js ≠ jc
 consts:∀ p,p < q → ∃ w,cs[p]? = some w ∧ IsRat w (O.rq p).c
 fr:∀ b,b < k0 → b ≠ 10 → Go.Pi.look H b = Go.Pi.look H0 b
 lt:∀ p ∈ H,p.1 < k
 le:k0 ≤ k
noncomputable def o2I (O:Off) (M:Nat) (k0:Nat) (H0:List (Nat × Ent)) (d o r jh:PV):Nat → List PV → St → Prop := fun n vs st => ∃ (q k js jc:Nat) (H:List (Nat × Ent)) (ss cs ws:List PV) (fl:List Nat),
 vs = [.ptr 0 0 0,.ptr 10 0 0,.int .i64 (q:Int),.int .i64 (M:Int),r] ∧ q + n = M ∧ SaidTo O k0 H0 [d,o,r] jh q k js jc H ss cs ws fl ∧ st = ⟨k,H,[]⟩
theorem o2_ok (lib:ReadLib G) {d o r jh:PV} (h:Vld d o r) {M:Nat} (hM:M = (els r).length) {k0:Nat} {H0:List (Nat × Ent)} (l0:Go.Pi.look H0 0 = some ⟨3,[.agg [d,o,r]]⟩) (l10:Go.Pi.look H0 10 = some ⟨6,[.agg [d,o,r,.nil,.nil,jh]]⟩) (hk0:10 < k0) (hlt0:∀ p ∈ H0,p.1 < k0) (hjh:jh.cellOk = true ∧ jh.cells = [jh] ∧ jh.isTop = false) {k:Kont} {an:Ann} (han:A1 29 = some an) {T:Tm}
  (hT:[1,5,54,53,52].map (lookT T) = [.ptr 0 0 0,.ptr 10 0 0,.int .i64 0,.int .i64 (M:Int),r]) {cd:Code} (hcd:loopIn 11 (Tryz.f29.body.getD .skip) = some cd)
  (cont:∀ (k1 js jc:Nat) (H1:List (Nat × Ent)) (ss cs ws:List PV) (fl:List Nat),SaidTo (offV (.agg [d,o,r])) k0 H0 [d,o,r] jh M k1 js jc H1 ss cs ws fl →
   retK prog (specEnv prog G (OS (.agg [d,o,r]))) G A1 ⟨an,0⟩ k (.exit 2) ((55,.bool false) :: [1,5,54,53,52].zip [.ptr 0 0 0,.ptr 10 0 0,.int .i64 (M:Int),.int .i64 (M:Int),r]) ⟨k1,H1,[]⟩) :
  loopK prog (specEnv prog G (OS (.agg [d,o,r]))) G A1 ⟨an,0⟩ T ⟨k0,H0,[]⟩ cd k := by
 obtain rfl := Option.some.inj (ann29.symm.trans han)
 obtain rfl := Option.some.inj ((show loopIn 11 (Tryz.f29.body.getD .skip) = some _ by rfl).symm.trans hcd)
 obtain ⟨O,hO⟩:∃ O,O = offV (.agg [d,o,r]) := ⟨_,rfl⟩
 have hON:O.n = (els d).length := by rw [hO]; exact h.n
 have hN0 := h.n0
 have hN1 := h.n1
 have hM1 := h.m1
 have hon := h.on
 obtain ⟨d1,d2,d3,d4,d5⟩ := h.dim.cell
 obtain ⟨o1,o2,o3,o4,o5⟩ := h.opt.cell
 obtain ⟨r1,r2,r3,r4,r5⟩ := h.req.cell
 obtain ⟨jh1,jh2,jh3⟩ := hjh
 have ld := h.dim.len
 obtain ⟨os,_,ho,_,_⟩ := h.opt.at (i := 0) (by omega)
 subst ho
 rw [← hO] at cont
 refine loopK_of (o2I O M k0 H0 d (.slice os) r jh) rfl rfl ?step M _ _ ?init
 case init =>
  show o2I _ _ _ _ _ _ _ _ _ (List.map _ _) _
  rw [hT]
  exact ⟨0,k0,0,0,H0,[],[],[],[],rfl,by omega,⟨l10,rfl,rfl,rfl,rfl,fun p hp => absurd hp (Nat.not_lt_zero _),fun b hb => by simp at hb,fun h => absurd h (Nat.lt_irrefl 0),fun p hp => absurd hp (Nat.not_lt_zero _),fun _ _ _ => rfl,hlt0,Nat.le_refl _⟩,rfl⟩
 case step =>
 rintro n vs' st ⟨q,k,js,jc,H,ss,cs,ws,fl,rfl,hqn,S,rfl⟩
 have f0:Go.Pi.look H 0 = some ⟨3,[.agg [d,.slice os,r]]⟩ := (S.fr 0 (by omega) (by omega)).trans l0
 have hk := S.le
 have hlt := S.lt
 rcases Nat.eq_zero_or_pos n with hn0 | hn0
 ·have hq:q = M := by omega
  subst hq
  simp [tb]
  exact cont _ _ _ _ _ _ _ _ { S with fls := fun b hb => by have := S.fls b hb; omega,own := fun h => by have := S.own h; refine ⟨this.1,this.2.1,?_⟩; omega,lt := lt_mono hlt (by omega),le := by omega }
 ·have hq:q < M := by omega
  have hqq:(q:Int) < M := by omega
  have wq:IntKind.i64.wrap ((q:Int)+1) = ((q+1:Nat):Int) := w_i64 (by omega)
  obtain ⟨es,nm,op,c,ts,fc,ar,lo',hi',rfl,g1,g2,g3,g4,g5,g6,⟨g71,g72,g73,g74,g75⟩,g8⟩ := h.rq (q := q) (by omega)
  rw [← hO] at g8
  have g1' := getE g1
  have hqes:q < es.length := by rw [els_slice] at hM; omega
  obtain ⟨t1,t2,t3,t4,t5⟩ := g3.cell
  have lts := g3.len
  have mk1:(els d).length < 9223372036854775808 := by omega
  have mk2:(els d).length * 64 ≤ 140737488355328 := by omega
  obtain ⟨N,hN⟩:∃ N,N = (els d).length := ⟨_,rfl⟩
  rw [← hN] at mk1 mk2 ld g3 g8 hON hN0 hN1
  simp [tb,hqq,hq,g1,g1',hqes,f0,ld,t1,t2,t3,g71,g72,g73,g74,mk1,mk2,lts,(show ¬ k+1+1+1+1+1 = k by omega),ne30 (show 0 < k by omega)]
  refine o3_ok lib g3 g4 (k0 := k+1+1+1+1+1+1+1+1+1+1+1+1+1+1+1+1) (H0 := (k+1+1+1+1+1+1+1+1,⟨4,repeatP (PV.agg [PV.bool false,PV.nil,PV.bool false,PV.nil]) N⟩) :: (k+1+1+1,⟨8,[PV.agg [PV.str (ba nm),PV.int IntKind.i64 op,PV.str (ba c),ts,PV.str (ba fc),ar,PV.str (ba lo'),PV.str (ba hi')]]⟩) :: H) (look_one_cons _ _ _) ?_ ?_ (by omega) ?_ (v9 := .ptr (k+1+1+1) 0 0) (v54 := .int .i64 (q:Int)) (v53 := .int .i64 (M:Int)) (v52 := .slice es) ann29 rfl rfl ?_
  ·rw [rep_eq,List.length_replicate]
  ·exact fun p hp => ⟨_,by rw [rep_eq,List.getElem?_replicate,if_pos hp]; rfl,isRat_zero⟩
  ·exact cons_lt (m := k+1+1+1+1+1+1+1+1+1+1+1+1+1+1+1+1) (cons_lt (m := k+1+1+1+1+1) hlt (by omega) (by omega)) (by omega) (by omega)
  intro k1 H1 fs a1 a2 a3 a4 a5 a6
  generalize eF:k+1+1+1+1+1+1+1+1 = F at a1 a4 ⊢
  generalize eB:k+1+1+1 = B at a4 ⊢
  have f01:Go.Pi.look H1 0 = some ⟨3,[.agg [d,.slice os,.slice es]]⟩ := by rw [a4 0 (by omega) (by omega),look_cons_ne (by omega),look_cons_ne (by omega)]; exact f0
  have fB1:Go.Pi.look H1 B = some ⟨8,[PV.agg [PV.str (ba nm),PV.int IntKind.i64 op,PV.str (ba c),ts,PV.str (ba fc),ar,PV.str (ba lo'),PV.str (ba hi')]]⟩ := by rw [a4 B (by omega) (by omega),look_cons_ne (by omega),look_one_cons]
  have fr1:∀ b,b < k → Go.Pi.look H1 b = Go.Pi.look H b := fun b hb => by rw [a4 b (by omega) (by omega),look_cons_ne (by omega),look_cons_ne (by omega)]
  have lo:os.length = N := by rw [els_slice] at hon; omega
  simp [tb,f01,lo]
  refine o4_ok h (q := q) (by omega) rfl (k0 := k1+1+1+1+1+1) (H0 := H1) f01 a1 hN a2 (by rw [← hO,g8]; exact a3) (by omega) (by omega) (lt_mono a5 (by omega)) (v9 := .ptr B 0 0) (v54 := .int .i64 (q:Int)) (v53 := .int .i64 (M:Int)) (v52 := .slice es) ann29 rfl rfl ?_
  intro k2 jR H2 rs ws2 fl2 b1 b2 b3 b4 b5 b6 b7 b8 b9 b10
  rw [← hO] at b3
  have fB2 := (b8 B (by omega)).trans fB1
  have fr2:∀ b,b < k → Go.Pi.look H2 b = Go.Pi.look H b := fun b hb => (b8 b (by omega)).trans (fr1 b hb)
  have fD2:Go.Pi.look H2 10 = some ⟨6,[.agg [d,.slice os,.slice es,slv js q,slv jc q,jh]]⟩ := (fr2 10 (by omega)).trans S.desk
  simp [tb,fB2]
  refine callK_pure rfl rfl (Parse_ok lib c g2.1) fun y hy => ?_
  obtain ⟨x,hx⟩ := g2.2
  simp only [readR,ba_list] at hy
  obtain ⟨b,m,c',u,e,x',rfl,hy1,hy2⟩ := hy.cases
  obtain ⟨⟨c1,c2,c3,c4,c5⟩,⟨e1,e2,e3,e4,e5⟩⟩ := hy1.cf
  rcases hy2 with ⟨rfl,hy2⟩ | ⟨he,hy2⟩
  case inr => exact absurd hx (hy2 x)
  obtain rfl := hy2.inj hx
  have hcq:(O.rq q).c = x' := by rw [g8]; simp only [numT_some hx,Option.getD_some]
  simp [tb,c1,e1,c3,e3,c4,e4]
  generalize eE:k2+1+1+1+1+1+1+1+1 = E
  obtain ⟨H3,hH3⟩:∃ H3,H3 = (E,(⟨4,[PV.agg [PV.bool b,m,PV.bool c',u]]⟩:Ent)) :: H2 := ⟨_,rfl⟩
  rw [← hH3]
  have lt3:∀ p ∈ H3,p.1 < E+1 := by rw [hH3]; exact cons_lt b9 (by omega) (by omega)
  have fr3:∀ q,q < E → Go.Pi.look H3 q = Go.Pi.look H2 q := fun q hq => by rw [hH3,look_cons_ne (by omega)]
  have fE3:Go.Pi.look H3 E = some ⟨4,[PV.agg [PV.bool b,m,PV.bool c',u]]⟩ := by rw [hH3,look_one_cons]
  have fD3 := (fr3 10 (by omega)).trans fD2
  clear hH3
  have lus:∀ E',Go.Pi.look (Go.Pi.upd H3 10 E') 10 = some E' := fun E' => look_upd_same fD3
  obtain ⟨u1,u2,u3,u4⟩ := slv_ids js q
  obtain ⟨v1,v2,v3,v4⟩ := slv_ids jc q
  rw [run_draw]
  have next:∀ (k3 js3 jc3:Nat) (H4:List (Nat × Ent)),Go.Pi.look H4 10 = some ⟨6,[.agg [d,.slice os,.slice es,.own js3 0 (q+1),.own jc3 0 (q+1),jh]]⟩ → Go.Pi.look H4 js3 = some ⟨1,ss ++ [.own jR 0 N]⟩ → Go.Pi.look H4 jc3 = some ⟨4,cs ++ [PV.agg [PV.bool b,m,PV.bool c',u]]⟩ → (∀ b,b < E → b ≠ 10 → (0 < q → b ≠ js ∧ b ≠ jc) → Go.Pi.look H4 b = Go.Pi.look H2 b) → (∀ p ∈ H4,p.1 < k3) → E ≤ js3 → js3 < k3 → E ≤ jc3 → jc3 < k3 → js3 ≠ jc3 →
    ∃ m',m' < n ∧ o2I O M k0 H0 d (.slice os) (.slice es) jh m' [.ptr 0 0 0,.ptr 10 0 0,.int .i64 (IntKind.i64.wrap ((q:Int)+1)),.int .i64 (M:Int),.slice es] ⟨k3,H4,[]⟩ := fun k3 js3 jc3 H4 n1 n2 n3 n4 n5 n6 n7 n8 n9 n10 => by
   have ow:∀ b,k ≤ b → 0 < q → b ≠ js ∧ b ≠ jc := fun b hb hq => by have := S.own hq; omega
   have m1 := mapR_local (reifyN_local 4) (hp' := Go.Pi.look H4) _ _ _ S.map fun b hb => by
    have := S.fls b hb
    rw [n4 b (by omega) (by omega) (fun _ => by omega)]
    exact fr2 b (by omega)
   have m2 := mapR_local (reifyN_local 3) (hp' := Go.Pi.look H4) _ _ _ b2 fun b hb => by
    have := b4 b hb
    exact n4 b (by omega) (by omega) (ow b (by omega))
   have m3 := rd_own (hp := Go.Pi.look H4) ((n4 jR (by omega) (by omega) (ow jR (by omega))).trans b5) b1 (by decide) m2
   refine ⟨n - 1,by omega,q+1,k3,js3,jc3,H4,_,_,_,_,by rw [wq],by omega,⟨?_,by simp [S.sl],by simp [S.cl],by simp [S.wl],mapR_snoc m3 m1,fun p hp => ?_,fun b hb => ?_,fun _ => ⟨n2,n3,by omega,n7,by omega,n9,n10⟩,fun p hp => ?_,fun b hb hb2 => ?_,n5,by omega⟩,rfl⟩
   ·rw [slv_pos (by omega),slv_pos (by omega)]; exact n1
   ·rcases lt_succ_cases hp with hp | rfl
    ·obtain ⟨w,t1,t2⟩ := S.rows p hp
     exact ⟨w,by rw [List.getElem?_append_left (by rw [S.wl]; omega)]; exact t1,t2⟩
    ·exact ⟨.slice ws2,by rw [List.getElem?_append_right (by rw [S.wl]; omega),S.wl]; simp,ws2,rfl,by rw [b3.1,hON],fun i hi => b3.2 i (by omega)⟩
   ·rcases List.mem_append.1 hb with hb | hb
    ·have := S.fls b hb; omega
    ·rcases List.mem_cons.1 hb with rfl | hb
     ·omega
     ·have := b4 b hb; omega
   ·rcases lt_succ_cases hp with hp | rfl
    ·obtain ⟨w,t1,t2⟩ := S.consts p hp
     exact ⟨w,by rw [List.getElem?_append_left (by rw [S.cl]; omega)]; exact t1,t2⟩
    ·exact ⟨.agg [.bool b,m,.bool c',u],by rw [List.getElem?_append_right (by rw [S.cl]; omega),S.cl]; simp,by rw [hcq]; exact hy1⟩
   ·rw [n4 b (by omega) hb2 (fun h => by have := S.own h; omega),fr2 b (by omega)]; exact S.fr b hb hb2
  rcases Nat.eq_zero_or_pos q with z | z
  ·subst z
   have sl0:slv js 0 = .nil := rfl
   have sl1:slv jc 0 = .nil := rfl
   rw [sl0,sl1] at fD3
   obtain rfl := List.eq_nil_of_length_eq_zero S.sl
   obtain rfl := List.eq_nil_of_length_eq_zero S.cl
   simp only [sl0,sl1]
   simp [tb,fD3,fE3,lus,jh1,jh2,jh3,d1,d2,d3,c1,c3,c4,c5,e1,e3,e4,e5,buildSliceOp,putParts,repeatP,uniform,PV.pureL,PV.pureB,appendOp,appended,elems,(show ¬ E+1+1+1+1+1+1+1+1+1+1 = E by omega),(show ¬ E+1+1+1+1+1+1+1+1+1+1+1 = E by omega),(show ¬ E+1+1+1+1+1+1+1+1+1+1+1+1 = E by omega),(show ¬ E+1+1+1+1+1+1+1+1+1+1+1+1+1 = E by omega),(show ¬ E+1+1+1+1+1+1+1+1+1+1+1+1+1+1 = E by omega),(show ¬ E+1+1+1+1+1+1+1+1+1+1+1+1+1+1+1 = E by omega),(show ¬ E+1+1+1+1+1+1+1+1+1+1+1+1+1+1+1+1 = E by omega),(show ¬ E+1+1+1+1+1+1+1+1+1+1+1+1+1+1+1+1+1 = E by omega),(show ¬ E+1+1+1+1+1+1+1+1+1+1+1+1+1+1+1+1+1+1 = E by omega),(show ¬ E+1+1+1+1+1+1+1+1+1+1+1+1+1+1+1+1+1+1+1 = E by omega),(show ¬ E+1+1+1+1+1+1+1+1+1+1+1+1+1+1+1+1+1+1+1+1 = E by omega),(show ¬ E+1+1+1+1+1+1+1+1+1+1+1+1+1+1+1+1+1+1+1+1+1 = E by omega),ne30 (show 10 < E by omega)]
   refine ⟨logOk_code (fun x => if x = 10 then 0 else if x = E then 1 else if x = E+1+1+1+1+1+1+1+1+1+1 then 2 else if x = E+1+1+1+1+1+1+1+1+1+1+1 then 3 else 4) (by simp [code,tb,ne30 (show 10 < E by omega),(show ¬ E+1 = E by omega),(show ¬ E+1+1 = E by omega),(show ¬ E+1+1+1 = E by omega),(show ¬ E+1+1+1+1 = E by omega),(show ¬ E+1+1+1+1+1 = E by omega),(show ¬ E+1+1+1+1+1+1 = E by omega),(show ¬ E+1+1+1+1+1+1+1 = E by omega),(show ¬ E+1+1+1+1+1+1+1+1 = E by omega),(show ¬ E+1+1+1+1+1+1+1+1+1 = E by omega),(show ¬ E+1+1+1+1+1+1+1+1+1+1 = E by omega),(show ¬ E+1+1+1+1+1+1+1+1+1+1+1 = E by omega),(show ¬ E+1+1+1+1+1+1+1+1+1+1+1+1 = E by omega),(show ¬ E+1+1+1+1+1+1+1+1+1+1+1+1+1 = E by omega),(show ¬ E+1+1+1+1+1+1+1+1+1+1+1+1+1+1 = E by omega),(show ¬ E+1+1+1+1+1+1+1+1+1+1+1+1+1+1+1 = E by omega),(show ¬ E+1+1+1+1+1+1+1+1+1+1+1+1+1+1+1+1 = E by omega),(show ¬ E+1+1+1+1+1+1+1+1+1+1+1+1+1+1+1+1+1 = E by omega),(show ¬ E+1+1+1+1+1+1+1+1+1+1+1+1+1+1+1+1+1+1 = E by omega),(show ¬ E+1+1+1+1+1+1+1+1+1+1+1+1+1+1+1+1+1+1+1 = E by omega),(show ¬ E+1+1+1+1+1+1+1+1+1+1+1+1+1+1+1+1+1+1+1+1 = E by omega),(show ¬ E+1+1+1+1+1+1+1+1+1+1+1+1+1+1+1+1+1+1+1+1+1 = E by omega)]; decide +kernel),?_⟩
   refine next _ (E+1+1+1+1+1+1+1+1+1+1+1) (E+1+1+1+1+1+1+1+1+1+1+1+1+1+1+1+1+1+1) _ ?_ ?_ ?_ ?_ ?_ (by omega) (by omega) (by omega) (by omega) (by omega)
   ·rw [look_cons_ne (by omega),look_cons_ne (by omega),look_cons_ne (by omega)]; exact look_upd_same (lus _)
   ·rw [look_cons_ne (by omega),look_one_cons]; rfl
   ·rw [look_one_cons]; rfl
   ·exact fun b hb hb2 _ => by rw [look_cons_ne (by omega),look_cons_ne (by omega),look_cons_ne (by omega),look_upd_ne (by omega),look_upd_ne (by omega)]; exact fr3 b hb
   ·exact cons_lt (m := E+1+1+1+1+1+1+1+1+1+1+1+1+1+1+1+1+1+1+1+1+1+1+1+1+1+1+1) (cons_lt (m := E+1+1+1+1+1+1+1+1+1+1+1+1) (cons_lt (m := E+1+1+1+1+1+1+1+1+1+1+1) (upd_lt (upd_lt lt3)) (by omega) (by omega)) (by omega) (by omega)) (by omega) (by omega)
  ·rw [slv_pos z,slv_pos z] at *
   obtain ⟨s1,s2,s3,s4,s5,s6,s7⟩ := S.own z
   have fs3 := (fr3 js (by omega)).trans ((fr2 js s4).trans s1)
   have fc3 := (fr3 jc (by omega)).trans ((fr2 jc s6).trans s2)
   have ds1:∀ H',Go.Pi.look (del H' js) 10 = Go.Pi.look H' 10 := fun H' => look_del_ne (by omega)
   have ds2:∀ H',Go.Pi.look (del H' jc) 10 = Go.Pi.look H' 10 := fun H' => look_del_ne (by omega)
   have ds3:∀ H',Go.Pi.look (del H' js) jc = Go.Pi.look H' jc := fun H' => look_del_ne (by omega)
   have ds4:∀ H',Go.Pi.look (del H' js) E = Go.Pi.look H' E := fun H' => look_del_ne (by omega)
   have ds5:∀ H',Go.Pi.look (del H' jc) E = Go.Pi.look H' E := fun H' => look_del_ne (by omega)
   have lus2:∀ E',Go.Pi.look (Go.Pi.upd (del ((E+1+1+1+1+1+1+1+1+1+1+1,⟨1,ss ++ [.own jR 0 N]⟩) :: del ((E+1+1+1+1+1+1+1+1+1+1,⟨1,[.own jR 0 N]⟩) :: H3) js) jc) 10 E') 10 = some E' := fun E' => look_upd_same (by rw [ds2,look_cons_ne (by omega),ds1,look_cons_ne (by omega)]; exact fD3)
   have mk:(2 * (q+1)+1000) * 64 ≤ 140737488355328 := by omega
   have mk':(2 * (q+1)+1000) * 24 ≤ 140737488355328 := by omega
   have sx:¬ q+1 ≤ q := by omega
   simp [tb,fD3,fE3,fs3,fc3,S.sl,S.cl,mk,mk',sx,lus,jh1,jh2,jh3,d1,d2,d3,c1,c3,c4,c5,e1,e3,e4,e5,buildSliceOp,putParts,repeatP,uniform,PV.pureL,PV.pureB,appendOp,appended,elems,(show ¬ E+1+1+1+1+1+1+1+1+1+1 = E by omega),(show ¬ E+1+1+1+1+1+1+1+1+1+1+1 = E by omega),(show ¬ E+1+1+1+1+1+1+1+1+1+1+1+1 = E by omega),(show ¬ E+1+1+1+1+1+1+1+1+1+1+1+1+1 = E by omega),(show ¬ E+1+1+1+1+1+1+1+1+1+1+1+1+1+1 = E by omega),(show ¬ E+1+1+1+1+1+1+1+1+1+1+1+1+1+1+1 = E by omega),(show ¬ E+1+1+1+1+1+1+1+1+1+1+1+1+1+1+1+1 = E by omega),(show ¬ E+1+1+1+1+1+1+1+1+1+1+1+1+1+1+1+1+1 = E by omega),(show ¬ E+1+1+1+1+1+1+1+1+1+1+1+1+1+1+1+1+1+1 = E by omega),(show ¬ E+1+1+1+1+1+1+1+1+1+1+1+1+1+1+1+1+1+1+1 = E by omega),(show ¬ E+1+1+1+1+1+1+1+1+1+1+1+1+1+1+1+1+1+1+1+1 = E by omega),(show ¬ E+1+1+1+1+1+1+1+1+1+1+1+1+1+1+1+1+1+1+1+1+1 = E by omega),ne30 (show 10 < E by omega),ne30 (show js < E by omega),ne30 (show jc < E by omega),s7,ds1,ds2,ds3,ds4,ds5,lus2]
   refine ⟨logOk_code (fun x => if x = 10 then 0 else if x = E then 1 else if x = E+1+1+1+1+1+1+1+1+1+1 then 2 else if x = E+1+1+1+1+1+1+1+1+1+1+1 then 3 else if x = js then 4 else if x = jc then 5 else 6) (by simp [code,tb,ne30 (show 10 < E by omega),ne30 (show js < E by omega),ne30 (show jc < E by omega),(show ¬ js = 10 by omega),(show ¬ jc = 10 by omega),(show ¬ js = E by omega),(show ¬ jc = E by omega),(show ¬ js = E+1+1+1+1+1+1+1+1+1+1 by omega),(show ¬ jc = E+1+1+1+1+1+1+1+1+1+1 by omega),(show ¬ js = E+1+1+1+1+1+1+1+1+1+1+1 by omega),(show ¬ jc = E+1+1+1+1+1+1+1+1+1+1+1 by omega),Ne.symm s7,(show ¬ E+1 = E by omega),(show ¬ E+1+1 = E by omega),(show ¬ E+1+1+1 = E by omega),(show ¬ E+1+1+1+1 = E by omega),(show ¬ E+1+1+1+1+1 = E by omega),(show ¬ E+1+1+1+1+1+1 = E by omega),(show ¬ E+1+1+1+1+1+1+1 = E by omega),(show ¬ E+1+1+1+1+1+1+1+1 = E by omega),(show ¬ E+1+1+1+1+1+1+1+1+1 = E by omega),(show ¬ E+1+1+1+1+1+1+1+1+1+1 = E by omega),(show ¬ E+1+1+1+1+1+1+1+1+1+1+1 = E by omega),(show ¬ E+1+1+1+1+1+1+1+1+1+1+1+1 = E by omega),(show ¬ E+1+1+1+1+1+1+1+1+1+1+1+1+1 = E by omega),(show ¬ E+1+1+1+1+1+1+1+1+1+1+1+1+1+1 = E by omega),(show ¬ E+1+1+1+1+1+1+1+1+1+1+1+1+1+1+1 = E by omega),(show ¬ E+1+1+1+1+1+1+1+1+1+1+1+1+1+1+1+1 = E by omega),(show ¬ E+1+1+1+1+1+1+1+1+1+1+1+1+1+1+1+1+1 = E by omega),(show ¬ E+1+1+1+1+1+1+1+1+1+1+1+1+1+1+1+1+1+1 = E by omega),(show ¬ E+1+1+1+1+1+1+1+1+1+1+1+1+1+1+1+1+1+1+1 = E by omega),(show ¬ E+1+1+1+1+1+1+1+1+1+1+1+1+1+1+1+1+1+1+1+1 = E by omega),(show ¬ E+1+1+1+1+1+1+1+1+1+1+1+1+1+1+1+1+1+1+1+1+1 = E by omega)]; decide +kernel),?_⟩
   refine next _ (E+1+1+1+1+1+1+1+1+1+1+1) (E+1+1+1+1+1+1+1+1+1+1+1+1+1+1+1+1+1+1) _ ?_ ?_ ?_ ?_ ?_ (by omega) (by omega) (by omega) (by omega) (by omega)
   ·rw [look_cons_ne (by omega)]; exact look_upd_same (lus2 _)
   ·rw [look_cons_ne (by omega),look_upd_ne (by omega),look_upd_ne (by omega),look_del_ne (by omega),look_one_cons]
   ·rw [look_one_cons]
   ·exact fun b hb hb2 hb3 => by
     have := hb3 z
     rw [look_cons_ne (by omega),look_upd_ne (by omega),look_upd_ne (by omega),look_del_ne (by omega),look_cons_ne (by omega),look_del_ne (by omega),look_cons_ne (by omega)]; exact fr3 b hb
   ·exact cons_lt (m := E+1+1+1+1+1+1+1+1+1+1+1+1+1+1+1+1+1+1+1+1+1+1+1+1+1+1+1) (upd_lt (upd_lt (del_lt (cons_lt (m := E+1+1+1+1+1+1+1+1+1+1+1+1) (del_lt (cons_lt (m := E+1+1+1+1+1+1+1+1+1+1+1) lt3 (by omega) (by omega))) (by omega) (by omega))))) (by omega) (by omega)
end Go.Proofs.Tryz
