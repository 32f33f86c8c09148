/- The machine on symbols: a requirement; allocation.Check; an offer as it is handed. No condition. -/
import Derived.Test.YtgpmgondjppmmaaGreatDoorQ4
import Derived.Test.YtgpmgondjppmmaaGreatDoorPC
import Derived.Test.YtgpmgondjppmmaaGreatDoorA5
set_option linter.unnecessarySimpa false
set_option linter.unusedSectionVars false
set_option linter.unusedSimpArgs false
set_option linter.unusedVariables false
set_option maxHeartbeats 8000000
set_option maxRecDepth 100000
namespace Go.Proofs.Tryz
open Go Go.Pi Go.Num Go.Lin Go.Alc
variable [Hole] {G:Nat → Option PV}
attribute [local simp] slice3Op clearOp
theorem undMap:prog.underlying 94 = some (.map 9 4) := underlying94
def mapP:List (List UInt8) → List PV
 | [] => []
 | l :: r => .str (ba l) :: .bool true :: mapP r
theorem ba_eq (a b:List UInt8):(ba a == ba b) = decide (a = b) := by
 change (a.toArray == b.toArray) = _
 rw [Bool.eq_iff_iff,beq_iff_eq,decide_eq_true_eq]
 exact ⟨fun h => by simpa using congrArg Array.toList h,fun h => by rw [h]⟩
theorem find_mapP (nm:List UInt8):∀ ns:List (List UInt8),findP .string (.str (ba nm)) (mapP ns) = some (if nm ∈ ns then some (.bool true) else none)
 | [] => rfl
 | l :: r => by
  simp only [mapP,findP,keyEq,ba_eq]
  by_cases h:nm = l
  ·subst h; simp
  ·simp only [h,decide_false,find_mapP nm r,List.mem_cons,false_or]
theorem put_mapP (nm:List UInt8):∀ ns:List (List UInt8),∃ ms,putP .string (.str (ba nm)) (.bool true) (mapP ns) = some (mapP ms)
 | [] => ⟨[nm],rfl⟩
 | l :: r => by
  simp only [mapP,putP,keyEq,ba_eq]
  by_cases h:nm = l
  ·subst h; exact ⟨nm :: r,by simp [mapP]⟩
  ·obtain ⟨ms,hms⟩ := put_mapP nm r
   exact ⟨l :: ms,by simp [h,hms,mapP]⟩
def IsExp:Nat → PV → Prop
 | 0,_ => False
 | n+1,v => ∃ op c ts fc ar,v = .agg [.int .i64 op,.str (ba c),ts,.str (ba fc),ar] ∧ c.length ≤ maxLen ∧ fc.length ≤ maxLen ∧ Lst IsTerm ts ∧ Lst (IsExp n) ar ∧ (els ar).length ≤ maxLen
def exprR:CRel | [.agg [.int _ op,.str c,ts,_,ar],.int _ n],r => nodeQ n.toNat op c.data.toList ts ar r | _,_ => False
structure ExprLib (G:Nat → Option PV):Prop where
 expr:∀ {n:Nat} {op:Int} {c fc:List UInt8} {ts ar:PV} {d:Nat},n ≤ 64 → IsExp d (.agg [.int .i64 op,.str (ba c),ts,.str (ba fc),ar]) → Gives prog G 65 [.agg [.int .i64 op,.str (ba c),ts,.str (ba fc),ar],.int .i64 (n:Int)] (nodeQ n op c ts ar)
abbrev CS:Specs := [(24,dcheckR),(25,anyB),(27,optionsR),(60,anyB),(65,exprR),(66,parseAnyR),(67,rcompareR)]
def rqI (lo hi:List UInt8) (k0:Nat) (H0:List (Nat × Ent)):Nat → List PV → St → Prop := fun n vs st => ∃ (i k j:Nat) (es:List PV) (H:List (Nat × Ent)),vs = [.int .i64 (i:Int),slv j es.length,.agg [.str (ba lo),.str (ba hi)]] ∧ i + n = 2 ∧ es.length ≤ i ∧ (∀ w ∈ es,∃ x,IsRat w x ∧ RFits x 100000) ∧ (0 < i → EndOk lo) ∧ (1 < i → EndOk hi) ∧
 (0 < es.length → Go.Pi.look H j = some ⟨4,es⟩ ∧ k0 ≤ j ∧ j < k) ∧ (∀ b,b < k0 → Go.Pi.look H b = Go.Pi.look H0 b) ∧ (∀ p ∈ H,p.1 < k) ∧ k0 ≤ k ∧ st = ⟨k,H,[]⟩
def RqPost (n:Nat) (w:PV) (k:Nat) (H:List (Nat × Ent)) (v:PV) (s:St):Prop := ∃ (e:Int) (k':Nat) (H':List (Nat × Ent)),v = .int .i64 e ∧ s = ⟨k',H',[]⟩ ∧ k ≤ k' ∧ (∀ p ∈ H',p.1 < k') ∧ (∀ b,b < k → Go.Pi.look H' b = Go.Pi.look H b) ∧ (e = 0 → ReqOk n w)
theorem requirement_ok (rl:ReadLib G) (lib:LongLib G) (xl:ExprLib G) {n:Nat} {op:Int} {nm c fc lo hi:List UInt8} {ts ar:PV} {d:Nat} (hn:n ≤ 64) (hx:IsExp d (.agg [.int .i64 op,.str (ba c),ts,.str (ba fc),ar])) (har:CellF ar) (hts:CellF ts) (hlo:lo.length ≤ maxLen) (hhi:hi.length ≤ maxLen)
  {m k:Nat} {H:List (Nat × Ent)} {ns:List (List UInt8)} (hm:Go.Pi.look H m = some ⟨0,[.nilPtr,.tuple (mapP ns)]⟩) (hlt:∀ p ∈ H,p.1 < k) :
  CallW prog (specEnv prog G CS) G A1 28 [.agg [.str (ba nm),.int .i64 op,.str (ba c),ts,.str (ba fc),ar,.str (ba lo),.str (ba hi)],.int .i64 (n:Int),.omap m] ⟨k,H,[]⟩ (RqPost n (.agg [.str (ba nm),.int .i64 op,.str (ba c),ts,.str (ba fc),ar,.str (ba lo),.str (ba hi)]) k H) := by
 obtain ⟨r1,r2,r3,r4,r5⟩ := har
 obtain ⟨t1,t2,t3,t4,t5⟩ := hts
 have hmk:m < k := look_lt hlt hm
 have hfm := find_mapP nm ns
 have ix := isName_ok (G := G) (ba nm)
 have ex := xl.expr hn hx
 have hxe:exprR [.agg [.int .i64 op,.str (ba c),ts,.str (ba fc),ar],.int .i64 (n:Int)] = nodeQ n op c ts ar := by funext r; simp only [exprR,ba_list,Int.toNat_natCast]
 generalize hP:RqPost n (.agg [.str (ba nm),.int .i64 op,.str (ba c),ts,.str (ba fc),ar,.str (ba lo),.str (ba hi)]) k H = Post
 have err:∀ {e:Int} {k':Nat} {H':List (Nat × Ent)},e ≠ 0 → k ≤ k' → (∀ p ∈ H',p.1 < k') → (∀ b,b < k → Go.Pi.look H' b = Go.Pi.look H b) → Post (.int .i64 e) ⟨k',H',[]⟩ := fun {e k' H'} he h1 h2 h3 => by
  rw [← hP]
  exact ⟨e,k',H',rfl,rfl,h1,h2,h3,fun h => absurd h he⟩
 refine callW_of ann28 func28 rfl (by kernel_rfl) ?_
 simp [tb,t1,t3,r1,r3]
 refine callK_pure (S := CS) rfl rfl ix fun r hr => ?_
 obtain ⟨b,rfl⟩ := hr
 have hlt1:∀ p ∈ (k,(⟨8,[PV.agg [PV.str (ba nm),PV.int IntKind.i64 op,PV.str (ba c),ts,PV.str (ba fc),ar,PV.str (ba lo),PV.str (ba hi)]]⟩:Ent)) :: H,p.1 < k+1 := cons_lt hlt (by omega) (by omega)
 have hfr1:∀ b,b < k → Go.Pi.look ((k,(⟨8,[PV.agg [PV.str (ba nm),PV.int IntKind.i64 op,PV.str (ba c),ts,PV.str (ba fc),ar,PV.str (ba lo),PV.str (ba hi)]]⟩:Ent)) :: H) b = Go.Pi.look H b := fun b hb => look_cons_ne (by omega)
 cases b
 ·simp [tb]
  exact err (by decide) (by omega) (lt_mono hlt1 (by omega)) hfr1
 by_cases hin:nm ∈ ns
 ·simp only [if_pos hin] at hfm
  simp [tb,hm,undMap,keyOk,keyEq,hfm,ne12 (show m < k by omega)]
  exact err (by decide) (by omega) (lt_mono hlt1 (by omega)) hfr1
 simp only [if_neg hin] at hfm
 simp [tb,hm,undMap,keyOk,keyEq,hfm,t1,t3,r1,r3,ne12 (show m < k by omega)]
 refine callK_pure (S := CS) (R := exprR) rfl (by simp [PV.pureL,PV.pureB,t5,r5]) (by rw [hxe]; exact ex) fun r hr => ?_
 rw [hxe] at hr
 obtain ⟨e,rfl,he⟩ := hr
 by_cases he0:e = 0
 case neg =>
  have he':(e != 0) = true := by simpa using he0
  simp [tb,he']
  exact err he0 (by omega) (lt_mono hlt1 (by omega)) hfr1
 subst he0
 by_cases hop:op = 0
 case neg =>
  have hop':(op != 0) = true := by simpa using hop
  simp [tb,t1,t3,r1,r3,hop']
  exact err (by decide) (by omega) (lt_mono hlt1 (by omega)) hfr1
 subst hop
 obtain ⟨har0,nc,nts,ntl⟩ := he rfl rfl
 simp [tb,t1,t3,r1,r3]
 refine loopK_of (rqI lo hi (k+1) ((k,(⟨8,[PV.agg [PV.str (ba nm),PV.int IntKind.i64 0,PV.str (ba c),ts,PV.str (ba fc),ar,PV.str (ba lo),PV.str (ba hi)]]⟩:Ent)) :: H)) rfl rfl ?step 2 _ _ ?init
 case init => exact ⟨0,_,0,[],_,rfl,rfl,Nat.le_refl _,fun w hw => by simp at hw,fun h => absurd h (Nat.lt_irrefl 0),fun h => absurd h (by omega),fun h => absurd h (Nat.lt_irrefl 0),fun _ _ => rfl,lt_mono hlt1 (by omega),by omega,rfl⟩
 case step =>
 rintro w vs st ⟨i,k1,j,es,H1,rfl,hiw,hle,hes,e1,e2,lj,hfr,hlt2,hk1,rfl⟩
 have hfr2:∀ b,b < k → Go.Pi.look H1 b = Go.Pi.look H b := fun b hb => (hfr b (by omega)).trans (hfr1 b hb)
 rcases Nat.eq_zero_or_pos w with hw | hw
 ·have hi:i = 2 := by omega
  subst hi
  have fin:∀ {k':Nat} {H':List (Nat × Ent)},k ≤ k' → (∀ p ∈ H',p.1 < k') → (∀ b,b < k → Go.Pi.look H' b = Go.Pi.look H b) → Post (.int .i64 0) ⟨k',H',[]⟩ := fun {k' H'} h1 h2 h3 => by
   rw [← hP]
   exact ⟨0,k',H',rfl,rfl,h1,h2,h3,fun _ => ⟨nm,0,c,ts,fc,ar,lo,hi,rfl,rfl,nc,nts,ntl,e1 (by omega),e2 (by omega),r5,r1,r3,r4,r2⟩⟩
  obtain ⟨u1,u2,u3,u4⟩ := slv_ids j es.length
  by_cases h2:es.length = 2
  ·obtain ⟨w1,w2,rfl⟩:∃ w1 w2,es = [w1,w2] := by
    match es,h2 with
    | [w1,w2],_ => exact ⟨w1,w2,rfl⟩
   obtain ⟨x1,hx1,fx1⟩ := hes w1 (by simp)
   obtain ⟨x2,hx2,fx2⟩ := hes w2 (by simp)
   obtain ⟨l1,l2,l3⟩ := lj (by simp)
   obtain ⟨b',m',c',u',rfl⟩ := hx1.sh
   obtain ⟨b2',m2',c2',u2',rfl⟩ := hx2.sh
   rw [show slv j [PV.agg [PV.bool b',m',PV.bool c',u'],PV.agg [PV.bool b2',m2',PV.bool c2',u2']].length = .own j 0 2 from rfl] at *
   simp [run_draw,tb,l1]
   refine dcallK_pure (S := CS) rfl (by simp [PV.pureL,hx1.pure,hx2.pure]) (rcompare_ok _ _ _ _ hx1 hx2 fx1 fx2) fun z hz => ?_
   simp only [rcompareR,ratv_eq hx1,ratv_eq hx2] at hz
   subst hz
   obtain ⟨z,hz⟩:∃ z,z = cmpR x1 x2 := ⟨_,rfl⟩
   rw [← hz]
   by_cases hz0:0 < z
   ·simp [run_draw,tb,hz0]
    exact ⟨logOk_free (by simp [okTri,tri]),err (by decide) (by omega) (lt_mono hlt2 (by omega)) hfr2⟩
   ·simp [run_draw,tb,hz0]
    exact ⟨logOk_free (by simp [okTri,tri]),fin (by omega) (lt_mono hlt2 (by omega)) hfr2⟩
  ·have h2':((es.length:Int) == 2) = false := by rw [beq_eq_false_iff_ne]; omega
   simp [run_draw,tb,u4,h2']
   exact ⟨logOk_free (by simp [okTri,tri]),fin (by omega) (lt_mono hlt2 (by omega)) hfr2⟩
 ·have wi:IntKind.i64.wrap ((i:Int)+1) = ((i+1:Nat):Int) := w_i64 (by omega)
  have hii:(i:Int) < 2 := by omega
  have hi2:i < 2 := by omega
  obtain ⟨l,hl,hlm,hE⟩:∃ l,[PV.str (ba lo),PV.str (ba hi)][i]? = some (.str (ba l)) ∧ l.length ≤ maxLen ∧ (EndOk l → (0 < i+1 → EndOk lo) ∧ (1 < i+1 → EndOk hi)) := by
   rcases i with _ | _ | i
   ·exact ⟨lo,rfl,hlo,fun h => ⟨fun _ => h,fun h => absurd h (by omega)⟩⟩
   ·exact ⟨hi,rfl,hhi,fun h => ⟨fun _ => e1 (by omega),fun _ => h⟩⟩
   ·omega
  have hl' := getE hl
  by_cases hl0:l = []
  ·subst hl0
   simp [tb,hii,hi2,indexOp,hl,hl',c0,sb_eql]
   exact ⟨w - 1,by omega,i+1,_,j,es,H1,by rw [wi],by omega,by omega,hes,(hE (.inl rfl)).1,(hE (.inl rfl)).2,fun h => by have := lj h; refine ⟨this.1,this.2.1,by omega⟩,hfr,lt_mono hlt2 (by omega),by omega,rfl⟩
  simp [tb,hii,hi2,indexOp,hl,hl',c0,sb_eql,hl0]
  refine callK_pure (S := CS) rfl rfl (parseAny_ok rl lib l hlm) fun r hr => ?_
  simp only [parseAnyR,ba_list] at hr
  obtain ⟨b',m',c',u',e,x,rfl,h1,h2⟩ := hr.cases
  obtain ⟨⟨a1,a2,a3,a4,a5⟩,⟨b1,b2,b3,b4,b5⟩⟩ := h1.cf
  by_cases he0:e = 0
  case neg =>
   have he':(e != 0) = true := by simpa using he0
   simp [tb,a1,b1,a3,b3,he']
   exact err he0 (by omega) (cons_lt hlt2 (by omega) (by omega)) (fun b hb => by rw [look_cons_ne (by omega)]; exact hfr2 b hb)
  obtain ⟨nl,hrt⟩ := h2 he0
  subst he0
  have fx:RFits x 100000 := (fit400 hrt nl.1).mono (by omega)
  have hEl := hE (.inr nl)
  obtain ⟨u1,u2,u3,u4⟩ := slv_ids j es.length
  have next:∀ (k3 j3:Nat) (H3:List (Nat × Ent)),Go.Pi.look H3 j3 = some ⟨4,es ++ [.agg [.bool b',m',.bool c',u']]⟩ → (∀ b,b < k+1 → Go.Pi.look H3 b = Go.Pi.look H1 b) → (∀ p ∈ H3,p.1 < k3) → k+1 ≤ j3 → j3 < k3 → ∃ m',m' < w ∧ rqI lo hi (k+1) ((k,(⟨8,[PV.agg [PV.str (ba nm),PV.int IntKind.i64 0,PV.str (ba c),ts,PV.str (ba fc),ar,PV.str (ba lo),PV.str (ba hi)]]⟩:Ent)) :: H) m' [PV.int IntKind.i64 (IntKind.i64.wrap (i+1)),.own j3 0 (es.length+1),PV.agg [PV.str (ba lo),PV.str (ba hi)]] ⟨k3,H3,[]⟩ := fun k3 j3 H3 n1 n2 n3 n4 n5 =>
   ⟨w - 1,by omega,i+1,k3,j3,_,H3,by rw [wi,List.length_append,List.length_singleton,slv_pos (by omega)],by omega,by simp; omega,fun v hv => by
    rcases List.mem_append.1 hv with hv | hv
    ·exact hes v hv
    ·rw [List.mem_singleton.1 hv]; exact ⟨x,h1,fx⟩,hEl.1,hEl.2,fun _ => ⟨n1,n4,n5⟩,fun b hb => (n2 b hb).trans (hfr b hb),n3,by omega,rfl⟩
  rcases Nat.eq_zero_or_pos es.length with z | z
  ·obtain rfl := List.eq_nil_of_length_eq_zero z
   have sl0:slv j ([]:List PV).length = .nil := rfl
   simp only [sl0]
   simp [tb,a1,b1,a3,b3,a4,b4,a5,b5,buildSliceOp,putParts,repeatP,uniform,PV.pureL,PV.pureB,appendOp,appended,elems]
   exact next _ (k1+1+1+1+1+1+1+1+1+1+1+1+1+1+1+1+1+1+1) _ (look_one_cons _ _ _) (fun b hb => by rw [look_cons_ne (by omega),look_cons_ne (by omega)]) (cons_lt (cons_lt (m := k1+1+1+1+1+1+1+1+1+1+1+1) hlt2 (by omega) (by omega)) (by omega) (by omega)) (by omega) (by omega)
  ·rw [slv_pos z]
   obtain ⟨l1,l2,l3⟩ := lj z
   have mk:(2 * (es.length+1)+1000) * 64 ≤ 140737488355328 := by omega
   simp [tb,a1,b1,a3,b3,a4,b4,a5,b5,buildSliceOp,putParts,repeatP,uniform,PV.pureL,PV.pureB,appendOp,appended,elems,l1,mk,(show ¬ es.length+1 ≤ es.length by omega),ne30 (show j < k1 by omega)]
   exact next _ (k1+1+1+1+1+1+1+1+1+1+1+1+1+1+1+1+1+1+1) _ (look_one_cons _ _ _) (fun b hb => by rw [look_cons_ne (by omega),look_del_ne (by omega),look_cons_ne (by omega)]) (cons_lt (del_lt (cons_lt (m := k1+1+1+1+1+1+1+1+1+1+1+1) hlt2 (by omega) (by omega))) (by omega) (by omega)) (by omega) (by omega)
def IsRq (w:PV):Prop := ∃ nm op c ts fc ar lo hi d,w = .agg [.str (ba nm),.int .i64 op,.str (ba c),ts,.str (ba fc),ar,.str (ba lo),.str (ba hi)] ∧ lo.length ≤ maxLen ∧ hi.length ≤ maxLen ∧ IsExp d (.agg [.int .i64 op,.str (ba c),ts,.str (ba fc),ar])
structure OffIn (d o r:PV):Prop where
 dim:Lst IsDim d
 dl:(els d).length ≤ maxLen
 opt:Lst (fun w => Lst IsOpt w ∧ (els w).length ≤ maxLen) o
 ol:(els o).length ≤ maxLen
 req:Lst IsRq r
 rl:(els r).length ≤ maxLen
def checkQ (d o r:PV):PV → Prop := fun x => ∃ e,x = .int .i64 e ∧ (e = 0 → Vld d o r)
theorem lst_of {R:PV → Prop} {v:PV} (h:v = .nil ∨ ∃ es,v = .slice es) (hr:∀ j w,j < (els v).length → (els v)[j]? = some w → R w):Lst R v := by
 rcases h with rfl | ⟨es,rfl⟩
 ·exact .inl rfl
 ·refine .inr ⟨es,rfl,fun w hw => ?_⟩
  obtain ⟨j,hj,rfl⟩ := List.mem_iff_getElem.1 hw
  exact hr j _ hj (List.getElem?_eq_getElem hj)
theorem Lst.form {R:PV → Prop} {v:PV} (h:Lst R v):v = .nil ∨ ∃ es,v = .slice es := by
 rcases h with rfl | ⟨es,rfl,_⟩
 ·exact .inl rfl
 ·exact .inr ⟨es,rfl⟩
def koI (d o r:PV):Nat → List PV → St → Prop := fun n vs st => ∃ (i k:Nat) (ch:Int) (H:List (Nat × Ent)),vs = [.int .i64 (i:Int),.int .i64 ((els o).length:Int),.int .i64 ch,o,.ptr 0 0 0] ∧ i + n = (els o).length ∧ (∀ j w,j < i → (els o)[j]? = some w → RowOk w) ∧ Go.Pi.look H 0 = some ⟨3,[.agg [d,o,r]]⟩ ∧ 0 < k ∧ (∀ p ∈ H,p.1 < k) ∧ st = ⟨k,H,[]⟩
def krI (d o r:PV):Nat → List PV → St → Prop := fun n vs st => ∃ (i k m:Nat) (ns:List (List UInt8)) (H:List (Nat × Ent)),vs = [.int .i64 (i:Int),.omap m,.int .i64 ((els r).length:Int),r,.ptr 0 0 0] ∧ i + n = (els r).length ∧ (∀ j w,j < i → (els r)[j]? = some w → ReqOk (els d).length w) ∧ Go.Pi.look H 0 = some ⟨3,[.agg [d,o,r]]⟩ ∧ Go.Pi.look H m = some ⟨0,[.nilPtr,.tuple (mapP ns)]⟩ ∧ 0 < m ∧ m < k ∧ (∀ p ∈ H,p.1 < k) ∧ st = ⟨k,H,[]⟩
theorem check_ok (rl:ReadLib G) (lib:LongLib G) (xl:ExprLib G) {d o r:PV} (h:OffIn d o r):Gives prog G 8 [.agg [d,o,r]] (checkQ d o r) := by
 obtain ⟨d1,d2,d3,d4,d5⟩ := h.dim.cell
 obtain ⟨o1,o2,o3,o4,o5⟩ := h.opt.cell
 obtain ⟨r1,r2,r3,r4,r5⟩ := h.req.cell
 have ld := h.dim.len
 have lo := h.opt.len
 have lr := h.req.len
 have hdl := h.dl
 have hol := h.ol
 have hrl := h.rl
 have mL:maxLen = maxLen := rfl
 unfold maxLen at hdl hol hrl
 refine gives_q fun Q hQ => ?_
 have err:∀ {e:Int} {s:St},e ≠ 0 → outK Q (.int .i64 e) s := fun {e s} he => outK_pure rfl (hQ _ ⟨e,rfl,fun h => absurd h he⟩)
 refine gives (S := CS) (by kernel_rfl) (by kernel_rfl) (callW_of ann8 func8 rfl (by kernel_rfl) ?_)
 by_cases n0:(els d).length = 0
 ·have n0':(((els d).length:Int) == 0) = true := by rw [beq_iff_eq]; omega
  simp [tb,d1,o1,r1,d3,o3,r3,ld,n0,n0']
  exact err (by decide)
 have n0':(((els d).length:Int) == 0) = false := by rw [beq_eq_false_iff_ne]; omega
 by_cases n1:12 < (els d).length
 ·have n1':(12:Int) < (els d).length := by omega
  simp [tb,d1,o1,r1,d3,o3,r3,ld,n0,n0',n1,n1']
  exact err (by decide)
 have n1':¬ (12:Int) < (els d).length := by omega
 simp [tb,d1,o1,r1,d3,o3,r3,ld,n0,n0',n1,n1']
 refine callK_pure (S := CS) (R := dcheckR) rfl (by simp [PV.pureL,d5]) (dcheck_ok h.dim h.dl) fun y hy => ?_
 obtain ⟨e,rfl,hd⟩ := hy
 by_cases he:e = 0
 case neg =>
  have he':(e != 0) = true := by simpa using he
  simp [tb,he']
  exact err he
 obtain ⟨hdim,_⟩ := hd he
 subst he
 simp [tb,d1,o1,r1,d3,o3,r3]
 refine callK_pure (S := CS) (R := anyB) rfl (by simp [PV.pureL,PV.pureB,d5]) (tolD_ok h.dim h.dl) fun y hy => ?_
 obtain ⟨b,rfl⟩ := hy
 cases b
 case true =>
  simp [tb]
  exact err (by decide)
 by_cases on:(els o).length = (els d).length
 case neg =>
  have on':(((els o).length:Int) != (els d).length) = true := by rw [bne_iff_ne]; omega
  simp [tb,d1,o1,r1,d3,o3,r3,ld,lo,on']
  exact err (by decide)
 have on':(((els o).length:Int) != (els d).length) = false := by rw [bne_eq_false_iff_eq]; omega
 simp [tb,d1,o1,r1,d3,o3,r3,ld,lo,on']
 refine loopK_of (koI d o r) rfl rfl ?step (els o).length _ _ ?init
 case init => exact ⟨0,_,1,_,rfl,by omega,fun j w hj => absurd hj (Nat.not_lt_zero _),rfl,by omega,by simp,rfl⟩
 case step =>
 rintro n vs st ⟨i,k,ch,H,rfl,hin,hok,l0,hk,hlt,rfl⟩
 rcases Nat.eq_zero_or_pos n with hn | hn
 case inr =>
  have hi:i < (els o).length := by omega
  have hii:(i:Int) < (els o).length := by omega
  have wi:IntKind.i64.wrap ((i:Int)+1) = ((i+1:Nat):Int) := w_i64 (by omega)
  obtain ⟨es,w,rfl,g1,g2,g3⟩ := h.opt.at hi
  have g1' := getE g1
  obtain ⟨w1,w2,w3,w4,w5⟩ := g2.cell
  have lw := g2.len
  simp only [els_slice] at hi hii hin hok
  simp [tb,els_slice,hi,hii,g1,g1',w1,w2,w3]
  refine callK_pure (S := CS) (R := optionsR) rfl (by simp [PV.pureL,w5]) (options_ok g2 g3) fun y hy => ?_
  obtain ⟨e,rfl,he⟩ := hy
  by_cases he0:e = 0
  case neg =>
   have he':(e != 0) = true := by simpa using he0
   simp [tb,he']
   exact err he0
  have hrow := he he0
  subst he0
  simp [tb,lw]
  refine ⟨n - 1,by omega,i+1,_,_,H,by rw [wi]; rfl,by simp only [els_slice]; omega,fun j v hj hv => ?_,l0,by omega,lt_mono hlt (by omega),rfl⟩
  rcases lt_succ_cases hj with hj | rfl
  ·exact hok j v hj hv
  ·rw [els_slice,g1] at hv
   cases hv
   exact hrow
 have hi:¬ i < (els o).length := by omega
 have hii:¬ (i:Int) < (els o).length := by omega
 have hopt:Lst RowOk o := lst_of h.opt.form fun j w hj hw => hok j w (by omega) hw
 by_cases hch:4096 < ch
 ·simp [run_draw,tb,hi,hii,hch]
  exact err (by decide)
 by_cases hr16:16 < (els r).length
 ·have hr16':(16:Int) < (els r).length := by omega
  simp [run_draw,tb,hi,hii,hch,l0,r1,r3,lr,hr16,hr16']
  exact err (by decide)
 have hr16':¬ (16:Int) < (els r).length := by omega
 simp [run_draw,tb,hi,hii,hch,l0,r1,r3,lr,hr16,hr16']
 have hm0:Go.Pi.look ((k+1+1+1+1+1+1+1+1+1,(⟨0,[PV.nilPtr,PV.tuple []]⟩:Ent)) :: H) (k+1+1+1+1+1+1+1+1+1) = some ⟨0,[.nilPtr,.tuple (mapP [])]⟩ := look_one_cons _ _ _
 refine loopK_of (krI d o r) rfl rfl ?step2 (els r).length _ _ ?init2
 case init2 => exact ⟨0,_,_,[],_,rfl,by omega,fun j w hj => absurd hj (Nat.not_lt_zero _),by rw [look_cons_ne (by omega)]; exact l0,hm0,by omega,by omega,cons_lt hlt (by omega) (by omega),rfl⟩
 case step2 =>
 clear hm0 l0 hlt hok hi hii
 rintro n vs st ⟨i,k,m,ns,H,rfl,hin,hok,l0,lm,hm,hmk,hlt,rfl⟩
 rcases Nat.eq_zero_or_pos n with hn | hn
 ·have hi:¬ i < (els r).length := by omega
  have hii:¬ (i:Int) < (els r).length := by omega
  simp [tb,hi,hii]
  exact outK_pure rfl (hQ _ ⟨0,rfl,fun _ => ⟨hdim,by omega,by omega,hopt,on,lst_of h.req.form fun j w hj hw => hok j w (by omega) hw,by omega⟩⟩)
 ·have hi:i < (els r).length := by omega
  have hii:(i:Int) < (els r).length := by omega
  have wi:IntKind.i64.wrap ((i:Int)+1) = ((i+1:Nat):Int) := w_i64 (by omega)
  obtain ⟨es,w,rfl,g1,nm,op,c,ts,fc,ar,lo',hi',dd,rfl,q1,q2,q3⟩ := h.req.at hi
  have g1' := getE g1
  simp only [els_slice] at hi hii hin hok
  obtain ⟨cts,car⟩:CellF ts ∧ CellF ar := by
   cases dd with
   | zero => exact q3.elim
   | succ dd =>
    obtain ⟨op',c',ts',fc',ar',e,_,_,z1,z2,_⟩ := q3
    simp only [PV.agg.injEq,List.cons.injEq,PV.int.injEq,true_and,and_true] at e
    obtain ⟨_,_,rfl,_,rfl⟩ := e
    exact ⟨⟨z1.cell.1,z1.cell.2.2.2.1,z1.cell.2.1,z1.cell.2.2.1,z1.cell.2.2.2.2⟩,⟨z2.cell.1,z2.cell.2.2.2.1,z2.cell.2.1,z2.cell.2.2.1,z2.cell.2.2.2.2⟩⟩
  obtain ⟨t1,t2,t3,t4,t5⟩ := cts
  obtain ⟨a1,a2,a3,a4,a5⟩ := car
  simp [tb,els_slice,hi,hii,g1,g1',t1,t3,t4,a1,a3,a4,l0,d1,d3,ld,ne30 (show 0 < k by omega)]
  refine callK_run rfl (CallW.mono (requirement_ok rl lib xl (by omega) q3 ⟨a1,a2,a3,a4,a5⟩ ⟨t1,t2,t3,t4,t5⟩ q1 q2 (ns := ns) (by rw [look_cons_ne (by omega)]; exact lm) (cons_lt hlt (by omega) (by omega))) fun v s' hp => ?_)
  obtain ⟨e,k2,H2,rfl,rfl,hk2,hlt2,hfr,hres⟩ := hp
  by_cases he:e = 0
  case neg =>
   have he':(e != 0) = true := by simpa using he
   simp [tb,he']
   exact err he
  have hrq := hres he
  subst he
  have fm:Go.Pi.look H2 m = some ⟨0,[.nilPtr,.tuple (mapP ns)]⟩ := by rw [hfr m (by omega),look_cons_ne (by omega)]; exact lm
  have f0:Go.Pi.look H2 0 = some ⟨3,[.agg [d,o,.slice es]]⟩ := by rw [hfr 0 (by omega),look_cons_ne (by omega)]; exact l0
  have fb:Go.Pi.look H2 (k+1+1+1) = some ⟨8,[.agg [.str (ba nm),.int .i64 op,.str (ba c),ts,.str (ba fc),ar,.str (ba lo'),.str (ba hi')]]⟩ := by rw [hfr _ (by omega),look_one_cons]
  obtain ⟨ms,hms⟩ := put_mapP nm ns
  simp [tb,els_slice,fb,fm,undMap,keyOk,keyEq,hms]
  refine ⟨n - 1,by omega,i+1,_,m,ms,_,by rw [wi]; rfl,by simp only [els_slice]; omega,fun j v hj hv => ?_,by rw [look_upd_ne (by omega)]; exact f0,look_upd_same fm,hm,by omega,upd_lt (lt_mono hlt2 (by omega)),rfl⟩
  rcases lt_succ_cases hj with hj | rfl
  ·exact hok j v hj hv
  ·rw [els_slice,g1] at hv
   cases hv
   exact hrq
end Go.Proofs.Tryz
namespace Go.Proofs.Tryz
open Go Go.Pi Go.Num Go.Lin Go.Alc
variable [Hole]
theorem typed_text {d:Nat} {vs:List PV} (h:typed prog d 27 vs):∃ l,vs = [.str (ba l)] ∧ l.length ≤ maxLen := by
 cases d with
 | zero => exact absurd h (by simp [typed])
 | succ d =>
  rw [typed,und27] at h
  obtain ⟨s,rfl,hs⟩ := h
  exact ⟨s.data.toList,by rw [← ba_of],hs⟩
theorem typed_name {d:Nat} {vs:List PV} (h:typed prog d 9 vs):∃ l,vs = [.str (ba l)] ∧ l.length ≤ maxLen := by
 cases d with
 | zero => exact absurd h (by simp [typed])
 | succ d =>
  rw [typed,und9] at h
  obtain ⟨s,rfl,hs⟩ := h
  exact ⟨s.data.toList,by rw [← ba_of],hs⟩
theorem typed_int {d:Nat} {vs:List PV} (h:typed prog d 3 vs):∃ m,vs = [.int .i64 m] := by
 cases d with
 | zero => exact absurd h (by simp [typed])
 | succ d =>
  rw [typed,und3] at h
  obtain ⟨m,rfl,_⟩ := h
  exact ⟨m,rfl⟩
theorem typed_byte {d:Nat} {vs:List PV} (h:typed prog d 5 vs):∃ m:Nat,vs = [.int .u8 (m:Int)] ∧ m < 256 := by
 cases d with
 | zero => exact absurd h (by simp [typed])
 | succ d =>
  rw [typed,und5] at h
  obtain ⟨m,rfl,hm⟩ := h
  have hm:0 ≤ m ∧ m < 256 := by
   have e1:IntKind.u8.min = 0 := by decide
   have e2:IntKind.u8.max = 255 := by decide
   simp only [Lit.wf,e1,e2,Bool.and_eq_true,decide_eq_true_eq] at hm
   omega
  exact ⟨m.toNat,by rw [Int.toNat_of_nonneg hm.1],by omega⟩
theorem typed_list {d:Nat} {t e:TypeId} {vs:List PV} (ht:prog.underlying t = some (.slice e)) (h:typed prog d t vs) {R:PV → Prop} (hR:∀ n v,n < d → typed prog n e v.cells → (bif isAggT prog e then ∃ cs,v = .agg cs else v.cells = [v]) → R v):∃ v,vs = [v] ∧ Lst R v ∧ (els v).length ≤ maxLen := by
 cases d with
 | zero => exact absurd h (by simp [typed])
 | succ d =>
  rw [typed,ht] at h
  rcases h with rfl | ⟨es,rfl,hl,h⟩
  ·exact ⟨_,rfl,.inl rfl,by simp [els]⟩
  ·exact ⟨_,rfl,.inr ⟨es,rfl,fun w hw => hR d w (Nat.lt_succ_self d) (h w hw).1 (h w hw).2⟩,hl⟩
theorem typed_dim {d:Nat} {v:PV} (h:typed prog d 91 v.cells) (ha:bif isAggT prog 91 then ∃ cs,v = .agg cs else v.cells = [v]):IsDim v := by
 rw [agg91,cond_true] at ha
 obtain ⟨cs,rfl⟩ := ha
 cases d with
 | zero => exact absurd h (by simp [typed])
 | succ d =>
  rw [typed,underlying91] at h
  obtain ⟨a0,r0,e,h0,a1,r1,rfl,h1,a2,r2,rfl,h2,a3,r3,rfl,h3,rfl⟩ := h
  obtain ⟨l,rfl,hl⟩ := typed_name h0
  obtain ⟨x1,rfl⟩ := typed_int h1
  obtain ⟨x2,rfl⟩ := typed_int h2
  obtain ⟨x3,rfl⟩ := typed_int h3
  exact ⟨l,x1,x2,x3,congrArg PV.agg e,hl⟩
theorem typed_opt {d:Nat} {v:PV} (h:typed prog d 185 v.cells) (ha:bif isAggT prog 185 then ∃ cs,v = .agg cs else v.cells = [v]):IsOpt v := by
 rw [agg185,cond_true] at ha
 obtain ⟨cs,rfl⟩ := ha
 cases d with
 | zero => exact absurd h (by simp [typed])
 | succ d =>
  rw [typed,underlying185] at h
  obtain ⟨a0,r0,e,h0,a1,r1,rfl,h1,a2,r2,rfl,h2,rfl⟩ := h
  obtain ⟨x0,rfl⟩ := typed_int h0
  obtain ⟨x1,rfl⟩ := typed_int h1
  obtain ⟨x2,rfl⟩ := typed_int h2
  exact ⟨x0,x1,x2,congrArg PV.agg e⟩
theorem typed_term {d:Nat} {v:PV} (h:typed prog d 197 v.cells) (ha:bif isAggT prog 197 then ∃ cs,v = .agg cs else v.cells = [v]):IsTerm v := by
 rw [agg197,cond_true] at ha
 obtain ⟨cs,rfl⟩ := ha
 cases d with
 | zero => exact absurd h (by simp [typed])
 | succ d =>
  rw [typed,underlying197] at h
  obtain ⟨a0,r0,e,h0,a1,r1,rfl,h1,rfl⟩ := h
  obtain ⟨x0,rfl⟩ := typed_int h0
  obtain ⟨l,rfl,hl⟩ := typed_text h1
  exact ⟨x0,l,congrArg PV.agg e,hl⟩
theorem typed_form {d:Nat} {vs:List PV} (h:typed prog d 97 vs):∃ c ts,vs = [.str (ba c),ts] ∧ c.length ≤ maxLen ∧ Lst IsTerm ts := by
 cases d with
 | zero => exact absurd h (by simp [typed])
 | succ d =>
  rw [typed,underlying97] at h
  obtain ⟨a0,r0,rfl,h0,a1,r1,rfl,h1,rfl⟩ := h
  obtain ⟨c,rfl,hc⟩ := typed_text h0
  obtain ⟨ts,rfl,h2,_⟩ := typed_list und95 h1 (R := IsTerm) fun n v _ hv ha => typed_term hv ha
  exact ⟨c,ts,rfl,hc,h2⟩
theorem IsExp.up:∀ (n:Nat) (v:PV),IsExp n v → IsExp (n+1) v
 | n+1,v,⟨op,c,ts,fc,ar,e,h1,h2,h3,h4,h5⟩ => ⟨op,c,ts,fc,ar,e,h1,h2,h3,h4.mono fun w hw => IsExp.up n w hw,h5⟩
theorem IsExp.up_to {v:PV} {m:Nat}:∀ {n:Nat},m ≤ n → IsExp m v → IsExp n v
 | 0,h,hv => by
   obtain rfl:m = 0 := by omega
   exact hv
 | n+1,h,hv => by
  rcases Nat.eq_or_lt_of_le h with rfl | h
  ·exact hv
  ·exact IsExp.up n v (IsExp.up_to (by omega) hv)
theorem typed_exp:∀ (d:Nat) {vs:List PV},typed prog d 100 vs → IsExp d (.agg vs) ∧ vs.length = 5 := fun d => by
 induction d using Nat.strongRecOn with
 | _ d ih =>
 intro vs h
 cases d with
 | zero => exact absurd h (by simp [typed])
 | succ d =>
  rw [typed,underlying100] at h
  obtain ⟨a0,r0,rfl,h0,a1,r1,rfl,h1,a2,r2,rfl,h2,a3,r3,rfl,h3,rfl⟩ := h
  obtain ⟨op,rfl⟩ := typed_int h0
  obtain ⟨c,ts,rfl,hc,ht⟩ := typed_form h1
  obtain ⟨fc,rfl,hf⟩ := typed_text h2
  obtain ⟨ar,rfl,h4,h5⟩ := typed_list und98 h3 (R := IsExp d) fun n v hn hv ha => by
   rw [agg100,cond_true] at ha
   obtain ⟨cs,rfl⟩ := ha
   exact IsExp.up_to (by omega) (ih n (by omega) hv).1
  exact ⟨⟨op,c,ts,fc,ar,rfl,hc,hf,ht,h4,h5⟩,rfl⟩
theorem typed_req {d:Nat} {v:PV} (h:typed prog d 102 v.cells) (ha:bif isAggT prog 102 then ∃ cs,v = .agg cs else v.cells = [v]):IsRq v := by
 rw [agg102,cond_true] at ha
 obtain ⟨cs,rfl⟩ := ha
 cases d with
 | zero => exact absurd h (by simp [typed])
 | succ d =>
  rw [typed,underlying102] at h
  obtain ⟨a0,r0,e,h0,a1,r1,rfl,h1,a2,r2,rfl,h2,a3,r3,rfl,h3,rfl⟩ := h
  obtain ⟨nm,rfl,_⟩ := typed_name h0
  obtain ⟨h6,_⟩ := typed_exp d h1
  obtain ⟨lo,rfl,hlo⟩ := typed_text h2
  obtain ⟨hi,rfl,hhi⟩ := typed_text h3
  cases d with
  | zero => exact h6.elim
  | succ d =>
   obtain ⟨op,c,ts,fc,ar,e2,h7⟩ := h6
   obtain rfl := PV.agg.inj e2
   exact ⟨nm,op,c,ts,fc,ar,lo,hi,d+1,congrArg PV.agg e,hlo,hhi,⟨op,c,ts,fc,ar,rfl,h7⟩⟩
theorem typed_offer {d:Nat} {vs:List PV} (h:typed prog d 26 vs):∃ x y z,vs = [x,y,z] ∧ OffIn x y z := by
 cases d with
 | zero => exact absurd h (by simp [typed])
 | succ d =>
  rw [typed,underlying26] at h
  obtain ⟨a0,r0,rfl,h0,a1,r1,rfl,h1,a2,r2,rfl,h2,rfl⟩ := h
  obtain ⟨x,rfl,x1,x2⟩ := typed_list und22 h0 (R := IsDim) fun n v _ hv ha => typed_dim hv ha
  obtain ⟨y,rfl,y1,y2⟩ := typed_list und23 h1 (R := fun w => Lst IsOpt w ∧ (els w).length ≤ maxLen) fun n v _ hv ha => by
   rw [agg33,cond_false] at ha
   rw [ha] at hv
   obtain ⟨w,e,w1,w2⟩ := typed_list und33 hv (R := IsOpt) fun n v _ hv ha => typed_opt hv ha
   obtain rfl := (List.cons.inj e).1
   exact ⟨w1,w2⟩
  obtain ⟨z,rfl,z1,z2⟩ := typed_list und24 h2 (R := IsRq) fun n v _ hv ha => typed_req hv ha
  exact ⟨x,y,z,rfl,x1,x2,y1,y2,z1,z2⟩
theorem typed_spoil {d:Nat} {vs:List PV} (h:typed prog d 29 vs):∃ (a b:Nat) (t:List UInt8),vs = [.int .u8 (a:Int),.int .u8 (b:Int),.str (ba t)] ∧ b < 256 := by
 cases d with
 | zero => exact absurd h (by simp [typed])
 | succ d =>
  rw [typed,underlying29] at h
  obtain ⟨a0,r0,rfl,h0,a1,r1,rfl,h1,a2,r2,rfl,h2,rfl⟩ := h
  obtain ⟨a,rfl,_⟩ := typed_byte h0
  obtain ⟨b,rfl,hb⟩ := typed_byte h1
  obtain ⟨t,rfl,_⟩ := typed_text h2
  exact ⟨a,b,t,rfl,hb⟩
end Go.Proofs.Tryz
