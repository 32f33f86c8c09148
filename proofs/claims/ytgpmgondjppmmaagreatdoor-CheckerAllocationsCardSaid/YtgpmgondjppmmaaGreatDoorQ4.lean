/- The machine on symbols: numbers and nodes of an expression. No condition. -/
import Derived.Test.YtgpmgondjppmmaaGreatDoorP1
import Derived.Test.YtgpmgondjppmmaaGreatDoorP2
import Derived.Test.YtgpmgondjppmmaaGreatDoorP4
set_option linter.unnecessarySimpa false
set_option linter.unusedSectionVars false
set_option linter.unusedSimpArgs false
set_option linter.unusedVariables false
set_option maxHeartbeats 8000000
set_option maxRecDepth 100000
namespace Go.Proofs.Tryz
open Go Go.Pi Go.Num Go.Lin Go.Alc
variable [Hole] {G:Nat → Option PV}
attribute [local simp] slice3Op clearOp
theorem numb_ok (rl:ReadLib G) (lib:LongLib G) (l:List UInt8) (hm:l.length ≤ maxLen):Gives prog G 137 [.str (ba l)] (parseAnyR [.str (ba l)]) := by
 have hfe:parseAnyR [.str (ba l)] = ReadAny l := by funext r; simp only [parseAnyR,ba_list]
 rw [hfe]
 refine gives (S := [(66,parseAnyR)]) (by kernel_rfl) (by kernel_rfl) (callW_of ann137 func137 rfl (by kernel_rfl) ?_)
 rcases Nat.lt_or_ge 400 l.length with h | h
 ·have h':(400:Int) < l.length := by omega
  simp [tb,ba_size,h']
  exact outK_pure rfl (.inr ⟨h,rfl⟩)
 ·have h':¬ (400:Int) < l.length := by omega
  simp [tb,ba_size,h']
  refine callK_pure rfl rfl (parseAny_ok rl lib l hm) fun r hr => ?_
  simp only [parseAnyR,ba_list] at hr
  have hr0 := hr
  obtain ⟨b,m,c,u,e,x,rfl,h1,_⟩ := hr.cases
  obtain ⟨⟨a1,a2,a3,a4,a5⟩,⟨b1,b2,b3,b4,b5⟩⟩ := h1.cf
  simp [tb,a1,b1]
  exact outK_pure (by simp [PV.pureB,PV.pureL,a5,b5]) hr0
def someIntR:CRel | _,r => ∃ i:Int,r = .int .i64 i
def someBoolR:CRel | _,r => ∃ b,r = .bool b
def six:List PV := [.int .i64 0,.int .i64 1,.int .i64 2,.int .i64 3,.int .i64 4,.int .i64 5]
def ix6I (op:Int):Nat → List PV → St → Prop := fun n vs st => ∃ (i k:Nat) (H:List (Nat × Ent)),vs = [.int .i64 (i:Int),.int .i64 6,.int .i64 op,.slice six] ∧ i + n = 6 ∧ st = ⟨k,H,[]⟩
theorem index6_ok (op:Int):Gives prog G 185 [.slice six,.int .i64 op] (someIntR [.slice six,.int .i64 op]) := by
 refine gives (S := []) (by kernel_rfl) (by kernel_rfl) (callW_of ann185 func185 rfl (by kernel_rfl) ?_)
 simp [tb,show six.length = 6 from rfl]
 refine loopK_of (ix6I op) rfl rfl ?step 6 _ _ ?init
 case init => exact ⟨0,_,_,rfl,rfl,rfl⟩
 case step =>
 rintro n vs st ⟨i,k,H,rfl,hin,rfl⟩
 rcases Nat.eq_zero_or_pos n with hn | hn
 ·have hi:¬ (i:Int) < 6 := by omega
  have hi2:¬ i < 6 := by omega
  simp [tb,hi,hi2]
  exact outK_pure rfl ⟨_,rfl⟩
 ·have hi:(i:Int) < 6 := by omega
  have hi2:i < 6 := by omega
  have wi:IntKind.i64.wrap ((i:Int)+1) = ((i+1:Nat):Int) := w_i64 (by omega)
  obtain ⟨z,hz⟩:∃ z,six[i]? = some (.int .i64 z) := by
   rcases i with _ | _ | _ | _ | _ | _ | i
   all_goals first | exact ⟨_,rfl⟩ | omega
  have hz' := getE hz
  have hl:i < six.length := hi2
  by_cases ho:op = z
  ·have ho':(op == z) = true := by simpa using ho
   simp [tb,hi,hi2,hz,hz',hl,ho']
   exact outK_pure rfl ⟨_,rfl⟩
  ·have ho':(op == z) = false := by simpa using ho
   simp [tb,hi,hi2,hz,hz',hl,ho']
   exact ⟨n - 1,by omega,i+1,_,_,by rw [wi],by omega,rfl⟩
theorem contains6_ok (op:Int):Gives prog G 162 [.slice six,.int .i64 op] (someBoolR [.slice six,.int .i64 op]) := by
 refine gives (S := [(185,someIntR)]) (by kernel_rfl) (by kernel_rfl) (callW_of ann162 func162 rfl (by kernel_rfl) ?_)
 simp [tb]
 refine callK_pure rfl rfl (index6_ok op) fun r hr => ?_
 obtain ⟨i,rfl⟩ := hr
 simp [tb]
 exact outK_pure rfl ⟨_,rfl⟩
theorem known_op_ok (op:Int):Gives prog G 135 [.int .i64 op] (someBoolR [.int .i64 op]) := by
 refine gives (S := [(162,someBoolR)]) (by kernel_rfl) (by kernel_rfl) (callW_of ann135 func135 rfl (by kernel_rfl) ?_)
 simp [tb,buildSliceOp,putParts,repeatP,uniform,PV.pureL,PV.pureB]
 refine callK_pure rfl rfl (contains6_ok op) fun r hr => ?_
 obtain ⟨b,rfl⟩ := hr
 simp [tb]
 exact outK_pure rfl ⟨_,rfl⟩
def FormSaid (n:Nat) (c:List UInt8) (ts:PV):Prop := NumOk c ∧ Lst (TermOk n) ts ∧ (els ts).length ≤ 64
def frmR (n:Nat) (c:List UInt8) (ts:PV):PV → Prop := fun r => ∃ e:Int,r = .int .i64 e ∧ (e = 0 → FormSaid n c ts)
def cfI (n:Nat) (c:List UInt8) (ts:PV):Nat → List PV → St → Prop := fun m vs st => ∃ (i k:Nat) (H:List (Nat × Ent)),vs = [.int .i64 (i:Int),.int .i64 ((els ts).length:Int),ts,.int .i64 (n:Int),.ptr 0 0 0] ∧ i + m = (els ts).length ∧ (∀ j t,j < i → (els ts)[j]? = some t → TermOk n t) ∧ Go.Pi.look H 0 = some ⟨2,[.agg [.str (ba c),ts]]⟩ ∧ (∀ p ∈ H,p.1 < k) ∧ 0 < k ∧ st = ⟨k,H,[]⟩
theorem checkForm_ok (rl:ReadLib G) (lib:LongLib G) {n:Nat} {c:List UInt8} {ts:PV} (hn:n ≤ 64) (hc:c.length ≤ maxLen) (hts:Lst IsTerm ts):Gives prog G 136 [.agg [.str (ba c),ts],.int .i64 (n:Int)] (frmR n c ts) := by
 obtain ⟨t1,t2,t3,t4,t5⟩ := hts.cell
 have lt := hts.len
 have hn0:¬ (n:Int) < 0 := by omega
 have hn1:¬ (64:Int) < n := by omega
 refine gives (S := [(137,parseAnyR),(87,rsignR)]) (by kernel_rfl) (by kernel_rfl) (callW_of ann136 func136 rfl (by kernel_rfl) ?_)
 simp [tb,hn0,hn1,t1,t3]
 refine callK_pure rfl rfl (numb_ok rl lib c hc) fun r hr => ?_
 simp only [parseAnyR,ba_list] at hr
 obtain ⟨b,m,c',u,e,x,rfl,h1,h2⟩ := hr.cases
 obtain ⟨⟨a1,a2,a3,a4,a5⟩,⟨b1,b2,b3,b4,b5⟩⟩ := h1.cf
 by_cases he:e = 0
 case neg =>
  have he':(e == 0) = false := by simpa using he
  have he2:(e != 0) = true := by simpa using he
  simp [tb,a1,b1,he',he2]
  exact outK_pure rfl ⟨e,rfl,fun h => absurd h he⟩
 obtain ⟨nc,_⟩ := h2 he
 subst he
 by_cases hl:(els ts).length ≤ 64
 case neg =>
  have hl':(64:Int) < (els ts).length := by omega
  simp [tb,a1,b1,t1,t3,lt,hl']
  exact outK_pure rfl ⟨6,rfl,fun h => absurd h (by decide)⟩
 have hl':¬ (64:Int) < (els ts).length := by omega
 simp [tb,a1,b1,t1,t3,lt,hl']
 refine loopK_of (cfI n c ts) rfl rfl ?step (els ts).length _ _ ?init
 case init => exact ⟨0,_,_,rfl,by omega,fun j t hj => absurd hj (Nat.not_lt_zero _),rfl,by simp,by omega,rfl⟩
 case step =>
 rintro w vs st ⟨i,k,H,rfl,hin,hok,l0,hlt,hk,rfl⟩
 rcases Nat.eq_zero_or_pos w with hw | hw
 ·have hi:¬ i < (els ts).length := by omega
  have hii:¬ (i:Int) < (els ts).length := by omega
  simp [tb,hi,hii]
  refine outK_pure rfl ⟨0,rfl,fun _ => ⟨nc,?_,hl⟩⟩
  rcases hts with rfl | ⟨es,rfl,hes⟩
  ·exact .inl rfl
  ·refine .inr ⟨es,rfl,fun t ht => ?_⟩
   obtain ⟨j,hj,rfl⟩ := List.mem_iff_getElem.1 ht
   exact hok j _ (by simp only [els_slice] at hi; omega) (List.getElem?_eq_getElem hj)
 ·have hi:i < (els ts).length := by omega
  have hii:(i:Int) < (els ts).length := by omega
  have wi:IntKind.i64.wrap ((i:Int)+1) = ((i+1:Nat):Int) := w_i64 (by omega)
  obtain ⟨es,t,rfl,g1,d,l,rfl,hd⟩ := hts.at hi
  have g1' := getE g1
  simp only [els_slice] at hi hii hin hok hl
  by_cases hd0:d < 0
  ·have hd0':decide (d < 0) = true := by simpa using hd0
   simp [tb,els_slice,hi,hii,g1,g1',hd0]
   exact outK_pure rfl ⟨2,rfl,fun h => absurd h (by decide)⟩
  by_cases hdn:(n:Int) ≤ d
  ·simp [tb,els_slice,hi,hii,g1,g1',hd0,hdn]
   exact outK_pure rfl ⟨2,rfl,fun h => absurd h (by decide)⟩
  have tok:NumOk l → ∀ j t,j < i+1 → es[j]? = some t → TermOk n t := fun nl j t hj ht => by
   rcases lt_succ_cases hj with hj | rfl
   ·exact hok j t hj ht
   ·rw [g1] at ht
    cases ht
    exact ⟨d,l,rfl,by omega,by omega,nl⟩
  simp [tb,els_slice,hi,hii,g1,g1',hd0,hdn]
  rcases Nat.eq_zero_or_pos i with z | z
  ·subst z
   rw [run_draw]
   simp [run_draw,tb]
   refine ⟨by decide +kernel,?_⟩
   refine callK_pure rfl rfl (numb_ok rl lib l hd) fun r hr => ?_
   simp only [parseAnyR,ba_list] at hr
   obtain ⟨b',m',c'',u',e',x',rfl,h1',h2'⟩ := hr.cases
   obtain ⟨⟨a1',a2',a3',a4',a5'⟩,⟨b1',b2',b3',b4',b5'⟩⟩ := h1'.cf
   by_cases he:e' = 0
   case neg =>
    have he':(e' == 0) = false := by simpa using he
    have he2:(e' != 0) = true := by simpa using he
    simp [tb,a1',b1',he',he2]
    exact outK_pure rfl ⟨e',rfl,fun h => absurd h he⟩
   obtain ⟨nl,_⟩ := h2' he
   subst he
   simp [tb,a1',b1',a3',b3']
   refine callK_pure rfl (by simp [PV.pureL,h1'.pure]) (rsign_ok _ _ h1') fun r hr => ?_
   simp only [rsignR,ratv_eq h1'] at hr
   subst hr
   by_cases hz:x'.num.sign = 0
   ·simp [tb,hz]
    exact outK_pure rfl ⟨19,rfl,fun h => absurd h (by decide)⟩
   have hz':(x'.num.sign == 0) = false := by simpa using hz
   simp [tb,hz',-Int.sign_eq_zero_iff_zero]
   refine ⟨w - 1,by omega,0+1,_,_,rfl,by simp only [els_slice]; omega,tok nl,?_,?_,?_,rfl⟩
   ·rw [look_cons_ne (by omega),look_cons_ne (by omega)]; exact l0
   ·exact cons_lt (cons_lt (m := k+1+1+1+1+1) hlt (by omega) (by omega)) (by omega) (by omega)
   ·omega
  ·obtain ⟨j,rfl⟩:∃ j,i = j+1 := ⟨i - 1,by omega⟩
   have hj:j < es.length := by omega
   obtain ⟨d2,l2,e2,e3⟩ := hts.all (es[j]) (by rw [els_slice]; exact List.getElem_mem hj)
   have q1:es[j]? = some (.agg [.int .i64 d2,.str (ba l2)]) := by rw [List.getElem?_eq_getElem hj,e2]
   have q1' := getE q1
   have wj:IntKind.i64.wrap (((j+1:Nat):Int) - 1) = (j:Int) := by rw [w_i64 (by omega)]; omega
   have wj2:IntKind.i64.wrap ((j:Int)+1 - 1) = (j:Int) := by rw [w_i64 (by omega)]; omega
   have wi2:IntKind.i64.wrap ((j:Int)+1+1) = ((j+1+1:Nat):Int) := by rw [w_i64 (by omega)]; omega
   have wj3:IntKind.i64.wrap (j:Int) = (j:Int) := w_i64 (by omega)
   have jp:(0:Int) < (j:Int)+1 := by omega
   rw [run_draw]
   simp [run_draw,tb,l0,t1,t3,hj,q1,q1',wj,wj2,wj3,jp,ne60 (show 0 < k by omega)]
   refine ⟨logOk_free (by simp [okTri,tri]),?_⟩
   by_cases hlt2:d ≤ d2
   ·simp [tb,hlt2]
    exact outK_pure rfl ⟨8,rfl,fun h => absurd h (by decide)⟩
   simp [tb,hlt2]
   refine callK_pure rfl rfl (numb_ok rl lib l hd) fun r hr => ?_
   simp only [parseAnyR,ba_list] at hr
   obtain ⟨b',m',c'',u',e',x',rfl,h1',h2'⟩ := hr.cases
   obtain ⟨⟨a1',a2',a3',a4',a5'⟩,⟨b1',b2',b3',b4',b5'⟩⟩ := h1'.cf
   by_cases he:e' = 0
   case neg =>
    have he':(e' == 0) = false := by simpa using he
    have he2:(e' != 0) = true := by simpa using he
    simp [tb,a1',b1',he',he2]
    exact outK_pure rfl ⟨e',rfl,fun h => absurd h he⟩
   obtain ⟨nl,_⟩ := h2' he
   subst he
   simp [tb,a1',b1',a3',b3']
   refine callK_pure rfl (by simp [PV.pureL,h1'.pure]) (rsign_ok _ _ h1') fun r hr => ?_
   simp only [rsignR,ratv_eq h1'] at hr
   subst hr
   by_cases hz:x'.num.sign = 0
   ·simp [tb,hz]
    exact outK_pure rfl ⟨19,rfl,fun h => absurd h (by decide)⟩
   have hz':(x'.num.sign == 0) = false := by simpa using hz
   simp [tb,hz',-Int.sign_eq_zero_iff_zero]
   refine ⟨w - 1,by omega,j+1+1,_,_,by rw [wi2]; rfl,by simp only [els_slice]; omega,tok nl,?_,?_,?_,rfl⟩
   ·rw [look_cons_ne (by omega),look_cons_ne (by omega)]; exact l0
   ·exact cons_lt (cons_lt (m := k+1+1+1+1+1) hlt (by omega) (by omega)) (by omega) (by omega)
   ·omega
def nodeQ (n:Nat) (op:Int) (c:List UInt8) (ts ar:PV):PV → Prop := fun r => ∃ e:Int,r = .int .i64 e ∧ (e = 0 → op = 0 → (els ar).length = 0 ∧ FormSaid n c ts)
def formCR (n:Nat) (c:List UInt8) (ts:PV):CRel := fun _ r => frmR n c ts r
theorem node_ok (rl:ReadLib G) (lib:LongLib G) {n:Nat} {op:Int} {c fc:List UInt8} {ts ar:PV} (hn:n ≤ 64) (hc:c.length ≤ maxLen) (hfc:fc.length ≤ maxLen) (hts:Lst IsTerm ts) (har:Lst (fun _ => True) ar):Gives prog G 101 [.agg [.int .i64 op,.str (ba c),ts,.str (ba fc),ar],.int .i64 (n:Int)] (nodeQ n op c ts ar) := by
 obtain ⟨t1,t2,t3,t4,t5⟩ := hts.cell
 obtain ⟨r1,r2,r3,r4,r5⟩ := har.cell
 have lt := hts.len
 have la := har.len
 have kn := known_op_ok (G := G) op
 have nm := numb_ok rl lib fc hfc
 have cf := checkForm_ok rl lib hn hc hts
 refine gives_q fun Q hQ => ?_
 refine gives (S := [(135,someBoolR),(137,parseAnyR),(136,formCR n c ts)]) (by kernel_rfl) (by kernel_rfl) (callW_of ann101 func101 rfl (by kernel_rfl) ?_)
 by_cases hop:op = 0
 ·subst hop
  by_cases hf:fc = []
  ·subst hf
   by_cases hl:0 < (els ar).length
   ·have hl':(0:Int) < (els ar).length := by omega
    simp [tb,t1,t3,r1,r3,c0,sb_neq,la,hl,hl']
    exact outK_pure rfl (hQ _ ⟨3,rfl,fun h => absurd h (by decide)⟩)
   ·have hl':(els ar).length = 0 := by omega
    simp [tb,t1,t3,r1,r3,c0,sb_neq,la,hl']
    refine callK_pure (R := formCR n c ts) rfl (by simp [PV.pureL,PV.pureB,t5]) cf fun r hr => ?_
    obtain ⟨e,rfl,he⟩ := hr
    simp [tb]
    exact outK_pure rfl (hQ _ ⟨e,rfl,fun h _ => ⟨hl',he h⟩⟩)
  ·simp [tb,t1,t3,r1,r3,c0,sb_neq,hf]
   refine callK_pure rfl rfl kn fun r hr => ?_
   obtain ⟨b,rfl⟩ := hr
   cases b
   ·simp [tb]
    exact outK_pure rfl (hQ _ ⟨_,rfl,fun h => absurd h (by decide)⟩)
   ·simp [tb]
    exact outK_pure rfl (hQ _ ⟨_,rfl,fun h => absurd h (by decide)⟩)
 have hop1:(op != 0) = true := by simpa using hop
 have hop2:(op == 0) = false := by simpa using hop
 by_cases hcn:c = []
 case neg =>
  simp [tb,t1,t3,r1,r3,c0,sb_neq,hop1,hop2,hcn]
  refine callK_pure rfl rfl kn fun r hr => ?_
  obtain ⟨b,rfl⟩ := hr
  cases b
  ·simp [tb]
   exact outK_pure rfl (hQ _ ⟨_,rfl,fun h => absurd h (by decide)⟩)
  ·simp [tb]
   exact outK_pure rfl (hQ _ ⟨_,rfl,fun h => absurd h (by decide)⟩)
 subst hcn
 by_cases hl:0 < (els ts).length
 ·have hl':(0:Int) < (els ts).length := by omega
  simp [tb,t1,t3,r1,r3,c0,sb_neq,hop1,hop2,lt,hl,hl']
  refine callK_pure rfl rfl kn fun r hr => ?_
  obtain ⟨b,rfl⟩ := hr
  cases b
  ·simp [tb]
   exact outK_pure rfl (hQ _ ⟨_,rfl,fun h => absurd h (by decide)⟩)
  ·simp [tb]
   exact outK_pure rfl (hQ _ ⟨_,rfl,fun h => absurd h (by decide)⟩)
 have hl':(els ts).length = 0 := by omega
 have fin:∀ {e:Int} {s:St},outK Q (.int .i64 e) s := fun {e s} => outK_pure rfl (hQ _ ⟨e,rfl,fun _ h => absurd h hop⟩)
 by_cases h2:op = 2
 ·subst h2
  by_cases ha:(els ar).length = 1
  ·simp [tb,t1,t3,r1,r3,c0,sb_neq,lt,hl',la,ha]
   refine callK_pure rfl rfl nm fun r hr => ?_
   simp only [parseAnyR,ba_list] at hr
   obtain ⟨b',m',c'',u',e',x',rfl,h1',h2'⟩ := hr.cases
   obtain ⟨⟨a1',a2',a3',a4',a5'⟩,⟨b1',b2',b3',b4',b5'⟩⟩ := h1'.cf
   simp [tb,a1',b1']
   exact fin
  ·have ha1:(((els ar).length:Int) != 1) = true := by rw [bne_iff_ne]; omega
   simp [tb,t1,t3,r1,r3,c0,sb_neq,lt,hl',la,ha,ha1]
   exact fin
 have h21:(op != 2) = true := by simpa using h2
 have h22:(op == 2) = false := by simpa using h2
 by_cases hf:fc = []
 case neg =>
  simp [tb,t1,t3,r1,r3,c0,sb_neq,hop1,hop2,lt,hl',h21,hf]
  refine callK_pure rfl rfl kn fun r hr => ?_
  obtain ⟨b,rfl⟩ := hr
  cases b
  ·simp [tb]
   exact fin
  ·simp [tb]
   exact fin
 subst hf
 by_cases h134:op = 1 ∨ op = 3 ∨ op = 4
 ·by_cases ha:(els ar).length = 0
  ·have ha0:(((els ar).length:Int) == 0) = true := by rw [beq_iff_eq]; omega
   rcases h134 with rfl | rfl | rfl
   all_goals
    simp [tb,t1,t3,r1,r3,c0,sb_neq,lt,hl',la,ha]
    exact fin
  ·have ha0:(((els ar).length:Int) == 0) = false := by rw [beq_eq_false_iff_ne]; omega
   rcases h134 with rfl | rfl | rfl
   all_goals
    simp [tb,t1,t3,r1,r3,c0,sb_neq,lt,hl',la,ha,ha0]
    exact fin
 have n1:(op == 1) = false := by simp; omega
 have n3:(op == 3) = false := by simp; omega
 have n4:(op == 4) = false := by simp; omega
 by_cases h5:op = 5
 ·subst h5
  by_cases ha:(els ar).length = 1
  ·simp [tb,t1,t3,r1,r3,c0,sb_neq,lt,hl',la,ha]
   exact fin
  ·have ha1:(((els ar).length:Int) != 1) = true := by rw [bne_iff_ne]; omega
   simp [tb,t1,t3,r1,r3,c0,sb_neq,lt,hl',la,ha,ha1]
   exact fin
 have n5:(op == 5) = false := by simp; omega
 simp [tb,t1,t3,r1,r3,c0,sb_neq,lt,hl',la,hop1,hop2,h21,h22,n1,n3,n4,n5]
 exact fin
end Go.Proofs.Tryz
