/- The machine on symbols: allocation.Verify's walk. No condition. -/
import Derived.Test.YtgpmgondjppmmaaGreatDoorP4
import Derived.Test.YtgpmgondjppmmaaGreatDoorP3
set_option linter.unnecessarySimpa false
set_option linter.unusedSectionVars false
set_option linter.unusedSimpArgs false
set_option linter.unusedVariables false
set_option maxHeartbeats 8000000
set_option maxRecDepth 100000
namespace Go.Proofs.Tryz
open Go Go.Pi Go.Num Go.Lin Go.Alc
variable [Hole] {G:Nat → Option PV}
theorem reifyL_own1 {hp:Nat → Option Ent} {j n:Nat} {es:List PV} (h:0 < n → hp j = some ⟨1,es⟩) (hn:es.length = n) (he:∀ v ∈ es,v.pureB = true):reifyL hp [slv j n] = some ([sv n es],if n = 0 then [] else [j]) := by
 rcases Nat.eq_zero_or_pos n with z | z
 ·subst z; rfl
 ·rw [slv_pos z,sv_pos z,if_neg (by omega)]
  have e := reifyW_own (d := 4) (h z) hn (by decide) he
  unfold reifyL
  rw [mapR]
  unfold reify
  rw [show (PV.own j 0 n).pureB = false from rfl]
  simp only [cond_false]
  show (match reifyW hp (reifyN hp 5) (.own j 0 n),_ with | some (v,l),some (vs,m) => some (v :: vs,l ++ m) | _,_ => none) = _
  rw [e]
  rfl
theorem sv_pre (l:List Nat):sv l.length (NL l) = preV l := by
 unfold sv preV
 cases l with
 | nil => rfl
 | cons a l => rfl
theorem cells_eptr (x:PV) (n:Nat):(PV.eptr x n).cells = [PV.eptr x n] := rfl
theorem ok_eptr (x:PV) (n:Nat):(PV.eptr x n).cellOk = true := rfl
theorem top_eptr (x:PV) (n:Nat):(PV.eptr x n).isTop = false := rfl
attribute [simp] cells_eptr ok_eptr top_eptr
theorem reifyL_own4 {hp:Nat → Option Ent} {x y z:PV} {j n:Nat} {es:List PV} (h1:x.pureB = true) (h2:y.pureB = true) (h3:z.pureB = true) (h:0 < n → hp j = some ⟨1,es⟩) (hn:es.length = n) (he:∀ v ∈ es,v.pureB = true):reifyL hp [x,y,z,slv j n] = some ([x,y,z,sv n es],if n = 0 then [] else [j]) := by
 have e := reifyL_own1 h hn he
 unfold reifyL at e ⊢
 rw [mapR,mapR,mapR,reify_pure h1,reify_pure h2,reify_pure h3,e]
 rfl
theorem apply_own {n j m:Nat} {H:List (Nat × Ent)} {Z:List Nat} {v:PV}:∃ Z1,St.apply ⟨n,H,Z⟩ { val := v,fr := if m = 0 then [] else [j] } = ⟨n+1,H,Z1⟩ ∧ ∀ q ∈ Z1,q ∈ Z ∨ (q = j ∧ 0 < m) := by
 by_cases h:m = 0
 ·rw [if_pos h]; exact ⟨Z,rfl,fun q hq => .inl hq⟩
 ·rw [if_neg h]
  refine ⟨addFr n Z [j],rfl,fun q hq => ?_⟩
  simp only [addFr,List.mem_append,List.mem_filter,List.mem_cons,List.not_mem_nil,or_false] at hq
  rcases hq with hq | hq
  ·exact .inr ⟨hq.1,by omega⟩
  ·exact .inl hq
structure WSt (bl bd ba bo bw:Nat) (d o r vs vc vh va v:PV) (l:List Nat) (j k:Nat) (H:List (Nat × Ent)) (Z:List Nat):Prop where
 own:0 < l.length → Go.Pi.look H j = some ⟨1,NL l⟩ ∧ j < k ∧ j ≠ bl
 left:Go.Pi.look H bl = some ⟨1,[v]⟩
 desk:Go.Pi.look H bd = some ⟨1,[.eptr (.agg [d,o,r,vs,vc,vh]) 0]⟩
 al:Go.Pi.look H ba = some ⟨4,[va]⟩
 off:Go.Pi.look H bo = some ⟨3,[.agg [d,o,r]]⟩
 walk:Go.Pi.look H bw = some ⟨1,[.func 43 [.ptr bl 0 0,.ptr bd 0 0,.ptr ba 0 0,.ptr bo 0 0,.ptr bw 0 0]]⟩
 lt:∀ p ∈ H,p.1 < k
 ltZ:∀ q ∈ Z,q < k
 free:bl ∉ Z
 lst:Lst IsBd v
 len:(els v).length ≤ maxLen
def WPost (O:Off) (A:Al) (D:Nat) (l:List Nat) (v:PV) (bl k:Nat) (H:List (Nat × Ent)) (r:PV) (s:St):Prop := ∃ (k':Nat) (H':List (Nat × Ent)) (Z':List Nat) (v':PV) (b:Bool),r = .bool b ∧ s = ⟨k',H',Z'⟩ ∧ k ≤ k' ∧ (∀ p ∈ H',p.1 < k') ∧ (∀ q ∈ Z',q < k') ∧ bl ∉ Z' ∧ Go.Pi.look H' bl = some ⟨1,[v']⟩ ∧ (∀ q,q < k → q ≠ bl → Go.Pi.look H' q = Go.Pi.look H q) ∧ Lst IsBd v' ∧ (els v').length ≤ maxLen ∧
 (b = true → walkL O A D l ((els v).map bdV) = some ((els v').map bdV)) ∧ (b = false → walkL O A D l ((els v).map bdV) = none)
theorem cells_func (f:FuncId) (c:List PV):(PV.func f c).cells = [.func f c] := rfl
theorem isTop_func (f:FuncId) (c:List PV):(PV.func f c).isTop = false := rfl
theorem cells_ptr' (r l n:Nat):(PV.ptr r l n).cells = [.ptr r l n] := rfl
theorem cells_nilPtr:PV.nilPtr.cells = [.nilPtr] := rfl
theorem isTop_nilPtr:PV.nilPtr.isTop = false := rfl
theorem cells_nilFunc:PV.nilFunc.cells = [.nilFunc] := rfl
theorem ok_nilFunc:PV.nilFunc.cellOk = true := rfl
theorem isTop_nilFunc:PV.nilFunc.isTop = false := rfl
attribute [simp] cells_nilPtr isTop_nilPtr cells_nilFunc ok_nilFunc isTop_nilFunc
theorem size132:sizeT prog 132 = some 1 := by kernel_rfl
theorem agg132:isAggT prog 132 = false := by kernel_rfl
theorem zero132:zeroT prog 132 = some .nilFunc := by kernel_rfl
theorem size107:sizeT prog 107 = some 1 := by kernel_rfl
theorem agg107:isAggT prog 107 = false := by kernel_rfl
theorem zero107:zeroT prog 107 = some .nilFunc := by kernel_rfl
attribute [simp] cells_func isTop_func cells_ptr' size132 agg132 zero132 size107 agg107 zero107
theorem run_last {env:Env} {A:FuncId → Option Ann} {cx:Cx} {id:Nat} {ops:Array Oper} {T:Tm} {s:St} {k:Kont} {m:List Nat} {j:Nat} {o1 o2:List Oper} (hm:Go.Pi.look cx.ann.draws id = some m) (hl:Go.Pi.look cx.ann.lasts id = some j) (h1:ops.toList.take (ops.toList.length - j) = o1) (h2:ops.toList.drop (ops.toList.length - j) = o2)
  (h:drawK prog env G A cx 0 T s [] m o1 o1 (.ops ops.toList o2 k)):run prog env G A cx T s (.region id ops true) k := by
 rw [run_draw,hm]
 simp only [hl,h1,h2]
 exact h
theorem s3_own {hp:Nat → Option Ent} {j n:Nat} {es:List PV} (h:hp j = some ⟨1,es⟩) (hn:es.length = n):slice3Op prog hp 37 (.own j 0 n) none (.int .i64 (n:Int)) (.int .i64 (n:Int)) = some { val := .ownF j 0 n } := by
 simp [slice3Op,lowOf,natOf,und37,size3,h,hn,ble_lit,beq_lit]
theorem s3_nil {hp:Nat → Option Ent}:slice3Op prog hp 37 .nil none (.int .i64 0) (.int .i64 0) = some { val := .nil } := by
 simp [slice3Op,lowOf,natOf,und37,size3,beq_lit]
theorem app_ownF {hp:Nat → Option Ent} {fz:Nat → Bool} {fr j n:Nat} {es:List PV} {e:Int} (h:hp j = some ⟨1,es⟩) (hn:es.length = n) (hm:n ≤ 100):appendOp prog hp fz fr (some 37) (some 37) (.ownF j 0 n) (.slice [.int .i64 e]) = some { val := .own fr 0 (n+1),new := some ⟨1,es ++ [.int .i64 e]⟩ } := by
 have mk:(2 * (n+1)+1000) * 8 ≤ 140737488355328 := by omega
 have tk:es.take n = es := List.take_of_length_le (by omega)
 simp [appendOp,appended,elems,uniform,h,hn,ble_lit,beq_lit,blt_lit,mk,tk]
theorem app_nil {hp:Nat → Option Ent} {fz:Nat → Bool} {fr:Nat} {e:Int}:appendOp prog hp fz fr (some 37) (some 37) .nil (.slice [.int .i64 e]) = some { val := .own fr 0 1,new := some ⟨1,[.int .i64 e]⟩ } := by
 simp [appendOp,appended,elems,uniform,ble_lit,beq_lit,blt_lit]
theorem callW_to {env:Env} {A:FuncId → Option Ann} {f:FuncId} {args:List PV} {s:St} {Q R:PV → St → Prop} (h:CallW prog env G A f args s Q) (hq:∀ v s',Q v s' → R v s'):CallW prog env G A f args s R := by
 obtain ⟨n,v,s',h1,h2⟩ := h
 exact ⟨n,v,s',h1,hq v s' h2⟩
def wkI (O:Off) (A:Al) (bl bd ba bo bw:Nat) (d o r vs vc vh va:PV) (l:List Nat) (D C j k:Nat) (H:List (Nat × Ent)) (L0:List Bd):Nat → List PV → St → Prop := fun n vs' st => ∃ (e k2:Nat) (v:PV) (H2:List (Nat × Ent)) (Z2:List Nat),vs' = [.int .i64 (e:Int),slv j l.length,.int .i64 (C:Int),.ptr bw 0 0] ∧ e + n = C ∧
 WSt bl bd ba bo bw d o r vs vc vh va v l j k2 H2 Z2 ∧ k ≤ k2 ∧ (∀ q,q < k → q ≠ bl → Go.Pi.look H2 q = Go.Pi.look H q) ∧ walkK (fun k lf => walkL O A D (l ++ [k]) lf) n e ((els v).map bdV) = walkK (fun k lf => walkL O A D (l ++ [k]) lf) C 0 L0 ∧ st = ⟨k2,H2,Z2⟩
theorem slv_app (j:Nat) (l:List Nat) (e:Nat):slv j (l ++ [e]).length = .own j 0 (l.length+1) := by rw [slv_pos (by simp)]; simp
noncomputable def openR:CRel | [.agg [d,o,r]],x => ∃ vs vc vh,x = .tuple [.eptr (.agg [d,o,r,vs,vc,vh]) 0,.int .i64 0] ∧ DeskOk d o r vs vc vh | _,_ => False
abbrev WS:Specs := [(29,openR),(42,choiceR),(31,boundR),(32,failsR),(34,picksR),(44,equalR),(45,provesR)]
theorem callS {P:Program} {A:FuncId → Option Ann} {cx:Cx} {S:Specs} {f:FuncId} {R:CRel} {args:List PV} (ys:List PV) (fr:List Nat) {ops rest:List Oper} {T:Tm} {dst:Option Tmp} {s:St} {k:Kont} (hS:Go.Pi.look S f = some R) (hr:reifyL s.hp args = some (ys,fr)) (hg:Gives P G f ys (R ys))
  (h:∀ r,R ys r → opsK P (specEnv P G S) G A cx (putT T dst r) (s.apply (thaw { val := r,fr := fr })) ops rest k):callK P (specEnv P G S) G A cx f args T s dst ops rest k := callK_spec hS hr hg h
theorem vwalk_ok (lib:ReadLib G) {d o r vs vc vh va:PV} (h:DeskOk d o r vs vc vh) (ha:IsAl va) {bl bd ba bo bw:Nat} (n1:bl ≠ bd) (n2:bl ≠ ba) (n3:bl ≠ bo) (n4:bl ≠ bw):∀ (D:Nat) (l:List Nat) (v:PV) (j k:Nat) (H:List (Nat × Ent)) (Z:List Nat),l.length + D = (els d).length → InR (offV (.agg [d,o,r])) l →
  WSt bl bd ba bo bw d o r vs vc vh va v l j k H Z → CallW prog (specEnv prog G WS) G A1 43 [slv j l.length,.ptr bl 0 0,.ptr bd 0 0,.ptr ba 0 0,.ptr bo 0 0,.ptr bw 0 0] ⟨k,H,Z⟩ (WPost (offV (.agg [d,o,r])) (alV va) D l v bl k H) := by
 obtain ⟨O,hO⟩:∃ O,O = offV (.agg [d,o,r]) := ⟨_,rfl⟩
 have hON:O.n = (els d).length := by rw [hO]; exact h.n
 have hN := h.n1
 obtain ⟨d1,d2,d3,d4,d5⟩ := h.dim.cell
 obtain ⟨o1,o2,o3,o4,o5⟩ := h.opt.cell
 obtain ⟨r1,r2,r3,r4,r5⟩ := h.req.cell
 have ld := h.dim.len
 have ha0 := ha
 have pa := ha.pure
 obtain ⟨p,ch,c,pf,rfl,a1,a2,_⟩ := ha
 obtain ⟨c1,c2,c3,c4,c5⟩ := a1.cell
 obtain ⟨g1,g2,g3,g4,g5⟩ := a2.cell
 rw [← hO]
 intro D
 induction D using Nat.strongRecOn with
 | ind D ih =>
 intro l v j k H Z hlD hi ⟨w1,w2,w3,w4,w5,w6,w7,w8,w9,hv,hvl⟩
 have k1 := look_lt w7 w2
 have k2 := look_lt w7 w3
 have k3 := look_lt w7 w4
 have k4 := look_lt w7 w5
 have k5 := look_lt w7 w6
 have k1':bl ≤ k := by omega
 have k2':bd ≤ k := by omega
 have k3':ba ≤ k := by omega
 have k4':bo ≤ k := by omega
 have k5':bw ≤ k := by omega
 have m1:¬ k = bl := by omega
 have m2:¬ k = bd := by omega
 have m3:¬ k = ba := by omega
 have m4:¬ k = bo := by omega
 have m5:¬ k = bw := by omega
 obtain ⟨v1,v2,v3,v4,v5⟩ := hv.cell
 have lv := hv.len
 obtain ⟨x1,x2,x3,x4⟩ := slv_ids j l.length
 have hO':offV (.agg [d,o,r]) = O := hO.symm
 have lus:∀ E,Go.Pi.look (Go.Pi.upd H bl E) bl = some E := fun E => look_upd_same w2
 have lun:∀ E q,q ≠ bl → Go.Pi.look (Go.Pi.upd H bl E) q = Go.Pi.look H q := fun E q hq => look_upd_ne (Ne.symm hq)
 have mzl:memB Z bl = false := by
  cases hm:memB Z bl with
  | false => rfl
  | true => exact absurd ((memB_iff Z bl).1 hm) w9
 have mzk:∀ q,k ≤ q → memB Z q = false := fun q hq => memB_none w8 hq
 refine callW_of ann43 func43 rfl (by kernel_rfl) ?_
 by_cases hv0:(els v).length = 0
 ·have hv0':els v = [] := List.eq_nil_of_length_eq_zero hv0
  simp [tb,w2,v1,v2,lv,hv0]
  refine ⟨_,_,_,v,false,rfl,rfl,by omega,lt_mono w7 (by omega),fun q hq => by have := w8 q hq; omega,w9,w2,fun q _ _ => rfl,hv,hvl,fun h => (by cases h),fun _ => ?_⟩
  rw [hv0']
  cases D <;> rfl
 ·obtain ⟨es,w,rfl,f1,hw⟩ := hv.at (i := 0) (by omega)
  have hw0 := hw
  obtain ⟨fx,a,q,du,rfl,b1,b2,b3,b4⟩ := hw
  have f1' := getE f1
  obtain ⟨e1,e2,e3,e4,e5⟩ := b1.cell
  obtain ⟨h1,h2,h3,h4,h5⟩ := b2.cell
  simp only [els_slice] at hv0 hvl
  have hes0:0 < es.length := by omega
  obtain ⟨x,es',rfl⟩:∃ x es',es = x :: es' := by cases es with | nil => simp at hes0 | cons x es' => exact ⟨x,es',rfl⟩
  simp only [List.getElem?_cons_zero,Option.some.injEq] at f1
  subst f1
  have hall:∀ w ∈ (.agg [fx,.int .i64 a,.int .i64 q,du] :: es':List PV),IsBd w := hv.all
  obtain ⟨bdd,hbd⟩:∃ bd,bd = bdV (.agg [fx,.int .i64 a,.int .i64 q,du]) := ⟨_,rfl⟩
  have hbf:bdd.fixed = pksV fx := by rw [hbd]; rfl
  have hv0':(((es'.length:Int)+1) == 0) = false := by simp only [beq_eq_false_iff_ne,ne_eq]; omega
  have hrd:∀ hp,(0 < l.length → hp j = some ⟨1,NL l⟩) → reifyL hp [slv j l.length] = some ([preV l],if l.length = 0 then [] else [j]) := fun hp hh => by
   rw [← sv_pre]
   exact reifyL_own1 hh (NL_len l) ((pureL_iff _).1 (pure_NL l))
  simp [tb,w2,h1,e1,hv0',le12 mzk k (by omega),ne12 (show bl < k by omega),run_draw]
  refine dcallK_spec (S := WS) rfl (hrd _ fun hl => ?_) (picks_ok (preV_is l) (by omega)) ?_ fun y hy => ?_
  ·have := w1 hl
   exact (look_cons_ne (by omega)).trans this.1
  ·split
   ·rfl
   ·simp [blt_lit]; have := w1 (by omega); omega
  simp only [picksR,(preV_is l).nats] at hy
  subst hy
  obtain ⟨Z1,hZ1,hZ2⟩ := apply_own (n := k+1+1+1+1+1+1+1+1+1+1+1+1) (j := j) (m := l.length) (H := (k+1+1+1+1+1+1+1,{ sz := 4,es := [PV.agg [fx,PV.int IntKind.i64 a,PV.int IntKind.i64 q,du]] }) :: H) (Z := Z) (v := sv (pk l).length (PK (pk l)))
  rw [hZ1]
  clear hZ1
  have hZk:∀ q ∈ Z1,q < k := fun q hq => by
   rcases hZ2 q hq with h | ⟨rfl,h⟩
   ·exact w8 q h
   ·exact (w1 h).2.1
  have hZb:bl ∉ Z1 := fun hq => by
   rcases hZ2 bl hq with h | ⟨e,h⟩
   ·exact w9 h
   ·exact (w1 h).2.2 e.symm
  clear hZ2 mzk mzl
  have mzk:∀ q,k ≤ q → memB Z1 q = false := fun q hq => memB_none hZk hq
  have mzl:memB Z1 bl = false := by
   cases hm:memB Z1 bl with
   | false => rfl
   | true => exact absurd ((memB_iff Z1 bl).1 hm) hZb
  simp [run_draw,tb]
  refine dcallK_pure (S := WS) rfl (by
   have:(sv (pk l).length (PK (pk l))).pureB = true := by
    unfold sv; split
    ·rfl
    ·rfl
   simp only [PV.pureL,e5,this]; rfl) (equal_ok b1 (by
    unfold sv
    split
    ·exact .inl rfl
    ·exact .inr ⟨_,rfl,fun w hw => by obtain ⟨y,_,rfl⟩ := List.mem_map.1 hw; exact ⟨_,_,rfl⟩⟩) b3) fun y hy => ?_
  simp only [equalR,pksV_sv] at hy
  subst hy
  by_cases hfix:pksV fx = pk l
  ·have so := fun hp => slice_rest (hp := hp) hall (by simp)
   simp only [List.drop_succ_cons,List.drop_zero] at so
   have u1:∀ E,Go.Pi.look (Go.Pi.upd H bl E) bd = some ⟨1,[.eptr (.agg [d,o,r,vs,vc,vh]) 0]⟩ := fun E => (lun E bd (Ne.symm n1)).trans w3
   have u2:∀ E,Go.Pi.look (Go.Pi.upd H bl E) ba = some ⟨4,[.agg [.bool p,ch,.int .i64 c,pf]]⟩ := fun E => (lun E ba (Ne.symm n2)).trans w4
   simp [run_draw,tb,hfix,le12 mzk k (by omega),mzl,so,lus,u1,u2,c1,g1,ne30 (show bl < k by omega),ne30 (show bd < k by omega),ne30 (show ba < k by omega),w2,w3,w4,h1,e1]
   refine ⟨logOk_free (by simp [okTri,tri,tb]),?_⟩
   refine callS (S := WS) [.eptr (.agg [d,o,r,vs,vc,vh]) 0,.agg [.bool p,ch,.int .i64 c,pf],.agg [fx,.int .i64 a,.int .i64 q,du],preV l] (if l.length = 0 then [] else [j]) rfl ?_ (proves_ok lib h (preV_is l) (by rw [← hO]; exact hi) (by omega) ha0 hw0) fun y hy => ?_
   ·rw [← sv_pre]
    exact reifyL_own4 (es := NL l) rfl pa hw0.pure (fun hl => by have := w1 hl; exact (look_cons_ne (by omega)).trans ((lun _ _ this.2.2).trans this.1)) (NL_len l) ((pureL_iff _).1 (pure_NL l))
   simp only [provesR,offV_app,(preV_is l).nats,← hO,← hbd] at hy
   subst hy
   simp [run_draw,tb,thaw,PV.bareB]
   refine ⟨_,_,_,.slice es',leafB O (alV (.agg [.bool p,ch,.int .i64 c,pf])) bdd l,rfl,rfl,by omega,?_,?_,hZb,?_,?_,?_,?_,?_,?_⟩
   ·exact cons_lt (upd_lt w7) (by omega) (by omega)
   ·exact fun q hq => by have := hZk q hq; omega
   ·rw [look_cons_ne (by omega)]; exact lus _
   ·exact fun q hq hne => by rw [look_cons_ne (by omega)]; exact lun _ q hne
   ·exact .inr ⟨es',rfl,fun w hw => hall w (List.mem_cons_of_mem _ hw)⟩
   ·simp only [els_slice,List.length_cons] at hvl ⊢; omega
   ·intro hB
    simp only [els_slice,List.map_cons,← hbd]
    rw [walkL_fix (by rw [hbf]; exact hfix),if_pos (leafB_iff.1 hB)]
   ·intro hB
    simp only [els_slice,List.map_cons,← hbd]
    rw [walkL_fix (by rw [hbf]; exact hfix),if_neg (fun h => by rw [leafB_iff.2 h] at hB; cases hB)]
  ·have hfix':¬ bdd.fixed = pk l := by rw [hbf]; exact hfix
   have hkeep:∀ (H2:List (Nat × Ent)) (Z2:List Nat) (k2:Nat),True := fun _ _ _ => trivial
   rcases Nat.eq_zero_or_pos D with hD | hD
   ·subst hD
    have hln:((l.length:Int) == (els d).length) = true := by simp only [beq_iff_eq]; omega
    simp [tb,hfix,le12 mzk k (by omega),mzl,ne30 (show bl < k by omega),ne30 (show bo < k by omega),ne30 (show ba < k by omega),w2,w3,w4,w5,h1,e1,d1,o1,r1,x4,ld,hln]
    refine ⟨logOk_free (by simp [okTri,tri,tb]),?_⟩
    refine ⟨_,_,_,.slice (.agg [fx,.int .i64 a,.int .i64 q,du] :: es'),false,rfl,rfl,by omega,?_,?_,hZb,?_,?_,hv,hvl,fun h => (by cases h),fun _ => ?_⟩
    ·exact cons_lt w7 (by omega) (by omega)
    ·exact fun q hq => by have := hZk q hq; omega
    ·rw [look_cons_ne (by omega)]; exact w2
    ·exact fun q hq hne => look_cons_ne (by omega)
    ·simp only [els_slice,List.map_cons,← hbd]
     exact walkL_none hfix'
   ·obtain ⟨D,rfl⟩:∃ D',D = D'+1 := ⟨D - 1,by omega⟩
    have hln:((l.length:Int) == (els d).length) = false := by simp only [beq_eq_false_iff_ne,ne_eq]; omega
    obtain ⟨os,row,rfl,z1,z2,z3,z4,z5,z6⟩ := h.row (i := l.length) (by omega)
    have z1' := getE z1
    have hol := h.on
    simp only [els_slice] at hol
    have hlo:l.length < os.length := by omega
    rw [← hO] at z5
    simp [tb,hfix,le12 mzk k (by omega),mzl,ne30 (show bl < k by omega),ne30 (show bo < k by omega),ne30 (show ba < k by omega),w2,w3,w4,w5,h1,e1,d1,o1,r1,x4,ld,hln,z1,z1',hlo]
    refine ⟨logOk_free (by simp [okTri,tri,tb]),?_⟩
    refine loopK_of (wkI O (alV (.agg [.bool p,ch,.int .i64 c,pf])) bl bd ba bo bw d (.slice os) r vs vc vh (.agg [.bool p,ch,.int .i64 c,pf]) l D row.length j k H (bdd :: es'.map bdV)) rfl rfl ?step row.length _ _ ?init
    case init =>
     refine ⟨0,_,.slice (.agg [fx,.int .i64 a,.int .i64 q,du] :: es'),_,_,rfl,by omega,⟨fun hl => ?_,?_,?_,?_,?_,?_,?_,?_,hZb,hv,hvl⟩,by omega,?_,by rw [hbd]; rfl,rfl⟩
     ·have := w1 hl
      exact ⟨(look_cons_ne (by omega)).trans this.1,by omega,this.2.2⟩
     ·exact (look_cons_ne (by omega)).trans w2
     ·exact (look_cons_ne (by omega)).trans w3
     ·exact (look_cons_ne (by omega)).trans w4
     ·exact (look_cons_ne (by omega)).trans w5
     ·exact (look_cons_ne (by omega)).trans w6
     ·exact cons_lt w7 (by omega) (by omega)
     ·exact fun q hq => by have := hZk q hq; omega
     ·exact fun q hq hne => look_cons_ne (by omega)
    case step =>
    have hvlk:walkL O (alV (.agg [.bool p,ch,.int .i64 c,pf])) (D+1) l ((els (.slice (.agg [fx,.int .i64 a,.int .i64 q,du] :: es'))).map bdV) = walkK (fun k lf => walkL O (alV (.agg [.bool p,ch,.int .i64 c,pf])) D (l ++ [k]) lf) row.length 0 (bdd :: es'.map bdV) := by
     simp only [els_slice,List.map_cons,← hbd]
     rw [walkL_deep hfix',z5]
    rintro m vs2 st ⟨e,kk,v2,H2,Z2,rfl,hem,⟨q1,q2,q3,q4,q5,q6,q7,q8,q9,hv2,hv2l⟩,hkk,hfr,hwk,rfl⟩
    have hk1 := look_lt q7 q2
    have hk2 := look_lt q7 q3
    have hk3 := look_lt q7 q4
    have hk4 := look_lt q7 q5
    have hk5 := look_lt q7 q6
    rcases Nat.eq_zero_or_pos m with hm | hm
    ·subst hm
     have he:e = row.length := by omega
     subst he
     simp [tb]
     refine ⟨_,_,_,v2,true,rfl,rfl,by omega,lt_mono q7 (by omega),fun q hq => by have := q8 q hq; omega,q9,q2,hfr,hv2,hv2l,fun _ => ?_,fun h => (by cases h)⟩
     rw [hvlk,← hwk]; rfl
    ·obtain ⟨m,rfl⟩:∃ m',m = m'+1 := ⟨m - 1,by omega⟩
     have he:e < row.length := by omega
     have hee:(e:Int) < row.length := by omega
     have we:IntKind.i64.wrap ((e:Int)+1) = ((e+1:Nat):Int) := w_i64 (by omega)
     have hsn:InR O (l ++ [e]) := InR.snoc O hi (by rw [z5]; exact he)
     have hk5':bw ≤ kk := by omega
     have hm5:¬ kk = bw := by omega
     have key:∀ (k3 b3:Nat),kk ≤ b3 → b3 < k3 → CallW prog (specEnv prog G WS) G A1 43 [.own b3 0 (l.length+1),.ptr bl 0 0,.ptr bd 0 0,.ptr ba 0 0,.ptr bo 0 0,.ptr bw 0 0] ⟨k3,(b3,⟨1,NL (l ++ [e])⟩) :: H2,Z2⟩ (WPost O (alV (.agg [.bool p,ch,.int .i64 c,pf])) D (l ++ [e]) v2 bl k3 ((b3,⟨1,NL (l ++ [e])⟩) :: H2)) := fun k3 b3 h1 h2 => by
      rw [← slv_app]
      refine ih D (by omega) (l ++ [e]) v2 b3 k3 _ Z2 (by simp; omega) hsn ⟨fun _ => ⟨look_one_cons _ _ _,h2,by omega⟩,?_,?_,?_,?_,?_,?_,?_,q9,hv2,hv2l⟩
      ·exact (look_cons_ne (by omega)).trans q2
      ·exact (look_cons_ne (by omega)).trans q3
      ·exact (look_cons_ne (by omega)).trans q4
      ·exact (look_cons_ne (by omega)).trans q5
      ·exact (look_cons_ne (by omega)).trans q6
      ·exact cons_lt q7 (by omega) (by omega)
      ·exact fun q hq => by have := q8 q hq; omega
     have hk4' := hk4
     by_cases hl0:l = []
     ·subst hl0
      have sl0:slv j ([]:List Nat).length = .nil := rfl
      rw [sl0]
      have s3 := fun hp => s3_nil (hp := hp)
      have ap := fun hp fz fr => app_nil (hp := hp) (fz := fz) (fr := fr) (e := (e:Int))
      have e1:NL ([] ++ [e]) = [.int .i64 (e:Int)] := rfl
      rw [e1] at key
      simp only [List.length_nil,Nat.zero_add] at key
      simp [tb,hee]
      refine run_last rfl rfl (by simp only [List.length_cons,List.length_nil,Nat.reduceAdd,Nat.reduceSub,List.take_succ_cons,List.take_zero]; rfl) (by simp only [List.length_cons,List.length_nil,Nat.reduceAdd,Nat.reduceSub,List.drop_succ_cons,List.drop_zero]; rfl) ?_
      simp [tb,hee,q6,s3,ap,ne12 (show bw < kk by omega),buildSliceOp,putParts,repeatP,uniform,PV.pureL,PV.pureB]
      refine ⟨logOk_code (fun x => if x = kk+1+1+1+1+1+1+1+1+1+1+1+1 then 1 else 0) (by simp [code,show ¬ bw = kk+1+1+1+1+1+1+1+1+1+1+1+1 by omega] <;> decide +kernel),?_⟩
      refine callK_run rfl (callW_to (key _ _ (by omega) (by omega)) fun v s' hp => ?_)
      obtain ⟨k4,H4,Z4,v4,b,rfl,rfl,hk4,hlt4,hZ4,hf4,hl4,hfr4,hv4,hv4l,ht,hf⟩ := hp
      have fr4:∀ q,q < kk → q ≠ bl → Go.Pi.look H4 q = Go.Pi.look H2 q := fun q h1 h2 => (hfr4 q (by omega) h2).trans (look_cons_ne (by omega))
      cases b with
      | true =>
       simp [run_draw,tb]
       refine ⟨m,by omega,e+1,_,v4,H4,Z4,by rw [we]; rfl,by omega,⟨fun hl => ?_,hl4,?_,?_,?_,?_,lt_mono hlt4 (by omega),fun q hq => by have := hZ4 q hq; omega,hf4,hv4,hv4l⟩,by omega,fun q h1 h2 => (fr4 q (by omega) h2).trans (hfr q h1 h2),?_,rfl⟩
       ·have := q1 hl
        exact ⟨(fr4 j this.2.1 this.2.2).trans this.1,by omega,this.2.2⟩
       ·exact (fr4 bd hk2 (Ne.symm n1)).trans q3
       ·exact (fr4 ba hk3 (Ne.symm n2)).trans q4
       ·exact (fr4 bo hk4' (Ne.symm n3)).trans q5
       ·exact (fr4 bw hk5 (Ne.symm n4)).trans q6
       ·rw [← hwk,walkK,ht rfl]; rfl
      | false =>
       simp [run_draw,tb]
       refine ⟨_,_,_,v4,false,rfl,rfl,by omega,lt_mono hlt4 (by omega),fun q hq => by have := hZ4 q hq; omega,hf4,hl4,fun q h1 h2 => (fr4 q (by omega) h2).trans (hfr q h1 h2),hv4,hv4l,fun h => (by cases h),fun _ => ?_⟩
       rw [hvlk,← hwk,walkK,hf rfl]; rfl
     ·have hlp:0 < l.length := by cases l with | nil => exact absurd rfl hl0 | cons _ _ => simp
      obtain ⟨qj,qk,qb⟩ := q1 hlp
      have esl:slv j l.length = .own j 0 l.length := slv_pos hlp
      have nll := NL_len l
      have s3 := s3_own qj nll
      have ap := fun fz fr => app_ownF (fz := fz) (fr := fr) (e := (e:Int)) qj nll (by omega)
      rw [NL_app] at key
      rw [esl]
      simp [tb,hee]
      refine run_last rfl rfl (by simp only [List.length_cons,List.length_nil,Nat.reduceAdd,Nat.reduceSub,List.take_succ_cons,List.take_zero]; rfl) (by simp only [List.length_cons,List.length_nil,Nat.reduceAdd,Nat.reduceSub,List.drop_succ_cons,List.drop_zero]; rfl) ?_
      simp [tb,hee,qj,q6,s3,ap,ne12 (show bw < kk by omega),buildSliceOp,putParts,repeatP,uniform,PV.pureL,PV.pureB]
      refine ⟨logOk_code (fun x => if x = kk+1+1+1+1+1+1+1+1+1+1+1+1 then 1 else 0) (by simp [code,show ¬ j = kk+1+1+1+1+1+1+1+1+1+1+1+1 by omega,show ¬ bw = kk+1+1+1+1+1+1+1+1+1+1+1+1 by omega] <;> decide +kernel),?_⟩
      refine callK_run rfl (callW_to (key _ _ (by omega) (by omega)) fun v s' hp => ?_)
      obtain ⟨k4,H4,Z4,v4,b,rfl,rfl,hk4,hlt4,hZ4,hf4,hl4,hfr4,hv4,hv4l,ht,hf⟩ := hp
      have fr4:∀ q,q < kk → q ≠ bl → Go.Pi.look H4 q = Go.Pi.look H2 q := fun q h1 h2 => (hfr4 q (by omega) h2).trans (look_cons_ne (by omega))
      cases b with
      | true =>
       simp [run_draw,tb]
       refine ⟨m,by omega,e+1,_,v4,H4,Z4,by rw [we,esl],by omega,⟨fun hl => ?_,hl4,?_,?_,?_,?_,lt_mono hlt4 (by omega),fun q hq => by have := hZ4 q hq; omega,hf4,hv4,hv4l⟩,by omega,fun q h1 h2 => (fr4 q (by omega) h2).trans (hfr q h1 h2),?_,rfl⟩
       ·have := q1 hl
        exact ⟨(fr4 j this.2.1 this.2.2).trans this.1,by omega,this.2.2⟩
       ·exact (fr4 bd hk2 (Ne.symm n1)).trans q3
       ·exact (fr4 ba hk3 (Ne.symm n2)).trans q4
       ·exact (fr4 bo hk4' (Ne.symm n3)).trans q5
       ·exact (fr4 bw hk5 (Ne.symm n4)).trans q6
       ·rw [← hwk,walkK,ht rfl]; rfl
      | false =>
       simp [run_draw,tb]
       refine ⟨_,_,_,v4,false,rfl,rfl,by omega,lt_mono hlt4 (by omega),fun q hq => by have := hZ4 q hq; omega,hf4,hl4,fun q h1 h2 => (fr4 q (by omega) h2).trans (hfr q h1 h2),hv4,hv4l,fun h => (by cases h),fun _ => ?_⟩
       rw [hvlk,← hwk,walkK,hf rfl]; rfl
end Go.Proofs.Tryz
