/- The machine on symbols: checker.Allocation. No condition. -/
import Derived.Test.YtgpmgondjppmmaaGreatDoorP4
set_option linter.unnecessarySimpa false
set_option linter.unusedSectionVars false
set_option linter.unusedSimpArgs false
set_option linter.unusedVariables false
set_option maxHeartbeats 8000000
set_option maxRecDepth 100000
namespace Go.Proofs.Tryz
open Go Go.Pi Go.Num Go.Lin Go.Alc
variable [Hole] {G:Nat → Option PV}
attribute [local simp] slice3Op clearOp
open Classical in
noncomputable def chB (O:Off) (A:Al):Bool := decide (ChOk O A)
theorem chB_iff {O:Off} {A:Al}:chB O A = true ↔ ChOk O A := by classical unfold chB; exact decide_eq_true_iff
theorem chB_no {O:Off} {A:Al} (h:¬ ChOk O A):chB O A = false := by
 cases e:chB O A with
 | false => rfl
 | true => exact absurd (chB_iff.1 e) h
theorem pre_of {v:PV} (h:Lst IsI v) (hw:∀ i,i < (els v).length → 0 ≤ (intsV v).getD i 0):IsPre v (natL (intsV v)) := by
 rcases h with rfl | ⟨es,rfl,h⟩
 ·exact .inl ⟨rfl,rfl⟩
 ·refine .inr ?_
  congr 1
  simp only [els_slice] at hw
  refine List.ext_getElem? fun i => ?_
  rcases Nat.lt_or_ge i es.length with hi | hi
  ·obtain ⟨k,hk⟩ := h es[i] (List.getElem_mem hi)
   have e1:es[i]? = some (.int .i64 k) := by rw [List.getElem?_eq_getElem hi,hk]
   have h0 := hw i hi
   rw [intsV_at e1] at h0
   have hl:i < (natL (intsV (.slice es))).length := by simp [natL,intsV,els,hi]
   rw [e1,NL_get hl]
   have:(natL (intsV (.slice es))).getD i 0 = k.toNat := by simp [natL,intsV,els,List.getD,e1,intV]
   rw [this,Int.toNat_of_nonneg h0]
  ·rw [List.getElem?_eq_none hi,List.getElem?_eq_none (by simp [NL,natL,intsV,els,hi])]
theorem natL_len (l:List Int):(natL l).length = l.length := by simp [natL]
theorem natL_get {l:List Int} {i:Nat}:(natL l).getD i 0 = (l.getD i 0).toNat := by
 simp only [natL,List.getD,List.getElem?_map]
 cases l[i]? <;> rfl
noncomputable def chosenR:CRel | [X,a],r => r = .bool (chB (offV X) (alV a)) | _,_ => False
noncomputable def ch1I (O:Off) (X va ch:PV):Nat → List PV → St → Prop := fun n vs st => ∃ (i k:Nat) (H:List (Nat × Ent)),vs = [.int .i64 (i:Int),.int .i64 ((els ch).length:Int),.ptr 0 0 0,ch,.ptr 1 0 0] ∧ i + n = (els ch).length ∧
 (∀ j,j < i → 0 ≤ (intsV ch).getD j 0 ∧ (intsV ch).getD j 0 < O.cnt j) ∧ Go.Pi.look H 0 = some ⟨4,[X]⟩ ∧ Go.Pi.look H 1 = some ⟨4,[va]⟩ ∧ st = ⟨k,H,[]⟩
noncomputable def ch2I (O:Off) (X va:PV) (l:List Nat):Nat → List PV → St → Prop := fun n vs st => ∃ (q k:Nat) (H:List (Nat × Ent)),vs = [.int .i64 (q:Int),.ptr 1 0 0,.ptr 0 0 0,.int .i64 (O.m:Int)] ∧ q + n = O.m ∧
 (∀ j,j < q → fa O j l = 0) ∧ Go.Pi.look H 0 = some ⟨4,[X]⟩ ∧ Go.Pi.look H 1 = some ⟨4,[va]⟩ ∧ st = ⟨k,H,[]⟩
theorem chosen_ok (lib:ReadLib G) {d o r fs va:PV} (h:XOk d o r fs) (ha:IsAl va):Gives prog G 38 [.agg [d,o,r,fs],va] (chosenR [.agg [d,o,r,fs],va]) := by
 obtain ⟨O,hO⟩:∃ O,O = offV (.agg [d,o,r]) := ⟨_,rfl⟩
 have hON:O.n = (els d).length := by rw [hO]; exact h.n
 have hOM:O.m = (els r).length := by rw [hO]; exact h.m
 have hN := h.n1
 have hM := h.m1
 obtain ⟨d1,d2,d3,d4,d5⟩ := h.dim.cell
 obtain ⟨o1,o2,o3,o4,o5⟩ := h.opt.cell
 obtain ⟨r1,r2,r3,r4,r5⟩ := h.req.cell
 obtain ⟨s1,s2,s3,s4,s5⟩ := h.cell
 have pX := h.pure
 have pa := ha.pure
 have ld := h.dim.len
 have lr := h.req.len
 have hfe:chosenR [.agg [d,o,r,fs],va] = fun x => x = .bool (chB O (alV va)) := by funext x; simp only [chosenR,offV_app,← hO]
 rw [hfe]
 obtain ⟨p,ch,c,pf,rfl,a1,a2,hcl,_⟩ := ha
 obtain ⟨c1,c2,c3,c4,c5⟩ := a1.cell
 obtain ⟨g1,g2,g3,g4,g5⟩ := a2.cell
 have lc := a1.len
 obtain ⟨A,hA⟩:∃ A,A = alV (.agg [.bool p,ch,.int .i64 c,pf]) := ⟨_,rfl⟩
 have hAc:A.choice = intsV ch := by rw [hA]; rfl
 have hAx:A.cost = c := by rw [hA]; rfl
 have hm:maxLen ≤ 9223372036854775807 := by decide
 rw [← hA]
 refine gives (S := [(78,cfailsR),(79,costR)]) (by kernel_rfl) (by kernel_rfl) (callW_of ann38 func38 rfl (by kernel_rfl) ?_)
 by_cases hs:(els ch).length = (els d).length
 rotate_left
 ·have hs':((((els ch).length:Int) != ((els d).length:Int)) = true) := by simp only [bne_iff_ne,ne_eq]; omega
  simp [run_draw,tb,d1,o1,r1,s1,c1,g1,ld,lc,hs']
  refine outK_pure rfl ?_
  rw [chB_no fun hh => hs ?_]
  rw [← hON,← hh.1,hAc,intsV_len]
 ·have hs':((((els ch).length:Int) != ((els d).length:Int)) = false) := by rw [hs]; simp
  simp [run_draw,tb,d1,o1,r1,s1,c1,g1,ld,lc,hs']
  refine loopK_of (ch1I O (.agg [d,o,r,fs]) (.agg [.bool p,ch,.int .i64 c,pf]) ch) rfl rfl ?step (els ch).length _ _ ?init
  case init => exact ⟨0,_,_,rfl,by omega,fun j h => absurd h (Nat.not_lt_zero j),rfl,rfl,rfl⟩
  case step =>
  rintro n vs' st ⟨i,k,H,rfl,hin,hall,l0,l1,rfl⟩
  rcases Nat.eq_zero_or_pos n with hn0 | hn0
  ·have hi0:i = (els ch).length := by omega
   subst hi0
   have hpre := pre_of a1 fun i hi => (hall i hi).1
   obtain ⟨l,hl⟩:∃ l,l = natL (intsV ch) := ⟨_,rfl⟩
   rw [← hl] at hpre
   have hll:l.length = (els ch).length := by rw [hl,natL_len,intsV_len]
   have hin:InR O l := fun i hi => by
    have := hall i (by omega)
    rw [hl,natL_get]; omega
   have hch:ChOk O A ↔ c = bound O l ∧ okAll O l := by
    unfold ChOk
    rw [hAc,hAx,← hl]
    refine ⟨fun h => ⟨h.2.2.1,h.2.2.2⟩,fun h => ⟨by rw [intsV_len,hs,hON],fun i hi => hall i (by omega),h.1,h.2⟩⟩
   obtain ⟨p1,p2,p3,p4,p5⟩ := hpre.cell
   simp [run_draw,tb,l0,l1,lr]
   refine loopK_of (ch2I O (.agg [d,o,r,fs]) (.agg [.bool p,ch,.int .i64 c,pf]) l) rfl rfl ?step2 O.m _ _ ?init2
   case init2 => exact ⟨0,_,_,by rw [hOM]; rfl,by omega,fun j h => absurd h (Nat.not_lt_zero j),l0,l1,rfl⟩
   case step2 =>
   rintro n vs' st ⟨q,k2,H2,rfl,hqn,hqa,l0,l1,rfl⟩
   rcases Nat.eq_zero_or_pos n with hn0 | hn0
   ·have hq0:q = O.m := by omega
    subst hq0
    simp [run_draw,tb,l0,l1]
    refine dcallK_pure rfl (by simp only [PV.pureL,pX,p5]; rfl) (cost_ok h hpre (by rw [← hO]; exact hin) (by omega)) fun y hy => ?_
    simp only [costR,offV_app,hpre.nats,← hO] at hy
    subst hy
    simp [run_draw,tb,d4,o4,r4,s4,c4,g4]
    refine ⟨logOk_free (by simp [okTri,tri,tb]),outK_pure rfl ?_⟩
    congr 1
    rw [Bool.eq_iff_iff,chB_iff,hch,beq_iff_eq]
    exact ⟨fun h => ⟨h,hqa⟩,fun h => h.1⟩
   ·have hq0:q < O.m := by omega
    have hqq:(q:Int) < O.m := by omega
    have wq:IntKind.i64.wrap ((q:Int)+1) = ((q+1:Nat):Int) := w_i64 (by omega)
    have pI:∀ s:Int,PV.pureL [.agg [d,o,r,fs],.int .i64 (q:Int),.int .i64 s,ch] = true := fun s => by simp only [PV.pureL,pX,p5]; rfl
    simp [run_draw,tb,hqq,l0,l1,d1,o1,r1,s1,c1,g1]
    refine callK_pure rfl (pI 1) (cfails_ok lib (.inl rfl) h hpre (by rw [← hO]; exact hin) (by omega) (by omega)) fun y hy => ?_
    simp only [cfailsR,offV_app,hpre.nats,Int.toNat_natCast,← hO,if_true] at hy
    subst hy
    cases hab:above O q l with
    | true =>
     simp [run_draw,tb,hab]
     refine outK_pure rfl ?_
     rw [chB_no fun hh => ?_]
     have := ((fa_zero O).1 ((hch.1 hh).2 q hq0)).1
     rw [hab] at this; cases this
    | false =>
     simp [run_draw,tb,hab,l0,l1,d1,o1,r1,s1,c1,g1]
     refine callK_pure rfl (pI (-1)) (cfails_ok lib (.inr rfl) h hpre (by rw [← hO]; exact hin) (by omega) (by omega)) fun y hy => ?_
     simp only [cfailsR,offV_app,hpre.nats,Int.toNat_natCast,← hO] at hy
     rw [if_neg (by decide)] at hy
     subst hy
     cases hbe:below O q l with
     | true =>
      simp [run_draw,tb,hbe]
      refine outK_pure rfl ?_
      rw [chB_no fun hh => ?_]
      have := ((fa_zero O).1 ((hch.1 hh).2 q hq0)).2
      rw [hbe] at this; cases this
     | false =>
      simp [run_draw,tb,hbe,wq]
      refine ⟨n - 1,by omega,q+1,_,_,rfl,by omega,fun j hj => ?_,l0,l1,rfl⟩
      rcases lt_succ_cases hj with h7 | rfl
      ·exact hqa j h7
      ·exact (fa_zero O).2 ⟨hab,hbe⟩
  ·have hi0:i < (els ch).length := by omega
   have hii:(i:Int) < (els ch).length := by omega
   have wi:IntKind.i64.wrap ((i:Int)+1) = ((i+1:Nat):Int) := w_i64 (by omega)
   obtain ⟨ev,w,rfl,f1,x,rfl⟩ := a1.at hi0
   have f1' := getE f1
   have hx := intsV_at f1
   obtain ⟨es,row,rfl,h1,h2,h3,h4,h5,h6⟩ := h.row (i := i) (by omega)
   rw [← hO] at h5 h6
   have h1' := getE h1
   have hiel:i < es.length := by have := h.on; simp only [els_slice] at this; omega
   simp only [els_slice] at hii hi0 hs lc hAc ⊢
   have bad:¬ (0 ≤ x ∧ x < row.length) → chB O A = false := fun hb => chB_no fun hh => hb (by
    have := hh.2.1 i (by omega)
    rw [hAc,hx,h5] at this
    exact this)
   by_cases e1:x < 0
   ·simp [run_draw,tb,hii,hi0,f1,f1',e1]
    exact outK_pure rfl (by rw [bad (by omega)])
   ·by_cases e2:(row.length:Int) ≤ x
    ·simp [run_draw,tb,hii,hi0,f1,f1',e1,e2,h1,h1',hiel,l0,l1]
     exact outK_pure rfl (by rw [bad (by omega)])
    ·simp [run_draw,tb,hii,hi0,f1,f1',e1,e2,h1,h1',hiel,wi,l0,l1]
     refine ⟨n - 1,by omega,i+1,_,_,by rfl,by simp only [els_slice] at hin ⊢; omega,fun j hj => ?_,l0,l1,rfl⟩
     rcases lt_succ_cases hj with h7 | rfl
     ·exact hall j h7
     ·rw [hx,h5]; omega
def acceptedR:CRel | [.bool b],r => r = .int .i64 (if b then 0 else 27) | _,_ => False
theorem accepted_ok (b:Bool):Gives prog G 40 [.bool b] (acceptedR [.bool b]) := by
 refine gives (S := []) (by kernel_rfl) (by kernel_rfl) (callW_of ann40 func40 rfl (by kernel_rfl) ?_)
 cases b
 ·simp [run_draw,tb]
  exact outK_pure rfl rfl
 ·simp [run_draw,tb]
  exact outK_pure rfl rfl
open Classical in
noncomputable def accB (O:Off) (A:Al):Bool := decide (Accept O A)
theorem accB_iff {O:Off} {A:Al}:accB O A = true ↔ Accept O A := by classical unfold accB; exact decide_eq_true_iff
theorem accB_no {O:Off} {A:Al} (h:¬ Accept O A):accB O A = false := by
 cases e:accB O A with
 | false => rfl
 | true => exact absurd (accB_iff.1 e) h
def FormOf (n:Nat) (q:Rq) (w:PV):Prop := ∃ b m c u fe,w = .agg [.bool b,m,.bool c,u,.slice fe] ∧ IsRat (.agg [.bool b,m,.bool c,u]) q.c ∧ RV fe n (fun i => q.f.getD i 0)
theorem FormOf.pure {n:Nat} {q:Rq} {w:PV} (h:FormOf n q w):w.pureB = true := by
 obtain ⟨b,m,c,u,fe,rfl,h1,h2⟩ := h
 obtain ⟨⟨a1,a2,a3,a4,a5⟩,⟨b1,b2,b3,b4,b5⟩⟩ := h1.cf
 simp [PV.pureB,PV.pureL,a5,b5]
theorem reify_off {hp:Nat → Option Ent} {d o r:PV} {j n:Nat} {es:List PV} (h1:d.pureB = true) (h2:o.pureB = true) (h3:r.pureB = true) (h:0 < n → hp j = some ⟨5,es⟩) (hn:es.length = n) (he:∀ v ∈ es,v.pureB = true):reify hp (.agg [d,o,r,slv j n]) = some (.agg [d,o,r,sv n es],if n = 0 then [] else [j]) := by
 rcases Nat.eq_zero_or_pos n with z | z
 ·subst z
  simp only [slv,sv,if_true]
  exact reify_pure (by simp [PV.pureL,h1,h2,h3,PV.pureB])
 ·rw [slv_pos z,sv_pos z,if_neg (by omega)]
  unfold reify
  rw [show (PV.agg [d,o,r,.own j 0 n]).pureB = false from by simp [PV.pureB,PV.pureL]]
  show reifyW _ (reifyN _ 5) _ = _
  have e := reifyW_own (d := 4) (h z) hn (by decide) he
  rw [reifyW,reifyWL,reifyWL,reifyWL,reifyWL,reifyWL,reifyW_pure d h1,reifyW_pure o h2,reifyW_pure r h3,e]
  rfl
theorem reifyL_off {hp:Nat → Option Ent} {d o r:PV} {j n:Nat} {es vs:List PV} (h1:d.pureB = true) (h2:o.pureB = true) (h3:r.pureB = true) (h:0 < n → hp j = some ⟨5,es⟩) (hn:es.length = n) (he:∀ v ∈ es,v.pureB = true) (hv:PV.pureL vs = true):reifyL hp (.agg [d,o,r,slv j n] :: vs) = some (.agg [d,o,r,sv n es] :: vs,if n = 0 then [] else [j]) := by
 have e := reifyL_pure (hp := hp) hv
 unfold reifyL at e ⊢
 rw [mapR,reify_off h1 h2 h3 h hn he,e]
 simp
noncomputable def allocR:CRel | [X,a],r => r = .int .i64 (if accB (offV X) (alV a) then 0 else 27) | _,_ => False
noncomputable def alI (O:Off) (d o r va:PV):Nat → List PV → St → Prop := fun n vs st => ∃ (q k j:Nat) (H:List (Nat × Ent)) (es:List PV),vs = [.int .i64 (q:Int),.ptr 5 0 0,.int .i64 (O.m:Int),r,.ptr 0 0 0,.ptr 1 0 0] ∧ q + n = O.m ∧
 (0 < q → Go.Pi.look H j = some ⟨5,es⟩ ∧ j < k ∧ 5 < j) ∧ es.length = q ∧ (∀ i,i < q → ∃ w,es[i]? = some w ∧ FormOf O.n (O.rq i) w) ∧
 Go.Pi.look H 0 = some ⟨3,[.agg [d,o,r]]⟩ ∧ Go.Pi.look H 1 = some ⟨4,[va]⟩ ∧ Go.Pi.look H 5 = some ⟨4,[.agg [d,o,r,slv j q]]⟩ ∧ (∀ p ∈ H,p.1 < k) ∧ 5 < k ∧ st = ⟨k,H,[]⟩
theorem alloc_ok (lib:ReadLib G) {d o r va:PV} (h:Vld d o r) (ha:IsAl va):Gives prog G 10 [.agg [d,o,r],va] (allocR [.agg [d,o,r],va]) := by
 obtain ⟨O,hO⟩:∃ O,O = offV (.agg [d,o,r]) := ⟨_,rfl⟩
 have hON:O.n = (els d).length := by rw [hO]; exact h.n
 have hOM:O.m = (els r).length := by rw [hO]; exact h.m
 have hN := h.n1
 have hM := h.m1
 obtain ⟨d1,d2,d3,d4,d5⟩ := h.dim.cell
 obtain ⟨o1,o2,o3,o4,o5⟩ := h.opt.cell
 obtain ⟨r1,r2,r3,r4,r5⟩ := h.req.cell
 have ld := h.dim.len
 have lr := h.req.len
 have pa := ha.pure
 have hfe:allocR [.agg [d,o,r],va] = fun x => x = .int .i64 (if accB O (alV va) then 0 else 27) := by funext x; simp only [allocR,← hO]
 rw [hfe]
 have ha0 := ha
 obtain ⟨p,ch,c,pf,rfl,a1,a2,hcl,hpl⟩ := ha
 obtain ⟨c1,c2,c3,c4,c5⟩ := a1.cell
 obtain ⟨g1,g2,g3,g4,g5⟩ := a2.cell
 have lc := a1.len
 obtain ⟨A,hA⟩:∃ A,A = alV (.agg [.bool p,ch,.int .i64 c,pf]) := ⟨_,rfl⟩
 have hAp:A.poss = p := by rw [hA]; rfl
 have hAc:A.choice = intsV ch := by rw [hA]; rfl
 have hAx:A.cost = c := by rw [hA]; rfl
 have hAf:A.proof = (els pf).map bdV := by rw [hA]; rfl
 rw [← hA]
 refine gives (S := [(37,formR),(38,chosenR),(39,coversR),(40,acceptedR)]) (by kernel_rfl) (by kernel_rfl) (callW_of ann10 func10 rfl (by kernel_rfl) ?_)
 simp [run_draw,tb,d1,o1,r1,c1,g1,lr,← hOM]
 refine loopK_of (alI O d o r (.agg [.bool p,ch,.int .i64 c,pf])) rfl rfl ?step O.m _ _ ?init
 case init => exact ⟨0,_,0,_,[],rfl,by omega,fun h => absurd h (Nat.lt_irrefl 0),rfl,fun i h => absurd h (Nat.not_lt_zero i),rfl,rfl,rfl,by simp,by omega,rfl⟩
 case step =>
 rintro n vs st ⟨q,k,j,H,es,rfl,hqn,lj,hel,hes,l0,l1,l5,hlt,hk5,rfl⟩
 rcases Nat.eq_zero_or_pos n with hn0 | hn0
 ·have hq0:q = O.m := by omega
  subst hq0
  have hes1:∀ v ∈ es,v.pureB = true := fun v hv => by
   obtain ⟨i,hi,rfl⟩ := List.getElem_of_mem hv
   obtain ⟨w,h1,h2⟩ := hes i (by omega)
   rw [List.getElem?_eq_getElem hi] at h1
   cases h1
   exact h2.pure
  obtain ⟨fs,hfs⟩:∃ fs,fs = sv O.m es := ⟨_,rfl⟩
  have hX:XOk d o r fs := ⟨h,by
   rw [hfs]
   rcases Nat.eq_zero_or_pos O.m with z | z
   ·exact .inl ⟨by omega,by rw [z]; rfl⟩
   ·refine .inr ⟨es,sv_pos z,by omega,fun q hq => ?_⟩
    obtain ⟨w,h1,b,m,c,u,fe,rfl,h2,h3⟩ := hes q (by omega)
    rw [hO] at h2 h3
    exact ⟨b,m,c,u,fe,h1,h2,by rw [h3.len,h.n],fun i hi => h3.at_ i (by rw [h.n]; exact hi)⟩⟩
  have hr:∀ vs:List PV,PV.pureL vs = true → reifyL (Go.Pi.look H) (.agg [d,o,r,slv j O.m] :: vs) = some (.agg [d,o,r,fs] :: vs,if O.m = 0 then [] else [j]) := fun vs hv => by
   rw [hfs]
   exact reifyL_off d5 o5 r5 (fun z => (lj z).1) hel hes1 hv
  obtain ⟨x1,x2,x3,x4⟩ := slv_ids j O.m
  have hi0:InR O [] := fun i hi => by simp at hi
  have last:∀ (T:Tm),True := fun _ => trivial
  cases p with
  | true =>
   simp [run_draw,tb,l0,l1,l5,d1,o1,r1,c1,g1,x2]
   refine callK_spec rfl (hr _ (by simp only [PV.pureL,pa]; rfl)) (chosen_ok lib hX ha0) fun y hy => ?_
   simp only [chosenR,offV_app,← hO,← hA] at hy
   subst hy
   cases hc:chB O A with
   | false =>
    simp [run_draw,tb,hc,thaw,PV.bareB]
    refine outK_pure rfl ?_
    rw [accB_no fun hh => ?_]
    ·rfl
    ·rw [chB_iff.2 (hh.1 hAp)] at hc; cases hc
   | true =>
    simp [run_draw,tb,hc,thaw,PV.bareB,l0,l1,l5,d1,o1,r1,c1,g1,x2]
    refine callK_spec rfl (hr _ (by simp only [PV.pureL,pa,g5]; rfl)) (by rw [← preV_nil]; exact covers_ok lib hX ha0 O.n [] pf (by simp [hON]) (by rw [← hO]; exact hi0) a2 hpl) fun y hy => ?_
    have hy2:CovP O A O.n [] A.proof y := by
     rw [← preV_nil] at hy
     simp only [coversR,offV_app,(preV_is []).nats,← hO,← hA,← hAf] at hy
     exact hy
    clear hy
    obtain ⟨w2,b,rfl,hw2,hw2l,ht,hf⟩ := hy2
    obtain ⟨u1,u2,u3,u4,u5⟩ := hw2.cell
    have lw := hw2.len
    have acc := accepted_ok (G := G)
    cases b with
    | true =>
     by_cases hz:(els w2).length = 0
     ·simp [run_draw,tb,u1,u2,u3,u4,lw,hz,thaw,PV.bareB]
      refine callK_pure rfl rfl (acc true) fun y hy => ?_
      simp only [acceptedR] at hy
      subst hy
      simp [run_draw,tb]
      refine outK_pure rfl ?_
      rw [accB_iff.2 ⟨fun _ => chB_iff.1 hc,fun h => (by rw [hAp] at h; cases h),by rw [ht rfl,List.eq_nil_of_length_eq_zero hz]; rfl⟩]
      rfl
     ·have hz':(((els w2).length:Int) == 0) = false := by simp only [beq_eq_false_iff_ne,ne_eq]; omega
      simp [run_draw,tb,u1,u2,u3,u4,lw,hz',thaw,PV.bareB]
      refine callK_pure rfl rfl (acc false) fun y hy => ?_
      simp only [acceptedR] at hy
      subst hy
      simp [run_draw,tb]
      refine outK_pure rfl ?_
      rw [accB_no fun hh => hz ?_]
      ·rfl
      ·have := hh.2.2
       rw [ht rfl] at this
       simpa using this
    | false =>
     simp [run_draw,tb,u1,u2,u3,u4,lw,thaw,PV.bareB]
     refine callK_pure rfl rfl (acc false) fun y hy => ?_
     simp only [acceptedR] at hy
     subst hy
     simp [run_draw,tb]
     refine outK_pure rfl ?_
     rw [accB_no fun hh => ?_]
     ·rfl
     ·have := hh.2.2
      rw [hf rfl] at this
      cases this
  | false =>
   by_cases hch:(els ch).length = 0
   ·by_cases hc0:c = 0
    ·subst hc0
     simp [run_draw,tb,l0,l1,l5,d1,o1,r1,c1,g1,x2,lc,hch]
     refine callK_spec rfl (hr _ (by simp only [PV.pureL,pa,g5]; rfl)) (by rw [← preV_nil]; exact covers_ok lib hX ha0 O.n [] pf (by simp [hON]) (by rw [← hO]; exact hi0) a2 hpl) fun y hy => ?_
     have hy2:CovP O A O.n [] A.proof y := by
      rw [← preV_nil] at hy
      simp only [coversR,offV_app,(preV_is []).nats,← hO,← hA,← hAf] at hy
      exact hy
     clear hy
     obtain ⟨w2,b,rfl,hw2,hw2l,ht,hf⟩ := hy2
     obtain ⟨u1,u2,u3,u4,u5⟩ := hw2.cell
     have lw := hw2.len
     have acc := accepted_ok (G := G)
     cases b with
     | true =>
      by_cases hz:(els w2).length = 0
      ·simp [run_draw,tb,u1,u2,u3,u4,lw,hz,thaw,PV.bareB]
       refine callK_pure rfl rfl (acc true) fun y hy => ?_
       simp only [acceptedR] at hy
       subst hy
       simp [run_draw,tb]
       refine outK_pure rfl ?_
       rw [accB_iff.2 ⟨fun h => (by rw [hAp] at h; cases h),fun _ => ⟨by rw [hAc]; exact List.eq_nil_of_length_eq_zero (by rw [intsV_len]; exact hch),by rw [hAx]⟩,by rw [ht rfl,List.eq_nil_of_length_eq_zero hz]; rfl⟩]
       rfl
      ·have hz':(((els w2).length:Int) == 0) = false := by simp only [beq_eq_false_iff_ne,ne_eq]; omega
       simp [run_draw,tb,u1,u2,u3,u4,lw,hz',thaw,PV.bareB]
       refine callK_pure rfl rfl (acc false) fun y hy => ?_
       simp only [acceptedR] at hy
       subst hy
       simp [run_draw,tb]
       refine outK_pure rfl ?_
       rw [accB_no fun hh => hz ?_]
       ·rfl
       ·have := hh.2.2
        rw [ht rfl] at this
        simpa using this
     | false =>
      simp [run_draw,tb,u1,u2,u3,u4,lw,thaw,PV.bareB]
      refine callK_pure rfl rfl (acc false) fun y hy => ?_
      simp only [acceptedR] at hy
      subst hy
      simp [run_draw,tb]
      refine outK_pure rfl ?_
      rw [accB_no fun hh => ?_]
      ·rfl
      ·have := hh.2.2
       rw [hf rfl] at this
       cases this
    ·have hc0':(c != 0) = true := by simpa using hc0
     have hc0b:(c == 0) = false := by simpa using hc0
     simp [run_draw,tb,l0,l1,l5,d1,o1,r1,c1,g1,x2,lc,hch,hc0',hc0b]
     refine outK_pure (v := .int .i64 27) rfl ?_
     rw [accB_no fun hh => hc0 ?_]
     ·rfl
     ·rw [← hAx]; exact (hh.2.1 hAp).2
   ·have hch':0 < (els ch).length := by omega
    simp [run_draw,tb,l0,l1,l5,d1,o1,r1,c1,g1,x2,lc,hch']
    refine outK_pure rfl ?_
    rw [accB_no fun hh => hch ?_]
    ·rfl
    ·rw [← intsV_len,← hAc,(hh.2.1 hAp).1]; rfl
 ·have hq0:q < O.m := by omega
  have hqq:(q:Int) < O.m := by omega
  have wq:IntKind.i64.wrap ((q:Int)+1) = ((q+1:Nat):Int) := w_i64 (by omega)
  obtain ⟨rs,nm,op,cc,ts,fc,ar,lo,hh,rfl,k1,k2,k3,k4,k5,k6,⟨k71,k72,k73,k74,k75⟩,k8⟩ := h.rq (q := q) (by omega)
  rw [← hO] at k8
  have k1' := getE k1
  have hqr:q < rs.length := by simp only [els_slice] at hOM; omega
  obtain ⟨t1,t2,t3,t4,t5⟩ := k3.cell
  have lus5:∀ E,Go.Pi.look (Go.Pi.upd H 5 E) 5 = some E := fun E => look_upd_same l5
  have hfo := formOf_ok lib k2 k3 k4 hN
  have nk2:¬ k = 2 := by omega
  obtain ⟨x1,x2,x3,x4⟩ := slv_ids j q
  have next:∀ (k3 j1:Nat) (H3:List (Nat × Ent)) (w:PV),FormOf O.n (O.rq q) w → Go.Pi.look H3 j1 = some ⟨5,es ++ [w]⟩ → Go.Pi.look H3 0 = some ⟨3,[.agg [d,o,.slice rs]]⟩ → Go.Pi.look H3 1 = some ⟨4,[.agg [.bool p,ch,.int .i64 c,pf]]⟩ → Go.Pi.look H3 5 = some ⟨4,[.agg [d,o,.slice rs,.own j1 0 (q+1)]]⟩ → 5 < k3 → (∀ q ∈ H3,q.1 < k3) → j1 < k3 → 5 < j1 → ∃ m',m' < n ∧ alI O d o (.slice rs) (.agg [.bool p,ch,.int .i64 c,pf]) m' [.int .i64 (IntKind.i64.wrap ((q:Int)+1)),.ptr 5 0 0,.int .i64 (O.m:Int),.slice rs,.ptr 0 0 0,.ptr 1 0 0] ⟨k3,H3,[]⟩ := fun k3 j1 H3 w gw g1 g2 g3 g4 g5 g6 g7 g8 =>
   ⟨n - 1,by omega,q+1,k3,j1,H3,es ++ [w],by rw [wq],by omega,fun _ => ⟨g1,g7,g8⟩,by simp [hel],fun i hi => by
    rcases lt_succ_cases hi with h7 | rfl
    ·obtain ⟨w2,h1,h2⟩ := hes i h7
     exact ⟨w2,by rw [List.getElem?_append_left (by omega)]; exact h1,h2⟩
    ·exact ⟨w,by rw [List.getElem?_append_right (by omega),hel]; simp,gw⟩,g2,g3,by rw [slv_pos (by omega)]; exact g4,g6,g5,rfl⟩
  simp [run_draw,tb,nk2,x2,hqq,l0,l1,l5,k1,k1',hqr,t1,k72,ld,d1,o1,c1,g1]
  refine dcallK_pure rfl (by simp [PV.pureL,PV.pureB,t5]) hfo fun y hy => ?_
  simp only [formR,ba_list,Int.toNat_natCast] at hy
  obtain ⟨b',m',c',u',fe,rfl,hy1,hy2⟩ := hy
  obtain ⟨⟨e1,e2,e3,e4,e5⟩,⟨f1,f2,f3,f4,f5⟩⟩ := hy1.cf
  have hform:FormOf O.n (O.rq q) (.agg [.bool b',m',.bool c',u',.slice fe]) := ⟨b',m',c',u',fe,rfl,by rw [k8]; exact hy1,by rw [k8,hON]; exact hy2⟩
  rcases Nat.eq_zero_or_pos q with q0 | q0
  ·subst q0
   have es0:es = [] := List.eq_nil_of_length_eq_zero hel
   subst es0
   have sl0:slv j 0 = .nil := rfl
   rw [sl0] at l5
   simp only [sl0]
   simp [run_draw,tb,nk2,l5,lus5,e1,f1,e3,f3,e4,f4,e5,f5,d1,o1,r1,d4,t4,buildSliceOp,putParts,repeatP,uniform,PV.pureL,PV.pureB,appendOp,appended,elems]
   refine ⟨logOk_free (by simp [okTri,tri,tb]),?_⟩
   refine next _ _ _ _ hform (by rw [look_one_cons]; rfl) ?_ ?_ ?_ (by omega) ?_ (by omega) (by omega)
   ·rw [look_cons_ne (by omega),look_cons_ne (by omega),look_upd_ne (by omega)]; exact l0
   ·rw [look_cons_ne (by omega),look_cons_ne (by omega),look_upd_ne (by omega)]; exact l1
   ·rw [look_cons_ne (by omega),look_cons_ne (by omega)]; exact lus5 _
   ·exact cons_lt (cons_lt (upd_lt hlt) (by omega) (by omega):∀ p ∈ (_:List (Nat × Ent)),p.1 < k+1+1+1+1+1+1+1+1+1+1+1+1+1+1+1) (by omega) (by omega)
  ·rw [slv_pos q0] at l5 ⊢
   obtain ⟨lj1,jk,j5⟩ := lj q0
   have mk:(2 * (q+1)+1000) * 88 ≤ 140737488355328 := by omega
   have sx:¬ q+1 ≤ q := by omega
   have nkj:¬ k+1+1+1 = j := by omega
   have ld5:∀ e,Go.Pi.look (del ((k+1+1+1,e) :: H) j) 5 = some ⟨4,[.agg [d,o,.slice rs,.own j 0 q]]⟩ := fun e => by rw [look_del_ne (by omega),look_cons_ne (by omega)]; exact l5
   simp [run_draw,tb,nk2,nkj,ld5,l5,lus5,e1,f1,e3,f3,e4,f4,e5,f5,d1,o1,r1,d4,t4,buildSliceOp,putParts,repeatP,uniform,PV.pureL,PV.pureB,appendOp,appended,elems,lj1,hel,mk,sx]
   refine ⟨logOk_free (by simp [okTri,tri,tb]),?_⟩
   refine next _ _ _ _ hform (by rw [look_one_cons]) ?_ ?_ ?_ (by omega) ?_ (by omega) (by omega)
   ·rw [look_cons_ne (by omega),look_upd_ne (by omega),look_del_ne (by omega),look_cons_ne (by omega)]; exact l0
   ·rw [look_cons_ne (by omega),look_upd_ne (by omega),look_del_ne (by omega),look_cons_ne (by omega)]; exact l1
   ·rw [look_cons_ne (by omega)]; exact look_upd_same (ld5 _)
   ·exact cons_lt (upd_lt (del_lt (cons_lt hlt (by omega) (by omega):∀ p ∈ (_:List (Nat × Ent)),p.1 < k+1+1+1+1+1+1+1+1+1+1+1+1+1+1+1))) (by omega) (by omega)
end Go.Proofs.Tryz
