/- The law returns true. No condition. -/
import Derived.Test.YtgpmgondjppmmaaGreatDoorL1
import Derived.Test.YtgpmgondjppmmaaGreatDoorU2
set_option linter.unnecessarySimpa false
set_option linter.unusedSectionVars false
set_option linter.unusedSimpArgs false
set_option linter.unusedVariables false
set_option maxHeartbeats 8000000
set_option maxRecDepth 100000
namespace Go.Proofs.Tryz
open Go Go.Pi Go.Num Go.Lin Go.Alc
variable [Hole] {G:Nat → Option PV}
def IsTrue:PV → Prop := fun x => x = .bool true
theorem law_ok (rl:ReadLib G) (tl:TextLib G) (ll:LongLib G) (kn:Gives prog G 4 [] (knownR [])) {d o r:PV} (h:OffIn d o r) {a b:Nat} {t:List UInt8} {y:Int} (hb:b < 256):Gives prog G 3 [.agg [d,o,r],.agg [.int .u8 (a:Int),.int .u8 (b:Int),.str (ba t)],.int .i64 y] IsTrue := by
 obtain ⟨d1,d2,d3,d4,d5⟩ := h.dim.cell
 obtain ⟨o1,o2,o3,o4,o5⟩ := h.opt.cell
 obtain ⟨r1,r2,r3,r4,r5⟩ := h.req.cell
 have ld := h.dim.len
 have lr := h.req.len
 have pX:(PV.agg [d,o,r]).pureB = true := by simp [PV.pureB,PV.pureL,d5,o5,r5]
 obtain ⟨rc,⟨e,rfl,hVld⟩,hck⟩ := check_ok rl ll (exprLib rl ll) h
 have hsh:Gives prog G 5 [.slice [.str (ba t)]] (anyB [.slice [.str (ba t)]]) := lawShort_ok (.inr ⟨_,rfl,fun w hw => ⟨t,by simpa using hw⟩⟩) (by simp [els_slice]; unfold maxLen; omega)
 have hwd := wideco_ok (G := G) (h.opt.mono fun w hw => hw.1) h.ol
 refine gives (S := LS (.int .i64 e)) (by kernel_rfl) (by kernel_rfl) (callW_of ann3 func3 rfl (by kernel_rfl) ?_)
 obtain ⟨c7,h7⟩:∃ c,fromReg 7 (Tryz.f3.body.getD .skip) = some c := ⟨_,rfl⟩
 have e7 := Option.some.inj ((show fromReg 7 (Tryz.f3.body.getD .skip) = some _ by rfl).symm.trans h7)
 rw [e7]
 clear e7
 simp [tb,d1,o1,r1,d3,o3,r3]
 refine callK_pure (S := LS (.int .i64 e)) (R := knownR) rfl rfl kn fun y0 hy0 => ?_
 simp only [knownR] at hy0
 subst hy0
 by_cases n4:4 < (els d).length
 ·have n4':(4:Int) < (els d).length := by omega
  simp [tb,d1,o1,r1,d3,o3,r3,ld,n4,n4']
  refine callK_pure (S := LS (.int .i64 e)) (R := knownR) rfl rfl kn fun y1 hy1 => ?_
  simp only [knownR] at hy1
  subst hy1
  simp [tb]
  exact outK_pure rfl rfl
 have n4':¬ (4:Int) < (els d).length := by omega
 by_cases m4:4 < (els r).length
 ·have m4':(4:Int) < (els r).length := by omega
  simp [tb,d1,o1,r1,d3,o3,r3,ld,lr,n4,n4',m4,m4']
  refine callK_pure (S := LS (.int .i64 e)) (R := knownR) rfl rfl kn fun y1 hy1 => ?_
  simp only [knownR] at hy1
  subst hy1
  simp [tb]
  exact outK_pure rfl rfl
 have m4':¬ (4:Int) < (els r).length := by omega
 simp [tb,d1,o1,r1,d3,o3,r3,ld,lr,n4,n4',m4,m4',buildSliceOp,putParts,repeatP,uniform,PV.pureL,PV.pureB]
 refine callK_pure (S := LS (.int .i64 e)) (R := anyB) rfl rfl hsh fun y1 hy1 => ?_
 obtain ⟨b1,rfl⟩ := hy1
 cases b1 with
 | false =>
  simp [tb]
  refine callK_pure (S := LS (.int .i64 e)) (R := knownR) rfl rfl kn fun y1 hy1 => ?_
  simp only [knownR] at hy1
  subst hy1
  simp [tb]
  exact outK_pure rfl rfl
 | true =>
 simp [tb,d1,o1,r1,d3,o3,r3]
 refine callK_pure (S := LS (.int .i64 e)) (R := anyB) rfl (by simp [PV.pureL,PV.pureB,o5]) hwd fun y1 hy1 => ?_
 obtain ⟨b1,rfl⟩ := hy1
 cases b1 with
 | true =>
  simp [tb]
  refine callK_pure (S := LS (.int .i64 e)) (R := knownR) rfl rfl kn fun y1 hy1 => ?_
  simp only [knownR] at hy1
  subst hy1
  simp [tb]
  exact outK_pure rfl rfl
 | false =>
 simp [tb,d1,o1,r1,d3,o3,r3]
 refine callK_pure (S := LS (.int .i64 e)) (R := fun _ x => x = .int .i64 e) rfl (by simp [PV.pureL,pX]) ⟨_,rfl,hck⟩ fun y1 hy1 => ?_
 subst hy1
 by_cases he:e = 0
 case neg =>
  have he':(e != 0) = true := by simpa using he
  simp [tb,he']
  refine callK_pure (S := LS (.int .i64 e)) (R := knownR) rfl rfl kn fun y1 hy1 => ?_
  simp only [knownR] at hy1
  subst hy1
  simp [tb]
  exact outK_pure rfl rfl
 have hv := hVld he
 subst he
 have hop := open_ok rl hv ⟨_,rfl,hck⟩
 simp [tb,d1,o1,r1,d3,o3,r3]
 refine callK_pure (S := LS (.int .i64 0)) (R := allocateR) rfl (by simp [PV.pureL,pX]) (allocate_ok rl tl hv hop) fun y1 hy1 => ?_
 obtain ⟨va,rfl,hal,hshort,hacc⟩ := hy1
 obtain ⟨p,ch,c,pf,rfl,hch,hcl,hpf,hpl,hbs⟩ := hshort
 have hch':ch.cellOk = true ∧ ch.cells = [ch] ∧ ch.isTop = false ∧ ch.ids = [] ∧ ch.pureB = true := by rcases hch with rfl | ⟨l,_,rfl⟩ <;> exact ⟨rfl,rfl,rfl,rfl,rfl⟩
 have hpf':pf.cellOk = true ∧ pf.cells = [pf] ∧ pf.isTop = false ∧ pf.ids = [] ∧ pf.pureB = true := by rcases hpf with rfl | ⟨l,_,rfl⟩ <;> exact ⟨rfl,rfl,rfl,rfl,rfl⟩
 obtain ⟨i1,i2,i3,i4,i5⟩ := hch'
 obtain ⟨g1,g2,g3,g4,g5⟩ := hpf'
 simp [tb,d1,o1,r1,d3,o3,r3,i1,i2,i3,g1,g2,g3]
 refine callK_pure (S := LS (.int .i64 0)) (R := allocR) rfl (by simp [PV.pureL,PV.pureB,d5,o5,r5,i5,g5]) (alloc_ok rl hv hal) fun y1 hy1 => ?_
 simp only [allocR,accB_iff.2 hacc,if_true] at hy1
 subst hy1
 simp [tb]
 rw [run_draw]
 simp [run_draw,tb,i1,i2,i3,g1,g2,g3]
 have cont:∀ (an:Ann) T s,lookT T 6 = .bool true → retK prog (specEnv prog G (LS (.int .i64 0))) G A1 ⟨an,0⟩ (.done (endK prog Tryz.f3.results.toList (outK IsTrue))) .ret T s := fun an T s hT => by
  simp [tb,Tryz.f3,hT]
  exact outK_pure rfl rfl
 rcases hch with rfl | ⟨l,hl,rfl⟩
 ·refine dcallK_run rfl (ws := [.nil]) (fr := []) rfl rfl cloneI_nil fun E hE => ?_
  subst hE
  simp [run_draw,tb,g1,g2,g3]
  rcases hpf with rfl | ⟨es,hes,rfl⟩
  ·refine dcallK_run rfl (ws := [.nil]) (fr := []) rfl rfl cloneB_nil fun E hE => ?_
   subst hE
   simp [run_draw,tb]
   exact ⟨by decide +kernel,law2_ok rl hv hop hb (t := t) (y := y) (p := p) (l := []) (c := c) (es := []) (b7 := 39) (j1 := 52) (j2 := 55) ⟨rfl,rfl,rfl,fun h => absurd h (Nat.lt_irrefl 0),fun h => absurd h (Nat.lt_irrefl 0),fun _ _ => by decide,Nat.zero_le _,Nat.zero_le _,fun w hw => (by cases hw),by decide,by decide,by decide,by simp,rfl,rfl,rfl,rfl⟩ ann3 h7 (cont _)⟩
  ·have he0:0 < es.length := List.length_pos_iff.2 hes
   refine dcallK_own rfl (by simpa [PV.pureL] using g5) (cloneB_own hes (fun w hw => (hbs w hw).bd) hpl) fun E hE => ?_
   subst hE
   simp [run_draw,tb]
   exact ⟨by decide +kernel,law2_ok rl hv hop hb (t := t) (y := y) (p := p) (l := []) (c := c) (es := es) (b7 := 39) (j1 := 52) (j2 := 55) ⟨rfl,rfl,by rw [slv_pos he0]; rfl,fun h => absurd h (Nat.lt_irrefl 0),fun _ => ⟨rfl,by decide,by decide,by decide,by decide⟩,fun _ _ => by decide,Nat.zero_le _,hpl,hbs,by decide,by decide,by decide,by simp,rfl,rfl,rfl,rfl⟩ ann3 h7 (cont _)⟩
 ·have hl0:0 < l.length := List.length_pos_iff.2 hl
  refine dcallK_own rfl (by simpa [PV.pureL] using i5) (cloneI_own hl (by simp only [els_slice,NL_len] at hcl; omega)) fun E hE => ?_
  subst hE
  simp [run_draw,tb,g1,g2,g3,NL_len]
  rcases hpf with rfl | ⟨es,hes,rfl⟩
  ·refine dcallK_run rfl (ws := [.nil]) (fr := []) rfl rfl cloneB_nil fun E hE => ?_
   subst hE
   simp [run_draw,tb,NL_len]
   exact ⟨by decide +kernel,law2_ok rl hv hop hb (t := t) (y := y) (p := p) (l := l) (c := c) (es := []) (b7 := 39) (j1 := 52) (j2 := 55) ⟨rfl,rfl,by rw [slv_pos hl0]; rfl,fun _ => ⟨rfl,by decide,by decide,by decide,by decide⟩,fun h => absurd h (Nat.lt_irrefl 0),fun _ _ => by decide,by simp only [els_slice,NL_len] at hcl; exact hcl,Nat.zero_le _,fun w hw => (by cases hw),by decide,by decide,by decide,by simp,rfl,rfl,rfl,rfl⟩ ann3 h7 (cont _)⟩
  ·have he0:0 < es.length := List.length_pos_iff.2 hes
   refine dcallK_own rfl (by simpa [PV.pureL] using g5) (cloneB_own hes (fun w hw => (hbs w hw).bd) hpl) fun E hE => ?_
   subst hE
   simp [run_draw,tb,NL_len]
   exact ⟨by decide +kernel,law2_ok rl hv hop hb (t := t) (y := y) (p := p) (l := l) (c := c) (es := es) (b7 := 39) (j1 := 52) (j2 := 55) ⟨rfl,rfl,by rw [slv_pos hl0,slv_pos he0]; rfl,fun _ => ⟨rfl,by decide,by decide,by decide,by decide⟩,fun _ => ⟨rfl,by decide,by decide,by decide,by decide⟩,fun _ _ => by decide,by simp only [els_slice,NL_len] at hcl; exact hcl,hpl,hbs,by decide,by decide,by decide,by simp,rfl,rfl,rfl,rfl⟩ ann3 h7 (cont _)⟩
end Go.Proofs.Tryz
