/- The machine on symbols: allocation.open. No condition. -/
import Derived.Test.YtgpmgondjppmmaaGreatDoorP9
import Derived.Test.YtgpmgondjppmmaaGreatDoorQ2
set_option linter.unnecessarySimpa false
set_option linter.unusedSectionVars false
set_option linter.unusedSimpArgs false
set_option linter.unusedVariables false
set_option maxHeartbeats 8000000
set_option maxRecDepth 100000
namespace Go.Proofs.Tryz
open Go Go.Pi Go.Num Go.Lin Go.Alc
variable [Hole] {G:Nat → Option PV}
attribute [local simp] slice3Op clearOp
noncomputable def chI (O:Off) (D:Nat) (d o r:PV):Nat → List PV → St → Prop := fun n vs st => ∃ (i k j:Nat) (H:List (Nat × Ent)),vs = [.int .i64 (i:Int),.ptr D 0 0,.int .i64 (O.n:Int),o,.ptr 0 0 0] ∧ i + n = O.n ∧
 (0 < i → Go.Pi.look H j = some ⟨1,(List.range i).map fun q => .int .i64 (Alc.cheap O q)⟩ ∧ j < k ∧ D < j) ∧ Go.Pi.look H 0 = some ⟨3,[.agg [d,o,r]]⟩ ∧ Go.Pi.look H D = some ⟨6,[.agg [d,o,r,.nil,.nil,slv j i]]⟩ ∧ (∀ p ∈ H,p.1 < k) ∧ D < k ∧ st = ⟨k,H,[]⟩
theorem open_ok (lib:ReadLib G) {d o r:PV} (h:Vld d o r) (hck:Gives prog G 8 [.agg [d,o,r]] (fun x => x = .int .i64 0)):Gives prog G 29 [.agg [d,o,r]] (openR [.agg [d,o,r]]) := by
 obtain ⟨O,hO⟩:∃ O,O = offV (.agg [d,o,r]) := ⟨_,rfl⟩
 have hON:O.n = (els d).length := by rw [hO]; exact h.n
 have hOM:O.m = (els r).length := by rw [hO]; exact h.m
 have hN := h.n1
 have hM := h.m1
 obtain ⟨d1,d2,d3,d4,d5⟩ := h.dim.cell
 obtain ⟨o1,o2,o3,o4,o5⟩ := h.opt.cell
 obtain ⟨r1,r2,r3,r4,r5⟩ := h.req.cell
 have ld := h.dim.len
 have lo := h.opt.len
 have lr := h.req.len
 rw [h.on,← hON] at lo
 refine gives_q fun Q hQ => ?_
 refine gives (S := OS (.agg [d,o,r])) (by kernel_rfl) (by kernel_rfl) (callW_of ann29 func29 rfl (by kernel_rfl) ?_)
 simp [run_draw,tb,d1,o1,r1]
 refine callK_pure (R := checkR (.agg [d,o,r])) rfl (by simp only [PV.pureL,h.pure]; rfl) (by rw [show checkR (.agg [d,o,r]) [.agg [d,o,r]] = fun x => x = .int .i64 0 from by funext x; simp [checkR]]; exact hck) fun y hy => ?_
 obtain rfl := hy rfl
 simp [run_draw,tb,d1,o1,r1,lo]
 refine loopK_of (chI O 10 d o r) rfl rfl ?step O.n _ _ ?init
 case init => exact ⟨0,_,0,_,rfl,by omega,fun h => absurd h (Nat.lt_irrefl 0),rfl,rfl,by simp,by omega,rfl⟩
 case step =>
 rintro n vs st ⟨i,k,j,H,rfl,hin,lj,l0,l10,hlt,hk,rfl⟩
 have lus:∀ E,Go.Pi.look (Go.Pi.upd H 10 E) 10 = some E := fun E => look_upd_same l10
 rcases Nat.eq_zero_or_pos n with hn0 | hn0
 ·have hi:i = O.n := by omega
  subst hi
  have hn0' := h.n0
  obtain ⟨lj1,ljk,lj10⟩ := lj (by omega)
  rw [slv_pos (by omega)] at l10
  simp [tb,l0,lr,r1,r3]
  refine o2_ok lib h (M := (els r).length) rfl (k0 := k+1+1+1+1+1) (H0 := H) l0 l10 (by omega) (lt_mono hlt (by omega)) ⟨rfl,rfl,rfl⟩ ann29 rfl rfl ?_
  intro k1 js jc H1 ss cs ws fl S
  rw [← hO] at S
  have lj1' := (S.fr j (by omega) (by omega)).trans lj1
  simp [tb]
  have pc:∀ v ∈ cs,v.pureB = true := fun v hv => by
   obtain ⟨p,hp,rfl⟩ := List.mem_iff_getElem.1 hv
   obtain ⟨w,w1,w2⟩ := S.consts p (by have := S.cl; omega)
   rw [List.getElem?_eq_getElem hp] at w1
   cases w1
   exact w2.pure
  have hS := S.desk
  have rh:reifyW (Go.Pi.look H1) (reifyN (Go.Pi.look H1) 4) (.own j 0 O.n) = some (.slice ((List.range O.n).map fun q => .int .i64 (Alc.cheap O q)),[j]) := reifyW_own (d := 3) lj1' (by simp) (by decide) fun v hv => by
   obtain ⟨q,_,rfl⟩ := List.mem_map.1 hv
   rfl
  obtain ⟨vs,fs,hvs,hvs2⟩:∃ vs fs,reifyW (Go.Pi.look H1) (reifyN (Go.Pi.look H1) 4) (slv js (els r).length) = some (vs,fs) ∧ (((els r).length = 0 ∧ vs = .nil) ∨ ∃ es,vs = .slice es ∧ es.length = (els r).length ∧ ∀ q,q < (els r).length → ∃ w,es[q]? = some w ∧ IsRows O q w) := by
   rcases Nat.eq_zero_or_pos (els r).length with z | z
   ·rw [z]; exact ⟨.nil,[],rfl,.inl ⟨rfl,rfl⟩⟩
   ·rw [slv_pos z]
    exact ⟨.slice ws,js :: fl,rd_own (d := 4) (S.own z).1 S.sl (by decide) S.map,.inr ⟨ws,rfl,S.wl,S.rows⟩⟩
  obtain ⟨vc,fc,hvc,hvc2⟩:∃ vc fc,reifyW (Go.Pi.look H1) (reifyN (Go.Pi.look H1) 4) (slv jc (els r).length) = some (vc,fc) ∧ (((els r).length = 0 ∧ vc = .nil) ∨ ∃ es,vc = .slice es ∧ es.length = (els r).length ∧ ∀ q,q < (els r).length → ∃ w,es[q]? = some w ∧ IsRat w (O.rq q).c) := by
   rcases Nat.eq_zero_or_pos (els r).length with z | z
   ·rw [z]; exact ⟨.nil,[],rfl,.inl ⟨rfl,rfl⟩⟩
   ·rw [slv_pos z]
    exact ⟨.slice cs,[jc],reifyW_own (d := 3) (S.own z).2.1 S.cl (by decide) pc,.inr ⟨cs,rfl,S.cl,S.consts⟩⟩
  have hd:reifyN (Go.Pi.look H1) 5 (.agg [d,o,r,slv js (els r).length,slv jc (els r).length,.own j 0 O.n]) = some (.agg [d,o,r,vs,vc,.slice ((List.range O.n).map fun q => .int .i64 (Alc.cheap O q))],fs ++ (fc ++ [j])) := by
   show reifyW _ (reifyN _ 4) _ = _
   rw [reifyW,reifyWL,reifyWL,reifyWL,reifyWL,reifyWL,reifyWL,reifyWL,reifyW_pure d d5,reifyW_pure o o5,reifyW_pure r r5,hvs,hvc,rh]
   simp
  refine outK_tuple (ws := [.eptr (.agg [d,o,r,vs,vc,.slice ((List.range O.n).map fun q => .int .i64 (Alc.cheap O q))]) 0,.int .i64 0]) (fl := 10 :: (fs ++ (fc ++ [j]))) rfl ?_ (hQ _ ⟨vs,vc,_,rfl,?_⟩)
  ·show reifyWL (Go.Pi.look H1) _ _ = _
   rw [reifyWL,reifyW,hS]
   simp only [List.cons_append,List.nil_append,List.getElem?_cons_zero,Option.bind_some]
   have hd':reifyN (Go.Pi.look H1) 5 (.agg [d,o,r,slv js (els r).length,slv jc (els r).length,.own j 0 O.n]) = _ := hd
   simp [reifyWL,reifyW,PV.pureB,blt_lit]
   rw [hd']
   simp
  ·exact { h with
    cheap := ⟨_,rfl,by simp [hON],fun i hi => by rw [← hO]; simp [List.getElem?_range,hON,hi]⟩
    const := by rw [← hO]; exact hvc2
    spans := by rw [← hO]; exact hvs2 }
 ·have hi0:i < O.n := by omega
  have hii:(i:Int) < O.n := by omega
  have wi:IntKind.i64.wrap ((i:Int)+1) = ((i+1:Nat):Int) := w_i64 (by omega)
  obtain ⟨os,row,rfl,z1,z2,z3,z4,z5,z6⟩ := h.row (i := i) (by omega)
  have z1' := getE z1
  have hlo:i < os.length := by have := h.on; simp only [els_slice] at this; omega
  obtain ⟨y1,y2,y3,y4⟩ := slv_ids j i
  simp [run_draw,tb,hii,hi0,l0,l10,z1,z1',hlo,y2]
  refine dcallK_pure rfl rfl (min_ok (.inl rfl) row z2 z3 z4) fun y hy => ?_
  simp only [minR,els_slice] at hy
  obtain ⟨ya,yb,yc,rfl,hyc⟩ := hy
  have hch:yc = Alc.cheap O i := by
   rw [hyc,Alc.cheap]
   rw [← hO] at z5
   rw [z5,hO]
   congr 1
   simp [Off.row,offV,els_slice,List.getD,z1]
  have next:∀ (k3 j1:Nat) (H3:List (Nat × Ent)),Go.Pi.look H3 j1 = some ⟨1,(List.range (i+1)).map fun q => .int .i64 (Alc.cheap O q)⟩ → Go.Pi.look H3 0 = some ⟨3,[.agg [d,.slice os,r]]⟩ → Go.Pi.look H3 10 = some ⟨6,[.agg [d,.slice os,r,.nil,.nil,.own j1 0 (i+1)]]⟩ → (∀ q ∈ H3,q.1 < k3) → 10 < k3 → j1 < k3 → 10 < j1 → ∃ m',m' < n ∧ chI O 10 d (.slice os) r m' [.int .i64 (IntKind.i64.wrap ((i:Int)+1)),.ptr 10 0 0,.int .i64 (O.n:Int),.slice os,.ptr 0 0 0] ⟨k3,H3,[]⟩ := fun k3 j1 H3 g1 g2 g3 g4 g5 g6 g7 =>
   ⟨n - 1,by omega,i+1,k3,j1,H3,by rw [wi],by omega,fun _ => ⟨g1,g6,g7⟩,g2,by rw [slv_pos (by omega)]; exact g3,g4,g5,rfl⟩
  rcases Nat.eq_zero_or_pos i with i0 | i0
  ·subst i0
   have sl0:slv j 0 = .nil := rfl
   rw [sl0] at l10
   simp only [sl0]
   simp [run_draw,tb,l10,lus,d1,r1,buildSliceOp,putParts,repeatP,uniform,PV.pureL,PV.pureB,appendOp,appended,elems]
   refine ⟨logOk_free (by simp [okTri,tri,tb]),?_⟩
   refine next _ _ _ (by rw [look_one_cons,hch]; rfl) ?_ ?_ ?_ (by omega) (by omega) (by omega)
   ·rw [look_cons_ne (by omega),look_upd_ne (by omega)]; exact l0
   ·rw [look_cons_ne (by omega)]; exact lus _
   ·exact cons_lt (upd_lt hlt) (by omega) (by omega)
  ·rw [slv_pos i0] at l10 ⊢
   obtain ⟨lj1,jk,j10⟩ := lj i0
   have mk:(2 * (i+1)+1000) * 8 ≤ 140737488355328 := by omega
   have sx:¬ i+1 ≤ i := by omega
   have hrl:((List.range i).map fun q => PV.int .i64 (Alc.cheap O q)).length = i := by simp
   have ld10:Go.Pi.look (del H j) 10 = some ⟨6,[.agg [d,.slice os,r,.nil,.nil,.own j 0 i]]⟩ := by rw [look_del_ne (by omega)]; exact l10
   simp [run_draw,tb,l10,lus,d1,r1,buildSliceOp,putParts,repeatP,uniform,PV.pureL,PV.pureB,appendOp,appended,elems,lj1,hrl,mk,sx,ld10]
   refine ⟨logOk_free (by simp [okTri,tri,tb]),?_⟩
   refine next _ _ _ (by rw [look_one_cons,hch]; simp [List.range_succ]) ?_ ?_ ?_ (by omega) (by omega) (by omega)
   ·rw [look_cons_ne (by omega),look_upd_ne (by omega),look_del_ne (by omega)]; exact l0
   ·rw [look_cons_ne (by omega)]; exact look_upd_same ld10
   ·exact cons_lt (upd_lt (del_lt hlt)) (by omega) (by omega)
end Go.Proofs.Tryz
