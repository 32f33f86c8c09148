/- The machine on symbols: allocation.Allocate; options. No condition. -/
import Derived.Test.YtgpmgondjppmmaaGreatDoorP8
set_option linter.unnecessarySimpa false
set_option linter.unusedSectionVars false
set_option linter.unusedSimpArgs false
set_option linter.unusedVariables false
set_option maxHeartbeats 8000000
set_option maxRecDepth 100000
namespace Go.Proofs.Tryz
open Go Go.Pi Go.Num Go.Lin Go.Alc
variable [Hole] {G:Nat → Option PV}
attribute [local simp] slice3Op clearOp
theorem reifyWL_al {hp:Nat → Option Ent} {p w x:PV} {j n:Nat} {es:List PV} (h1:p.pureB = true) (h2:w.pureB = true) (h3:x.pureB = true) (h:0 < n → hp j = some ⟨4,es⟩) (hn:es.length = n) (he:∀ v ∈ es,v.pureB = true):reifyWL hp (reifyN hp 5) [.agg [p,w,x,slv j n],.int .i64 0] = some ([.agg [p,w,x,sv n es],.int .i64 0],if n = 0 then [] else [j]) := by
 rcases Nat.eq_zero_or_pos n with z | z
 ·subst z
  simp only [slv,sv,if_true]
  exact reifyWL_pure _ (by simp [PV.pureL,h1,h2,h3,PV.pureB])
 ·rw [slv_pos z,sv_pos z,if_neg (by omega)]
  have e := reifyW_own (d := 4) (h z) hn (by decide) he
  rw [reifyWL,reifyWL,reifyWL,reifyW,reifyWL,reifyWL,reifyWL,reifyWL,reifyWL,reifyW_pure p h1,reifyW_pure w h2,reifyW_pure x h3,e]
  rfl
theorem outK_al {Q:PV → Prop} {p w x:PV} {j n:Nat} {es:List PV} {s:St} (h1:p.pureB = true) (h2:w.pureB = true) (h3:x.pureB = true) (h:0 < n → s.hp j = some ⟨4,es⟩) (hn:es.length = n) (he:∀ v ∈ es,v.pureB = true) (hq:Q (.tuple [.agg [p,w,x,sv n es],.int .i64 0])):outK Q (.tuple [.agg [p,w,x,slv j n],.int .i64 0]) s := by
 rcases Nat.eq_zero_or_pos n with z | z
 ·subst z
  exact outK_pure (by simp [PV.pureL,h1,h2,h3,PV.pureB,slv]) hq
 ·exact outK_tuple (by rw [slv_pos z]; simp [PV.pureL,PV.pureB]) (reifyWL_al h1 h2 h3 h hn he) hq
theorem FdV.shape {s:Sr} {fv:PV} (h:FdV s fv):∃ p w x,fv = .agg [p,w,x,.nil] ∧ (p.cellOk = true ∧ w.cellOk = true ∧ x.cellOk = true) ∧ (p.pureB = true ∧ w.pureB = true ∧ x.pureB = true) ∧ (p.isTop = false ∧ w.isTop = false ∧ x.isTop = false) ∧ (p.ids = [] ∧ w.ids = [] ∧ x.ids = []) := by
 match s,h with
 | none,h => exact ⟨_,_,_,h,⟨rfl,rfl,rfl⟩,⟨rfl,rfl,rfl⟩,⟨rfl,rfl,rfl⟩,⟨rfl,rfl,rfl⟩⟩
 | some (c,x),h => exact ⟨_,_,_,h,⟨rfl,rfl,rfl⟩,⟨rfl,rfl,rfl⟩,⟨rfl,rfl,rfl⟩,⟨rfl,rfl,rfl⟩⟩
theorem al_sv (es:List PV):(els (sv es.length es)).map bdV = es.map bdV := by
 unfold sv
 split
 ·rename_i h; rw [List.eq_nil_of_length_eq_zero h]; rfl
 ·rfl
def Short (va:PV):Prop := ∃ p ch c pf,va = .agg [.bool p,ch,.int .i64 c,pf] ∧ (ch = .nil ∨ ∃ l,l ≠ [] ∧ ch = .slice (NL l)) ∧ (els ch).length ≤ 12 ∧ (pf = .nil ∨ ∃ es,es ≠ [] ∧ pf = .slice es) ∧ (els pf).length ≤ 68719476736 ∧ ∀ w ∈ els pf,BdS w
noncomputable def allocateR:CRel | [X],r => ∃ va,r = .tuple [va,.int .i64 0] ∧ IsAl va ∧ Short va ∧ Accept (offV X) (alV va) | _,_ => False
theorem allocate_ok (lib:ReadLib G) (tlib:TextLib G) {d o r:PV} (h:Vld d o r) (hop:Gives prog G 29 [.agg [d,o,r]] (openR [.agg [d,o,r]])):Gives prog G 9 [.agg [d,o,r]] (allocateR [.agg [d,o,r]]) := by
 obtain ⟨O,hO⟩:∃ O,O = offV (.agg [d,o,r]) := ⟨_,rfl⟩
 have hON:O.n = (els d).length := by rw [hO]; exact h.n
 have hN := h.n1
 obtain ⟨d1,d2,d3,d4,d5⟩ := h.dim.cell
 obtain ⟨o1,o2,o3,o4,o5⟩ := h.opt.cell
 obtain ⟨r1,r2,r3,r4,r5⟩ := h.req.cell
 have pX := h.pure
 have hfe:allocateR [.agg [d,o,r]] = fun r => ∃ va,r = .tuple [va,.int .i64 0] ∧ IsAl va ∧ Short va ∧ Accept O (alV va) := by funext x; simp only [allocateR,← hO]
 rw [hfe]
 refine gives_q fun Q hQ => ?_
 have hcnt:∀ i,i < O.n → 0 < O.cnt i := fun i hi => by
  obtain ⟨_,row,_,_,_,h3,_,h5,_⟩ := h.row (i := i) (by omega)
  rw [hO,h5]; exact h3
 have hn0:InR O [] := fun i hi => by simp at hi
 obtain ⟨s,hs⟩:∃ s,s = srch O O.n [] none := ⟨_,rfl⟩
 have hg:Go.Alc.Good O s := by rw [hs]; exact srch_good O _ _ _ (by simp) hn0 (fun c x e => by cases e)
 have hall:∀ l,l.length = (els d).length → InR O l → (fl O l).2 = 0 → cut O s l := fun l h1 h2 h3 => by
  have := (srch_all O O.n [] none l (by simp) (by omega) (by simpa using h2) (by simpa using (fl_iff O).1 h3)).1
  rw [← hs] at this
  obtain ⟨c,x,e,hx⟩ := this
  rw [e]
  simpa [cut] using hx
 have hfnd := found O hcnt
 rw [← hs] at hfnd
 refine gives (S := AS) (by kernel_rfl) (by kernel_rfl) (callW_of ann9 func9 rfl (by kernel_rfl) ?_)
 simp [run_draw,tb,d1,o1,r1]
 refine callK_pure (S := AS) rfl (by simp only [PV.pureL,pX]; rfl) hop fun y hy => ?_
 simp only [openR] at hy
 obtain ⟨vs,vc,vh,rfl,hD⟩ := hy
 simp [run_draw,tb]
 refine callK_run rfl (callW_to (search_ok (bf := 13) (bd := 8) (bo := 0) (bs := 14) lib hD (by omega) (by omega) (by omega) (els d).length [] none _ 0 18 _ [] (by simp) (by rw [← hO]; exact hn0) ⟨fun h => absurd h (Nat.lt_irrefl 0),rfl,rfl,rfl,rfl,rfl,by simp,by simp,by simp⟩) fun v s' hp => ?_)
 rw [← hO,← hON,] at hp
 obtain ⟨k5,H5,Z5,fv5,rfl,hk5,hlt5,hZ5,hf5,hl5,hfd5,hfr5,hkp5⟩ := hp
 rw [← hs] at hfd5
 obtain ⟨p,w,x,rfl,⟨pc,wc,xc⟩,⟨pp,wp,xp⟩,⟨pt,wt,xt⟩,⟨pid,wid,xid⟩⟩ := hfd5.shape
 have f0:Go.Pi.look H5 0 = some ⟨3,[.agg [d,o,r]]⟩ := hfr5 0 (by omega) (by omega)
 have f1:Go.Pi.look H5 1 = some ⟨4,[.agg [.bool false,.nil,.int .i64 0,.nil]]⟩ := hfr5 1 (by omega) (by omega)
 have f8:Go.Pi.look H5 8 = some ⟨1,[.eptr (.agg [d,o,r,vs,vc,vh]) 0]⟩ := hfr5 8 (by omega) (by omega)
 clear hfr5
 have mz5:memB Z5 k5 = false := memB_none hZ5 (Nat.le_refl _)
 have ln:∀ (e:Ent) (q:Nat),q < k5 → Go.Pi.look ((k5,e) :: H5) q = Go.Pi.look H5 q := fun e q hq => look_cons_ne (by omega)
 have h8:8 ^ (els d).length ≤ 68719476736 := Nat.le_trans (Nat.pow_le_pow_right (by decide) hN) (by decide)
 simp [run_draw,tb,mz5]
 refine callK_run rfl (callW_to (prove_ok (bf := 13) (bd := 8) (bo := 0) (bp := k5) lib tlib hD (by omega) (by omega) (by omega) s hfd5 (by rw [← hO]; exact hall) (els d).length [] [] 2 0 _ _ _ (by simp) (by simpa using h8) (by rw [← hO]; exact hn0) ⟨fun h => absurd h (Nat.lt_irrefl 0),(ln _ _ (by omega)).trans hl5,by omega,fun h => absurd h (Nat.lt_irrefl 0),fun v hv => (by cases hv),(ln _ _ (by omega)).trans f8,(ln _ _ (by omega)).trans f0,look_one_cons _ _ _,cons_lt hlt5 (by omega) (by omega),fun q hq => (by have := hZ5 q hq; omega),hf5⟩) fun v2 s' hp => ?_)
 rw [← hO,← hON] at hp
 obtain ⟨k6,H6,Z6,new,jp6,rfl,hk6,hlt6,hZ6,hf6,hl6,⟨a1,a2,a3,a4,a5,a6⟩,hpr6,hall6,hmap6,hlen6,hfr6,hkp6⟩ := hp
 rw [List.nil_append] at hl6 hpr6
 have g1:Go.Pi.look H6 1 = some ⟨4,[.agg [.bool false,.nil,.int .i64 0,.nil]]⟩ := (hfr6 1 (by omega) (by omega) (by omega)).trans ((ln _ _ (by omega)).trans f1)
 have mz6:memB Z6 1 = false := memB_no (hkp6 1 (by omega) (hkp5 1 (by omega) (by simp) (fun h => absurd h (Nat.lt_irrefl 0))) (fun h => absurd h (Nat.lt_irrefl 0)))
 have lus:∀ E,Go.Pi.look (Go.Pi.upd H6 1 E) 1 = some E := fun E => look_upd_same g1
 have lun:∀ E q,q ≠ 1 → Go.Pi.look (Go.Pi.upd H6 1 E) q = Go.Pi.look H6 q := fun E q hq => look_upd_ne (Ne.symm hq)
 obtain ⟨y1,y2,y3,y4⟩ := slv_ids jp6 new.length
 simp [run_draw,tb,hl6,g1,mz6,lus,pc,wc,xc,pt,wt,xt,y1,y2,y3]
 have hjp1:0 < new.length → jp6 ≠ 1 := fun hl e => by
  obtain ⟨h1,_⟩ := hpr6 hl
  rw [e,g1] at h1
  simp only [Option.some.injEq,Ent.mk.injEq] at h1
  rw [← h1.2] at hall6
  obtain ⟨_,_,_,_,e2,_⟩ := hall6 _ (List.mem_singleton.2 rfl)
  simp at e2
 refine outK_al pp wp xp (fun hl => ?_) rfl (fun v hv => (hall6 v hv).bd.pure) (hQ _ ⟨_,rfl,?_,?_,?_⟩)
 ·exact (lun _ _ (hjp1 hl)).trans (hpr6 hl).1
 ·have hpf:Lst IsBd (sv new.length new) := by
   unfold sv
   split
   ·exact .inl rfl
   ·exact .inr ⟨_,rfl,fun w hw => (hall6 w hw).bd⟩
  have hpl:(els (sv new.length new)).length ≤ maxLen := by
   have:(els (sv new.length new)).length = new.length := by
    have := congrArg List.length (al_sv new)
    simpa using this
   rw [hON] at hlen6
   unfold maxLen
   omega
  match s,hfd5,hg with
  | none,hfd,_ =>
   have e:PV.agg [p,w,x,.nil] = .agg [.bool false,.nil,.int .i64 0,.nil] := hfd
   simp only [PV.agg.injEq,List.cons.injEq,and_true] at e
   obtain ⟨rfl,rfl,rfl⟩ := e
   exact ⟨false,.nil,0,_,rfl,.inl rfl,hpf,by simp [els],hpl⟩
  | some (c,xx),hfd,hg =>
   have e:PV.agg [p,w,x,.nil] = .agg [.bool true,.slice (NL c),.int .i64 xx,.nil] := hfd
   simp only [PV.agg.injEq,List.cons.injEq,and_true] at e
   obtain ⟨rfl,rfl,rfl⟩ := e
   have hc := (hg c xx rfl).1
   refine ⟨true,_,xx,_,rfl,.inr ⟨_,rfl,fun v hv => ?_⟩,hpf,?_,hpl⟩
   ·obtain ⟨k,_,rfl⟩ := List.mem_map.1 hv
    exact ⟨_,rfl⟩
   ·simp only [els_slice,NL_len]; unfold maxLen; omega
 ·have hpf:sv new.length new = .nil ∨ ∃ es,es ≠ [] ∧ sv new.length new = .slice es := by
   unfold sv
   split
   ·exact .inl rfl
   ·rename_i h0
    exact .inr ⟨new,fun e => h0 (by rw [e]; rfl),rfl⟩
  have hels:els (sv new.length new) = new := by
   unfold sv
   split
   ·rename_i h0; rw [List.eq_nil_of_length_eq_zero h0]; rfl
   ·rfl
  have hpl:(els (sv new.length new)).length ≤ 68719476736 := by
   rw [hels]
   rw [hON] at hlen6
   omega
  have hpa:∀ w ∈ els (sv new.length new),BdS w := by rw [hels]; exact hall6
  match s,hfd5,hg with
  | none,hfd,_ =>
   have e:PV.agg [p,w,x,.nil] = .agg [.bool false,.nil,.int .i64 0,.nil] := hfd
   simp only [PV.agg.injEq,List.cons.injEq,and_true] at e
   obtain ⟨rfl,rfl,rfl⟩ := e
   exact ⟨false,.nil,0,_,rfl,.inl rfl,by simp [els],hpf,hpl,hpa⟩
  | some (c,xx),hfd,hg =>
   have e:PV.agg [p,w,x,.nil] = .agg [.bool true,.slice (NL c),.int .i64 xx,.nil] := hfd
   simp only [PV.agg.injEq,List.cons.injEq,and_true] at e
   obtain ⟨rfl,rfl,rfl⟩ := e
   have hc := (hg c xx rfl).1
   refine ⟨true,_,xx,_,rfl,.inr ⟨c,fun e => ?_,rfl⟩,by simp only [els_slice,NL_len]; omega,hpf,hpl,hpa⟩
   have := h.n0
   rw [e] at hc
   simp only [List.length_nil] at hc
   omega
 ·have e2:alV (.agg [p,w,x,sv new.length new]) = alOf s (prvs O s O.n []) := by
   match s,hfd5,hmap6 with
   | none,hfd,hm =>
    have e:PV.agg [p,w,x,.nil] = .agg [.bool false,.nil,.int .i64 0,.nil] := hfd
    simp only [PV.agg.injEq,List.cons.injEq,and_true] at e
    obtain ⟨rfl,rfl,rfl⟩ := e
    simp only [alV,al_sv,hm]
    rfl
   | some (c,xx),hfd,hm =>
    have e:PV.agg [p,w,x,.nil] = .agg [.bool true,.slice (NL c),.int .i64 xx,.nil] := hfd
    simp only [PV.agg.injEq,List.cons.injEq,and_true] at e
    obtain ⟨rfl,rfl,rfl⟩ := e
    simp only [alV,al_sv,hm,alOf]
    congr 1
    simp [intsV,els,NL,intV,List.map_map,Function.comp_def]
  rw [e2]
  exact hfnd
def farR:CRel | [.int _ n],r => r = .bool (decide (1073741824 < n) || decide (n < -1073741824)) | _,_ => False
theorem far_ok (n:Int):Gives prog G 61 [.int .i64 n] (farR [.int .i64 n]) := by
 refine gives (S := []) (by kernel_rfl) (by kernel_rfl) (callW_of ann61 func61 rfl (by kernel_rfl) ?_)
 by_cases h1:1073741824 < n
 ·simp [run_draw,tb,h1]
  exact outK_pure rfl (by simp [farR,h1])
 ·simp [run_draw,tb,h1]
  exact outK_pure rfl (by simp [farR,h1])
def badR:CRel | [.int _ n],r => r = .bool (decide (n < -1073741824) || decide (1073741824 < n)) | _,_ => False
theorem bad_ok (n:Int):Gives prog G 64 [.int .i64 n] (badR [.int .i64 n]) := by
 refine gives (S := []) (by kernel_rfl) (by kernel_rfl) (callW_of ann64 func64 rfl (by kernel_rfl) ?_)
 by_cases h1:n < -1073741824
 ·simp [run_draw,tb,h1]
  exact outK_pure rfl (by simp [badR,h1])
 ·simp [run_draw,tb,h1]
  exact outK_pure rfl (by simp [badR,h1])
def optionsR:CRel | [w],r => ∃ e,r = .int .i64 e ∧ (e = 0 → RowOk w) | _,_ => False
def opI (w:PV):Nat → List PV → St → Prop := fun n vs st => ∃ (i k:Nat) (H:List (Nat × Ent)),vs = [.int .i64 (i:Int),.int .i64 ((els w).length:Int),w] ∧ i + n = (els w).length ∧ (∀ j x,j < i → (els w)[j]? = some x → OptOk x) ∧ (∀ p ∈ H,p.1 < k) ∧ st = ⟨k,H,[]⟩
theorem options_ok {w:PV} (hw:Lst IsOpt w) (hl:(els w).length ≤ maxLen):Gives prog G 27 [w] (optionsR [w]) := by
 have lw := hw.len
 refine gives_q fun Q hQ => ?_
 have no:∀ {e:Int} {s:St},e ≠ 0 → outK Q (.int .i64 e) s := fun he => outK_pure rfl (hQ _ ⟨_,rfl,fun h => absurd h he⟩)
 refine gives (S := [(64,badR)]) (by kernel_rfl) (by kernel_rfl) (callW_of ann27 func27 rfl (by kernel_rfl) ?_)
 by_cases h0:(els w).length = 0
 ·simp [run_draw,tb,lw,h0]
  exact no (e := 7) (by decide)
 have h0':(((els w).length:Int) == 0) = false := by simp only [beq_eq_false_iff_ne,ne_eq]; omega
 by_cases h8:8 < (els w).length
 ·have h8':(8:Int) < (els w).length := by omega
  simp [run_draw,tb,lw,h0',h8']
  exact no (e := 6) (by decide)
 have h8':¬ (8:Int) < (els w).length := by omega
 simp [run_draw,tb,lw,h0',h8']
 refine loopK_of (opI w) rfl rfl ?step (els w).length _ _ ?init
 case init => exact ⟨0,_,_,rfl,by omega,fun j x h => absurd h (Nat.not_lt_zero j),by simp,rfl⟩
 case step =>
 rintro n vs st ⟨i,k,H,rfl,hin,hall,hlt,rfl⟩
 rcases Nat.eq_zero_or_pos n with hn0 | hn0
 ·have hi0:i = (els w).length := by omega
  subst hi0
  simp [run_draw,tb]
  refine outK_pure rfl (hQ _ ⟨0,rfl,fun _ => ⟨?_,by omega,by omega⟩⟩)
  rcases hw with rfl | ⟨es,rfl,hes⟩
  ·exact .inl rfl
  ·refine .inr ⟨es,rfl,fun x hx => ?_⟩
   obtain ⟨j,hj,rfl⟩ := List.getElem_of_mem hx
   exact hall j _ hj (List.getElem?_eq_getElem hj)
 ·have hi0:i < (els w).length := by omega
  have hii:(i:Int) < (els w).length := by omega
  have wi:IntKind.i64.wrap ((i:Int)+1) = ((i+1:Nat):Int) := w_i64 (by omega)
  obtain ⟨es,x,rfl,f1,a,b,c,rfl⟩ := hw.at hi0
  have f1' := getE f1
  simp only [els_slice] at hii hi0 lw hall hl h8 h8' h0 h0' hin ⊢
  simp [run_draw,tb,hii,hi0,f1,f1']
  refine callK_pure rfl rfl (bad_ok a) fun y hy => ?_
  simp only [badR] at hy
  subst hy
  obtain ⟨A,hA⟩:∃ A,A = (decide (a < -1073741824) || decide (1073741824 < a)) := ⟨_,rfl⟩
  rw [← hA]
  cases A with
  | true =>
   simp [run_draw,tb]
   exact no (e := 2) (by decide)
  | false =>
   simp [run_draw,tb]
   refine callK_pure rfl rfl (bad_ok b) fun y hy => ?_
   simp only [badR] at hy
   subst hy
   obtain ⟨B,hB⟩:∃ B,B = (decide (b < -1073741824) || decide (1073741824 < b)) := ⟨_,rfl⟩
   rw [← hB]
   cases B with
   | true =>
    simp [run_draw,tb]
    exact no (e := 2) (by decide)
   | false =>
    by_cases c1:c < 0
    ·simp [run_draw,tb,c1]
     exact no (e := 2) (by decide)
    ·by_cases c2:1048576 < c
     ·simp [run_draw,tb,c1,c2]
      exact no (e := 2) (by decide)
     ·by_cases c3:b < a
      ·simp [run_draw,tb,c1,c2,c3]
       exact no (e := 8) (by decide)
      ·simp [run_draw,tb,c1,c2,c3,wi]
       have hA' := hA.symm
       have hB' := hB.symm
       simp only [Bool.or_eq_false_iff,decide_eq_false_iff_not] at hA' hB'
       refine ⟨n - 1,by omega,i+1,_,_,by rfl,by simp only [els_slice]; omega,fun j x hj hx => ?_,cons_lt hlt (by omega) (by omega),rfl⟩
       rcases lt_succ_cases hj with h7 | rfl
       ·exact hall j x h7 hx
       ·simp only [els_slice] at hx
        rw [f1] at hx
        cases hx
        exact ⟨a,b,c,rfl,by omega,by omega,by omega,by omega,by omega,by omega⟩
end Go.Proofs.Tryz
