/- The machine on symbols: the search of an allocation. No condition. -/
import Derived.Test.YtgpmgondjppmmaaGreatDoorP7
set_option linter.unnecessarySimpa false
set_option linter.unusedSectionVars false
set_option linter.unusedSimpArgs false
set_option linter.unusedVariables false
set_option maxHeartbeats 8000000
set_option maxRecDepth 100000
namespace Go.Proofs.Tryz
open Go Go.Pi Go.Num Go.Lin Go.Alc
variable [Hole] {G:Nat → Option PV}
theorem decText_one {l:List UInt8} (h:DecText l 1):l = [49] := by
 have h1 := h.len (k := 1) (by decide) (by decide)
 match l,h,h1 with
 | [],h,_ => exact absurd rfl h.ne
 | [b],h,_ =>
  have hv := h.val
  have hd := h.digits b (by simp)
  simp [decVal] at hv
  have:b.toNat = 49 := by
   have := hd.1
   omega
  congr 1
  exact UInt8.toNat_inj.1 this
theorem text_one {l:List UInt8} (h:RatText l 1):l = [49] := by
 rcases h with ⟨_,h⟩ | ⟨h,_⟩
 ·rcases h with ⟨_,h⟩ | ⟨h,_⟩
  ·exact decText_one h
  ·exact absurd h (by decide)
 ·exact absurd rfl h
theorem text_neg {l:List UInt8} (h:RatText l (-1)):l = [45,49] := by
 rcases h with ⟨_,h⟩ | ⟨h,_⟩
 ·rcases h with ⟨h,_⟩ | ⟨_,r,rfl,h⟩
  ·exact absurd h (by decide)
  ·rw [decText_one h]
 ·exact absurd rfl h
theorem fl_side (O:Off) {l:List Nat} (h:(fl O l).2 ≠ 0):(fl O l).2 = 1 ∨ (fl O l).2 = -1 := by
 obtain ⟨q,_,_,h3⟩ := fl_no O h
 rw [h3] at h ⊢
 unfold fa at h ⊢
 split
 ·exact .inl rfl
 ·split
  ·exact .inr rfl
  ·rename_i h1 h2
   rw [if_neg h1,if_neg h2] at h
   exact absurd rfl h
theorem text_side (O:Off) {l:List Nat} (h:(fl O l).2 ≠ 0) {t:List UInt8} (ht:RatText t (((fl O l).2:Int):Rat)):t = sideText (fl O l).2 := by
 rcases fl_side O h with e | e <;> rw [e] at ht ⊢
 ·have := text_one (l := t) (by simpa using ht)
  rw [this]; rfl
 ·have := text_neg (l := t) (by simpa using ht)
  rw [this]; rfl
theorem prvs_cut (O:Off) {s:Sr} {D:Nat} {l:List Nat} (h:cut O s l):prvs O s D l = [⟨pk l,bound O l,-1,[]⟩] := by
 cases D <;> (unfold prvs; rw [if_pos h])
theorem prvs_fail (O:Off) {s:Sr} {D:Nat} {l:List Nat} (h:¬ cut O s l) (hf:(fl O l).2 ≠ 0):prvs O s D l = [⟨pk l,0,(fl O l).1,[sideText (fl O l).2]⟩] := by
 cases D <;> (unfold prvs; rw [if_neg h,if_pos hf])
theorem prvs_deep (O:Off) {s:Sr} {D:Nat} {l:List Nat} (h:¬ cut O s l) (hf:(fl O l).2 = 0):prvs O s (D+1) l = catK (fun k => prvs O s D (l ++ [k])) (O.cnt l.length) 0 := by
 rw [prvs,if_neg h,if_neg (by simp [hf])]
theorem catK_snoc (f:Nat → List Bd):∀ (t k:Nat),catK f (t+1) k = catK f t k ++ f (k + t)
 | 0,k => by simp [catK]
 | t+1,k => by
  rw [catK,catK_snoc f t (k+1),catK,List.append_assoc,show k+1 + t = k + (t+1) by omega]
def BdS (w:PV):Prop := ∃ fx a q du,w = .agg [fx,.int .i64 a,.int .i64 q,du] ∧ Lst IsPick fx ∧ (du = .nil ∨ ∃ l,du = .slice [.str (ba l)]) ∧ (els fx).length ≤ maxLen
theorem BdS.bd {w:PV} (h:BdS w):IsBd w := by
 obtain ⟨fx,a,q,du,rfl,h1,h2,h3⟩ := h
 refine ⟨fx,a,q,du,rfl,h1,?_,h3,?_⟩
 ·rcases h2 with rfl | ⟨l,rfl⟩
  ·exact .inl rfl
  ·exact .inr ⟨_,rfl,fun w hw => by simp at hw; exact ⟨_,hw⟩⟩
 ·rcases h2 with rfl | ⟨l,rfl⟩ <;> simp [els,maxLen]
structure PSt (bf bd bo bp:Nat) (d o r vs vc vh p w x:PV) (es:List PV) (jp:Nat) (l:List Nat) (j k:Nat) (H:List (Nat × Ent)) (Z:List Nat):Prop where
 own:0 < l.length → Go.Pi.look H j = some ⟨1,NL l⟩ ∧ j < k ∧ j ≠ bf ∧ j ≠ jp
 found:Go.Pi.look H bf = some ⟨4,[.agg [p,w,x,slv jp es.length]]⟩
 jpn:jp < k ∧ jp ≠ bf ∧ jp ≠ bd ∧ jp ≠ bo ∧ jp ≠ bp
 prf:0 < es.length → Go.Pi.look H jp = some ⟨4,es⟩ ∧ jp ∉ Z
 all:∀ v ∈ es,BdS v
 desk:Go.Pi.look H bd = some ⟨1,[.eptr (.agg [d,o,r,vs,vc,vh]) 0]⟩
 off:Go.Pi.look H bo = some ⟨3,[.agg [d,o,r]]⟩
 prv:Go.Pi.look H bp = some ⟨1,[.func 33 [.ptr bd 0 0,.ptr bf 0 0,.ptr bo 0 0,.ptr bp 0 0]]⟩
 lt:∀ p ∈ H,p.1 < k
 ltZ:∀ q ∈ Z,q < k
 free:bf ∉ Z
def PPost (O:Off) (D:Nat) (l:List Nat) (s:Sr) (bf bd bo bp:Nat) (p w x:PV) (es:List PV) (jp k:Nat) (H:List (Nat × Ent)) (Z:List Nat) (j:Nat) (_:PV) (s':St):Prop := ∃ (k':Nat) (H':List (Nat × Ent)) (Z':List Nat) (new:List PV) (jp':Nat),s' = ⟨k',H',Z'⟩ ∧ k ≤ k' ∧ (∀ p ∈ H',p.1 < k') ∧ (∀ q ∈ Z',q < k') ∧ bf ∉ Z' ∧ Go.Pi.look H' bf = some ⟨4,[.agg [p,w,x,slv jp' (es ++ new).length]]⟩ ∧
 (jp' < k' ∧ jp' ≠ bf ∧ jp' ≠ bd ∧ jp' ≠ bo ∧ jp' ≠ bp ∧ (jp' = jp ∨ k ≤ jp')) ∧ (0 < (es ++ new).length → Go.Pi.look H' jp' = some ⟨4,es ++ new⟩ ∧ jp' ∉ Z') ∧ (∀ v ∈ new,BdS v) ∧ new.map bdV = prvs O s D l ∧ new.length ≤ 8 ^ D ∧ (∀ q,q < k → q ≠ bf → q ≠ jp → Go.Pi.look H' q = Go.Pi.look H q) ∧ Keeps Z Z' k j l
def pkI (O:Off) (bf bd bo bp:Nat) (d o r vs vc vh p w x:PV) (s:Sr) (es:List PV) (jp:Nat) (l:List Nat) (D C j k:Nat) (H:List (Nat × Ent)) (Z:List Nat):Nat → List PV → St → Prop := fun n vs' st => ∃ (e k2:Nat) (new:List PV) (jp2:Nat) (H2:List (Nat × Ent)) (Z2:List Nat),vs' = [.int .i64 (e:Int),slv j l.length,.int .i64 (C:Int),.ptr bp 0 0] ∧ e + n = C ∧
 PSt bf bd bo bp d o r vs vc vh p w x (es ++ new) jp2 l j k2 H2 Z2 ∧ k ≤ k2 ∧ (∀ q,q < k → q ≠ bf → q ≠ jp → Go.Pi.look H2 q = Go.Pi.look H q) ∧ (jp2 = jp ∨ k ≤ jp2) ∧ (∀ v ∈ new,BdS v) ∧ new.map bdV = catK (fun k => prvs O s D (l ++ [k])) e 0 ∧ new.length ≤ e * 8 ^ D ∧ Keeps Z Z2 k j l ∧ st = ⟨k2,H2,Z2⟩
theorem app_bd_nil {hp:Nat → Option Ent} {fz:Nat → Bool} {fr:Nat} {pv du:PV} {a q:Int} (h1:pv.cellOk = true) (h2:du.cellOk = true):appendOp prog hp fz fr (some 38) (some 38) .nil (.slice [.agg [pv,.int .i64 a,.int .i64 q,du]]) = some { val := .own fr 0 1,new := some ⟨4,[.agg [pv,.int .i64 a,.int .i64 q,du]]⟩ } := by
 simp [appendOp,appended,elems,uniform,ble_lit,beq_lit,blt_lit,h1,h2]
theorem app_bd_own {hp:Nat → Option Ent} {fz:Nat → Bool} {fr j n:Nat} {es:List PV} {pv du:PV} {a q:Int} (h1:pv.cellOk = true) (h2:du.cellOk = true) (h:hp j = some ⟨4,es⟩) (hf:fz j = false) (hn:es.length = n) (hm:n < 68719476736):appendOp prog hp fz fr (some 38) (some 38) (.own j 0 n) (.slice [.agg [pv,.int .i64 a,.int .i64 q,du]]) = some { val := .own fr 0 (n+1),new := some ⟨4,es ++ [.agg [pv,.int .i64 a,.int .i64 q,du]]⟩,kill := some j } := by
 have mk:(2 * (n+1)+1000) * 64 ≤ 140737488355328 := by omega
 have sx:¬ n+1 ≤ n := by omega
 simp [appendOp,appended,elems,uniform,h,hn,hf,ble_lit,beq_lit,blt_lit,mk,sx,h1,h2]
theorem prove_ok (lib:ReadLib G) (tlib:TextLib G) {d o r vs vc vh:PV} (h:DeskOk d o r vs vc vh) {bf bd bo bp:Nat} (n1:bf ≠ bd) (n2:bf ≠ bo) (n3:bf ≠ bp) (s:Sr) {p w x:PV} (hs:FdV s (.agg [p,w,x,.nil])) (hall:∀ l,l.length = (els d).length → InR (offV (.agg [d,o,r])) l → (fl (offV (.agg [d,o,r])) l).2 = 0 → cut (offV (.agg [d,o,r])) s l):∀ (D:Nat) (l:List Nat) (es:List PV) (jp j k:Nat) (H:List (Nat × Ent)) (Z:List Nat),l.length + D = (els d).length → es.length + 8 ^ D ≤ 68719476736 → InR (offV (.agg [d,o,r])) l →
  PSt bf bd bo bp d o r vs vc vh p w x es jp l j k H Z → CallW prog (specEnv prog G AS) G A1 33 [slv j l.length,.ptr bd 0 0,.ptr bf 0 0,.ptr bo 0 0,.ptr bp 0 0] ⟨k,H,Z⟩ (PPost (offV (.agg [d,o,r])) D l s bf bd bo bp p w x es jp k H Z j) := by
 obtain ⟨O,hO⟩:∃ O,O = offV (.agg [d,o,r]) := ⟨_,rfl⟩
 have hON:O.n = (els d).length := by rw [hO]; exact h.n
 have hN := h.n1
 obtain ⟨d1,d2,d3,d4,d5⟩ := h.dim.cell
 obtain ⟨o1,o2,o3,o4,o5⟩ := h.opt.cell
 obtain ⟨r1,r2,r3,r4,r5⟩ := h.req.cell
 have ld := h.dim.len
 rw [← hO] at hall ⊢
 intro D
 induction D using Nat.strongRecOn with
 | ind D ih =>
 intro l es jp j k H Z hlD hlen hi ⟨w1,w2,⟨j1,j2,j3,j4,j5⟩,w3,w4,w5,w6,w7,w8,w9,w10⟩
 have k1 := look_lt w8 w2
 have k2 := look_lt w8 w5
 have k3 := look_lt w8 w6
 have k4 := look_lt w8 w7
 have hbd := bound_ok (G := G) h (preV_is l) (by rw [← hO]; exact hi) (by omega)
 have hfl := fails_ok lib h (preV_is l) (by rw [← hO]; exact hi) (by omega)
 have hpi := picks_ok (G := G) (preV_is l) (by omega)
 have pD:PV.pureL [.eptr (.agg [d,o,r,vs,vc,vh]) 0] = true := rfl
 have pw1:1 ≤ 8 ^ D := Nat.pow_pos (by decide)
 obtain ⟨x1,x2,x3,x4⟩ := slv_ids j l.length
 obtain ⟨y1,y2,y3,y4⟩ := slv_ids jp es.length
 refine callW_of ann33 func33 rfl (by kernel_rfl) ?_
 simp [run_draw,tb]
 refine callK_slv [] rfl rfl (fun hl => by have := w1 hl; exact ⟨this.1,by omega⟩) hpi fun y Z1 hy hz1 => ?_
 simp only [List.nil_append,picksR,(preV_is l).nats] at hy
 subst hy
 obtain ⟨pv,hpv⟩:∃ pv,pv = sv (pk l).length (PK (pk l)) := ⟨_,rfl⟩
 have hpc:pv.cellOk = true ∧ pv.cells = [pv] ∧ pv.isTop = false ∧ pv.ids = [] ∧ pv.pureB = true := by
  rw [hpv]; unfold sv
  split <;> exact ⟨rfl,rfl,rfl,rfl,rfl⟩
 obtain ⟨p1,p2,p3,p4,p5⟩ := hpc
 have hpp:pksV pv = pk l := by rw [hpv,pksV_sv]
 have hpl:Lst IsPick pv := by
  rw [hpv]; unfold sv
  split
  ·exact .inl rfl
  ·exact .inr ⟨_,rfl,fun w hw => by obtain ⟨y,_,rfl⟩ := List.mem_map.1 hw; exact ⟨_,_,rfl⟩⟩
 have hplen:(els pv).length = l.length := by
  have := congrArg List.length hpp
  rwa [pk_len,show (pksV pv).length = (els pv).length by simp [pksV]] at this
 have inZ:∀ Z':List Nat,(∀ q ∈ Z',q ∈ Z ∨ (q = j ∧ 0 < l.length)) → (∀ q ∈ Z',q < k) ∧ bf ∉ Z' ∧ (0 < es.length → jp ∉ Z') := fun Z' hz => by
  refine ⟨fun q hq => ?_,fun hq => ?_,fun he hq => ?_⟩
  ·rcases hz q hq with h | ⟨rfl,h⟩
   ·exact w9 q h
   ·exact (w1 h).2.1
  ·rcases hz bf hq with h | ⟨e,h⟩
   ·exact w10 h
   ·exact (w1 h).2.2.1 e.symm
  ·rcases hz jp hq with h | ⟨e,h⟩
   ·exact (w3 he).2 h
   ·exact (w1 h).2.2.2 e.symm
 have fin:∀ (k' jn:Nat) (H':List (Nat × Ent)) (Z':List Nat) (bv v:PV),(∀ q ∈ Z',q ∈ Z ∨ (q = j ∧ 0 < l.length)) → BdS bv → [bdV bv] = prvs O s D l → Go.Pi.look H' bf = some ⟨4,[.agg [p,w,x,.own jn 0 (es.length+1)]]⟩ → Go.Pi.look H' jn = some ⟨4,es ++ [bv]⟩ → k ≤ jn → jn < k' → (∀ p ∈ H',p.1 < k') → (∀ q,q < k → q ≠ bf → q ≠ jp → Go.Pi.look H' q = Go.Pi.look H q) → PPost O D l s bf bd bo bp p w x es jp k H Z j v ⟨k',H',Z'⟩ := fun k' jn H' Z' bv v hz hb1 hb2 h1 h2 h3 h4 h5 h6 => by
  obtain ⟨a1,a2,a3⟩ := inZ Z' hz
  refine ⟨k',H',Z',[bv],jn,rfl,by omega,h5,fun q hq => by have := a1 q hq; omega,a2,?_,⟨h4,by omega,by omega,by omega,by omega,.inr h3⟩,fun _ => ⟨h2,fun hq => by have := a1 jn hq; omega⟩,fun v hv => by simp at hv; rw [hv]; exact hb1,hb2,pw1,h6,Keeps.of hz⟩
  rw [slv_pos (by simp)]
  simpa using h1
 have mz1:∀ q,k ≤ q → memB Z1 q = false := fun q hq => memB_none (inZ Z1 hz1).1 hq
 rw [← hpv]
 simp [run_draw,tb,p1,p2,p3,w5,le12 mz1 k (by omega),ne12 (show bd < k by omega)]
 refine callK_slv [.eptr (.agg [d,o,r,vs,vc,vh]) 0] rfl pD (fun hl => by have := w1 hl; exact ⟨(look_cons_ne (by omega)).trans this.1,by omega⟩) hfl fun y Z2 hy hz2 => ?_
 simp only [List.cons_append,List.nil_append,failsR,offV_app,(preV_is l).nats,← hO] at hy
 subst hy
 have hzz2:∀ q ∈ Z2,q ∈ Z ∨ (q = j ∧ 0 < l.length) := fun q hq => (hz2 q hq).elim (hz1 q) .inr
 clear hz2
 cases s with
 | none =>
  have hs':PV.agg [p,w,x,.nil] = .agg [.bool false,.nil,.int .i64 0,.nil] := hs
  simp only [PV.agg.injEq,List.cons.injEq,and_true] at hs'
  obtain ⟨rfl,rfl,rfl⟩ := hs'
  have hcut:¬ cut O none l := id
  by_cases hf:(fl O l).2 = 0
  ·have hf1:((fl O l).2 != 0) = false := by simpa using hf
   rcases Nat.eq_zero_or_pos D with hD | hD
   ·subst hD
    exact absurd (hall l (by omega) hi hf) hcut
   obtain ⟨D,rfl⟩:∃ D',D = D'+1 := ⟨D - 1,by omega⟩
   obtain ⟨os,row,rfl,z1,z2,z3,z4,z5,z6⟩ := h.row (i := l.length) (by omega)
   have z1' := getE z1
   have hol := h.on
   simp only [els_slice] at hol
   have hlo:l.length < os.length := by omega
   rw [← hO] at z5
   simp [run_draw,tb,w2,w6,d1,o1,r1,x4,ld,z1,z1',hlo,ne12 (show bf < k by omega),ne12 (show bo < k by omega),hf1]
   refine ⟨logOk_free (by simp [okTri,tri,tb]),?_⟩
   obtain ⟨zk2,zb2,zj2⟩ := inZ Z2 hzz2
   refine loopK_of (pkI O bf bd bo bp d (.slice os) r vs vc vh (.bool false) .nil (.int .i64 0) none es jp l D row.length j k H Z) rfl rfl ?step row.length _ _ ?init
   case init =>
    refine ⟨0,_,[],jp,_,_,rfl,by omega,⟨fun hl => ?_,?_,⟨by omega,j2,j3,j4,j5⟩,fun he => ?_,?_,?_,?_,?_,?_,fun q hq => by have := zk2 q hq; omega,zb2⟩,by omega,fun q _ _ _ => look_cons_ne (by omega),.inl rfl,by simp,rfl,by simp,Keeps.of hzz2,rfl⟩
    ·have := w1 hl
     exact ⟨(look_cons_ne (by omega)).trans this.1,by omega,this.2.2.1,this.2.2.2⟩
    ·rw [List.append_nil]; exact (look_cons_ne (by omega)).trans w2
    ·rw [List.append_nil] at he ⊢; exact ⟨(look_cons_ne (by omega)).trans (w3 he).1,zj2 he⟩
    ·rw [List.append_nil]; exact w4
    ·exact (look_cons_ne (by omega)).trans w5
    ·exact (look_cons_ne (by omega)).trans w6
    ·exact (look_cons_ne (by omega)).trans w7
    ·exact cons_lt w8 (by omega) (by omega)
   case step =>
   have hsd := prvs_deep (D := D) O hcut hf
   rw [z5] at hsd
   have hpow:8 ^ (D+1) = 8 ^ D * 8 := Nat.pow_succ 8 D
   clear zk2 zb2 zj2 fin inZ
   rintro m vs2 st ⟨e,kk,new,jp2,H2,Z2',rfl,hem,⟨q1,q2,⟨g1,g2,g3,g4,g5⟩,q4,q5,q6,q7,q8,q9,q10,q11⟩,hkk,hfr,hjj,hnew,hmap,hnl,hkp,rfl⟩
   have hk1 := look_lt q9 q2
   have hk2 := look_lt q9 q6
   have hk3 := look_lt q9 q7
   have hk4 := look_lt q9 q8
   have hmul:e * 8 ^ D ≤ 8 * 8 ^ D := Nat.mul_le_mul_right _ (by omega)
   rcases Nat.eq_zero_or_pos m with hm | hm
   ·subst hm
    have he:e = row.length := by omega
    subst he
    simp [tb]
    exact ⟨_,_,_,new,jp2,rfl,by omega,lt_mono q9 (by omega),fun q hq => by have := q10 q hq; omega,q11,q2,⟨by omega,g2,g3,g4,g5,hjj⟩,q4,hnew,by rw [hsd,hmap],by rw [hpow]; omega,hfr,hkp⟩
   ·obtain ⟨m,rfl⟩:∃ m',m = m'+1 := ⟨m - 1,by omega⟩
    have he:e < row.length := by omega
    have hee:(e:Int) < row.length := by omega
    have we:IntKind.i64.wrap ((e:Int)+1) = ((e+1:Nat):Int) := w_i64 (by omega)
    have hsn:InR O (l ++ [e]) := InR.snoc O hi (by rw [z5]; exact he)
    have hmul2:(e+1) * 8 ^ D ≤ 8 * 8 ^ D := Nat.mul_le_mul_right _ (by omega)
    rw [Nat.succ_mul] at hmul2
    have key:∀ (k3 b3:Nat),kk ≤ b3 → b3 < k3 → CallW prog (specEnv prog G AS) G A1 33 [.own b3 0 (l.length+1),.ptr bd 0 0,.ptr bf 0 0,.ptr bo 0 0,.ptr bp 0 0] ⟨k3,(b3,⟨1,NL (l ++ [e])⟩) :: H2,Z2'⟩ (PPost O D (l ++ [e]) (none) bf bd bo bp _ _ _ (es ++ new) jp2 k3 ((b3,⟨1,NL (l ++ [e])⟩) :: H2) Z2' b3) := fun k3 b3 h1 h2 => by
     rw [← slv_app]
     refine ih D (by omega) (l ++ [e]) (es ++ new) jp2 b3 k3 _ Z2' (by simp; omega) (by rw [List.length_append]; omega) hsn ⟨fun _ => ⟨look_one_cons _ _ _,h2,by omega,by omega⟩,?_,⟨by omega,g2,g3,g4,g5⟩,fun he => ⟨(look_cons_ne (by omega)).trans (q4 he).1,(q4 he).2⟩,q5,?_,?_,?_,?_,?_,q11⟩
     ·exact (look_cons_ne (by omega)).trans q2
     ·exact (look_cons_ne (by omega)).trans q6
     ·exact (look_cons_ne (by omega)).trans q7
     ·exact (look_cons_ne (by omega)).trans q8
     ·exact cons_lt q9 (by omega) (by omega)
     ·exact fun q hq => by have := q10 q hq; omega
    by_cases hl0:l = []
    ·subst hl0
     have sl0:slv j ([]:List Nat).length = .nil := rfl
     rw [sl0]
     have s3 := fun hp => s3_nil (hp := hp)
     have ap := fun hp fz fr => app_nil (hp := hp) (fz := fz) (fr := fr) (e := (e:Int))
     have e1:NL ([] ++ [e]) = [.int .i64 (e:Int)] := rfl
     rw [e1] at key
     simp only [List.length_nil,Nat.zero_add] at key
     simp [tb,hee]
     refine run_last rfl rfl (by simp only [List.length_cons,List.length_nil,Nat.reduceAdd,Nat.reduceSub,List.take_succ_cons,List.take_zero]; rfl) (by simp only [List.length_cons,List.length_nil,Nat.reduceAdd,Nat.reduceSub,List.drop_succ_cons,List.drop_zero]; rfl) ?_
     simp [tb,hee,q8,s3,ap,ne12 (show bp < kk by omega),buildSliceOp,putParts,repeatP,uniform,PV.pureL,PV.pureB]
     refine ⟨logOk_code (fun x => if x = kk+1+1+1+1+1+1+1+1+1+1+1+1 then 1 else 0) (by simp [code,show ¬ bp = kk+1+1+1+1+1+1+1+1+1+1+1+1 by omega] <;> decide +kernel),?_⟩
     refine callK_run rfl (callW_to (key _ _ (by omega) (by omega)) fun v s' hp => ?_)
     obtain ⟨k5,H5,Z5,new5,jp5,rfl,hk5,hlt5,hZ5,hf5,hl5,⟨a1,a2,a3,a4,a5,a6⟩,hpr5,hall5,hmap5,hlen5,hfr5,hkp5⟩ := hp
     have fr5:∀ q,q < kk → q ≠ bf → q ≠ jp2 → Go.Pi.look H5 q = Go.Pi.look H2 q := fun q h1 h2 h3 => (hfr5 q (by omega) h2 h3).trans (look_cons_ne (by omega))
     simp [run_draw,tb]
     refine ⟨m,by omega,e+1,_,new ++ new5,jp5,H5,Z5,by rw [we]; rfl,by omega,⟨fun hl => ?_,by rw [← List.append_assoc]; exact hl5,⟨by omega,a2,a3,a4,a5⟩,by rw [← List.append_assoc]; exact hpr5,fun v hv => ?_,?_,?_,?_,lt_mono hlt5 (by omega),fun q hq => by have := hZ5 q hq; omega,hf5⟩,by omega,fun q h1 h2 h3 => (fr5 q (by omega) h2 (by omega)).trans (hfr q h1 h2 h3),by omega,fun v hv => ?_,?_,?_,hkp.step hkp5 (by omega) (by omega),rfl⟩
     ·have := q1 hl
      exact ⟨(fr5 j this.2.1 this.2.2.1 this.2.2.2).trans this.1,by omega,this.2.2.1,by omega⟩
     ·rw [← List.append_assoc] at hv
      rcases List.mem_append.1 hv with h | h
      ·exact q5 v h
      ·exact hall5 v h
     ·exact (fr5 bd hk2 (Ne.symm n1) (Ne.symm g3)).trans q6
     ·exact (fr5 bo hk3 (Ne.symm n2) (Ne.symm g4)).trans q7
     ·exact (fr5 bp hk4 (Ne.symm n3) (Ne.symm g5)).trans q8
     ·rcases List.mem_append.1 hv with h | h
      ·exact hnew v h
      ·exact hall5 v h
     ·rw [List.map_append,hmap,hmap5,catK_snoc,Nat.zero_add]
     ·rw [List.length_append,Nat.succ_mul]; omega
    ·have hlp:0 < l.length := by cases l with | nil => exact absurd rfl hl0 | cons _ _ => simp
     obtain ⟨qj,qk,qb,qp⟩ := q1 hlp
     have esl:slv j l.length = .own j 0 l.length := slv_pos hlp
     have nll := NL_len l
     have s3 := s3_own qj nll
     have ap := fun fz fr => app_ownF (fz := fz) (fr := fr) (e := (e:Int)) qj nll (by omega)
     rw [NL_app] at key
     rw [esl]
     simp [tb,hee]
     refine run_last rfl rfl (by simp only [List.length_cons,List.length_nil,Nat.reduceAdd,Nat.reduceSub,List.take_succ_cons,List.take_zero]; rfl) (by simp only [List.length_cons,List.length_nil,Nat.reduceAdd,Nat.reduceSub,List.drop_succ_cons,List.drop_zero]; rfl) ?_
     simp [tb,hee,qj,q8,s3,ap,ne12 (show bp < kk by omega),buildSliceOp,putParts,repeatP,uniform,PV.pureL,PV.pureB]
     refine ⟨logOk_code (fun x => if x = kk+1+1+1+1+1+1+1+1+1+1+1+1 then 1 else 0) (by simp [code,show ¬ j = kk+1+1+1+1+1+1+1+1+1+1+1+1 by omega,show ¬ bp = kk+1+1+1+1+1+1+1+1+1+1+1+1 by omega] <;> decide +kernel),?_⟩
     refine callK_run rfl (callW_to (key _ _ (by omega) (by omega)) fun v s' hp => ?_)
     obtain ⟨k5,H5,Z5,new5,jp5,rfl,hk5,hlt5,hZ5,hf5,hl5,⟨a1,a2,a3,a4,a5,a6⟩,hpr5,hall5,hmap5,hlen5,hfr5,hkp5⟩ := hp
     have fr5:∀ q,q < kk → q ≠ bf → q ≠ jp2 → Go.Pi.look H5 q = Go.Pi.look H2 q := fun q h1 h2 h3 => (hfr5 q (by omega) h2 h3).trans (look_cons_ne (by omega))
     simp [run_draw,tb]
     refine ⟨m,by omega,e+1,_,new ++ new5,jp5,H5,Z5,by rw [we,esl],by omega,⟨fun hl => ?_,by rw [← List.append_assoc]; exact hl5,⟨by omega,a2,a3,a4,a5⟩,by rw [← List.append_assoc]; exact hpr5,fun v hv => ?_,?_,?_,?_,lt_mono hlt5 (by omega),fun q hq => by have := hZ5 q hq; omega,hf5⟩,by omega,fun q h1 h2 h3 => (fr5 q (by omega) h2 (by omega)).trans (hfr q h1 h2 h3),by omega,fun v hv => ?_,?_,?_,hkp.step hkp5 (by omega) (by omega),rfl⟩
     ·have := q1 hl
      exact ⟨(fr5 j this.2.1 this.2.2.1 this.2.2.2).trans this.1,by omega,this.2.2.1,by omega⟩
     ·rw [← List.append_assoc] at hv
      rcases List.mem_append.1 hv with h | h
      ·exact q5 v h
      ·exact hall5 v h
     ·exact (fr5 bd hk2 (Ne.symm n1) (Ne.symm g3)).trans q6
     ·exact (fr5 bo hk3 (Ne.symm n2) (Ne.symm g4)).trans q7
     ·exact (fr5 bp hk4 (Ne.symm n3) (Ne.symm g5)).trans q8
     ·rcases List.mem_append.1 hv with h | h
      ·exact hnew v h
      ·exact hall5 v h
     ·rw [List.map_append,hmap,hmap5,catK_snoc,Nat.zero_add]
     ·rw [List.length_append,Nat.succ_mul]; omega
  ·have hf1:((fl O l).2 != 0) = true := by simpa using hf
   simp [run_draw,tb,w2,ne12 (show bf < k by omega),hf1]
   refine ⟨logOk_free (by simp [okTri,tri,tb]),?_⟩
   have hsd := fl_side O hf
   refine callK_pure (S := AS) rfl rfl (rfrom_ok _ (by omega)) fun y hy => ?_
   simp only [rfromR] at hy
   simp [run_draw,tb]
   refine callK_pure (S := AS) rfl (by simp only [PV.pureL,hy.pure]; rfl) (number_ok tlib y _ hy ((rfits_int (by omega)).mono (by omega))) fun z hz => ?_
   simp only [numberR,ratv_eq hy] at hz
   obtain ⟨tx,rfl,htx⟩ := hz
   have htx' := text_side O hf htx
   subst htx'
   obtain ⟨zk2,zb2,zj2⟩ := inZ Z2 hzz2
   have mz2:∀ q,k ≤ q → memB Z2 q = false := fun q hq => memB_none zk2 hq
   have mzb2 := memB_no zb2
   have lus:∀ E,Go.Pi.look (Go.Pi.upd H bf E) bf = some E := fun E => look_upd_same w2
   have ap := fun hp fz fr a q l => app_bd_nil (hp := hp) (fz := fz) (fr := fr) (a := a) (q := q) (pv := pv) (du := .slice l) p1 rfl
   rcases Nat.eq_zero_or_pos es.length with e0 | e0
   ·have es0:es = [] := List.eq_nil_of_length_eq_zero e0
    subst es0
    have sl0:slv jp ([]:List PV).length = .nil := rfl
    rw [sl0] at w2
    simp [run_draw,tb,w2,ne60 (show bf < k by omega),le5 mz2 k (by omega),mzb2,lus,p1,p2,p3,ap,buildSliceOp,putParts,repeatP,uniform,PV.pureL,PV.pureB,p5]
    refine fin _ _ _ _ _ _ hzz2 ⟨pv,0,(fl O l).1,_,rfl,hpl,.inr ⟨_,rfl⟩,by rw [hplen]; unfold maxLen; omega⟩ ?_ (by rw [look_cons_ne (by omega),look_cons_ne (by omega)]; exact lus _) (look_one_cons _ _ _) (by omega) (by omega) (cons_lt (cons_lt (upd_lt w8) (by omega) (by omega):∀ p ∈ (_:List (Nat × Ent)),p.1 < k+1+1+1+1) (by omega) (by omega)) (fun q h1 h2 h3 => by rw [look_cons_ne (by omega),look_cons_ne (by omega),look_upd_ne (Ne.symm h2)])
    rw [prvs_fail O hcut hf]
    simp [bdV,hpp,els,strV,ba_list]
   ·have sl0:slv jp es.length = .own jp 0 es.length := slv_pos e0
    rw [sl0] at w2
    obtain ⟨u1,u2⟩ := w3 e0
    have mzj := memB_no (zj2 e0)
    have ld:∀ e,Go.Pi.look (del ((k+1+1+1,e) :: H) jp) bf = some ⟨4,[.agg [.bool false,.nil,.int .i64 0,.own jp 0 es.length]]⟩ := fun e => by rw [look_del_ne (Ne.symm j2),look_cons_ne (by omega)]; exact w2
    have ap2 := fun hp fz fr a q l (h:hp jp = some ⟨4,es⟩) (hf:fz jp = false) => app_bd_own (hp := hp) (fz := fz) (fr := fr) (a := a) (q := q) (pv := pv) (du := .slice l) p1 rfl h hf rfl (by omega)
    simp [run_draw,tb,w2,ne60 (show bf < k by omega),ne60 (show jp < k by omega),le5 mz2 k (by omega),mzb2,mzj,lus,p1,p2,p3,ap2,buildSliceOp,putParts,repeatP,uniform,PV.pureL,PV.pureB,p5,u1,ld]
    refine fin _ _ _ _ _ _ hzz2 ⟨pv,0,(fl O l).1,_,rfl,hpl,.inr ⟨_,rfl⟩,by rw [hplen]; unfold maxLen; omega⟩ ?_ (by rw [look_cons_ne (by omega)]; exact look_upd_same (ld _)) (look_one_cons _ _ _) (by omega) (by omega) (cons_lt (upd_lt (del_lt (cons_lt w8 (by omega) (by omega):∀ p ∈ (_:List (Nat × Ent)),p.1 < k+1+1+1+1))) (by omega) (by omega)) (fun q h1 h2 h3 => by rw [look_cons_ne (by omega),look_upd_ne (Ne.symm h2),look_del_ne h3,look_cons_ne (by omega)])
    rw [prvs_fail O hcut hf]
    simp [bdV,hpp,els,strV,ba_list]
 | some s =>
  obtain ⟨c,xx⟩ := s
  have hs':PV.agg [p,w,x,.nil] = .agg [.bool true,.slice (NL c),.int .i64 xx,.nil] := hs
  simp only [PV.agg.injEq,List.cons.injEq,and_true] at hs'
  obtain ⟨rfl,rfl,rfl⟩ := hs'
  simp [run_draw,tb,w2,w5,ne12 (show bf < k by omega),ne12 (show bd < k by omega)]
  refine dcallK_slv [.eptr (.agg [d,o,r,vs,vc,vh]) 0] rfl pD (fun hl => by have := w1 hl; exact ⟨(look_cons_ne (by omega)).trans this.1,by omega⟩) hbd fun y Z3 hy hz3 => ?_
  simp only [List.cons_append,List.nil_append,boundR,offV_app,(preV_is l).nats,← hO] at hy
  subst hy
  have hzz3:∀ q ∈ Z3,q ∈ Z ∨ (q = j ∧ 0 < l.length) := fun q hq => (hz3 q hq).elim (hzz2 q) .inr
  by_cases hcut:cut O (some (c,xx)) l
  ·have hc1:xx ≤ bound O l := hcut
   simp [run_draw,tb,w2,w5,ne12 (show bf < k by omega),ne12 (show bd < k by omega),hc1]
   refine ⟨logOk_free (by simp [okTri,tri,tb]),?_⟩
   refine callK_slv [.eptr (.agg [d,o,r,vs,vc,vh]) 0] rfl pD (fun hl => by have := w1 hl; exact ⟨(look_cons_ne (by omega)).trans this.1,by omega⟩) hbd fun y Z4 hy hz4 => ?_
   simp only [List.cons_append,List.nil_append,boundR,offV_app,(preV_is l).nats,← hO] at hy
   subst hy
   have hzz4:∀ q ∈ Z4,q ∈ Z ∨ (q = j ∧ 0 < l.length) := fun q hq => (hz4 q hq).elim (hzz3 q) .inr
   obtain ⟨zk2,zb2,zj2⟩ := inZ Z4 hzz4
   have mz2:∀ q,k ≤ q → memB Z4 q = false := fun q hq => memB_none zk2 hq
   have mzb2 := memB_no zb2
   have lus:∀ E,Go.Pi.look (Go.Pi.upd H bf E) bf = some E := fun E => look_upd_same w2
   have ap := fun hp fz fr a q => app_bd_nil (hp := hp) (fz := fz) (fr := fr) (a := a) (q := q) (pv := pv) (du := .nil) p1 rfl
   rcases Nat.eq_zero_or_pos es.length with e0 | e0
   ·have es0:es = [] := List.eq_nil_of_length_eq_zero e0
    subst es0
    have sl0:slv jp ([]:List PV).length = .nil := rfl
    rw [sl0] at w2
    simp [run_draw,tb,w2,ne60 (show bf < k by omega),le5 mz2 k (by omega),mzb2,lus,p1,p2,p3,ap,buildSliceOp,putParts,repeatP,uniform,PV.pureL,PV.pureB,p5]
    refine fin _ _ _ _ _ _ hzz4 ⟨pv,bound O l,-1,.nil,rfl,hpl,.inl rfl,by rw [hplen]; unfold maxLen; omega⟩ ?_ (by rw [look_cons_ne (by omega),look_cons_ne (by omega)]; exact lus _) (look_one_cons _ _ _) (by omega) (by omega) (cons_lt (cons_lt (upd_lt w8) (by omega) (by omega):∀ p ∈ (_:List (Nat × Ent)),p.1 < k+1+1+1+1) (by omega) (by omega)) (fun q h1 h2 h3 => by rw [look_cons_ne (by omega),look_cons_ne (by omega),look_upd_ne (Ne.symm h2)])
    rw [prvs_cut O hcut]
    simp [bdV,hpp,els,strV,ba_list]
   ·have sl0:slv jp es.length = .own jp 0 es.length := slv_pos e0
    rw [sl0] at w2
    obtain ⟨u1,u2⟩ := w3 e0
    have mzj := memB_no (zj2 e0)
    have ld:∀ e,Go.Pi.look (del ((k+1+1+1,e) :: H) jp) bf = some ⟨4,[.agg [.bool true,.slice (NL c),.int .i64 xx,.own jp 0 es.length]]⟩ := fun e => by rw [look_del_ne (Ne.symm j2),look_cons_ne (by omega)]; exact w2
    have ap2 := fun hp fz fr a q (h:hp jp = some ⟨4,es⟩) (hf:fz jp = false) => app_bd_own (hp := hp) (fz := fz) (fr := fr) (a := a) (q := q) (pv := pv) (du := .nil) p1 rfl h hf rfl (by omega)
    simp [run_draw,tb,w2,ne60 (show bf < k by omega),ne60 (show jp < k by omega),le5 mz2 k (by omega),mzb2,mzj,lus,p1,p2,p3,ap2,buildSliceOp,putParts,repeatP,uniform,PV.pureL,PV.pureB,p5,u1,ld]
    refine fin _ _ _ _ _ _ hzz4 ⟨pv,bound O l,-1,.nil,rfl,hpl,.inl rfl,by rw [hplen]; unfold maxLen; omega⟩ ?_ (by rw [look_cons_ne (by omega)]; exact look_upd_same (ld _)) (look_one_cons _ _ _) (by omega) (by omega) (cons_lt (upd_lt (del_lt (cons_lt w8 (by omega) (by omega):∀ p ∈ (_:List (Nat × Ent)),p.1 < k+1+1+1+1))) (by omega) (by omega)) (fun q h1 h2 h3 => by rw [look_cons_ne (by omega),look_upd_ne (Ne.symm h2),look_del_ne h3,look_cons_ne (by omega)])
    rw [prvs_cut O hcut]
    simp [bdV,hpp,els,strV,ba_list]
  have hc1:¬ xx ≤ bound O l := hcut
  by_cases hf:(fl O l).2 = 0
  ·have hf1:((fl O l).2 != 0) = false := by simpa using hf
   rcases Nat.eq_zero_or_pos D with hD | hD
   ·subst hD
    exact absurd (hall l (by omega) hi hf) hcut
   obtain ⟨D,rfl⟩:∃ D',D = D'+1 := ⟨D - 1,by omega⟩
   obtain ⟨os,row,rfl,z1,z2,z3,z4,z5,z6⟩ := h.row (i := l.length) (by omega)
   have z1' := getE z1
   have hol := h.on
   simp only [els_slice] at hol
   have hlo:l.length < os.length := by omega
   rw [← hO] at z5
   simp [run_draw,tb,w2,w6,d1,o1,r1,x4,ld,z1,z1',hlo,ne12 (show bf < k by omega),ne12 (show bo < k by omega),hf1,hc1]
   refine ⟨logOk_free (by simp [okTri,tri,tb]),?_⟩
   obtain ⟨zk2,zb2,zj2⟩ := inZ Z3 hzz3
   refine loopK_of (pkI O bf bd bo bp d (.slice os) r vs vc vh (.bool true) (.slice (NL c)) (.int .i64 xx) (some (c,xx)) es jp l D row.length j k H Z) rfl rfl ?step2 row.length _ _ ?init2
   case init2 =>
    refine ⟨0,_,[],jp,_,_,rfl,by omega,⟨fun hl => ?_,?_,⟨by omega,j2,j3,j4,j5⟩,fun he => ?_,?_,?_,?_,?_,?_,fun q hq => by have := zk2 q hq; omega,zb2⟩,by omega,fun q _ _ _ => look_cons_ne (by omega),.inl rfl,by simp,rfl,by simp,Keeps.of hzz3,rfl⟩
    ·have := w1 hl
     exact ⟨(look_cons_ne (by omega)).trans this.1,by omega,this.2.2.1,this.2.2.2⟩
    ·rw [List.append_nil]; exact (look_cons_ne (by omega)).trans w2
    ·rw [List.append_nil] at he ⊢; exact ⟨(look_cons_ne (by omega)).trans (w3 he).1,zj2 he⟩
    ·rw [List.append_nil]; exact w4
    ·exact (look_cons_ne (by omega)).trans w5
    ·exact (look_cons_ne (by omega)).trans w6
    ·exact (look_cons_ne (by omega)).trans w7
    ·exact cons_lt w8 (by omega) (by omega)
   case step2 =>
   have hsd := prvs_deep (D := D) O hcut hf
   rw [z5] at hsd
   have hpow:8 ^ (D+1) = 8 ^ D * 8 := Nat.pow_succ 8 D
   clear zk2 zb2 zj2 fin inZ
   rintro m vs2 st ⟨e,kk,new,jp2,H2,Z2',rfl,hem,⟨q1,q2,⟨g1,g2,g3,g4,g5⟩,q4,q5,q6,q7,q8,q9,q10,q11⟩,hkk,hfr,hjj,hnew,hmap,hnl,hkp,rfl⟩
   have hk1 := look_lt q9 q2
   have hk2 := look_lt q9 q6
   have hk3 := look_lt q9 q7
   have hk4 := look_lt q9 q8
   have hmul:e * 8 ^ D ≤ 8 * 8 ^ D := Nat.mul_le_mul_right _ (by omega)
   rcases Nat.eq_zero_or_pos m with hm | hm
   ·subst hm
    have he:e = row.length := by omega
    subst he
    simp [tb]
    exact ⟨_,_,_,new,jp2,rfl,by omega,lt_mono q9 (by omega),fun q hq => by have := q10 q hq; omega,q11,q2,⟨by omega,g2,g3,g4,g5,hjj⟩,q4,hnew,by rw [hsd,hmap],by rw [hpow]; omega,hfr,hkp⟩
   ·obtain ⟨m,rfl⟩:∃ m',m = m'+1 := ⟨m - 1,by omega⟩
    have he:e < row.length := by omega
    have hee:(e:Int) < row.length := by omega
    have we:IntKind.i64.wrap ((e:Int)+1) = ((e+1:Nat):Int) := w_i64 (by omega)
    have hsn:InR O (l ++ [e]) := InR.snoc O hi (by rw [z5]; exact he)
    have hmul2:(e+1) * 8 ^ D ≤ 8 * 8 ^ D := Nat.mul_le_mul_right _ (by omega)
    rw [Nat.succ_mul] at hmul2
    have key:∀ (k3 b3:Nat),kk ≤ b3 → b3 < k3 → CallW prog (specEnv prog G AS) G A1 33 [.own b3 0 (l.length+1),.ptr bd 0 0,.ptr bf 0 0,.ptr bo 0 0,.ptr bp 0 0] ⟨k3,(b3,⟨1,NL (l ++ [e])⟩) :: H2,Z2'⟩ (PPost O D (l ++ [e]) (some (c,xx)) bf bd bo bp _ _ _ (es ++ new) jp2 k3 ((b3,⟨1,NL (l ++ [e])⟩) :: H2) Z2' b3) := fun k3 b3 h1 h2 => by
     rw [← slv_app]
     refine ih D (by omega) (l ++ [e]) (es ++ new) jp2 b3 k3 _ Z2' (by simp; omega) (by rw [List.length_append]; omega) hsn ⟨fun _ => ⟨look_one_cons _ _ _,h2,by omega,by omega⟩,?_,⟨by omega,g2,g3,g4,g5⟩,fun he => ⟨(look_cons_ne (by omega)).trans (q4 he).1,(q4 he).2⟩,q5,?_,?_,?_,?_,?_,q11⟩
     ·exact (look_cons_ne (by omega)).trans q2
     ·exact (look_cons_ne (by omega)).trans q6
     ·exact (look_cons_ne (by omega)).trans q7
     ·exact (look_cons_ne (by omega)).trans q8
     ·exact cons_lt q9 (by omega) (by omega)
     ·exact fun q hq => by have := q10 q hq; omega
    by_cases hl0:l = []
    ·subst hl0
     have sl0:slv j ([]:List Nat).length = .nil := rfl
     rw [sl0]
     have s3 := fun hp => s3_nil (hp := hp)
     have ap := fun hp fz fr => app_nil (hp := hp) (fz := fz) (fr := fr) (e := (e:Int))
     have e1:NL ([] ++ [e]) = [.int .i64 (e:Int)] := rfl
     rw [e1] at key
     simp only [List.length_nil,Nat.zero_add] at key
     simp [tb,hee]
     refine run_last rfl rfl (by simp only [List.length_cons,List.length_nil,Nat.reduceAdd,Nat.reduceSub,List.take_succ_cons,List.take_zero]; rfl) (by simp only [List.length_cons,List.length_nil,Nat.reduceAdd,Nat.reduceSub,List.drop_succ_cons,List.drop_zero]; rfl) ?_
     simp [tb,hee,q8,s3,ap,ne12 (show bp < kk by omega),buildSliceOp,putParts,repeatP,uniform,PV.pureL,PV.pureB]
     refine ⟨logOk_code (fun x => if x = kk+1+1+1+1+1+1+1+1+1+1+1+1 then 1 else 0) (by simp [code,show ¬ bp = kk+1+1+1+1+1+1+1+1+1+1+1+1 by omega] <;> decide +kernel),?_⟩
     refine callK_run rfl (callW_to (key _ _ (by omega) (by omega)) fun v s' hp => ?_)
     obtain ⟨k5,H5,Z5,new5,jp5,rfl,hk5,hlt5,hZ5,hf5,hl5,⟨a1,a2,a3,a4,a5,a6⟩,hpr5,hall5,hmap5,hlen5,hfr5,hkp5⟩ := hp
     have fr5:∀ q,q < kk → q ≠ bf → q ≠ jp2 → Go.Pi.look H5 q = Go.Pi.look H2 q := fun q h1 h2 h3 => (hfr5 q (by omega) h2 h3).trans (look_cons_ne (by omega))
     simp [run_draw,tb]
     refine ⟨m,by omega,e+1,_,new ++ new5,jp5,H5,Z5,by rw [we]; rfl,by omega,⟨fun hl => ?_,by rw [← List.append_assoc]; exact hl5,⟨by omega,a2,a3,a4,a5⟩,by rw [← List.append_assoc]; exact hpr5,fun v hv => ?_,?_,?_,?_,lt_mono hlt5 (by omega),fun q hq => by have := hZ5 q hq; omega,hf5⟩,by omega,fun q h1 h2 h3 => (fr5 q (by omega) h2 (by omega)).trans (hfr q h1 h2 h3),by omega,fun v hv => ?_,?_,?_,hkp.step hkp5 (by omega) (by omega),rfl⟩
     ·have := q1 hl
      exact ⟨(fr5 j this.2.1 this.2.2.1 this.2.2.2).trans this.1,by omega,this.2.2.1,by omega⟩
     ·rw [← List.append_assoc] at hv
      rcases List.mem_append.1 hv with h | h
      ·exact q5 v h
      ·exact hall5 v h
     ·exact (fr5 bd hk2 (Ne.symm n1) (Ne.symm g3)).trans q6
     ·exact (fr5 bo hk3 (Ne.symm n2) (Ne.symm g4)).trans q7
     ·exact (fr5 bp hk4 (Ne.symm n3) (Ne.symm g5)).trans q8
     ·rcases List.mem_append.1 hv with h | h
      ·exact hnew v h
      ·exact hall5 v h
     ·rw [List.map_append,hmap,hmap5,catK_snoc,Nat.zero_add]
     ·rw [List.length_append,Nat.succ_mul]; omega
    ·have hlp:0 < l.length := by cases l with | nil => exact absurd rfl hl0 | cons _ _ => simp
     obtain ⟨qj,qk,qb,qp⟩ := q1 hlp
     have esl:slv j l.length = .own j 0 l.length := slv_pos hlp
     have nll := NL_len l
     have s3 := s3_own qj nll
     have ap := fun fz fr => app_ownF (fz := fz) (fr := fr) (e := (e:Int)) qj nll (by omega)
     rw [NL_app] at key
     rw [esl]
     simp [tb,hee]
     refine run_last rfl rfl (by simp only [List.length_cons,List.length_nil,Nat.reduceAdd,Nat.reduceSub,List.take_succ_cons,List.take_zero]; rfl) (by simp only [List.length_cons,List.length_nil,Nat.reduceAdd,Nat.reduceSub,List.drop_succ_cons,List.drop_zero]; rfl) ?_
     simp [tb,hee,qj,q8,s3,ap,ne12 (show bp < kk by omega),buildSliceOp,putParts,repeatP,uniform,PV.pureL,PV.pureB]
     refine ⟨logOk_code (fun x => if x = kk+1+1+1+1+1+1+1+1+1+1+1+1 then 1 else 0) (by simp [code,show ¬ j = kk+1+1+1+1+1+1+1+1+1+1+1+1 by omega,show ¬ bp = kk+1+1+1+1+1+1+1+1+1+1+1+1 by omega] <;> decide +kernel),?_⟩
     refine callK_run rfl (callW_to (key _ _ (by omega) (by omega)) fun v s' hp => ?_)
     obtain ⟨k5,H5,Z5,new5,jp5,rfl,hk5,hlt5,hZ5,hf5,hl5,⟨a1,a2,a3,a4,a5,a6⟩,hpr5,hall5,hmap5,hlen5,hfr5,hkp5⟩ := hp
     have fr5:∀ q,q < kk → q ≠ bf → q ≠ jp2 → Go.Pi.look H5 q = Go.Pi.look H2 q := fun q h1 h2 h3 => (hfr5 q (by omega) h2 h3).trans (look_cons_ne (by omega))
     simp [run_draw,tb]
     refine ⟨m,by omega,e+1,_,new ++ new5,jp5,H5,Z5,by rw [we,esl],by omega,⟨fun hl => ?_,by rw [← List.append_assoc]; exact hl5,⟨by omega,a2,a3,a4,a5⟩,by rw [← List.append_assoc]; exact hpr5,fun v hv => ?_,?_,?_,?_,lt_mono hlt5 (by omega),fun q hq => by have := hZ5 q hq; omega,hf5⟩,by omega,fun q h1 h2 h3 => (fr5 q (by omega) h2 (by omega)).trans (hfr q h1 h2 h3),by omega,fun v hv => ?_,?_,?_,hkp.step hkp5 (by omega) (by omega),rfl⟩
     ·have := q1 hl
      exact ⟨(fr5 j this.2.1 this.2.2.1 this.2.2.2).trans this.1,by omega,this.2.2.1,by omega⟩
     ·rw [← List.append_assoc] at hv
      rcases List.mem_append.1 hv with h | h
      ·exact q5 v h
      ·exact hall5 v h
     ·exact (fr5 bd hk2 (Ne.symm n1) (Ne.symm g3)).trans q6
     ·exact (fr5 bo hk3 (Ne.symm n2) (Ne.symm g4)).trans q7
     ·exact (fr5 bp hk4 (Ne.symm n3) (Ne.symm g5)).trans q8
     ·rcases List.mem_append.1 hv with h | h
      ·exact hnew v h
      ·exact hall5 v h
     ·rw [List.map_append,hmap,hmap5,catK_snoc,Nat.zero_add]
     ·rw [List.length_append,Nat.succ_mul]; omega
  ·have hf1:((fl O l).2 != 0) = true := by simpa using hf
   simp [run_draw,tb,w2,ne12 (show bf < k by omega),hf1,hc1]
   refine ⟨logOk_free (by simp [okTri,tri,tb]),?_⟩
   have hsd := fl_side O hf
   refine callK_pure (S := AS) rfl rfl (rfrom_ok _ (by omega)) fun y hy => ?_
   simp only [rfromR] at hy
   simp [run_draw,tb]
   refine callK_pure (S := AS) rfl (by simp only [PV.pureL,hy.pure]; rfl) (number_ok tlib y _ hy ((rfits_int (by omega)).mono (by omega))) fun z hz => ?_
   simp only [numberR,ratv_eq hy] at hz
   obtain ⟨tx,rfl,htx⟩ := hz
   have htx' := text_side O hf htx
   subst htx'
   obtain ⟨zk2,zb2,zj2⟩ := inZ Z3 hzz3
   have mz2:∀ q,k ≤ q → memB Z3 q = false := fun q hq => memB_none zk2 hq
   have mzb2 := memB_no zb2
   have lus:∀ E,Go.Pi.look (Go.Pi.upd H bf E) bf = some E := fun E => look_upd_same w2
   have ap := fun hp fz fr a q l => app_bd_nil (hp := hp) (fz := fz) (fr := fr) (a := a) (q := q) (pv := pv) (du := .slice l) p1 rfl
   rcases Nat.eq_zero_or_pos es.length with e0 | e0
   ·have es0:es = [] := List.eq_nil_of_length_eq_zero e0
    subst es0
    have sl0:slv jp ([]:List PV).length = .nil := rfl
    rw [sl0] at w2
    simp [run_draw,tb,w2,ne60 (show bf < k by omega),le5 mz2 k (by omega),mzb2,lus,p1,p2,p3,ap,buildSliceOp,putParts,repeatP,uniform,PV.pureL,PV.pureB,p5]
    refine fin _ _ _ _ _ _ hzz3 ⟨pv,0,(fl O l).1,_,rfl,hpl,.inr ⟨_,rfl⟩,by rw [hplen]; unfold maxLen; omega⟩ ?_ (by rw [look_cons_ne (by omega),look_cons_ne (by omega)]; exact lus _) (look_one_cons _ _ _) (by omega) (by omega) (cons_lt (cons_lt (upd_lt w8) (by omega) (by omega):∀ p ∈ (_:List (Nat × Ent)),p.1 < k+1+1+1+1) (by omega) (by omega)) (fun q h1 h2 h3 => by rw [look_cons_ne (by omega),look_cons_ne (by omega),look_upd_ne (Ne.symm h2)])
    rw [prvs_fail O hcut hf]
    simp [bdV,hpp,els,strV,ba_list]
   ·have sl0:slv jp es.length = .own jp 0 es.length := slv_pos e0
    rw [sl0] at w2
    obtain ⟨u1,u2⟩ := w3 e0
    have mzj := memB_no (zj2 e0)
    have ld:∀ e,Go.Pi.look (del ((k+1+1+1,e) :: H) jp) bf = some ⟨4,[.agg [.bool true,.slice (NL c),.int .i64 xx,.own jp 0 es.length]]⟩ := fun e => by rw [look_del_ne (Ne.symm j2),look_cons_ne (by omega)]; exact w2
    have ap2 := fun hp fz fr a q l (h:hp jp = some ⟨4,es⟩) (hf:fz jp = false) => app_bd_own (hp := hp) (fz := fz) (fr := fr) (a := a) (q := q) (pv := pv) (du := .slice l) p1 rfl h hf rfl (by omega)
    simp [run_draw,tb,w2,ne60 (show bf < k by omega),ne60 (show jp < k by omega),le5 mz2 k (by omega),mzb2,mzj,lus,p1,p2,p3,ap2,buildSliceOp,putParts,repeatP,uniform,PV.pureL,PV.pureB,p5,u1,ld]
    refine fin _ _ _ _ _ _ hzz3 ⟨pv,0,(fl O l).1,_,rfl,hpl,.inr ⟨_,rfl⟩,by rw [hplen]; unfold maxLen; omega⟩ ?_ (by rw [look_cons_ne (by omega)]; exact look_upd_same (ld _)) (look_one_cons _ _ _) (by omega) (by omega) (cons_lt (upd_lt (del_lt (cons_lt w8 (by omega) (by omega):∀ p ∈ (_:List (Nat × Ent)),p.1 < k+1+1+1+1))) (by omega) (by omega)) (fun q h1 h2 h3 => by rw [look_cons_ne (by omega),look_upd_ne (Ne.symm h2),look_del_ne h3,look_cons_ne (by omega)])
    rw [prvs_fail O hcut hf]
    simp [bdV,hpp,els,strV,ba_list]
end Go.Proofs.Tryz
