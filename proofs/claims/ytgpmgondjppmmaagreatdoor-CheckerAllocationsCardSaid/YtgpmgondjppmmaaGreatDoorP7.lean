/- The machine on symbols: the search of an allocation, its leaf. No condition. -/
import Derived.Test.YtgpmgondjppmmaaGreatDoorP6
set_option linter.unnecessarySimpa false
set_option linter.unusedSectionVars false
set_option linter.unusedSimpArgs false
set_option linter.unusedVariables false
set_option maxHeartbeats 8000000
set_option maxRecDepth 100000
namespace Go.Proofs.Tryz
open Go Go.Pi Go.Num Go.Lin Go.Alc
variable [Hole] {G:Nat → Option PV}
theorem reifyL_app {hp:Nat → Option Ent} {l:List Nat} {j:Nat} (h:0 < l.length → hp j = some ⟨1,NL l⟩):∀ {xs:List PV},PV.pureL xs = true → reifyL hp (xs ++ [slv j l.length]) = some (xs ++ [preV l],if l.length = 0 then [] else [j])
 | [],_ => by
  rw [List.nil_append,List.nil_append,← sv_pre]
  exact reifyL_own1 h (NL_len l) ((pureL_iff _).1 (pure_NL l))
 | x :: xs,hx => by
  simp only [PV.pureL,Bool.and_eq_true] at hx
  have ih := reifyL_app h hx.2
  unfold reifyL at ih ⊢
  rw [List.cons_append,mapR,reify_pure hx.1,ih]
  rfl
theorem dcallK_slv {S:Specs} {cx:Cx} {f:FuncId} {R:CRel} {l:List Nat} {j:Nat} {ops rest:List Oper} {i:Nat} {T:Tm} {dst:Option Tmp} {n:Nat} {H:List (Nat × Ent)} {Z:List Nat} {rd:List Nat} {lg:List Lg} {m:List Nat} {k:Kont} (xs:List PV) (hS:Go.Pi.look S f = some R) (hx:PV.pureL xs = true) (hj:0 < l.length → Go.Pi.look H j = some ⟨1,NL l⟩ ∧ j < n) (hg:Gives prog G f (xs ++ [preV l]) (R (xs ++ [preV l])))
  (h:∀ r Z1,R (xs ++ [preV l]) r → (∀ q ∈ Z1,q ∈ Z ∨ (q = j ∧ 0 < l.length)) → drawK prog (specEnv prog G S) G A1 cx (i+1) (putT T dst r) ⟨n+1,H,Z1⟩ ({ ix := i,rd := rd ++ if l.length = 0 then [] else [j],wr := [] } :: lg) m ops rest k) :
  dcallK prog (specEnv prog G S) G A1 cx f (xs ++ [slv j l.length]) i T ⟨n,H,Z⟩ dst rd lg m ops rest k := by
 refine dcallK_spec hS (reifyL_app (fun hl => (hj hl).1) hx) hg ?_ fun r hr => ?_
 ·split
  ·rfl
  ·have := hj (by omega); simp [blt_lit]; omega
 ·obtain ⟨Z1,e,h1⟩ := apply_own (n := n) (j := j) (m := l.length) (H := H) (Z := Z) (v := r)
  rw [e]
  exact h r Z1 hr h1
theorem callK_slv {S:Specs} {cx:Cx} {f:FuncId} {R:CRel} {l:List Nat} {j:Nat} {ops rest:List Oper} {T:Tm} {dst:Option Tmp} {n:Nat} {H:List (Nat × Ent)} {Z:List Nat} {k:Kont} (xs:List PV) (hS:Go.Pi.look S f = some R) (hx:PV.pureL xs = true) (hj:0 < l.length → Go.Pi.look H j = some ⟨1,NL l⟩ ∧ j < n) (hg:Gives prog G f (xs ++ [preV l]) (R (xs ++ [preV l])))
  (h:∀ r Z1,R (xs ++ [preV l]) r → (∀ q ∈ Z1,q ∈ Z ∨ (q = j ∧ 0 < l.length)) → opsK prog (specEnv prog G S) G A1 cx (putT T dst r) ⟨n+1,H,Z1⟩ ops rest k) :
  callK prog (specEnv prog G S) G A1 cx f (xs ++ [slv j l.length]) T ⟨n,H,Z⟩ dst ops rest k := by
 refine callK_spec hS (reifyL_app (fun hl => (hj hl).1) hx) hg fun r hr => ?_
 unfold thaw
 cases hb:PV.bareB r with
 | true =>
  simp only [hb,cond_true]
  exact h r Z hr fun q hq => .inl hq
 | false =>
  simp only [hb,cond_false]
  obtain ⟨Z1,e,h1⟩ := apply_own (n := n) (j := j) (m := l.length) (H := H) (Z := Z) (v := r)
  rw [e]
  exact h r Z1 hr h1
def FdV (s:Sr) (fv:PV):Prop := match s with
 | none => fv = .agg [.bool false,.nil,.int .i64 0,.nil]
 | some (c,x) => fv = .agg [.bool true,.slice (NL c),.int .i64 x,.nil]
structure SSt (bf bd bo bs:Nat) (d o r vs vc vh:PV) (s:Sr) (fv:PV) (l:List Nat) (j k:Nat) (H:List (Nat × Ent)) (Z:List Nat):Prop where
 own:0 < l.length → Go.Pi.look H j = some ⟨1,NL l⟩ ∧ j < k ∧ j ≠ bf
 found:Go.Pi.look H bf = some ⟨4,[fv]⟩
 fd:FdV s fv
 desk:Go.Pi.look H bd = some ⟨1,[.eptr (.agg [d,o,r,vs,vc,vh]) 0]⟩
 off:Go.Pi.look H bo = some ⟨3,[.agg [d,o,r]]⟩
 srch:Go.Pi.look H bs = some ⟨1,[.func 30 [.ptr bf 0 0,.ptr bd 0 0,.ptr bo 0 0,.ptr bs 0 0]]⟩
 lt:∀ p ∈ H,p.1 < k
 ltZ:∀ q ∈ Z,q < k
 free:bf ∉ Z
def Keeps (Z Z':List Nat) (k j:Nat) (l:List Nat):Prop := ∀ b,b < k → b ∉ Z → (0 < l.length → b ≠ j) → b ∉ Z'
theorem Keeps.of {Z Z':List Nat} {k j:Nat} {l:List Nat} (h:∀ q ∈ Z',q ∈ Z ∨ (q = j ∧ 0 < l.length)):Keeps Z Z' k j l := fun b _ hz hj hb => by
 rcases h b hb with h' | ⟨e,h'⟩
 ·exact hz h'
 ·exact hj h' e
theorem Keeps.step {Z Z' Z2:List Nat} {k j k3 b3:Nat} {l l2:List Nat} (h:Keeps Z Z' k j l) (h2:Keeps Z' Z2 k3 b3 l2) (hk:k ≤ b3) (hk3:b3 < k3):Keeps Z Z2 k j l := fun b hb hz hj => h2 b (by omega) (h b hb hz hj) (fun _ => by omega)
def SPost (O:Off) (D:Nat) (l:List Nat) (s:Sr) (bf k:Nat) (H:List (Nat × Ent)) (Z:List Nat) (j:Nat) (_:PV) (s':St):Prop := ∃ (k':Nat) (H':List (Nat × Ent)) (Z':List Nat) (fv':PV),s' = ⟨k',H',Z'⟩ ∧ k ≤ k' ∧ (∀ p ∈ H',p.1 < k') ∧ (∀ q ∈ Z',q < k') ∧ bf ∉ Z' ∧ Go.Pi.look H' bf = some ⟨4,[fv']⟩ ∧ FdV (srch O D l s) fv' ∧ (∀ q,q < k → q ≠ bf → Go.Pi.look H' q = Go.Pi.look H q) ∧ Keeps Z Z' k j l
theorem own_reify {s:St} {v:PV} {e:Ent} (h:ownRes s v = some e):∃ fl,reify s.hp v = some (.slice e.es,fl) := by
 cases v with
 | own r lo n =>
  cases lo with
  | succ lo => cases h
  | zero =>
   simp only [ownRes] at h
   cases hr:s.hp r with
   | none => rw [hr] at h; cases h
   | some e' =>
    rw [hr] at h
    simp only [Bool.cond_eq_ite] at h
    split at h
    ·rename_i hc
     cases h
     simp only [Bool.and_eq_true] at hc
     obtain ⟨⟨⟨h1,h2⟩,h3⟩,_⟩ := hc
     refine ⟨[r],?_⟩
     unfold reify
     rw [show (PV.own r 0 n).pureB = false from rfl]
     have e2 := reifyW_own (hp := s.hp) (r := r) (n := n) (sz := e.sz) (es := e.es) (d := 4) hr (Nat.eq_of_beq_eq_true h2).symm (blt_iff.1 h1) ((pureL_iff _).1 h3)
     exact e2
    ·cases h
 | _ => cases h
theorem cloneI_pv {S:Specs} {l:List Nat} (hl:l ≠ []) (hn:l.length ≤ 100):CallW prog (specEnv prog G S) G A1 11 [.slice (NL l)] ⟨0,[],[]⟩ fun v s2 => ∃ r fl,reify s2.hp v = some (r,fl) ∧ r = .slice (NL l) :=
 callW_to (cloneI_own hl hn) fun v s2 ⟨e,h1,h2⟩ => by
  obtain ⟨fl,h3⟩ := own_reify h1
  exact ⟨_,fl,h3,by rw [h2]⟩
theorem dcallK_clone {S:Specs} {cx:Cx} {l:List Nat} {j:Nat} {ops rest:List Oper} {i:Nat} {T:Tm} {dst:Option Tmp} {n:Nat} {H:List (Nat × Ent)} {Z:List Nat} {rd:List Nat} {lg:List Lg} {m:List Nat} {k:Kont} (he:specEnv prog G S 11 = none) (hl:0 < l.length) (hn:l.length ≤ 100) (hj:Go.Pi.look H j = some ⟨1,NL l⟩ ∧ j < n)
  (h:∀ Z1,(∀ q ∈ Z1,q ∈ Z ∨ (q = j ∧ 0 < l.length)) → drawK prog (specEnv prog G S) G A1 cx (i+1) (putT T dst (.slice (NL l))) ⟨n+1,H,Z1⟩ ({ ix := i,rd := rd ++ [j],wr := [] } :: lg) m ops rest k) :
  dcallK prog (specEnv prog G S) G A1 cx 11 [slv j l.length] i T ⟨n,H,Z⟩ dst rd lg m ops rest k := by
 have hne:l ≠ [] := by intro e; rw [e] at hl; exact absurd hl (Nat.lt_irrefl 0)
 have hr := reifyL_app (hp := Go.Pi.look H) (l := l) (j := j) (fun _ => hj.1) (xs := []) rfl
 rw [if_neg (by omega),preV_ne hne] at hr
 refine dcallK_run (Q := fun r => r = .slice (NL l)) he hr (by simp [blt_lit]; exact hj.2) (callW_to (cloneI_pv hne hn) fun v s2 h => ⟨rfl,h⟩) fun r hr => ?_
 subst hr
 obtain ⟨Z1,e,h1⟩ := apply_own (n := n) (j := j) (m := l.length) (H := H) (Z := Z) (v := .slice (NL l))
 rw [if_neg (by omega)] at e
 rw [e]
 exact h Z1 h1
theorem srch_stop (O:Off) {D:Nat} {l:List Nat} {s:Sr} (h:cut O s l ∨ (fl O l).2 ≠ 0):srch O D l s = s := by
 cases D with
 | zero =>
  unfold srch
  split
  ·rfl
  ·rename_i hc
   rw [if_pos (h.resolve_left hc)]
 | succ D =>
  unfold srch
  split
  ·rfl
  ·rename_i hc
   rw [if_pos (h.resolve_left hc)]
theorem srch_leaf (O:Off) {l:List Nat} {s:Sr} (h1:¬ cut O s l) (h2:(fl O l).2 = 0):srch O 0 l s = some (l,bound O l) := by
 unfold srch
 rw [if_neg h1,if_neg (by simp [h2])]
theorem srch_deep (O:Off) {D:Nat} {l:List Nat} {s:Sr} (h1:¬ cut O s l) (h2:(fl O l).2 = 0):srch O (D+1) l s = foldK (fun k s => srch O D (l ++ [k]) s) (O.cnt l.length) 0 s := by
 rw [srch,if_neg h1,if_neg (by simp [h2])]
theorem memB_no {Z:List Nat} {b:Nat} (h:b ∉ Z):memB Z b = false := by
 cases hm:memB Z b with
 | false => rfl
 | true => exact absurd ((memB_iff Z b).1 hm) h
def skI (O:Off) (bf bd bo bs:Nat) (d o r vs vc vh:PV) (l:List Nat) (D C j k:Nat) (H:List (Nat × Ent)) (Z:List Nat) (s0:Sr):Nat → List PV → St → Prop := fun n vs' st => ∃ (e k2:Nat) (s:Sr) (fv:PV) (H2:List (Nat × Ent)) (Z2:List Nat),vs' = [.int .i64 (e:Int),slv j l.length,.int .i64 (C:Int),.ptr bs 0 0] ∧ e + n = C ∧
 SSt bf bd bo bs d o r vs vc vh s fv l j k2 H2 Z2 ∧ k ≤ k2 ∧ (∀ q,q < k → q ≠ bf → Go.Pi.look H2 q = Go.Pi.look H q) ∧ foldK (fun k s => srch O D (l ++ [k]) s) n e s = foldK (fun k s => srch O D (l ++ [k]) s) C 0 s0 ∧ Keeps Z Z2 k j l ∧ st = ⟨k2,H2,Z2⟩
abbrev AS:Specs := [(29,openR),(31,boundR),(32,failsR),(34,picksR),(35,rfromR),(36,numberR)]
theorem search_ok (lib:ReadLib G) {d o r vs vc vh:PV} (h:DeskOk d o r vs vc vh) {bf bd bo bs:Nat} (n1:bf ≠ bd) (n2:bf ≠ bo) (n3:bf ≠ bs):∀ (D:Nat) (l:List Nat) (s:Sr) (fv:PV) (j k:Nat) (H:List (Nat × Ent)) (Z:List Nat),l.length + D = (els d).length → InR (offV (.agg [d,o,r])) l →
  SSt bf bd bo bs d o r vs vc vh s fv l j k H Z → CallW prog (specEnv prog G AS) G A1 30 [slv j l.length,.ptr bf 0 0,.ptr bd 0 0,.ptr bo 0 0,.ptr bs 0 0] ⟨k,H,Z⟩ (SPost (offV (.agg [d,o,r])) D l s bf k H Z j) := by
 obtain ⟨O,hO⟩:∃ O,O = offV (.agg [d,o,r]) := ⟨_,rfl⟩
 have hON:O.n = (els d).length := by rw [hO]; exact h.n
 have hN := h.n1
 obtain ⟨d1,d2,d3,d4,d5⟩ := h.dim.cell
 obtain ⟨o1,o2,o3,o4,o5⟩ := h.opt.cell
 obtain ⟨r1,r2,r3,r4,r5⟩ := h.req.cell
 have ld := h.dim.len
 rw [← hO]
 intro D
 induction D using Nat.strongRecOn with
 | ind D ih =>
 intro l s fv j k H Z hlD hi ⟨w1,w2,w3,w4,w5,w6,w7,w8,w9⟩
 have k1 := look_lt w7 w2
 have k2 := look_lt w7 w4
 have k3 := look_lt w7 w5
 have k4 := look_lt w7 w6
 have hbd := bound_ok (G := G) h (preV_is l) (by rw [← hO]; exact hi) (by omega)
 have hfl := fails_ok lib h (preV_is l) (by rw [← hO]; exact hi) (by omega)
 have pD:PV.pureL [.eptr (.agg [d,o,r,vs,vc,vh]) 0] = true := rfl
 obtain ⟨x1,x2,x3,x4⟩ := slv_ids j l.length
 refine callW_of ann30 func30 rfl (by kernel_rfl) ?_
 cases s with
 | none =>
  have w3':fv = .agg [.bool false,.nil,.int .i64 0,.nil] := w3
  subst w3'
  have hcut:¬ cut O none l := id
  simp [run_draw,tb,w2,w4]
  refine ⟨logOk_free (by simp [okTri,tri,tb]),?_⟩
  refine callK_slv [.eptr (.agg [d,o,r,vs,vc,vh]) 0] rfl pD (fun hl => by have := w1 hl; exact ⟨this.1,by omega⟩) hfl fun y Z1 hy hz => ?_
  simp only [List.cons_append,List.nil_append,failsR,offV_app,(preV_is l).nats,← hO] at hy
  subst hy
  have hzz:∀ q ∈ Z1,q ∈ Z ∨ (q = j ∧ 0 < l.length) := hz
  have hZk:∀ q ∈ Z1,q < k := fun q hq => by
   rcases hz q hq with h | ⟨rfl,h⟩
   ·exact w8 q h
   ·exact (w1 h).2.1
  have hZb:bf ∉ Z1 := fun hq => by
   rcases hz bf hq with h | ⟨e,h⟩
   ·exact w9 h
   ·exact (w1 h).2.2 e.symm
  clear hz
  by_cases hf:(fl O l).2 = 0
  rotate_left
  ·have hf1:((fl O l).2 != 0) = true := by simpa using hf
   simp [tb,hf1]
   exact ⟨_,_,_,_,rfl,by omega,lt_mono w7 (by omega),fun q hq => by have := hZk q hq; omega,hZb,w2,by rw [srch_stop O (.inr hf)]; exact w3,fun q _ _ => rfl,Keeps.of hzz⟩
  have hf1:((fl O l).2 != 0) = false := by simpa using hf
  have mzb := memB_no hZb
  rcases Nat.eq_zero_or_pos D with hD | hD
  ·subst hD
   have hln:((l.length:Int) == (els d).length) = true := by simp only [beq_iff_eq]; omega
   have hl0:l ≠ [] := by intro e; rw [e] at hlD; have := h.n0; simp at hlD; omega
   have hlp:0 < l.length := by have := h.n0; omega
   simp [tb,hf1,w2,w5,d1,o1,r1,x4,ld,hln]
   rw [run_draw]
   simp [tb]
   have hj2:Go.Pi.look H j = some ⟨1,NL l⟩ ∧ j < k ∧ j ≠ bf := w1 hlp
   refine dcallK_clone rfl hlp (by omega) ⟨hj2.1,by omega⟩ fun Z2 hz2 => ?_
   simp [tb,w4]
   refine dcallK_slv [.eptr (.agg [d,o,r,vs,vc,vh]) 0] rfl pD (fun hl => ⟨hj2.1,by omega⟩) hbd fun y Z3 hy hz3 => ?_
   simp only [List.cons_append,List.nil_append,boundR,offV_app,(preV_is l).nats,← hO] at hy
   subst hy
   have hin3:∀ q ∈ Z3,q ∈ Z1 ∨ q = j := fun q hq => by
    rcases hz3 q hq with h | ⟨h,_⟩
    ·exact (hz2 q h).imp id fun h => h.1
    ·exact .inr h
   have hZk3:∀ q ∈ Z3,q < k := fun q hq => by
    rcases hin3 q hq with h | rfl
    ·exact hZk q h
    ·exact hj2.2.1
   have hZb3:bf ∉ Z3 := fun hq => by
    rcases hin3 bf hq with h | e
    ·exact hZb h
    ·exact hj2.2.2 e.symm
   have mzb3 := memB_no hZb3
   have lus:∀ E,Go.Pi.look (Go.Pi.upd H bf E) bf = some E := fun E => look_upd_same w2
   have lus2:∀ E E',Go.Pi.look (Go.Pi.upd (Go.Pi.upd H bf E) bf E') bf = some E' := fun E E' => look_upd_same (lus E)
   have lus3:∀ E E' E'',Go.Pi.look (Go.Pi.upd (Go.Pi.upd (Go.Pi.upd H bf E) bf E') bf E'') bf = some E'' := fun E E' E'' => look_upd_same (lus2 E E')
   simp [tb,w2,mzb3,lus,lus2,lus3]
   refine ⟨logOk_free (by simp [okTri,tri,tb]),?_⟩
   exact ⟨_,_,_,_,rfl,by omega,lt_mono (upd_lt (upd_lt (upd_lt w7))) (by omega),fun q hq => by have := hZk3 q hq; omega,hZb3,lus3 _ _ _,by rw [srch_leaf O hcut hf]; rfl,fun q _ hne => by rw [look_upd_ne (Ne.symm hne),look_upd_ne (Ne.symm hne),look_upd_ne (Ne.symm hne)],Keeps.of fun q hq => (hin3 q hq).elim (hzz q) fun h => .inr ⟨h,hlp⟩⟩
  ·obtain ⟨D,rfl⟩:∃ D',D = D'+1 := ⟨D - 1,by omega⟩
   have hln:((l.length:Int) == (els d).length) = false := by simp only [beq_eq_false_iff_ne,ne_eq]; omega
   obtain ⟨os,row,rfl,z1,z2,z3,z4,z5,z6⟩ := h.row (i := l.length) (by omega)
   have z1' := getE z1
   have hol := h.on
   simp only [els_slice] at hol
   have hlo:l.length < os.length := by omega
   rw [← hO] at z5
   simp [tb,hf1,w2,w5,d1,o1,r1,x4,ld,hln,z1,z1',hlo]
   refine loopK_of (skI O bf bd bo bs d (.slice os) r vs vc vh l D row.length j k H Z none) rfl rfl ?step row.length _ _ ?init
   case init =>
    refine ⟨0,_,none,_,_,_,rfl,by omega,⟨fun hl => ?_,w2,w3,w4,w5,w6,lt_mono w7 (by omega),fun q hq => by have := hZk q hq; omega,hZb⟩,by omega,fun q _ _ => rfl,rfl,Keeps.of hzz,rfl⟩
    have := w1 hl
    exact ⟨this.1,by omega,this.2.2⟩
   case step =>
   have hsd := srch_deep (D := D) O hcut hf
   rw [z5] at hsd
   clear hZb hZk mzb
   rintro m vs2 st ⟨e,kk,s2,fv2,H2,Z2,rfl,hem,⟨q1,q2,q3,q4,q5,q6,q7,q8,q9⟩,hkk,hfr,hwk,hkp,rfl⟩
   have hk1 := look_lt q7 q2
   have hk2 := look_lt q7 q4
   have hk3 := look_lt q7 q5
   have hk4 := look_lt q7 q6
   rcases Nat.eq_zero_or_pos m with hm | hm
   ·subst hm
    have he:e = row.length := by omega
    subst he
    simp [tb]
    exact ⟨_,_,_,fv2,rfl,by omega,lt_mono q7 (by omega),fun q hq => by have := q8 q hq; omega,q9,q2,by rw [hsd,← hwk]; exact q3,hfr,hkp⟩
   ·obtain ⟨m,rfl⟩:∃ m',m = m'+1 := ⟨m - 1,by omega⟩
    have he:e < row.length := by omega
    have hee:(e:Int) < row.length := by omega
    have we:IntKind.i64.wrap ((e:Int)+1) = ((e+1:Nat):Int) := w_i64 (by omega)
    have hsn:InR O (l ++ [e]) := InR.snoc O hi (by rw [z5]; exact he)
    have key:∀ (k3 b3:Nat),kk ≤ b3 → b3 < k3 → CallW prog (specEnv prog G AS) G A1 30 [.own b3 0 (l.length+1),.ptr bf 0 0,.ptr bd 0 0,.ptr bo 0 0,.ptr bs 0 0] ⟨k3,(b3,⟨1,NL (l ++ [e])⟩) :: H2,Z2⟩ (SPost O D (l ++ [e]) s2 bf k3 ((b3,⟨1,NL (l ++ [e])⟩) :: H2) Z2 b3) := fun k3 b3 h1 h2 => by
     rw [← slv_app]
     refine ih D (by omega) (l ++ [e]) s2 fv2 b3 k3 _ Z2 (by simp; omega) hsn ⟨fun _ => ⟨look_one_cons _ _ _,h2,by omega⟩,?_,q3,?_,?_,?_,?_,?_,q9⟩
     ·exact (look_cons_ne (by omega)).trans q2
     ·exact (look_cons_ne (by omega)).trans q4
     ·exact (look_cons_ne (by omega)).trans q5
     ·exact (look_cons_ne (by omega)).trans q6
     ·exact cons_lt q7 (by omega) (by omega)
     ·exact fun q hq => by have := q8 q hq; omega
    by_cases hl0:l = []
    ·subst hl0
     have sl0:slv j ([]:List Nat).length = .nil := rfl
     rw [sl0]
     have s3 := fun hp => s3_nil (hp := hp)
     have ap := fun hp fz fr => app_nil (hp := hp) (fz := fz) (fr := fr) (e := (e:Int))
     have e1:NL ([] ++ [e]) = [.int .i64 (e:Int)] := rfl
     rw [e1] at key
     simp only [List.length_nil,Nat.zero_add] at key
     simp [tb,hee]
     refine run_last rfl rfl (by simp only [List.length_cons,List.length_nil,Nat.reduceAdd,Nat.reduceSub,List.take_succ_cons,List.take_zero]; rfl) (by simp only [List.length_cons,List.length_nil,Nat.reduceAdd,Nat.reduceSub,List.drop_succ_cons,List.drop_zero]; rfl) ?_
     simp [tb,hee,q6,s3,ap,ne12 (show bs < kk by omega),buildSliceOp,putParts,repeatP,uniform,PV.pureL,PV.pureB]
     refine ⟨logOk_code (fun x => if x = kk+1+1+1+1+1+1+1+1+1+1+1+1 then 1 else 0) (by simp [code,show ¬ bs = kk+1+1+1+1+1+1+1+1+1+1+1+1 by omega] <;> decide +kernel),?_⟩
     refine callK_run rfl (callW_to (key _ _ (by omega) (by omega)) fun v s' hp => ?_)
     obtain ⟨k5,H5,Z5,fv5,rfl,hk5,hlt5,hZ5,hf5,hl5,hfd5,hfr5,hkp5⟩ := hp
     have fr5:∀ q,q < kk → q ≠ bf → Go.Pi.look H5 q = Go.Pi.look H2 q := fun q h1 h2 => (hfr5 q (by omega) h2).trans (look_cons_ne (by omega))
     simp [run_draw,tb]
     refine ⟨m,by omega,e+1,_,_,fv5,H5,Z5,by rw [we]; rfl,by omega,⟨fun hl => ?_,hl5,hfd5,?_,?_,?_,lt_mono hlt5 (by omega),fun q hq => by have := hZ5 q hq; omega,hf5⟩,by omega,fun q h1 h2 => (fr5 q (by omega) h2).trans (hfr q h1 h2),?_,hkp.step hkp5 (by omega) (by omega),rfl⟩
     ·have := q1 hl
      exact ⟨(fr5 j this.2.1 this.2.2).trans this.1,by omega,this.2.2⟩
     ·exact (fr5 bd hk2 (Ne.symm n1)).trans q4
     ·exact (fr5 bo hk3 (Ne.symm n2)).trans q5
     ·exact (fr5 bs hk4 (Ne.symm n3)).trans q6
     ·rw [← hwk]; rfl
    ·have hlp:0 < l.length := by cases l with | nil => exact absurd rfl hl0 | cons _ _ => simp
     obtain ⟨qj,qk,qb⟩ := q1 hlp
     have esl:slv j l.length = .own j 0 l.length := slv_pos hlp
     have nll := NL_len l
     have s3 := s3_own qj nll
     have ap := fun fz fr => app_ownF (fz := fz) (fr := fr) (e := (e:Int)) qj nll (by omega)
     rw [NL_app] at key
     rw [esl]
     simp [tb,hee]
     refine run_last rfl rfl (by simp only [List.length_cons,List.length_nil,Nat.reduceAdd,Nat.reduceSub,List.take_succ_cons,List.take_zero]; rfl) (by simp only [List.length_cons,List.length_nil,Nat.reduceAdd,Nat.reduceSub,List.drop_succ_cons,List.drop_zero]; rfl) ?_
     simp [tb,hee,qj,q6,s3,ap,ne12 (show bs < kk by omega),buildSliceOp,putParts,repeatP,uniform,PV.pureL,PV.pureB]
     refine ⟨logOk_code (fun x => if x = kk+1+1+1+1+1+1+1+1+1+1+1+1 then 1 else 0) (by simp [code,show ¬ j = kk+1+1+1+1+1+1+1+1+1+1+1+1 by omega,show ¬ bs = kk+1+1+1+1+1+1+1+1+1+1+1+1 by omega] <;> decide +kernel),?_⟩
     refine callK_run rfl (callW_to (key _ _ (by omega) (by omega)) fun v s' hp => ?_)
     obtain ⟨k5,H5,Z5,fv5,rfl,hk5,hlt5,hZ5,hf5,hl5,hfd5,hfr5,hkp5⟩ := hp
     have fr5:∀ q,q < kk → q ≠ bf → Go.Pi.look H5 q = Go.Pi.look H2 q := fun q h1 h2 => (hfr5 q (by omega) h2).trans (look_cons_ne (by omega))
     simp [run_draw,tb]
     refine ⟨m,by omega,e+1,_,_,fv5,H5,Z5,by rw [we,esl],by omega,⟨fun hl => ?_,hl5,hfd5,?_,?_,?_,lt_mono hlt5 (by omega),fun q hq => by have := hZ5 q hq; omega,hf5⟩,by omega,fun q h1 h2 => (fr5 q (by omega) h2).trans (hfr q h1 h2),?_,hkp.step hkp5 (by omega) (by omega),rfl⟩
     ·have := q1 hl
      exact ⟨(fr5 j this.2.1 this.2.2).trans this.1,by omega,this.2.2⟩
     ·exact (fr5 bd hk2 (Ne.symm n1)).trans q4
     ·exact (fr5 bo hk3 (Ne.symm n2)).trans q5
     ·exact (fr5 bs hk4 (Ne.symm n3)).trans q6
     ·rw [← hwk]; rfl
 | some s =>
  obtain ⟨c,x⟩ := s
  have w3':fv = .agg [.bool true,.slice (NL c),.int .i64 x,.nil] := w3
  subst w3'
  simp [run_draw,tb,w2,w4]
  refine dcallK_slv [.eptr (.agg [d,o,r,vs,vc,vh]) 0] rfl pD (fun hl => by have := w1 hl; exact ⟨this.1,by omega⟩) hbd fun y Z0 hy hz0 => ?_
  simp only [List.cons_append,List.nil_append,boundR,offV_app,(preV_is l).nats,← hO] at hy
  subst hy
  have hZk0:∀ q ∈ Z0,q < k := fun q hq => by
   rcases hz0 q hq with h | ⟨rfl,h⟩
   ·exact w8 q h
   ·exact (w1 h).2.1
  have hZb0:bf ∉ Z0 := fun hq => by
   rcases hz0 bf hq with h | ⟨e,h⟩
   ·exact w9 h
   ·exact (w1 h).2.2 e.symm
  by_cases hcut:cut O (some (c,x)) l
  ·have hc1:x ≤ bound O l := hcut
   simp [tb,w2,hc1]
   refine ⟨logOk_free (by simp [okTri,tri,tb]),?_⟩
   exact ⟨_,_,_,_,rfl,by omega,lt_mono w7 (by omega),fun q hq => by have := hZk0 q hq; omega,hZb0,w2,by rw [srch_stop O (.inl hcut)]; rfl,fun q _ _ => rfl,Keeps.of hz0⟩
  have hc1:¬ x ≤ bound O l := hcut
  simp [tb,w2,w4,hc1]
  refine ⟨logOk_free (by simp [okTri,tri,tb]),?_⟩
  refine callK_slv [.eptr (.agg [d,o,r,vs,vc,vh]) 0] rfl pD (fun hl => by have := w1 hl; exact ⟨this.1,by omega⟩) hfl fun y Z1 hy hz => ?_
  simp only [List.cons_append,List.nil_append,failsR,offV_app,(preV_is l).nats,← hO] at hy
  subst hy
  have hzz:∀ q ∈ Z1,q ∈ Z ∨ (q = j ∧ 0 < l.length) := fun q hq => (hz q hq).elim (hz0 q) .inr
  have hZk:∀ q ∈ Z1,q < k := fun q hq => by
   rcases hz q hq with h | ⟨rfl,h⟩
   ·exact hZk0 q h
   ·exact (w1 h).2.1
  have hZb:bf ∉ Z1 := fun hq => by
   rcases hz bf hq with h | ⟨e,h⟩
   ·exact hZb0 h
   ·exact (w1 h).2.2 e.symm
  clear hz
  by_cases hf:(fl O l).2 = 0
  rotate_left
  ·have hf1:((fl O l).2 != 0) = true := by simpa using hf
   simp [tb,hf1]
   exact ⟨_,_,_,_,rfl,by omega,lt_mono w7 (by omega),fun q hq => by have := hZk q hq; omega,hZb,w2,by rw [srch_stop O (.inr hf)]; exact w3,fun q _ _ => rfl,Keeps.of hzz⟩
  have hf1:((fl O l).2 != 0) = false := by simpa using hf
  have mzb := memB_no hZb
  rcases Nat.eq_zero_or_pos D with hD | hD
  ·subst hD
   have hln:((l.length:Int) == (els d).length) = true := by simp only [beq_iff_eq]; omega
   have hl0:l ≠ [] := by intro e; rw [e] at hlD; have := h.n0; simp at hlD; omega
   have hlp:0 < l.length := by have := h.n0; omega
   simp [tb,hf1,w2,w5,d1,o1,r1,x4,ld,hln]
   rw [run_draw]
   simp [tb]
   have hj2:Go.Pi.look H j = some ⟨1,NL l⟩ ∧ j < k ∧ j ≠ bf := w1 hlp
   refine dcallK_clone rfl hlp (by omega) ⟨hj2.1,by omega⟩ fun Z2 hz2 => ?_
   simp [tb,w4]
   refine dcallK_slv [.eptr (.agg [d,o,r,vs,vc,vh]) 0] rfl pD (fun hl => ⟨hj2.1,by omega⟩) hbd fun y Z3 hy hz3 => ?_
   simp only [List.cons_append,List.nil_append,boundR,offV_app,(preV_is l).nats,← hO] at hy
   subst hy
   have hin3:∀ q ∈ Z3,q ∈ Z1 ∨ q = j := fun q hq => by
    rcases hz3 q hq with h | ⟨h,_⟩
    ·exact (hz2 q h).imp id fun h => h.1
    ·exact .inr h
   have hZk3:∀ q ∈ Z3,q < k := fun q hq => by
    rcases hin3 q hq with h | rfl
    ·exact hZk q h
    ·exact hj2.2.1
   have hZb3:bf ∉ Z3 := fun hq => by
    rcases hin3 bf hq with h | e
    ·exact hZb h
    ·exact hj2.2.2 e.symm
   have mzb3 := memB_no hZb3
   have lus:∀ E,Go.Pi.look (Go.Pi.upd H bf E) bf = some E := fun E => look_upd_same w2
   have lus2:∀ E E',Go.Pi.look (Go.Pi.upd (Go.Pi.upd H bf E) bf E') bf = some E' := fun E E' => look_upd_same (lus E)
   have lus3:∀ E E' E'',Go.Pi.look (Go.Pi.upd (Go.Pi.upd (Go.Pi.upd H bf E) bf E') bf E'') bf = some E'' := fun E E' E'' => look_upd_same (lus2 E E')
   simp [tb,w2,mzb3,lus,lus2,lus3]
   refine ⟨logOk_free (by simp [okTri,tri,tb]),?_⟩
   exact ⟨_,_,_,_,rfl,by omega,lt_mono (upd_lt (upd_lt (upd_lt w7))) (by omega),fun q hq => by have := hZk3 q hq; omega,hZb3,lus3 _ _ _,by rw [srch_leaf O hcut hf]; rfl,fun q _ hne => by rw [look_upd_ne (Ne.symm hne),look_upd_ne (Ne.symm hne),look_upd_ne (Ne.symm hne)],Keeps.of fun q hq => (hin3 q hq).elim (hzz q) fun h => .inr ⟨h,hlp⟩⟩
  ·obtain ⟨D,rfl⟩:∃ D',D = D'+1 := ⟨D - 1,by omega⟩
   have hln:((l.length:Int) == (els d).length) = false := by simp only [beq_eq_false_iff_ne,ne_eq]; omega
   obtain ⟨os,row,rfl,z1,z2,z3,z4,z5,z6⟩ := h.row (i := l.length) (by omega)
   have z1' := getE z1
   have hol := h.on
   simp only [els_slice] at hol
   have hlo:l.length < os.length := by omega
   rw [← hO] at z5
   simp [tb,hf1,w2,w5,d1,o1,r1,x4,ld,hln,z1,z1',hlo]
   refine loopK_of (skI O bf bd bo bs d (.slice os) r vs vc vh l D row.length j k H Z (some (c,x))) rfl rfl ?step2 row.length _ _ ?init2
   case init2 =>
    refine ⟨0,_,some (c,x),_,_,_,rfl,by omega,⟨fun hl => ?_,w2,w3,w4,w5,w6,lt_mono w7 (by omega),fun q hq => by have := hZk q hq; omega,hZb⟩,by omega,fun q _ _ => rfl,rfl,Keeps.of hzz,rfl⟩
    have := w1 hl
    exact ⟨this.1,by omega,this.2.2⟩
   case step2 =>
   have hsd := srch_deep (D := D) O hcut hf
   rw [z5] at hsd
   clear hZb hZk mzb
   rintro m vs2 st ⟨e,kk,s2,fv2,H2,Z2,rfl,hem,⟨q1,q2,q3,q4,q5,q6,q7,q8,q9⟩,hkk,hfr,hwk,hkp,rfl⟩
   have hk1 := look_lt q7 q2
   have hk2 := look_lt q7 q4
   have hk3 := look_lt q7 q5
   have hk4 := look_lt q7 q6
   rcases Nat.eq_zero_or_pos m with hm | hm
   ·subst hm
    have he:e = row.length := by omega
    subst he
    simp [tb]
    exact ⟨_,_,_,fv2,rfl,by omega,lt_mono q7 (by omega),fun q hq => by have := q8 q hq; omega,q9,q2,by rw [hsd,← hwk]; exact q3,hfr,hkp⟩
   ·obtain ⟨m,rfl⟩:∃ m',m = m'+1 := ⟨m - 1,by omega⟩
    have he:e < row.length := by omega
    have hee:(e:Int) < row.length := by omega
    have we:IntKind.i64.wrap ((e:Int)+1) = ((e+1:Nat):Int) := w_i64 (by omega)
    have hsn:InR O (l ++ [e]) := InR.snoc O hi (by rw [z5]; exact he)
    have key:∀ (k3 b3:Nat),kk ≤ b3 → b3 < k3 → CallW prog (specEnv prog G AS) G A1 30 [.own b3 0 (l.length+1),.ptr bf 0 0,.ptr bd 0 0,.ptr bo 0 0,.ptr bs 0 0] ⟨k3,(b3,⟨1,NL (l ++ [e])⟩) :: H2,Z2⟩ (SPost O D (l ++ [e]) s2 bf k3 ((b3,⟨1,NL (l ++ [e])⟩) :: H2) Z2 b3) := fun k3 b3 h1 h2 => by
     rw [← slv_app]
     refine ih D (by omega) (l ++ [e]) s2 fv2 b3 k3 _ Z2 (by simp; omega) hsn ⟨fun _ => ⟨look_one_cons _ _ _,h2,by omega⟩,?_,q3,?_,?_,?_,?_,?_,q9⟩
     ·exact (look_cons_ne (by omega)).trans q2
     ·exact (look_cons_ne (by omega)).trans q4
     ·exact (look_cons_ne (by omega)).trans q5
     ·exact (look_cons_ne (by omega)).trans q6
     ·exact cons_lt q7 (by omega) (by omega)
     ·exact fun q hq => by have := q8 q hq; omega
    by_cases hl0:l = []
    ·subst hl0
     have sl0:slv j ([]:List Nat).length = .nil := rfl
     rw [sl0]
     have s3 := fun hp => s3_nil (hp := hp)
     have ap := fun hp fz fr => app_nil (hp := hp) (fz := fz) (fr := fr) (e := (e:Int))
     have e1:NL ([] ++ [e]) = [.int .i64 (e:Int)] := rfl
     rw [e1] at key
     simp only [List.length_nil,Nat.zero_add] at key
     simp [tb,hee]
     refine run_last rfl rfl (by simp only [List.length_cons,List.length_nil,Nat.reduceAdd,Nat.reduceSub,List.take_succ_cons,List.take_zero]; rfl) (by simp only [List.length_cons,List.length_nil,Nat.reduceAdd,Nat.reduceSub,List.drop_succ_cons,List.drop_zero]; rfl) ?_
     simp [tb,hee,q6,s3,ap,ne12 (show bs < kk by omega),buildSliceOp,putParts,repeatP,uniform,PV.pureL,PV.pureB]
     refine ⟨logOk_code (fun x => if x = kk+1+1+1+1+1+1+1+1+1+1+1+1 then 1 else 0) (by simp [code,show ¬ bs = kk+1+1+1+1+1+1+1+1+1+1+1+1 by omega] <;> decide +kernel),?_⟩
     refine callK_run rfl (callW_to (key _ _ (by omega) (by omega)) fun v s' hp => ?_)
     obtain ⟨k5,H5,Z5,fv5,rfl,hk5,hlt5,hZ5,hf5,hl5,hfd5,hfr5,hkp5⟩ := hp
     have fr5:∀ q,q < kk → q ≠ bf → Go.Pi.look H5 q = Go.Pi.look H2 q := fun q h1 h2 => (hfr5 q (by omega) h2).trans (look_cons_ne (by omega))
     simp [run_draw,tb]
     refine ⟨m,by omega,e+1,_,_,fv5,H5,Z5,by rw [we]; rfl,by omega,⟨fun hl => ?_,hl5,hfd5,?_,?_,?_,lt_mono hlt5 (by omega),fun q hq => by have := hZ5 q hq; omega,hf5⟩,by omega,fun q h1 h2 => (fr5 q (by omega) h2).trans (hfr q h1 h2),?_,hkp.step hkp5 (by omega) (by omega),rfl⟩
     ·have := q1 hl
      exact ⟨(fr5 j this.2.1 this.2.2).trans this.1,by omega,this.2.2⟩
     ·exact (fr5 bd hk2 (Ne.symm n1)).trans q4
     ·exact (fr5 bo hk3 (Ne.symm n2)).trans q5
     ·exact (fr5 bs hk4 (Ne.symm n3)).trans q6
     ·rw [← hwk]; rfl
    ·have hlp:0 < l.length := by cases l with | nil => exact absurd rfl hl0 | cons _ _ => simp
     obtain ⟨qj,qk,qb⟩ := q1 hlp
     have esl:slv j l.length = .own j 0 l.length := slv_pos hlp
     have nll := NL_len l
     have s3 := s3_own qj nll
     have ap := fun fz fr => app_ownF (fz := fz) (fr := fr) (e := (e:Int)) qj nll (by omega)
     rw [NL_app] at key
     rw [esl]
     simp [tb,hee]
     refine run_last rfl rfl (by simp only [List.length_cons,List.length_nil,Nat.reduceAdd,Nat.reduceSub,List.take_succ_cons,List.take_zero]; rfl) (by simp only [List.length_cons,List.length_nil,Nat.reduceAdd,Nat.reduceSub,List.drop_succ_cons,List.drop_zero]; rfl) ?_
     simp [tb,hee,qj,q6,s3,ap,ne12 (show bs < kk by omega),buildSliceOp,putParts,repeatP,uniform,PV.pureL,PV.pureB]
     refine ⟨logOk_code (fun x => if x = kk+1+1+1+1+1+1+1+1+1+1+1+1 then 1 else 0) (by simp [code,show ¬ j = kk+1+1+1+1+1+1+1+1+1+1+1+1 by omega,show ¬ bs = kk+1+1+1+1+1+1+1+1+1+1+1+1 by omega] <;> decide +kernel),?_⟩
     refine callK_run rfl (callW_to (key _ _ (by omega) (by omega)) fun v s' hp => ?_)
     obtain ⟨k5,H5,Z5,fv5,rfl,hk5,hlt5,hZ5,hf5,hl5,hfd5,hfr5,hkp5⟩ := hp
     have fr5:∀ q,q < kk → q ≠ bf → Go.Pi.look H5 q = Go.Pi.look H2 q := fun q h1 h2 => (hfr5 q (by omega) h2).trans (look_cons_ne (by omega))
     simp [run_draw,tb]
     refine ⟨m,by omega,e+1,_,_,fv5,H5,Z5,by rw [we,esl],by omega,⟨fun hl => ?_,hl5,hfd5,?_,?_,?_,lt_mono hlt5 (by omega),fun q hq => by have := hZ5 q hq; omega,hf5⟩,by omega,fun q h1 h2 => (fr5 q (by omega) h2).trans (hfr q h1 h2),?_,hkp.step hkp5 (by omega) (by omega),rfl⟩
     ·have := q1 hl
      exact ⟨(fr5 j this.2.1 this.2.2).trans this.1,by omega,this.2.2⟩
     ·exact (fr5 bd hk2 (Ne.symm n1)).trans q4
     ·exact (fr5 bo hk3 (Ne.symm n2)).trans q5
     ·exact (fr5 bs hk4 (Ne.symm n3)).trans q6
     ·rw [← hwk]; rfl
end Go.Proofs.Tryz
