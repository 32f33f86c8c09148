/- The machine on symbols: the law's changes. No condition. -/
import Derived.Test.YtgpmgondjppmmaaGreatDoorPA
import Derived.Test.YtgpmgondjppmmaaGreatDoorP9
import Derived.Test.YtgpmgondjppmmaaGreatDoorPB
import Derived.Test.YtgpmgondjppmmaaGreatDoorQ3
set_option linter.unnecessarySimpa false
set_option linter.unusedSectionVars false
set_option linter.unusedSimpArgs false
set_option linter.unusedVariables false
set_option maxHeartbeats 8000000
set_option maxRecDepth 100000
namespace Go.Proofs.Tryz
open Go Go.Pi Go.Num Go.Lin Go.Alc
variable [Hole] {G:Nat → Option PV}
def fromReg (id:Nat):Code → Option Code
 | .seq a b => bif Nat.beq (firstRegion a) id then some (.seq a b) else match fromReg id a with | some c => some c | none => fromReg id b
 | .cond _ a b => match fromReg id a with | some c => some c | none => fromReg id b
 | .block _ b => fromReg id b
 | .scope b => fromReg id b
 | _ => none
def knownR:CRel | [],r => r = .bool true | _,_ => False
abbrev LS (rc:PV):Specs := [(4,knownR),(5,anyB),(6,anyB),(8,fun _ x => x = rc),(9,allocateR),(10,allocR),(14,putR),(15,agreesR),(16,verR)]
structure Rd (H:List (Nat × Ent)) (k:Nat) (v r:PV):Prop where
 cell:v.cellOk = true
 one:v.cells = [v]
 top:v.isTop = false
 rd:∃ fl,reifyW (Go.Pi.look H) (reifyN (Go.Pi.look H) 5) v = some (r,fl) ∧ ∀ b ∈ fl,b < k
theorem rd_al {H:List (Nat × Ent)} {k:Nat} {v1 v2 r1 r2:PV} {p:Bool} {c:Int} (h1:Rd H k v1 r1) (h2:Rd H k v2 r2):∃ fl,reify (Go.Pi.look H) (.agg [.bool p,v1,.int .i64 c,v2]) = some (.agg [.bool p,r1,.int .i64 c,r2],fl) ∧ ∀ b ∈ fl,b < k := by
 obtain ⟨f1,e1,g1⟩ := h1.rd
 obtain ⟨f2,e2,g2⟩ := h2.rd
 have hw:reifyW (Go.Pi.look H) (reifyN (Go.Pi.look H) 5) (.agg [.bool p,v1,.int .i64 c,v2]) = some (.agg [.bool p,r1,.int .i64 c,r2],f1 ++ f2) := by
  rw [reifyW,reifyWL,reifyWL,reifyWL,reifyWL,reifyWL,e1,e2,reifyW_pure _ rfl,reifyW_pure _ rfl]
  simp
 unfold reify
 cases hp:(PV.agg [.bool p,v1,.int .i64 c,v2]).pureB with
 | true =>
  rw [reifyW_pure _ hp] at hw
  simp only [Option.some.injEq,Prod.mk.injEq] at hw
  refine ⟨[],?_,fun b hb => by cases hb⟩
  rw [← hw.1]
  rfl
 | false =>
  refine ⟨f1 ++ f2,hw,fun b hb => ?_⟩
  rcases List.mem_append.1 hb with hb | hb
  ·exact g1 b hb
  ·exact g2 b hb
theorem accB_27 (b:Bool) (e:Int) (h:e = 0 ↔ b = true):((((if b = true then 0 else 27:Int)) == 0 && e == 0) || (((if b = true then 0 else 27:Int)) == 27 && e != 0)) = true := by
 cases b with
 | true => simp [h.2 rfl]
 | false =>
  have he:e ≠ 0 := fun h' => by have := h.1 h'; cases this
  simp [he]
theorem law3_ok (rl:ReadLib G) {rc d o r:PV} (hv:Vld d o r) (hop:Gives prog G 29 [.agg [d,o,r]] (openR [.agg [d,o,r]])) {v1 v2 r1 r2:PV} {p:Bool} {c:Int} {k b7:Nat} {H:List (Nat × Ent)} (h1:Rd H k v1 r1) (h2:Rd H k v2 r2) (hal:IsAl (.agg [.bool p,r1,.int .i64 c,r2]))
  (l0:Go.Pi.look H 0 = some ⟨3,[.agg [d,o,r]]⟩) (l7:Go.Pi.look H b7 = some ⟨4,[.agg [.bool p,v1,.int .i64 c,v2]]⟩) {T:Tm} (t3:lookT T 3 = .ptr 0 0 0) (t7:lookT T 7 = .ptr b7 0 0) {kt:Kont} {an:Ann} (han:A1 3 = some an) {cd:Code} (hcd:fromReg 21 (Tryz.f3.body.getD .skip) = some cd)
  (cont:∀ T s,lookT T 6 = .bool true → retK prog (specEnv prog G (LS rc)) G A1 ⟨an,0⟩ kt .ret T s) :
  run prog (specEnv prog G (LS rc)) G A1 ⟨an,0⟩ T ⟨k,H,[]⟩ cd kt := by
 obtain rfl := Option.some.inj (ann3.symm.trans han)
 obtain rfl := Option.some.inj ((show fromReg 21 (Tryz.f3.body.getD .skip) = some _ by rfl).symm.trans hcd)
 obtain ⟨d1,d2,d3,d4,d5⟩ := hv.dim.cell
 obtain ⟨o1,o2,o3,o4,o5⟩ := hv.opt.cell
 obtain ⟨r1',r2',r3,r4,r5⟩ := hv.req.cell
 obtain ⟨fl,hre,hfl⟩ := rd_al (p := p) (c := c) h1 h2
 have hX := hv.pure
 have hrl:reifyL (Go.Pi.look H) [.agg [d,o,r],.agg [.bool p,v1,.int .i64 c,v2]] = some ([.agg [d,o,r],.agg [.bool p,r1,.int .i64 c,r2]],fl) := by
  unfold reifyL
  rw [mapR,mapR,mapR,hre,reify_pure hX]
  simp
 simp [run_draw,tb,t3,t7,l0,l7,d1,o1,r1',d3,o3,r3,h1.cell,h1.one,h1.top,h2.cell,h2.one,h2.top]
 have hall:∀ m,k ≤ m → fl.all (fun r => Nat.blt r m) = true := fun m hm => List.all_eq_true.2 fun b hb => (blt_iff).2 (Nat.lt_of_lt_of_le (hfl b hb) hm)
 refine dcallK_spec (S := LS rc) (R := allocR) rfl hrl (alloc_ok rl hv hal) (hall _ (by simp; omega)) fun y hy => ?_
 simp only [allocR] at hy
 subst hy
 simp [run_draw,tb,t3,t7,l0,l7,d1,o1,r1',d3,o3,r3,h1.cell,h1.one,h1.top,h2.cell,h2.one,h2.top]
 refine dcallK_spec (S := LS rc) (R := verR) rfl hrl (verify_ok rl hv hop hal) (hall _ (by simp; omega)) fun y hy => ?_
 simp only [verR] at hy
 obtain ⟨e,rfl,he⟩ := hy
 simp [run_draw,tb]
 obtain ⟨z,hz⟩:∃ z,z = accB (offV (.agg [d,o,r])) (alV (.agg [.bool p,r1,.int .i64 c,r2])) := ⟨_,rfl⟩
 have hez:e = 0 ↔ z = true := by rw [hz,accB_iff]; exact he
 rw [← hz]
 refine dcallK_pure (S := LS rc) (R := agreesR) rfl rfl (agrees_ok _ _ (by cases z <;> simp)) fun y hy => ?_
 simp only [agreesR] at hy
 rw [accB_27 z e hez] at hy
 subst hy
 simp [run_draw,tb]
 exact ⟨logOk_free (by simp [okTri,tri]),cont _ _ rfl⟩
theorem rd_slv {H:List (Nat × Ent)} {k j n sz:Nat} {es:List PV} (h:0 < n → Go.Pi.look H j = some ⟨sz,es⟩ ∧ j < k) (hn:es.length = n) (hs:0 < sz) (he:∀ v ∈ es,v.pureB = true):Rd H k (slv j n) (sv n es) := by
 obtain ⟨c1,c2,c3,_⟩ := slv_ids j n
 refine ⟨c2,c1,c3,?_⟩
 rcases Nat.eq_zero_or_pos n with z | z
 ·subst z
  exact ⟨[],rfl,fun b hb => by cases hb⟩
 ·rw [slv_pos z,sv_pos z]
  exact ⟨[j],reifyW_own (d := 4) (h z).1 hn hs he,fun b hb => by rw [List.mem_singleton.1 hb]; exact (h z).2⟩
theorem rd_cut {H:List (Nat × Ent)} {k j sz:Nat} {es rest:List PV} (h:Go.Pi.look H j = some ⟨sz,es ++ rest⟩) (hj:j < k) (hs:0 < sz) (he:∀ v ∈ es,v.pureB = true):Rd H k (.own j 0 es.length) (.slice es) := by
 refine ⟨rfl,rfl,rfl,[j],?_,fun b hb => by rw [List.mem_singleton.1 hb]; exact hj⟩
 simp only [reifyW,h,List.drop_zero]
 rw [List.take_append_of_le_length (Nat.le_refl _),List.take_length,mapR_pure (d := 4) he]
 have h1:Nat.ble (0 + es.length) (es ++ rest).length = true := by rw [ble_iff]; simp
 have h2:Nat.blt 0 sz = true := by rw [blt_iff]; exact hs
 simp only [h1,h2,Bool.and_self,cond_true]
structure LawSt (d o r:PV) (a b:Nat) (t:List UInt8) (y:Int) (p:Bool) (l:List Nat) (c:Int) (es:List PV) (b7 j1 j2 k:Nat) (H:List (Nat × Ent)) (T:Tm):Prop where
 l0:Go.Pi.look H 0 = some ⟨3,[.agg [d,o,r]]⟩
 l1:Go.Pi.look H 1 = some ⟨3,[.agg [.int .u8 (a:Int),.int .u8 (b:Int),.str (ba t)]]⟩
 l7:Go.Pi.look H b7 = some ⟨4,[.agg [.bool p,slv j1 l.length,.int .i64 c,slv j2 es.length]]⟩
 c1:0 < l.length → Go.Pi.look H j1 = some ⟨1,NL l⟩ ∧ j1 < k ∧ j1 ≠ b7 ∧ j1 ≠ 0 ∧ j1 ≠ 1
 c2:0 < es.length → Go.Pi.look H j2 = some ⟨4,es⟩ ∧ j2 < k ∧ j2 ≠ b7 ∧ j2 ≠ 0 ∧ j2 ≠ 1
 c12:0 < l.length → 0 < es.length → j1 ≠ j2
 ll:l.length ≤ 12
 el:es.length ≤ 68719476736
 eb:∀ w ∈ es,BdS w
 b0:b7 ≠ 0
 b1:b7 ≠ 1
 b7k:b7 < k
 lt:∀ q ∈ H,q.1 < k
 t2:lookT T 2 = .int .i64 y
 t3:lookT T 3 = .ptr 0 0 0
 t4:lookT T 4 = .ptr 1 0 0
 t7:lookT T 7 = .ptr b7 0 0
section
variable {d o r:PV} {a b:Nat} {t:List UInt8} {y:Int} {p:Bool} {l:List Nat} {c:Int} {es:List PV} {b7 j1 j2 k:Nat} {H:List (Nat × Ent)} {T:Tm}
theorem LawSt.rd1 (h:LawSt d o r a b t y p l c es b7 j1 j2 k H T):Rd H k (slv j1 l.length) (sv l.length (NL l)) := rd_slv (fun hl => ⟨(h.c1 hl).1,(h.c1 hl).2.1⟩) (NL_len l) (by decide) ((pureL_iff _).1 (pure_NL l))
theorem LawSt.rd2 (h:LawSt d o r a b t y p l c es b7 j1 j2 k H T):Rd H k (slv j2 es.length) (sv es.length es) := rd_slv (fun hl => ⟨(h.c2 hl).1,(h.c2 hl).2.1⟩) rfl (by decide) fun v hv => (h.eb v hv).bd.pure
theorem Rd.up {v r':PV} {k':Nat} {H':List (Nat × Ent)} (h:Rd H k v r') (hk:k ≤ k') (hl:∀ fl,reifyW (Go.Pi.look H) (reifyN (Go.Pi.look H) 5) v = some (r',fl) → ∀ q ∈ fl,Go.Pi.look H' q = Go.Pi.look H q):Rd H' k' v r' := by
 obtain ⟨fl,e,g⟩ := h.rd
 exact ⟨h.cell,h.one,h.top,fl,reifyW_local (reifyN_local 5) _ _ _ e (hl fl e),fun q hq => Nat.lt_of_lt_of_le (g q hq) hk⟩
theorem isal_sv (hl:l.length ≤ 12) (he:es.length ≤ 68719476736) (hb:∀ w ∈ es,IsBd w):IsAl (.agg [.bool p,sv l.length (NL l),.int .i64 c,sv es.length es]) := by
 have hm:maxLen = maxLen := rfl
 refine ⟨p,_,c,_,rfl,?_,?_,?_,?_⟩
 ·unfold sv
  split
  ·exact .inl rfl
  ·exact .inr ⟨_,rfl,fun w hw => by obtain ⟨k,_,rfl⟩ := List.mem_map.1 hw; exact ⟨_,rfl⟩⟩
 ·unfold sv
  split
  ·exact .inl rfl
  ·exact .inr ⟨_,rfl,hb⟩
 ·unfold sv maxLen
  split
  ·simp [els]
  ·simp only [els_slice,NL_len]; omega
 ·unfold sv maxLen
  split
  ·simp [els]
  ·simp only [els_slice]; omega
end
theorem law2d_ok (rl:ReadLib G) {rc d o r:PV} (hv:Vld d o r) (hop:Gives prog G 29 [.agg [d,o,r]] (openR [.agg [d,o,r]])) {a b:Nat} {t:List UInt8} {y:Int} {p:Bool} {l:List Nat} {c:Int} {es:List PV} {b7 j1 j2 k:Nat} {H:List (Nat × Ent)} {T:Tm} (hb:b < 256)
  (h:LawSt d o r a b t y p l c es b7 j1 j2 k H T) (t9:lookT T 9 = .int .i64 (b:Int)) {kt:Kont} {an:Ann} (han:A1 3 = some an) {cd c21:Code} (hcd:fromReg 18 (Tryz.f3.body.getD .skip) = some cd) (h21:fromReg 21 (Tryz.f3.body.getD .skip) = some c21)
  (cont:∀ T s,lookT T 6 = .bool true → retK prog (specEnv prog G (LS rc)) G A1 ⟨an,0⟩ kt .ret T s) :
  run prog (specEnv prog G (LS rc)) G A1 ⟨an,0⟩ T ⟨k,H,[]⟩ cd (.block 0 (.seq c21 kt)) := by
 obtain rfl := Option.some.inj (ann3.symm.trans han)
 obtain rfl := Option.some.inj ((show fromReg 18 (Tryz.f3.body.getD .skip) = some _ by rfl).symm.trans hcd)
 have rd1 := h.rd1
 have rd2 := h.rd2
 obtain ⟨l0,l1,l7,hc1,hc2,c12,ll,el,eb,b0,b1,b7k,lt,t2,t3,t4,t7⟩ := h
 obtain ⟨u1,u2,u3,u4⟩ := slv_ids j2 es.length
 obtain ⟨w1,w2,w3,w4⟩ := slv_ids j1 l.length
 by_cases he:0 < es.length
 case neg =>
  have he':¬ (0:Int) < es.length := by omega
  simp [tb,t3,t7,l7,u1,u2,u3,u4,w1,w2,w3,he,he']
  exact law3_ok rl hv hop (k := k+1+1+1+1+1) (rd1.up (by omega) fun _ _ _ _ => rfl) (rd2.up (by omega) fun _ _ _ _ => rfl) (isal_sv ll el fun w hw => (eb w hw).bd) l0 l7 (by exact t3) (by exact t7) ann3 h21 cont
 have he':(0:Int) < es.length := by omega
 have zl:((es.length:Int) == 0) = false := by rw [beq_eq_false_iff_ne]; omega
 have ti:(b:Int).tmod es.length = ((b % es.length:Nat):Int) := by rw [Int.tmod_eq_emod_of_nonneg (by omega)]; omega
 obtain ⟨i,hi⟩:∃ i,i = b % es.length := ⟨_,rfl⟩
 have hil:i < es.length := by rw [hi]; exact Nat.mod_lt _ he
 rw [← hi] at ti
 obtain ⟨l2,j2k,j2b,j20,j21⟩ := hc2 he
 rw [slv_pos he] at l7 u1 u2 u3 u4
 obtain ⟨fx,a',q,du,e1,hfx,hdu,hfl⟩ := eb _ (List.getElem_mem hil)
 have g1:es[i]? = some (.agg [fx,.int .i64 a',.int .i64 q,du]) := by rw [List.getElem?_eq_getElem hil,e1]
 have g1' := getE g1
 obtain ⟨f1,f2,f3,f4,f5⟩ := hfx.cell
 obtain ⟨v1,v2,v3,v4,v5⟩:du.cellOk = true ∧ du.cells = [du] ∧ du.isTop = false ∧ du.ids = [] ∧ du.pureB = true := by rcases hdu with rfl | ⟨l,rfl⟩ <;> exact ⟨rfl,rfl,rfl,rfl,rfl⟩
 have lus:∀ E,Go.Pi.look (Go.Pi.upd H j2 E) j2 = some E := fun E => look_upd_same l2
 simp [run_draw,tb,t3,t7,t9,l7,l2,hil,zl,ti,w1,w2,w3,he,he',g1,g1',f1,v1]
 refine ⟨logOk_free (by simp [okTri,tri]),?_⟩
 simp [run_draw,tb,t2,t4,t7,l1,l2,hil,g1,g1',f1,f2,v1,v2,f3,v3]
 refine dcallK_pure (S := LS rc) (R := putR) rfl (by simp [PV.pureL,PV.pureB,v5]) (put_ok hdu a b t hb) fun du' hdu' => ?_
 obtain ⟨hs',hsl⟩ := hdu'
 obtain ⟨q1,q2,q3,q4,q5⟩ := hs'.cell
 have fin:∀ (m:Nat) (H':List (Nat × Ent)) (T':Tm),k ≤ m → Go.Pi.look H' j2 = some ⟨4,es.set i (.agg [fx,.int .i64 a',.int .i64 y,du'])⟩ → (∀ q,q ≠ j2 → Go.Pi.look H' q = Go.Pi.look H q) → lookT T' 3 = .ptr 0 0 0 → lookT T' 7 = .ptr b7 0 0 → run prog (specEnv prog G (LS rc)) G A1 ⟨_,0⟩ T' ⟨m,H',[]⟩ c21 kt := fun m H' T' hm n1 n2 n3 n7 => by
  have hlen:(es.set i (.agg [fx,.int .i64 a',.int .i64 y,du'])).length = es.length := by simp
  have hbd:∀ w ∈ es.set i (.agg [fx,.int .i64 a',.int .i64 y,du']),IsBd w := fun w hw => by
   rcases List.mem_or_eq_of_mem_set hw with hw | rfl
   ·exact (eb w hw).bd
   ·exact ⟨fx,a',y,du',rfl,hfx,hs',hfl,Nat.le_trans hsl (by unfold maxLen; omega)⟩
  exact law3_ok rl hv hop (v1 := slv j1 l.length) (v2 := slv j2 es.length) (rd_slv (fun hl => ⟨by rw [n2 _ (c12 hl he)]; exact (hc1 hl).1,Nat.lt_of_lt_of_le (hc1 hl).2.1 hm⟩) (NL_len l) (by decide) ((pureL_iff _).1 (pure_NL l)))
   (rd_slv (fun _ => ⟨n1,Nat.lt_of_lt_of_le j2k hm⟩) hlen (by decide) fun v hv => (hbd v hv).pure)
   (by have := isal_sv (p := p) (c := c) ll (by rw [hlen]; exact el) hbd; rwa [hlen] at this) (by rw [n2 0 (Ne.symm j20)]; exact l0) (by rw [n2 _ (Ne.symm j2b),slv_pos he]; exact l7) n3 n7 ann3 h21 cont
 rcases hs' with rfl | ⟨ls,rfl,hls⟩
 all_goals
  simp [run_draw,tb,t2,t4,t7,l1,l2,hil,g1,g1',f1,f2,v1,v2,f3,v3,v4,q1,q2,q3,lus]
  refine ⟨logOk_free (by simp [okTri,tri,tb]),?_⟩
  refine fin _ _ _ ?_ (look_upd_same (lus _)) (fun q hq => by rw [look_upd_ne (Ne.symm hq),look_upd_ne (Ne.symm hq)]) ?_ ?_
  ·omega
  ·exact t3
  ·exact t7
theorem LawSt.up {d o r:PV} {a b:Nat} {t:List UInt8} {y:Int} {p:Bool} {l:List Nat} {c:Int} {es:List PV} {b7 j1 j2 k k':Nat} {H:List (Nat × Ent)} {T T':Tm} (h:LawSt d o r a b t y p l c es b7 j1 j2 k H T) (hk:k ≤ k') (h2:lookT T' 2 = lookT T 2) (h3:lookT T' 3 = lookT T 3) (h4:lookT T' 4 = lookT T 4) (h7:lookT T' 7 = lookT T 7):LawSt d o r a b t y p l c es b7 j1 j2 k' H T' :=
 { h with
  c1 := fun hl => ⟨(h.c1 hl).1,Nat.lt_of_lt_of_le (h.c1 hl).2.1 hk,(h.c1 hl).2.2⟩
  c2 := fun hl => ⟨(h.c2 hl).1,Nat.lt_of_lt_of_le (h.c2 hl).2.1 hk,(h.c2 hl).2.2⟩
  b7k := Nat.lt_of_lt_of_le h.b7k hk
  lt := lt_mono h.lt hk
  t2 := h2.trans h.t2
  t3 := h3.trans h.t3
  t4 := h4.trans h.t4
  t7 := h7.trans h.t7 }
theorem law2c_ok (rl:ReadLib G) {rc d o r:PV} (hv:Vld d o r) (hop:Gives prog G 29 [.agg [d,o,r]] (openR [.agg [d,o,r]])) {a b:Nat} {t:List UInt8} {y:Int} {p:Bool} {l:List Nat} {c:Int} {es:List PV} {b7 j1 j2 k:Nat} {H:List (Nat × Ent)} {T:Tm} (hb:b < 256)
  (h:LawSt d o r a b t y p l c es b7 j1 j2 k H T) (t9:lookT T 9 = .int .i64 (b:Int)) {kt:Kont} {an:Ann} (han:A1 3 = some an) {cd c21:Code} (hcd:fromReg 16 (Tryz.f3.body.getD .skip) = some cd) (h21:fromReg 21 (Tryz.f3.body.getD .skip) = some c21)
  (cont:∀ T s,lookT T 6 = .bool true → retK prog (specEnv prog G (LS rc)) G A1 ⟨an,0⟩ kt .ret T s) :
  run prog (specEnv prog G (LS rc)) G A1 ⟨an,0⟩ T ⟨k,H,[]⟩ cd (.block 0 (.seq c21 kt)) := by
 obtain rfl := Option.some.inj (ann3.symm.trans han)
 obtain rfl := Option.some.inj ((show fromReg 16 (Tryz.f3.body.getD .skip) = some _ by rfl).symm.trans hcd)
 obtain ⟨c18,h18⟩:∃ c18,fromReg 18 (Tryz.f3.body.getD .skip) = some c18 := ⟨_,rfl⟩
 have e18 := Option.some.inj ((show fromReg 18 (Tryz.f3.body.getD .skip) = some _ by rfl).symm.trans h18)
 rw [e18]
 clear e18
 have h0 := h
 obtain ⟨l0,l1,l7,hc1,hc2,c12,ll,el,eb,b0,b1,b7k,lt,t2,t3,t4,t7⟩ := h
 obtain ⟨u1,u2,u3,u4⟩ := slv_ids j2 es.length
 obtain ⟨w1,w2,w3,w4⟩ := slv_ids j1 l.length
 by_cases m4:(a:Int).tmod 6 = 4
 case neg =>
  have m4':((a:Int).tmod 6 == 4) = false := by rw [beq_eq_false_iff_ne]; exact m4
  simp [tb,t3,t4,t7,l1,l7,m4']
  refine law2d_ok rl hv hop hb (h0.up ?_ ?_ ?_ ?_ ?_) ?_ ann3 h18 h21 cont
  all_goals first | rfl | exact t9 | omega
 by_cases he:0 < es.length
 case neg =>
  have he':¬ (0:Int) < es.length := by omega
  simp [tb,t3,t4,t7,l1,l7,m4,u1,u2,u3,u4,w1,w2,w3,he,he']
  refine law2d_ok rl hv hop hb (h0.up ?_ ?_ ?_ ?_ ?_) ?_ ann3 h18 h21 cont
  all_goals first | rfl | exact t9 | omega
 have he':(0:Int) < es.length := by omega
 have zl:((es.length:Int) == 0) = false := by rw [beq_eq_false_iff_ne]; omega
 have ti:(b:Int).tmod es.length = ((b % es.length:Nat):Int) := by rw [Int.tmod_eq_emod_of_nonneg (by omega)]; omega
 obtain ⟨i,hi⟩:∃ i,i = b % es.length := ⟨_,rfl⟩
 have hil:i < es.length := by rw [hi]; exact Nat.mod_lt _ he
 rw [← hi] at ti
 obtain ⟨l2,j2k,j2b,j20,j21⟩ := hc2 he
 rw [slv_pos he] at l7 u1 u2 u3 u4
 obtain ⟨fx,a',q,du,e1,hfx,hdu,hfl⟩ := eb _ (List.getElem_mem hil)
 have g1:es[i]? = some (.agg [fx,.int .i64 a',.int .i64 q,du]) := by rw [List.getElem?_eq_getElem hil,e1]
 have g1' := getE g1
 obtain ⟨f1,f2,f3,f4,f5⟩ := hfx.cell
 obtain ⟨v1,v2,v3,v4,v5⟩:du.cellOk = true ∧ du.cells = [du] ∧ du.isTop = false ∧ du.ids = [] ∧ du.pureB = true := by rcases hdu with rfl | ⟨l,rfl⟩ <;> exact ⟨rfl,rfl,rfl,rfl,rfl⟩
 have lus:∀ E,Go.Pi.look (Go.Pi.upd H j2 E) j2 = some E := fun E => look_upd_same l2
 simp [run_draw,tb,t2,t3,t4,t7,t9,l1,l7,l2,m4,hil,zl,ti,w1,w2,w3,he,he',g1,g1',f1,v1,f2,v2,f3,v3]
 refine ⟨logOk_free (by simp [okTri,tri,tb]),?_⟩
 have hlen:(es.set i (.agg [fx,.int .i64 y,.int .i64 q,du])).length = es.length := by simp
 have hbd:∀ w ∈ es.set i (.agg [fx,.int .i64 y,.int .i64 q,du]),BdS w := fun w hw => by
  rcases List.mem_or_eq_of_mem_set hw with hw | rfl
  ·exact eb w hw
  ·exact ⟨fx,y,q,du,rfl,hfx,hdu,hfl⟩
 refine law3_ok rl hv hop (v1 := slv j1 l.length) (v2 := slv j2 es.length) (rd_slv (fun hl => ⟨by rw [look_upd_ne (Ne.symm (c12 hl he))]; exact (hc1 hl).1,Nat.lt_of_lt_of_le (hc1 hl).2.1 ?_⟩) (NL_len l) (by decide) ((pureL_iff _).1 (pure_NL l)))
   (rd_slv (fun _ => ⟨lus _,Nat.lt_of_lt_of_le j2k ?_⟩) hlen (by decide) fun v hv => (hbd v hv).bd.pure)
   (by have := isal_sv (p := p) (c := c) ll (by rw [hlen]; exact el) fun w hw => (hbd w hw).bd; rwa [hlen] at this) (by rw [look_upd_ne j20]; exact l0) (by rw [look_upd_ne j2b,slv_pos he]; exact l7) ?_ ?_ ann3 h21 cont
 all_goals first | exact t3 | exact t7 | omega
theorem law2b_ok (rl:ReadLib G) {rc d o r:PV} (hv:Vld d o r) (hop:Gives prog G 29 [.agg [d,o,r]] (openR [.agg [d,o,r]])) {a b:Nat} {t:List UInt8} {y:Int} {p:Bool} {l:List Nat} {c:Int} {es:List PV} {b7 j1 j2 k:Nat} {H:List (Nat × Ent)} {T:Tm} (hb:b < 256)
  (h:LawSt d o r a b t y p l c es b7 j1 j2 k H T) (t9:lookT T 9 = .int .i64 (b:Int)) {kt:Kont} {an:Ann} (han:A1 3 = some an) {cd c21:Code} (hcd:fromReg 14 (Tryz.f3.body.getD .skip) = some cd) (h21:fromReg 21 (Tryz.f3.body.getD .skip) = some c21)
  (cont:∀ T s,lookT T 6 = .bool true → retK prog (specEnv prog G (LS rc)) G A1 ⟨an,0⟩ kt .ret T s) :
  run prog (specEnv prog G (LS rc)) G A1 ⟨an,0⟩ T ⟨k,H,[]⟩ cd (.block 0 (.seq c21 kt)) := by
 obtain rfl := Option.some.inj (ann3.symm.trans han)
 obtain rfl := Option.some.inj ((show fromReg 14 (Tryz.f3.body.getD .skip) = some _ by rfl).symm.trans hcd)
 obtain ⟨c16,h16⟩:∃ c16,fromReg 16 (Tryz.f3.body.getD .skip) = some c16 := ⟨_,rfl⟩
 have e16 := Option.some.inj ((show fromReg 16 (Tryz.f3.body.getD .skip) = some _ by rfl).symm.trans h16)
 rw [e16]
 clear e16
 have h0 := h
 obtain ⟨l0,l1,l7,hc1,hc2,c12,ll,el,eb,b0,b1,b7k,lt,t2,t3,t4,t7⟩ := h
 obtain ⟨u1,u2,u3,u4⟩ := slv_ids j2 es.length
 obtain ⟨w1,w2,w3,w4⟩ := slv_ids j1 l.length
 by_cases m3:(a:Int).tmod 6 = 3
 case neg =>
  have m3':((a:Int).tmod 6 == 3) = false := by rw [beq_eq_false_iff_ne]; exact m3
  simp [tb,t3,t4,t7,l1,l7,m3']
  refine law2c_ok rl hv hop hb (h0.up ?_ ?_ ?_ ?_ ?_) ?_ ann3 h16 h21 cont
  all_goals first | rfl | exact t9 | omega
 by_cases he:0 < es.length
 case neg =>
  have he':¬ (0:Int) < es.length := by omega
  simp [tb,t3,t4,t7,l1,l7,m3,u1,u2,u3,u4,w1,w2,w3,he,he']
  refine law2c_ok rl hv hop hb (h0.up ?_ ?_ ?_ ?_ ?_) ?_ ann3 h16 h21 cont
  all_goals first | rfl | exact t9 | omega
 have he':(0:Int) < es.length := by omega
 have zl:((es.length:Int) == 0) = false := by rw [beq_eq_false_iff_ne]; omega
 have ti:(b:Int).tmod es.length = ((b % es.length:Nat):Int) := by rw [Int.tmod_eq_emod_of_nonneg (by omega)]; omega
 obtain ⟨i,hi⟩:∃ i,i = b % es.length := ⟨_,rfl⟩
 have hil:i < es.length := by rw [hi]; exact Nat.mod_lt _ he
 rw [← hi] at ti
 obtain ⟨l2,j2k,j2b,j20,j21⟩ := hc2 he
 rw [slv_pos he] at l7 u1 u2 u3 u4
 obtain ⟨fx,a',q,du,e1,hfx,hdu,hfl⟩ := eb _ (List.getElem_mem hil)
 have g1:es[i]? = some (.agg [fx,.int .i64 a',.int .i64 q,du]) := by rw [List.getElem?_eq_getElem hil,e1]
 have g1' := getE g1
 obtain ⟨f1,f2,f3,f4,f5⟩ := hfx.cell
 obtain ⟨v1,v2,v3,v4,v5⟩:du.cellOk = true ∧ du.cells = [du] ∧ du.isTop = false ∧ du.ids = [] ∧ du.pureB = true := by rcases hdu with rfl | ⟨l,rfl⟩ <;> exact ⟨rfl,rfl,rfl,rfl,rfl⟩
 have wi:IntKind.i64.wrap ((i:Int)+1) = (i:Int)+1 := w_i64 (by omega)
 simp [tb,t2,t3,t4,t7,t9,l1,l7,l2,m3,w1,w2,w3,he,he']
 refine run_last rfl rfl (by simp only [List.length_cons,List.length_nil,Nat.reduceAdd,Nat.reduceSub,List.take_succ_cons,List.take_zero]; rfl) (by simp only [List.length_cons,List.length_nil,Nat.reduceAdd,Nat.reduceSub,List.drop_succ_cons,List.drop_zero]; rfl) ?_
 simp [tb,t2,t3,t4,t7,t9,l1,l7,l2,zl,ti,wi,w1,w2,w3]
 refine ⟨logOk_free (by simp [okTri,tri]),?_⟩
 refine callK_run rfl (callW_to (del_ok (i := i) l2 hil (by simp) el (fun w hw => (eb w hw).bd) (lt_mono lt (by omega)) (by simp)) fun v s' hp => ?_)
 obtain ⟨rfl,k2,H2,rfl,hk2,hlt2,⟨x,hx⟩,hfr⟩ := hp
 have m7:Go.Pi.look H2 b7 = some ⟨4,[.agg [.bool p,slv j1 l.length,.int .i64 c,.own j2 0 es.length]]⟩ := (hfr b7 (by omega) (Ne.symm j2b)).trans l7
 have lus7:∀ E,Go.Pi.look (Go.Pi.upd H2 b7 E) b7 = some E := fun E => look_upd_same m7
 simp [run_draw,tb,t7,m7,w1,w2,w3]
 have hlen:(es.take i ++ es.drop (i+1)).length = es.length - 1 := by simp; omega
 have hbd:∀ w ∈ es.take i ++ es.drop (i+1),IsBd w := fun w hw => by
  rcases List.mem_append.1 hw with hw | hw
  ·exact (eb w (List.mem_of_mem_take hw)).bd
  ·exact (eb w (List.mem_of_mem_drop hw)).bd
 have hcut:Rd (Go.Pi.upd H2 b7 ⟨4,[.agg [.bool p,slv j1 l.length,.int .i64 c,.own j2 0 (es.length - 1)]]⟩) (k2+1+1) (.own j2 0 (es.length - 1)) (.slice (es.take i ++ es.drop (i+1))) := by
  have := rd_cut (k := k2+1+1) (j := j2) (H := Go.Pi.upd H2 b7 ⟨4,[.agg [.bool p,slv j1 l.length,.int .i64 c,.own j2 0 (es.length - 1)]]⟩) (sz := 4) (es := es.take i ++ es.drop (i+1)) (rest := [x]) (by rw [look_upd_ne (Ne.symm j2b)]; exact hx) (by omega) (by decide) fun v hv => (hbd v hv).pure
  rwa [hlen] at this
 have hal:IsAl (.agg [.bool p,sv l.length (NL l),.int .i64 c,.slice (es.take i ++ es.drop (i+1))]) := by
  obtain ⟨p',ch,c',pf,e,i1,_,i3,_⟩ := isal_sv (p := p) (c := c) ll (es := es) el fun w hw => (eb w hw).bd
  simp only [PV.agg.injEq,List.cons.injEq,PV.bool.injEq,PV.int.injEq,true_and,and_true] at e
  obtain ⟨rfl,rfl,rfl,_⟩ := e
  exact ⟨p,_,c,_,rfl,i1,.inr ⟨_,rfl,hbd⟩,i3,by rw [els_slice,hlen]; unfold maxLen; omega⟩
 refine law3_ok rl hv hop (v1 := slv j1 l.length) (v2 := .own j2 0 (es.length - 1)) (rd_slv (fun hl => ⟨by rw [look_upd_ne (Ne.symm (hc1 hl).2.2.1),hfr j1 (Nat.lt_of_lt_of_le (hc1 hl).2.1 (by omega)) (c12 hl he)]; exact (hc1 hl).1,Nat.lt_of_lt_of_le (hc1 hl).2.1 (by omega)⟩) (NL_len l) (by decide) ((pureL_iff _).1 (pure_NL l)))
   hcut hal (by rw [look_upd_ne b0,hfr 0 (by omega) (Ne.symm j20)]; exact l0) (lus7 _) ?_ ?_ ann3 h21 cont
 all_goals first | exact t3 | exact t7 | omega
theorem law2a_ok (rl:ReadLib G) {rc d o r:PV} (hv:Vld d o r) (hop:Gives prog G 29 [.agg [d,o,r]] (openR [.agg [d,o,r]])) {a b:Nat} {t:List UInt8} {y:Int} {p:Bool} {l:List Nat} {c:Int} {es:List PV} {b7 j1 j2 k:Nat} {H:List (Nat × Ent)} {T:Tm} (hb:b < 256)
  (h:LawSt d o r a b t y p l c es b7 j1 j2 k H T) (t9:lookT T 9 = .int .i64 (b:Int)) {kt:Kont} {an:Ann} (han:A1 3 = some an) {cd c21:Code} (hcd:fromReg 12 (Tryz.f3.body.getD .skip) = some cd) (h21:fromReg 21 (Tryz.f3.body.getD .skip) = some c21)
  (cont:∀ T s,lookT T 6 = .bool true → retK prog (specEnv prog G (LS rc)) G A1 ⟨an,0⟩ kt .ret T s) :
  run prog (specEnv prog G (LS rc)) G A1 ⟨an,0⟩ T ⟨k,H,[]⟩ cd (.block 0 (.seq c21 kt)) := by
 obtain rfl := Option.some.inj (ann3.symm.trans han)
 obtain rfl := Option.some.inj ((show fromReg 12 (Tryz.f3.body.getD .skip) = some _ by rfl).symm.trans hcd)
 obtain ⟨c14,h14⟩:∃ c14,fromReg 14 (Tryz.f3.body.getD .skip) = some c14 := ⟨_,rfl⟩
 have e14 := Option.some.inj ((show fromReg 14 (Tryz.f3.body.getD .skip) = some _ by rfl).symm.trans h14)
 rw [e14]
 clear e14
 have h0 := h
 obtain ⟨l0,l1,l7,hc1,hc2,c12,ll,el,eb,b0,b1,b7k,lt,t2,t3,t4,t7⟩ := h
 obtain ⟨u1,u2,u3,u4⟩ := slv_ids j2 es.length
 obtain ⟨w1,w2,w3,w4⟩ := slv_ids j1 l.length
 by_cases m2:(a:Int).tmod 6 = 2
 case neg =>
  have m2':((a:Int).tmod 6 == 2) = false := by rw [beq_eq_false_iff_ne]; exact m2
  simp [tb,t3,t4,t7,l1,l7,m2']
  refine law2b_ok rl hv hop hb (h0.up ?_ ?_ ?_ ?_ ?_) ?_ ann3 h14 h21 cont
  all_goals first | rfl | exact t9 | omega
 by_cases he:0 < l.length
 case neg =>
  have he':¬ (0:Int) < l.length := by omega
  simp [tb,t3,t4,t7,l1,l7,m2,u1,u2,u3,u4,w1,w2,w3,w4,he,he']
  refine law2b_ok rl hv hop hb (h0.up ?_ ?_ ?_ ?_ ?_) ?_ ann3 h14 h21 cont
  all_goals first | rfl | exact t9 | omega
 have he':(0:Int) < l.length := by omega
 have zl:((l.length:Int) == 0) = false := by rw [beq_eq_false_iff_ne]; omega
 have ti:(b:Int).tmod l.length = ((b % l.length:Nat):Int) := by rw [Int.tmod_eq_emod_of_nonneg (by omega)]; omega
 obtain ⟨i,hi⟩:∃ i,i = b % l.length := ⟨_,rfl⟩
 have hil:i < l.length := by rw [hi]; exact Nat.mod_lt _ he
 rw [← hi] at ti
 obtain ⟨l2,j1k,j1b,j10,j11⟩ := hc1 he
 rw [slv_pos he] at l7 w1 w2 w3 w4
 have g1 := NL_get hil
 have g1' := getE g1
 have lus:∀ E,Go.Pi.look (Go.Pi.upd H j1 E) j1 = some E := fun E => look_upd_same l2
 simp [run_draw,tb,t2,t3,t4,t7,t9,l1,l7,l2,m2,hil,zl,ti,u1,u2,u3,he,he',g1,g1']
 refine ⟨logOk_free (by simp [okTri,tri,tb]),?_⟩
 have hlen:((NL l).set i (.int .i64 y)).length = l.length := by simp [NL_len]
 have hbd:∀ w ∈ (NL l).set i (.int .i64 y),IsI w := fun w hw => by
  rcases List.mem_or_eq_of_mem_set hw with hw | rfl
  ·obtain ⟨k,_,rfl⟩ := List.mem_map.1 hw
   exact ⟨_,rfl⟩
  ·exact ⟨_,rfl⟩
 have hal:IsAl (.agg [.bool p,sv l.length ((NL l).set i (.int .i64 y)),.int .i64 c,sv es.length es]) := by
  obtain ⟨p',ch,c',pf,e,_,i2,_,i4⟩ := isal_sv (p := p) (c := c) ll (es := es) el fun w hw => (eb w hw).bd
  simp only [PV.agg.injEq,List.cons.injEq,PV.bool.injEq,PV.int.injEq,true_and,and_true] at e
  obtain ⟨rfl,_,rfl,rfl⟩ := e
  rw [sv_pos he]
  exact ⟨p,_,c,_,rfl,.inr ⟨_,rfl,hbd⟩,i2,by rw [els_slice,hlen]; unfold maxLen; omega,i4⟩
 refine law3_ok rl hv hop (v1 := slv j1 l.length) (v2 := slv j2 es.length) (rd_slv (fun _ => ⟨lus _,Nat.lt_of_lt_of_le j1k ?_⟩) hlen (by decide) fun v hv => by obtain ⟨_,rfl⟩ := hbd v hv; rfl)
   (rd_slv (fun hl => ⟨by rw [look_upd_ne (c12 he hl)]; exact (hc2 hl).1,Nat.lt_of_lt_of_le (hc2 hl).2.1 ?_⟩) rfl (by decide) fun v hv => (eb v hv).bd.pure)
   hal (by rw [look_upd_ne j10]; exact l0) (by rw [look_upd_ne j1b,slv_pos he]; exact l7) ?_ ?_ ann3 h21 cont
 all_goals first | exact t3 | exact t7 | omega
theorem law2_ok (rl:ReadLib G) {rc d o r:PV} (hv:Vld d o r) (hop:Gives prog G 29 [.agg [d,o,r]] (openR [.agg [d,o,r]])) {a b:Nat} {t:List UInt8} {y:Int} {p:Bool} {l:List Nat} {c:Int} {es:List PV} {b7 j1 j2 k:Nat} {H:List (Nat × Ent)} {T:Tm} (hb:b < 256)
  (h:LawSt d o r a b t y p l c es b7 j1 j2 k H T) {kt:Kont} {an:Ann} (han:A1 3 = some an) {cd:Code} (hcd:fromReg 7 (Tryz.f3.body.getD .skip) = some cd)
  (cont:∀ T s,lookT T 6 = .bool true → retK prog (specEnv prog G (LS rc)) G A1 ⟨an,0⟩ kt .ret T s) :
  run prog (specEnv prog G (LS rc)) G A1 ⟨an,0⟩ T ⟨k,H,[]⟩ cd kt := by
 obtain rfl := Option.some.inj (ann3.symm.trans han)
 obtain rfl := Option.some.inj ((show fromReg 7 (Tryz.f3.body.getD .skip) = some _ by rfl).symm.trans hcd)
 obtain ⟨c12c,h12⟩:∃ c,fromReg 12 (Tryz.f3.body.getD .skip) = some c := ⟨_,rfl⟩
 have e12 := Option.some.inj ((show fromReg 12 (Tryz.f3.body.getD .skip) = some _ by rfl).symm.trans h12)
 rw [e12]
 clear e12
 obtain ⟨c21,h21⟩:∃ c,fromReg 21 (Tryz.f3.body.getD .skip) = some c := ⟨_,rfl⟩
 have e21 := Option.some.inj ((show fromReg 21 (Tryz.f3.body.getD .skip) = some _ by rfl).symm.trans h21)
 rw [e21]
 clear e21
 have h0 := h
 have rd1 := h.rd1
 have rd2 := h.rd2
 obtain ⟨l0,l1,l7,hc1,hc2,c12,ll,el,eb,b0,b1,b7k,lt,t2,t3,t4,t7⟩ := h
 obtain ⟨u1,u2,u3,u4⟩ := slv_ids j2 es.length
 obtain ⟨w1,w2,w3,w4⟩ := slv_ids j1 l.length
 have wb:IntKind.i64.wrap (b:Int) = (b:Int) := w_i64 (by omega)
 have lus:∀ E,Go.Pi.look (Go.Pi.upd H b7 E) b7 = some E := fun E => look_upd_same l7
 have fin:∀ (p':Bool) (c':Int) (m:Nat) (T':Tm),k ≤ m → lookT T' 3 = .ptr 0 0 0 → lookT T' 7 = .ptr b7 0 0 → run prog (specEnv prog G (LS rc)) G A1 ⟨_,0⟩ T' ⟨m,Go.Pi.upd H b7 ⟨4,[.agg [.bool p',slv j1 l.length,.int .i64 c',slv j2 es.length]]⟩,[]⟩ c21 kt := fun p' c' m T' hm n3 n7 =>
  law3_ok rl hv hop (v1 := slv j1 l.length) (v2 := slv j2 es.length) (rd_slv (fun hl => ⟨by rw [look_upd_ne (Ne.symm (hc1 hl).2.2.1)]; exact (hc1 hl).1,Nat.lt_of_lt_of_le (hc1 hl).2.1 hm⟩) (NL_len l) (by decide) ((pureL_iff _).1 (pure_NL l)))
   (rd_slv (fun hl => ⟨by rw [look_upd_ne (Ne.symm (hc2 hl).2.2.1)]; exact (hc2 hl).1,Nat.lt_of_lt_of_le (hc2 hl).2.1 hm⟩) rfl (by decide) fun v hv => (eb v hv).bd.pure)
   (isal_sv ll el fun w hw => (eb w hw).bd) (by rw [look_upd_ne b0]; exact l0) (lus _) n3 n7 ann3 h21 cont
 by_cases m0:(a:Int).tmod 6 = 0
 ·simp [tb,t2,t3,t4,t7,l1,l7,m0,wb,w1,w2,w3,u1,u2,u3]
  refine fin _ _ _ _ ?_ ?_ ?_
  all_goals first | exact t3 | exact t7 | omega
 have m0':((a:Int).tmod 6 == 0) = false := by rw [beq_eq_false_iff_ne]; exact m0
 by_cases m1:(a:Int).tmod 6 = 1
 ·simp [tb,t2,t3,t4,t7,l1,l7,m0',m1,wb,w1,w2,w3,u1,u2,u3]
  refine fin _ _ _ _ ?_ ?_ ?_
  all_goals first | exact t3 | exact t7 | omega
 have m1':((a:Int).tmod 6 == 1) = false := by rw [beq_eq_false_iff_ne]; exact m1
 simp [tb,t2,t3,t4,t7,l1,l7,m0',m1',wb,w1,w2,w3,u1,u2,u3]
 refine law2a_ok rl hv hop hb (h0.up ?_ ?_ ?_ ?_ ?_) ?_ ann3 h12 h21 cont
 all_goals first | rfl | omega
end Go.Proofs.Tryz
