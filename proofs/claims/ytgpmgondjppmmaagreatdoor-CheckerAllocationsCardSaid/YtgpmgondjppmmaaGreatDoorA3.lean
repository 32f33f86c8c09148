/- Sequences, calls, loops of the interpreter are sound. No condition. -/
import Derived.Test.YtgpmgondjppmmaaGreatDoorA2
set_option linter.unusedSectionVars false
set_option linter.unusedSimpArgs false
set_option linter.unusedVariables false
namespace Go.Pi
open Go.RowKit (Below)
variable [Hole]
theorem look_upd {α:Type} (h:List (Nat × α)) (k:Nat) (x:α) (r:Nat) (y:α) (hl:look (upd h k x) r = some y):(r = k ∧ y = x) ∨ (r ≠ k ∧ look h r = some y) := by
 induction h with
 | nil => simp [upd,look] at hl
 | cons p h ih =>
  obtain ⟨i,v⟩ := p
  simp only [upd,Bool.cond_eq_ite,nat_beq_eq] at hl
  split at hl
  ·rename_i hik
   subst hik
   simp only [look,Bool.cond_eq_ite,nat_beq_eq] at hl
   split at hl
   ·rename_i hir; cases hl; exact .inl ⟨hir.symm,rfl⟩
   ·rename_i hir; exact .inr ⟨fun e => hir e.symm,by simp only [look,Bool.cond_eq_ite,nat_beq_eq,if_neg hir]; exact hl⟩
  ·rename_i hik
   simp only [look,Bool.cond_eq_ite,nat_beq_eq] at hl ⊢
   split at hl
   ·rename_i hir; subst hir; cases hl; exact .inr ⟨hik,by simp⟩
   ·rename_i hir; rw [if_neg hir]; exact ih hl
theorem look_del {α:Type} (h:List (Nat × α)) (k r:Nat) (y:α) (hl:look (del h k) r = some y):r ≠ k ∧ look h r = some y := by
 induction h with
 | nil => simp [del,look] at hl
 | cons p h ih =>
  obtain ⟨i,v⟩ := p
  simp only [del,Bool.cond_eq_ite,nat_beq_eq] at hl
  split at hl
  ·rename_i hik
   subst hik
   have := ih hl
   exact ⟨this.1,by simp only [look,Bool.cond_eq_ite,nat_beq_eq,if_neg (Ne.symm this.1)]; exact this.2⟩
  ·rename_i hik
   simp only [look,Bool.cond_eq_ite,nat_beq_eq] at hl ⊢
   split at hl
   ·rename_i hir; subst hir; cases hl; exact ⟨hik,by simp⟩
   ·rename_i hir; rw [if_neg hir]; exact ih hl
theorem memB_append (a b:List Nat) (k:Nat):memB (a ++ b) k = (memB a k || memB b k) := by
 induction a with
 | nil => simp [memB]
 | cons x a ih => simp [memB,ih,Bool.or_assoc]
structure SRel (G:Nat → Option PV) (B0:Nat) (s:St) (w:World) (I:Nat → Prop) (M:Names):Prop where
 rel:Rel G B0 s.hp s.fz w I M
 names:∀ r l,M r = some l → r < s.next
 heap:∀ r e,s.hp r = some e → r < s.next
 froz:∀ r,s.fz r = true → r < s.next
structure Fwd (B0 n:Nat) (w:World) (I:Nat → Prop) (M:Names) (w':World) (I':Nat → Prop) (M':Names):Prop where
 below:Below B0 w w'
 keep:∀ b,I b → w'.heap[b]? = w.heap[b]?
 sub:∀ b,I b → I' b
 more:∀ b,I' b → I b ∨ B0 ≤ b
 names:∀ r,r < n → M' r = M r
theorem Fwd.refl (B0 n:Nat) (w:World) (I:Nat → Prop) (M:Names):Fwd B0 n w I M w I M := ⟨Below.refl _ _,fun _ _ => rfl,fun _ h => h,fun _ h => .inl h,fun _ _ => rfl⟩
theorem Fwd.trans {B0 n m:Nat} {w w1 w2:World} {I I1 I2:Nat → Prop} {M M1 M2:Names} (h:Fwd B0 n w I M w1 I1 M1) (h':Fwd B0 m w1 I1 M1 w2 I2 M2) (hm:n ≤ m):Fwd B0 n w I M w2 I2 M2 :=
 ⟨h.below.trans h'.below,fun b hb => (h'.keep b (h.sub b hb)).trans (h.keep b hb),fun b hb => h'.sub b (h.sub b hb),fun b hb => by
  rcases h'.more b hb with hb | hb
  ·exact h.more b hb
  ·exact .inr hb,fun r hr => (h'.names r (by omega)).trans (h.names r hr)⟩
theorem Fwd.mono {B0 n m:Nat} {w w1:World} {I I1:Nat → Prop} {M M1:Names} (h:Fwd B0 n w I M w1 I1 M1) (hm:m ≤ n):Fwd B0 m w I M w1 I1 M1 :=
 ⟨h.below,h.keep,h.sub,h.more,fun r hr => h.names r (by omega)⟩
theorem Rep.fwd {B0 n:Nat} {w w1:World} {I I1:Nat → Prop} {M M1:Names} (h:Fwd B0 n w I M w1 I1 M1) (hn:∀ r l,M r = some l → r < n) {v:PV} {x:Value} (hv:Rep w I M v x):Rep w1 I1 M1 v x :=
 hv.mono h.keep h.sub (fun r l hr => by rw [h.names r (hn r l hr)]; exact hr)
theorem Rel.less {G:Nat → Option PV} {B0:Nat} {hp hp':Nat → Option Ent} {fz fz':Nat → Bool} {w:World} {I:Nat → Prop} {M:Names} (h:Rel G B0 hp fz w I M) (hs:∀ r e,hp' r = some e → hp r = some e ∧ fz' r = fz r):Rel G B0 hp' fz' w I M :=
 ⟨fun r e he => h.ent r e (hs r e he).1,fun r e l he hm hz => h.live r e l (hs r e he).1 hm (by rw [← (hs r e he).2]; exact hz),fun r e l he hm hz => h.fro r e l (hs r e he).1 hm (by rw [← (hs r e he).2]; exact hz),
  fun r r' e e' l l' he he' hm hm' hz hb => h.inj r r' e e' l l' (hs r e he).1 (hs r' e' he').1 hm hm' (by rw [← (hs r e he).2]; exact hz) hb,h.bnd,h.glob,h.base⟩
theorem SRel.apply {G:Nat → Option PV} {B0:Nat} {s:St} {o:Out} {w w':World} {I I':Nat → Prop} {M M':Names} {x:Value} (h:SRel G B0 s w I M)
  (hd:Did G B0 (hpOut s.hp s.next o) (fzOut s.fz o) s.next w I M w' I' M' o.val x):SRel G B0 (s.apply o) w' I' M' ∧ Fwd B0 s.next w I M w' I' M' := by
 have hnext:(s.apply o).next = s.next+1 := by unfold St.apply; cases o.new <;> rfl
 have hz0:s.fz s.next = false := by
  cases hz:s.fz s.next with
  | false => rfl
  | true => have := h.froz _ hz; omega
 have hfz2:∀ r,(s.apply o).fz r = true → r < s.next := fun r hr => by
  unfold St.apply St.fz at hr
  simp only [addFr_eq] at hr
  cases hn:o.new with
  | some y => simp only [hn] at hr; exact h.froz r hr
  | none =>
   simp only [hn,memB_append,Bool.or_eq_true,memB_iff,List.mem_filter,blt_iff] at hr
   rcases hr with hr | hr
   ·exact hr.2
   ·exact h.froz r ((memB_iff _ _).2 hr)
 have hfz:∀ r,r < s.next ∨ (r = s.next ∧ o.new ≠ none) → (s.apply o).fz r = fzOut s.fz o r := fun r hr => by
  unfold St.apply fzOut
  simp only [addFr_eq]
  cases hn:o.new with
  | some y => rfl
  | none =>
   have hr:r < s.next := by
    rcases hr with hr | ⟨_,hr⟩
    ·exact hr
    ·exact absurd hn hr
   simp only [St.fz,memB_append]
   congr 1
   rw [Bool.eq_iff_iff,memB_iff,memB_iff,List.mem_filter,blt_iff]
   exact ⟨fun h => h.1,fun h => ⟨h,hr⟩⟩
 have h1:∀ r e,look (match o.wr with | some (q,x) => upd (match o.kill with | some r => del s.heap r | none => s.heap) q x | none => (match o.kill with | some r => del s.heap r | none => s.heap)) r = some e →
   (match o.wr with | some (q,x) => upF (match o.kill with | some r => upF s.hp r none | none => s.hp) q (some x) | none => (match o.kill with | some r => upF s.hp r none | none => s.hp)) r = some e ∧ r < s.next := by
  intro r e hl
  have hk:∀ r e,look (match o.kill with | some r => del s.heap r | none => s.heap) r = some e → (match o.kill with | some r => upF s.hp r none | none => s.hp) r = some e ∧ r < s.next := by
   intro r e hl
   cases hkl:o.kill with
   | none => simp only [hkl] at hl ⊢; exact ⟨hl,h.heap r e hl⟩
   | some q =>
    simp only [hkl] at hl ⊢
    obtain ⟨h2,h3⟩ := look_del _ _ _ _ hl
    exact ⟨by rw [upF_other _ _ _ _ h2]; exact h3,h.heap r e h3⟩
  cases hw:o.wr with
  | none => simp only [hw] at hl ⊢; exact hk r e hl
  | some p =>
   obtain ⟨q,y⟩ := p
   simp only [hw] at hl ⊢
   rcases look_upd _ _ _ _ _ hl with ⟨rfl,rfl⟩ | ⟨h2,h3⟩
   ·refine ⟨upF_same _ _ _,?_⟩
    have:∃ y',look (match o.kill with | some r => del s.heap r | none => s.heap) r = some y' := by
     clear hd hfz hfz2 hnext hk
     generalize (match o.kill with | some r => del s.heap r | none => s.heap) = hh at hl
     induction hh with
     | nil => simp [upd,look] at hl
     | cons p hh ih =>
      obtain ⟨i,v⟩ := p
      simp only [upd,Bool.cond_eq_ite,nat_beq_eq] at hl
      by_cases hir:i = r
      ·exact ⟨v,by simp [look,hir]⟩
      ·rw [if_neg hir] at hl
       simp only [look,Bool.cond_eq_ite,nat_beq_eq,if_neg hir] at hl ⊢
       exact ih hl
    obtain ⟨y',hy⟩ := this
    exact (hk r y' hy).2
   ·obtain ⟨h4,h5⟩ := hk r e h3
    exact ⟨by rw [upF_other _ _ _ _ h2]; exact h4,h5⟩
 have hsub:∀ r e,(s.apply o).hp r = some e → hpOut s.hp s.next o r = some e ∧ (r < s.next ∨ (r = s.next ∧ o.new ≠ none)) := by
  intro r e hl
  unfold St.hp St.apply at hl
  unfold hpOut
  cases hn:o.new with
  | none =>
   simp only [hn] at hl ⊢
   have := h1 r e hl
   exact ⟨this.1,.inl this.2⟩
  | some y =>
   simp only [hn,look,Bool.cond_eq_ite,nat_beq_eq] at hl ⊢
   split at hl
   ·rename_i hir; subst hir; cases hl; exact ⟨upF_same _ _ _,.inr ⟨rfl,by simp⟩⟩
   ·rename_i hir
    have := h1 r e hl
    exact ⟨by rw [upF_other _ _ _ _ (fun e => hir e.symm)]; exact this.1,.inl this.2⟩
 refine ⟨⟨hd.rel.less fun r e he => ⟨(hsub r e he).1,hfz r (hsub r e he).2⟩,?_,?_,?_⟩,hd.below,hd.keep,hd.sub,hd.more,fun r hr => hd.names r (by omega)⟩
 ·intro r l hm
  rw [hnext]
  by_cases hr:r = s.next
  ·omega
  ·rw [hd.names r hr] at hm; have := h.names r l hm; omega
 ·intro r e he; rw [hnext]; have := (hsub r e he).2; omega
 ·intro r hr; rw [hnext]; have := hfz2 r hr; omega
def Enters (P : Program) (f : FuncId) : Prop := ∃ fn, P.funcs[f]? = some fn ∧ fn.body.isSome = true ∧ fn.name ≠ "runtime.NumGoroutine"
def Sum (P:Program) (G:Nat → Option PV) (f:FuncId) (F:Fn1):Prop :=
 Enters P f ∧ ∀ as r,F as = some r → ∀ (w:World) (I:Nat → Prop) (xs:List Value),(∀ b,I b → b < w.heap.size) → GlobOk G w I → All2 (PRep w I) as xs →
  Calls P f xs.toArray w (fun e w' => ∃ x I',e = .returned x ∧ Below w.heap.size w w' ∧ (∀ b,I b → I' b) ∧ (∀ b,I' b → b < w'.heap.size ∧ (I b ∨ w.heap.size ≤ b)) ∧ PRep w' I' r x)
def EnvOk (P:Program) (G:Nat → Option PV) (env:Env):Prop := ∀ f F,env f = some F → Sum P G f F
def CallOk (P:Program) (G:Nat → Option PV) (callF:CallF):Prop :=
 ∀ f args st v st',callF f args st = some (v,st') → Enters P f ∧ st.next ≤ st'.next ∧ ∀ (B0:Nat) (w:World) (I:Nat → Prop) (M:Names) (xs:List Value),SRel G B0 st w I M → All2 (Rep w I M) args xs →
  Calls P f xs.toArray w (fun e w' => ∃ x I' M',e = .returned x ∧ Fwd B0 st.next w I M w' I' M' ∧ SRel G B0 st' w' I' M' ∧ Rep w' I' M' v x)
def TRel (w:World) (I:Nat → Prop) (M:Names) (T:Tm) (tmps:Array Value):Prop := ∀ t,Rep w I M (lookT T t) (tmps.getD t undef)
section
variable {P:Program} {G:Nat → Option PV} {B0:Nat} {w:World} {I:Nat → Prop} {M:Names} {s s':St} {T:Tm} {a:Act}
theorem lkIn_rep (hs:SRel G B0 s w I M) (hT:TRel w I M T a.tmps) (o:Operand):Rep w I M (lkIn G T o) (a.eval o) := by
 cases o with
 | tmp t => exact hT t
 | const v => exact rep_ofValue v
 | global g =>
  simp only [lkIn,Act.eval]
  cases hg:G g with
  | none => exact .top _
  | some e =>
   obtain ⟨h1,xs,h2,h3,_⟩ := hs.rel.glob g e hg
   exact .pure (.eptr e 0 g 0 xs h1 h2 h3.1 h3.2)
 | func f => exact .pure (.func f [] [] rfl (fun k v x a => by simp at a))
theorem TRel.fwd {n:Nat} {w1:World} {I1:Nat → Prop} {M1:Names} (h:Fwd B0 n w I M w1 I1 M1) (hn:∀ r l,M r = some l → r < n) (hT:TRel w I M T a.tmps):TRel w1 I1 M1 T a.tmps := fun t => (hT t).fwd h hn
theorem TRel.put {v:PV} {x:Value} {d:Option Tmp} (hT:TRel w I M T a.tmps) (hv:Rep w I M v x) (hd:∀ k,d = some k → k < a.tmps.size):TRel w I M (putT T d v) (a.put d x).tmps := by
 cases d with
 | none => exact hT
 | some k =>
  intro t
  simp only [putT,lookT,Bool.cond_eq_ite,nat_beq_eq,Act.put]
  have hk := hd k rfl
  by_cases h:k = t
  ·subst h
   simp only [if_true]
   have:(a.tmps.setIfInBounds k x).getD k undef = x := by simp [Array.getD,hk]
   rw [this]; exact hv
  ·rw [if_neg h]
   have:(a.tmps.setIfInBounds k x).getD t undef = a.tmps.getD t undef := by
    simp only [Array.getD_eq_getD_getElem?,Array.getElem?_setIfInBounds,if_neg h]
   rw [this]; exact hT t
theorem put_size (a:Act) (d:Option Tmp) (x:Value):(a.put d x).tmps.size = a.tmps.size := by cases d <;> simp [Act.put]
theorem put_defers (a:Act) (d:Option Tmp) (x:Value):(a.put d x).defers = a.defers := by cases d <;> rfl
theorem map_rep {lk:Operand → PV} {ρ:Operand → Value} (hlk:∀ y,Rep w I M (lk y) (ρ y)) (l:List Operand):All2 (Rep w I M) (l.map lk) (l.map ρ) := by
 refine ⟨by simp,fun k v x a b => ?_⟩
 simp only [List.getElem?_map,Option.map_eq_some_iff] at a b
 obtain ⟨y,hy,rfl⟩ := a
 obtain ⟨z,hz',rfl⟩ := b
 rw [hy] at hz'; cases hz'
 exact hlk y
theorem callOf_run {lk:Operand → PV} {ρ:Operand → Value} (hlk:∀ y,Rep w I M (lk y) (ρ y)) {o:Oper} {f:FuncId} {args:List PV} (h:callOf lk o.op = some (f,args)) (hf:Enters P f) :
  ∃ xs:List Value,All2 (Rep w I M) args xs ∧ (execOp ρ o).run P w = .ok (.enter f xs.toArray) w := by
 obtain ⟨dst,op,ty,ps,aft,gd⟩ := o
 simp only at h
 unfold callOf at h
 split at h
 case h_2 => cases h
 rename_i fo ops ats
 split at h
 case h_2 => cases h
 rename_i f' cap hfo
 cases h
 have := hfo ▸ hlk fo
 obtain ⟨caps,hc,hca⟩ := this.func_inv
 refine ⟨ops.toList.map ρ ++ caps,(map_rep hlk _).append hca,?_⟩
 obtain ⟨fn,h1,h2,h3⟩ := hf
 have hb:¬ fn.body = none := by intro e; rw [e] at h2; cases h2
 have hargs:(ops.map ρ) = (ops.toList.map ρ).toArray := by rw [← List.map_toArray,Array.toArray_toList]
 simp [execOp,resolve,Deferred.ofValue,hc,invoke,callFunc,h1,hb,h3,hargs,Result.andThen]
theorem envCall_wp {env:Env} (hE:EnvOk P G env) (hs:SRel G B0 s w I M) {f:FuncId} {args:List PV} {xs:List Value} (ha:All2 (Rep w I M) args xs) {out:Out} (h:envCall env s.hp f args = some out) :
  Enters P f ∧ Calls P f xs.toArray w (fun e w' => ∃ x I' M',e = .returned x ∧ Did G B0 (hpOut s.hp s.next out) (fzOut s.fz out) s.next w I M w' I' M' out.val x) := by
 unfold envCall at h
 split at h
 ·cases h
 rename_i F hF
 split at h
 case h_2 => cases h
 rename_i as l hre
 split at h
 case h_2 => cases h
 rename_i r hr
 cases h
 obtain ⟨hen,hsum⟩ := hE f F hF
 refine ⟨hen,?_⟩
 have hpure := reifyL_sound hs.rel args as l hre l (fun r hr => hr) xs ha
 have hfr := hs.rel.freeze l
 refine (hsum as r hr w _ xs hfr.bnd hfr.glob hpure).mono ?_
 rintro e w' ⟨x,I',rfl,hb,hsub,hbnd,hrep⟩
 have hkeep:∀ b,addI s.hp M I l b → w'.heap[b]? = w.heap[b]? := fun b hb' => hb.block b (hfr.bnd b hb')
 refine ⟨x,I',M,rfl,hb.mono hs.rel.base,fun b hb' => hkeep b (.inl hb'),fun b hb' => hsub b (.inl hb'),fun b hb' => ?_,fun _ _ => rfl,?_,.pure hrep⟩
 ·rcases (hbnd b hb').2 with h6 | h6
  ·exact hs.rel.addI_more h6
  ·exact .inr (Nat.le_trans hs.rel.base h6)
 have low:∀ r e l',s.hp r = some e → M r = some l' → l'.b < w.heap.size := fun r e l' h1 h2 => by
  obtain ⟨l2,h3,h4⟩ := hs.rel.ent r e h1
  rw [h2] at h3; cases h3; exact h4.size_lt
 refine ⟨fun r e he => ?_,?_,?_,hfr.inj,fun b hb' => (hbnd b hb').1,hfr.glob.mono hkeep hsub,Nat.le_trans hs.rel.base hb.size⟩
 ·obtain ⟨l',h1,h2⟩ := hfr.ent r e he
  exact ⟨l',h1,h2.mono (hb.block _ h2.size_lt) hkeep hsub (fun _ _ h => h)⟩
 ·intro r e l' h1 h2 h3
  obtain ⟨h4,h5⟩ := hfr.live r e l' h1 h2 h3
  refine ⟨fun hb' => ?_,h5⟩
  have h1':s.hp r = some e := h1
  rcases (hbnd _ hb').2 with h6 | h6
  ·exact h4 h6
  ·have := low r e l' h1' h2; omega
 ·intro r e l' h1 h2 h3
  exact hsub _ (hfr.fro r e l' h1 h2 h3)
theorem bareL_get {vs:List PV} (h:PV.bareL vs = true) {k:Nat} {v:PV} (hk:vs[k]? = some v):v.bareB = true := by
 induction vs generalizing k with
 | nil => simp at hk
 | cons a vs ih =>
  simp only [PV.bareL,Bool.and_eq_true] at h
  cases k with
  | zero => simp at hk; rw [← hk]; exact h.1
  | succ k => exact ih h.2 (by simpa using hk)
theorem PRep.bare {w:World} {I:Nat → Prop} (J:Nat → Prop) {v:PV} {x:Value} (h:PRep w I v x) (hb:v.bareB = true):PRep w J v x := by
 induction h with
 | bool b => exact .bool b
 | int k n => exact .int k n
 | str s => exact .str s
 | nil => exact .nil
 | empty a c => simp [PV.bareB] at hb
 | slice es sz b o cap xs h0 hu hI hc hx hl _ ih => simp [PV.bareB] at hb
 | eptr e off b o xs hI hx hl _ ih => simp [PV.bareB] at hb
 | nilPtr => exact .nilPtr
 | agg cs xs hl _ ih => exact .agg cs xs hl fun k v x a b => ih k v x a b (bareL_get (by simpa [PV.bareB] using hb) a)
 | tuple cs xs hl _ ih => exact .tuple cs xs hl fun k v x a b => ih k v x a b (bareL_get (by simpa [PV.bareB] using hb) a)
 | func f cs xs hl _ ih => simp [PV.bareB] at hb
 | nilFunc => exact .nilFunc
 | iface t v x _ ih => exact .iface t v x (ih (by simpa [PV.bareB] using hb))
 | nilIface => exact .nilIface
 | hole k => exact .hole k
 | any x h => exact .any x h
theorem envThaw_wp {env:Env} (hE:EnvOk P G env) (hs:SRel G B0 s w I M) {f:FuncId} {args:List PV} {xs:List Value} (ha:All2 (Rep w I M) args xs) {out:Out} (h:envCall env s.hp f args = some out) :
  Enters P f ∧ Calls P f xs.toArray w (fun e w' => ∃ x I' M',e = .returned x ∧ Did G B0 (hpOut s.hp s.next (thaw out)) (fzOut s.fz (thaw out)) s.next w I M w' I' M' (thaw out).val x) := by
 cases hbare:out.val.bareB
 ·have:thaw out = out := by unfold thaw; rw [hbare]; rfl
  rw [this]
  exact envCall_wp hE hs ha h
 ·unfold envCall at h
  split at h
  ·cases h
  rename_i F hF
  split at h
  case h_2 => cases h
  rename_i as l hre
  split at h
  case h_2 => cases h
  rename_i r hr
  cases h
  obtain ⟨hen,hsum⟩ := hE f F hF
  refine ⟨hen,?_⟩
  have ht:thaw { val := r,fr := l } = { val := r } := by unfold thaw; rw [hbare]; rfl
  rw [ht]
  have hpure := reifyL_sound hs.rel args as l hre l (fun r hr => hr) xs ha
  have hfr := hs.rel.freeze l
  refine (hsum as r hr w _ xs hfr.bnd hfr.glob hpure).mono ?_
  rintro e w' ⟨x,I',rfl,hb,hsub,hbnd,hrep⟩
  have hkeep:∀ b,I b → w'.heap[b]? = w.heap[b]? := fun b hb' => hb.block b (hs.rel.bnd b hb')
  refine ⟨x,I,M,rfl,hb.mono hs.rel.base,hkeep,fun b hb' => hb',fun b hb' => .inl hb',fun _ _ => rfl,?_,.pure (hrep.bare I hbare)⟩
  refine ⟨fun r e he => ?_,hs.rel.live,hs.rel.fro,hs.rel.inj,fun b hb' => Nat.lt_of_lt_of_le (hs.rel.bnd b hb') hb.size,hs.rel.glob.mono hkeep (fun b h => h),Nat.le_trans hs.rel.base hb.size⟩
  obtain ⟨l',h1,h2⟩ := hs.rel.ent r e he
  exact ⟨l',h1,h2.mono (hb.block _ h2.size_lt) hkeep (fun b h => h) (fun _ _ h => h)⟩
theorem stepOp_wp {env:Env} (hE:EnvOk P G env) {callF:CallF} (hC:CallOk P G callF) (hs:SRel G B0 s w I M) (hT:TRel w I M T a.tmps) {o:Oper} {v:PV} (h:stepOp P env G callF T s o.op = some (v,s')) :
  s.next ≤ s'.next ∧ ∀ (next:Act → World → Prop) (Q:Exit → Act → World → Prop),
   (∀ x w' I' M',Fwd B0 s.next w I M w' I' M' → SRel G B0 s' w' I' M' → Rep w' I' M' v x → next (a.put o.dst x) w') → o.wp P a w next Q := by
 have hlk := lkIn_rep hs hT
 unfold stepOp at h
 split at h
 ·rename_i f args hc
  split at h
  ·rename_i out hout
   cases h
   refine ⟨by unfold St.apply; cases (thaw out).new <;> simp,fun next Q hn => ?_⟩
   have hv:(thaw out).val = out.val := by unfold thaw; cases out.val.bareB <;> rfl
   unfold envCall at hout
   cases hF:env f with
   | none => simp [hF] at hout
   | some F =>
    have hen := (hE f F hF).1
    obtain ⟨xs,hxs,hrun⟩ := callOf_run (P := P) hlk hc hen
    have := (envThaw_wp hE hs hxs (out := out) (by unfold envCall; exact hout)).2
    rw [← hv] at hn
    unfold Oper.wp
    rw [hrun,Oper.upon_enter]
    refine this.mono ?_
    rintro e w' ⟨x,I',M',rfl,hd⟩
    obtain ⟨h1,h2⟩ := hs.apply hd
    exact hn x w' I' M' h2 h1 hd.val
  ·obtain ⟨hen,hle,hcalls⟩ := hC _ _ _ _ _ h
   refine ⟨hle,fun next Q hn => ?_⟩
   obtain ⟨xs,hxs,hrun⟩ := callOf_run (P := P) hlk hc hen
   unfold Oper.wp
   rw [hrun,Oper.upon_enter]
   refine (hcalls B0 w I M xs hs hxs).mono ?_
   rintro e w' ⟨x,I',M',rfl,h1,h2,h3⟩
   exact hn x w' I' M' h1 h2 h3
 ·split at h
  case h_2 => cases h
  rename_i out hout
  cases h
  refine ⟨by unfold St.apply; cases out.new <;> simp,fun next Q hn => ?_⟩
  have hf:M s.next = none := by
   cases hm:M s.next with
   | none => rfl
   | some l => have := hs.names _ l hm; omega
  have hh:s.hp s.next = none := by
   cases hm:s.hp s.next with
   | none => rfl
   | some l => have := hs.heap _ l hm; omega
  have hz:s.fz s.next = false := by
   cases hm:s.fz s.next with
   | false => rfl
   | true => have := hs.froz _ hm; omega
  obtain ⟨x,w',I',M',hrun,hd⟩ := evalOp_sound (P := P) hs.rel hf hh hz hlk hout
  obtain ⟨h1,h2⟩ := hs.apply hd
  have hgo := hn x w' I' M' h2 h1 hd.val
  unfold Oper.wp
  rcases hrun with hrun | ⟨hrun,rfl⟩
  ·rw [hrun,Oper.upon_value]; exact hgo
  ·rw [hrun,Oper.upon_skip]; exact hgo
theorem apply_next (s:St) (o:Out):s.next ≤ (s.apply o).next := by unfold St.apply; cases o.new <;> simp
theorem stepOp_next {env:Env} {callF:CallF} (hC:CallOk P G callF) {op:Op} {v:PV} (h:stepOp P env G callF T s op = some (v,s')):s.next ≤ s'.next := by
 unfold stepOp at h
 split at h
 ·split at h
  ·cases h; exact apply_next _ _
  ·exact (hC _ _ _ _ _ h).2.1
 ·split at h
  ·cases h; exact apply_next _ _
  ·cases h
theorem seqOps_next {env:Env} {callF:CallF} (hC:CallOk P G callF) {ops:List Oper}:∀ (rest:List Oper) (T:Tm) (s:St) (T':Tm) (s':St),seqOps P env G callF ops rest T s = some (T',s') → s.next ≤ s'.next
 | [],T,s,T',s',h => by simp only [seqOps,Option.some.injEq,Prod.mk.injEq] at h; obtain ⟨_,rfl⟩ := h; exact Nat.le_refl _
 | o :: rest,T,s,T',s',h => by
  simp only [seqOps] at h
  split at h
  ·split at h
   case h_2 => cases h
   rename_i v s1 h1
   exact Nat.le_trans (stepOp_next hC h1) (seqOps_next hC rest _ _ _ _ h)
  ·exact seqOps_next hC rest _ _ _ _ h
  ·cases h
theorem wanted_sound {opsA:Array Oper} (hT:TRel w I M T a.tmps) {o:Oper} {b:Bool} (h:wantedP opsA.toList T o = some b):Region.wanted o (yielded opsA a.tmps) = b := by
 unfold wantedP at h
 unfold Region.wanted
 cases hg:o.guard with
 | none => simp only [hg,Option.some.injEq] at h; subst h; rfl
 | some p =>
  obtain ⟨j,want⟩ := p
  simp only [hg] at h ⊢
  split at h
  ·cases h
  rename_i d hd
  have hd':(opsA[j]?).bind (·.dst) = some d := by simpa using hd
  have hv := hT d
  unfold yielded
  simp only [hd',Option.bind_some]
  split at h
  ·rename_i c hc
   rw [hc] at hv
   have := hv.bool_inv
   cases h
   have hget:a.tmps[d]? = some (.bool c) := by
    simp only [Array.getD_eq_getD_getElem?] at this
    cases hx:a.tmps[d]? with
    | none => simp [hx,undef] at this
    | some y => simp [hx] at this; rw [this]
   simp only [hget]
   cases c <;> cases want <;> rfl
  ·rename_i vs hc
   rw [hc] at hv
   obtain ⟨xs,hx,_⟩ := hv.tuple_inv
   cases h
   cases hy:a.tmps[d]? with
   | none => rfl
   | some y =>
    simp only [Array.getD_eq_getD_getElem?,hy,Option.getD_some] at hx
    subst hx; rfl
  ·cases h
theorem seqOps_wp {env:Env} (hE:EnvOk P G env) {callF:CallF} (hC:CallOk P G callF) {opsA:Array Oper} {n:Nat} (hd:dstsOk n opsA.toList = true) {Q:Exit → Act → World → Prop}:∀ (rest:List Oper) (i:Nat) (T:Tm) (s:St) (T':Tm) (s':St) (a:Act) (w:World) (I:Nat → Prop) (M:Names),
  seqOps P env G callF opsA.toList rest T s = some (T',s') → opsA.toList.drop i = rest → a.tmps.size = n → SRel G B0 s w I M → TRel w I M T a.tmps →
  (∀ a' w' I' M',a'.tmps.size = n → a'.defers = a.defers → Fwd B0 s.next w I M w' I' M' → SRel G B0 s' w' I' M' → TRel w' I' M' T' a'.tmps → Q .normal a' w') → wpOps P opsA Q (List.range' i rest.length) a w
 | [],i,T,s,T',s',a,w,I,M,h,hi,hn,hs,hT,hq => by
  simp only [seqOps,Option.some.injEq,Prod.mk.injEq] at h
  obtain ⟨rfl,rfl⟩ := h
  simpa [wpOps] using hq a w I M hn rfl (Fwd.refl _ _ _ _ _) hs hT
 | o :: rest,i,T,s,T',s',a,w,I,M,h,hi,hn,hs,hT,hq => by
  have ho:opsA[i]? = some o := by
   have:(opsA.toList.drop i)[0]? = some o := by rw [hi]; rfl
   rw [List.getElem?_drop] at this
   simpa using this
  have hi':opsA.toList.drop (i+1) = rest := by
   rw [← List.drop_drop,hi]; rfl
  have hmem:o ∈ opsA.toList := List.mem_of_getElem? (by simpa using ho)
  have hdo:∀ k,o.dst = some k → k < n := fun k hk => by
   have := List.all_eq_true.1 hd o hmem
   simp only [hk,blt_iff] at this; exact this
  simp only [seqOps] at h
  rw [List.length_cons,List.range'_succ]
  simp only [wpOps,ho]
  split at h
  ·rename_i hw
   rw [wanted_sound hT hw]
   split at h
   case h_2 => cases h
   rename_i v s1 hstep
   obtain ⟨hle,hwp⟩ := stepOp_wp hE hC hs hT hstep
   simp only [if_true]
   refine .inl (hwp _ _ fun x w' I' M' hf hs1 hv => ?_)
   refine seqOps_wp hE hC hd (Q := Q) rest (i+1) (putT T o.dst v) s1 T' s' (a.put o.dst x) w' I' M' h hi' (by rw [put_size]; exact hn) hs1 ((hT.fwd hf hs.names).put hv (fun k hk => by rw [hn]; exact hdo k hk)) fun a2 w2 I2 M2 h1 h2 h3 h4 h5 => ?_
   exact hq a2 w2 I2 M2 h1 (h2.trans (put_defers _ _ _)) (hf.trans h3 hle) h4 h5
  ·rename_i hw
   rw [wanted_sound hT hw]
   simp only [Bool.false_eq_true,if_false]
   refine seqOps_wp hE hC hd (Q := Q) rest (i+1) (putT T o.dst undefP) s T' s' (a.put o.dst undef) w I M h hi' (by rw [put_size]; exact hn) hs (hT.put undef_rep (fun k hk => by rw [hn]; exact hdo k hk)) fun a2 w2 I2 M2 h1 h2 h3 h4 h5 => ?_
   exact hq a2 w2 I2 M2 h1 (h2.trans (put_defers _ _ _)) h3 h4 h5
  ·cases h
end
theorem lookT_restrict (keep:List Nat) (T:Tm) (t:Nat):lookT (restrict keep T) t = .top ∨ lookT (restrict keep T) t = lookT T t := by
 induction keep with
 | nil => exact .inl rfl
 | cons i keep ih =>
  simp only [restrict,List.map_cons,lookT,Bool.cond_eq_ite,nat_beq_eq]
  by_cases h:i = t
  ·rw [if_pos h]; subst h; exact .inr rfl
  ·rw [if_neg h]; exact ih
theorem lookT_map (f:PV → PV) (hf:f .top = .top) (T:Tm) (t:Nat):lookT (T.map fun (i,v) => (i,f v)) t = f (lookT T t) := by
 induction T with
 | nil => simp [lookT,hf]
 | cons p T ih =>
  obtain ⟨i,v⟩ := p
  simp only [List.map_cons,lookT,Bool.cond_eq_ite,nat_beq_eq]
  by_cases h:i = t
  ·rw [if_pos h,if_pos h]
  ·rw [if_neg h,if_neg h]; exact ih
section
variable {w:World} {I:Nat → Prop} {M M':Names} {f:Nat → Option Nat}
theorem TRel.restrict {T:Tm} {tmps:Array Value} (h:TRel w I M T tmps) (keep:List Nat):TRel w I M (restrict keep T) tmps := fun t => by
 rcases lookT_restrict keep T t with e | e <;> rw [e]
 ·exact .top _
 ·exact h t
theorem renameL_eq (f:Nat → Option Nat) (vs:List PV):PV.renameL f vs = vs.map (PV.rename f) := by
 induction vs with
 | nil => rfl
 | cons v vs ih => simp [PV.renameL,ih]
theorem rename_cells (v:PV):(PV.rename f v).cells = v.cells.map (PV.rename f) := by
 cases v with
 | agg cs => simp [PV.rename,PV.cells,renameL_eq]
 | own r lo len => simp only [PV.rename,PV.cells,List.map_cons,List.map_nil]; cases f r <;> rfl
 | ptr r i o => simp only [PV.rename,PV.cells,List.map_cons,List.map_nil]; cases f r <;> rfl
 | omap r => simp only [PV.rename,PV.cells,List.map_cons,List.map_nil]; cases f r <;> rfl
 | ownF r lo len => simp only [PV.rename,PV.cells,List.map_cons,List.map_nil]; cases f r <;> rfl
 | _ => rfl
theorem Rep.rename (hf:∀ r r',f r = some r' → M' r' = M r) {v:PV} {x:Value} (h:Rep w I M v x):Rep w I M' (PV.rename f v) x := by
 have pureCase:∀ {v:PV} {x:Value},PRep w I v x → Rep w I M' (PV.rename f v) x := by
  intro v x h
  induction h with
  | agg cs xs hl _ ih =>
   rw [PV.rename,renameL_eq]
   refine .agg _ _ (by simpa using hl) fun k v x a b => ?_
   simp only [List.getElem?_map,Option.map_eq_some_iff] at a
   obtain ⟨u,hu,rfl⟩ := a
   exact ih k u x hu b
  | tuple cs xs hl _ ih =>
   rw [PV.rename,renameL_eq]
   refine .tuple _ _ (by simpa using hl) fun k v x a b => ?_
   simp only [List.getElem?_map,Option.map_eq_some_iff] at a
   obtain ⟨u,hu,rfl⟩ := a
   exact ih k u x hu b
  | func g cs xs hl _ ih =>
   rw [PV.rename,renameL_eq]
   refine .func _ _ _ (by simpa using hl) fun k v x a b => ?_
   simp only [List.getElem?_map,Option.map_eq_some_iff] at a
   obtain ⟨u,hu,rfl⟩ := a
   exact ih k u x hu b
  | iface t v x _ ih => exact .iface t _ _ ih
  | bool b => exact .pure (.bool b)
  | int k n => exact .pure (.int k n)
  | str s => exact .pure (.str s)
  | nil => exact .pure .nil
  | empty a c => exact .pure (.empty a c)
  | slice es sz b o cap xs h0 hu hb hc hx hl h _ => exact .pure (.slice es sz b o cap xs h0 hu hb hc hx hl h)
  | eptr e off b o xs hb hx hl h _ => exact .pure (.eptr e off b o xs hb hx hl h)
  | nilPtr => exact .pure .nilPtr
  | nilFunc => exact .pure .nilFunc
  | nilIface => exact .pure .nilIface
  | hole k => exact .pure (.hole k)
  | any x h => exact .pure (.any x h)
 induction h with
 | top x => exact .top x
 | pure h => exact pureCase h
 | own r lo len cap l hm h1 h2 h3 =>
  rw [PV.rename]
  cases hr:f r with
  | none => exact .top _
  | some r' => exact .own r' lo len cap l ((hf r r' hr).trans hm) h1 h2 h3
 | ptr r i off l hm =>
  rw [PV.rename]
  cases hr:f r with
  | none => exact .top _
  | some r' => exact .ptr r' i off l ((hf r r' hr).trans hm)
 | omap r l hm =>
  rw [PV.rename]
  cases hr:f r with
  | none => exact .top _
  | some r' => exact .omap r' l ((hf r r' hr).trans hm)
 | ownF r lo len l hm =>
  rw [PV.rename]
  cases hr:f r with
  | none => exact .top _
  | some r' => exact .ownF r' lo len l ((hf r r' hr).trans hm)
 | agg cs xs hl _ ih =>
  rw [PV.rename,renameL_eq]
  refine .agg _ _ (by simpa using hl) fun k v x a b => ?_
  simp only [List.getElem?_map,Option.map_eq_some_iff] at a
  obtain ⟨u,hu,rfl⟩ := a
  exact ih k u x hu b
 | tuple cs xs hl _ ih =>
  rw [PV.rename,renameL_eq]
  refine .tuple _ _ (by simpa using hl) fun k v x a b => ?_
  simp only [List.getElem?_map,Option.map_eq_some_iff] at a
  obtain ⟨u,hu,rfl⟩ := a
  exact ih k u x hu b
 | func g cs xs hl _ ih =>
  rw [PV.rename,renameL_eq]
  refine .func _ _ _ (by simpa using hl) fun k v x a b => ?_
  simp only [List.getElem?_map,Option.map_eq_some_iff] at a
  obtain ⟨u,hu,rfl⟩ := a
  exact ih k u x hu b
 | iface t v x _ ih => exact .iface t _ _ ih
end
theorem look_filter (base:Nat) {α:Type} (h:List (Nat × α)) (r:Nat) (e:α) (hl:look (h.filter fun (r,_) => Nat.blt r base) r = some e):r < base ∧ look h r = some e := by
 induction h with
 | nil => simp [look] at hl
 | cons p h ih =>
  obtain ⟨i,v⟩ := p
  simp only [List.filter_cons] at hl
  by_cases hi:i < base
  ·rw [if_pos (by simpa [blt_iff] using hi)] at hl
   simp only [look,Bool.cond_eq_ite,nat_beq_eq] at hl ⊢
   split at hl
   ·rename_i hir; subst hir; cases hl; exact ⟨hi,by simp⟩
   ·rename_i hir; rw [if_neg hir]; exact ih hl
  ·rw [if_neg (by simpa [blt_iff] using hi)] at hl
   obtain ⟨h1,h2⟩ := ih hl
   refine ⟨h1,?_⟩
   simp only [look,Bool.cond_eq_ite,nat_beq_eq]
   rw [if_neg (by omega)]; exact h2
theorem look_mapV {α β:Type} (g:α → β) (h:List (Nat × α)) (r:Nat) (e:β) (hl:look (h.map fun (r,e) => (r,g e)) r = some e):∃ e0,look h r = some e0 ∧ e = g e0 := by
 induction h with
 | nil => simp [look] at hl
 | cons p h ih =>
  obtain ⟨i,v⟩ := p
  simp only [List.map_cons,look,Bool.cond_eq_ite,nat_beq_eq] at hl ⊢
  split at hl
  ·rename_i hir; cases hl; exact ⟨v,by rw [if_pos hir],rfl⟩
  ·rename_i hir; rw [if_neg hir]; exact ih hl
theorem look_append {α:Type} (a b:List (Nat × α)) (r:Nat) (e:α) (hl:look (a ++ b) r = some e):look a r = some e ∨ look b r = some e := by
 induction a with
 | nil => exact .inr hl
 | cons p a ih =>
  obtain ⟨i,v⟩ := p
  simp only [List.cons_append,look,Bool.cond_eq_ite,nat_beq_eq] at hl ⊢
  split at hl
  ·rename_i hir; rw [if_pos hir]; exact .inl hl
  ·rename_i hir; rw [if_neg hir]; exact ih hl
theorem look_mem {α:Type} (a:List (Nat × α)) (r:Nat) (e:α) (hl:look a r = some e):(r,e) ∈ a := by
 induction a with
 | nil => simp [look] at hl
 | cons p a ih =>
  obtain ⟨i,v⟩ := p
  simp only [look,Bool.cond_eq_ite,nat_beq_eq] at hl
  split at hl
  ·rename_i hir; subst hir; cases hl; exact List.mem_cons_self
  ·exact List.mem_cons_of_mem _ (ih hl)
theorem indexOf_spec:∀ (l:List Nat) (k i j:Nat),indexOf l k i = some j → i ≤ j ∧ l[j - i]? = some k
 | [],k,i,j,h => by simp [indexOf] at h
 | a :: l,k,i,j,h => by
  simp only [indexOf,Bool.cond_eq_ite,nat_beq_eq] at h
  split at h
  ·rename_i hak; cases h; subst hak; exact ⟨Nat.le_refl _,by simp⟩
  ·obtain ⟨h1,h2⟩ := indexOf_spec l k (i+1) j h
   exact ⟨by omega,by rw [show j - i = (j - (i+1))+1 by omega]; simpa using h2⟩
theorem newName_spec {base:Nat} {seen:List Nat} {r r':Nat} (h:newName base seen r = some r'):(r < base ∧ r' = r) ∨ (base ≤ r ∧ base ≤ r' ∧ r' < base + seen.length ∧ seen[r' - base]? = some r) := by
 unfold newName at h
 simp only [Bool.cond_eq_ite,blt_iff] at h
 split at h
 ·rename_i hr; cases h; exact .inl ⟨hr,rfl⟩
 ·rename_i hr
  simp only [Option.map_eq_some_iff] at h
  obtain ⟨j,hj,rfl⟩ := h
  obtain ⟨_,h2⟩ := indexOf_spec _ _ _ _ hj
  have hlt:j < seen.length := by
   have := (List.getElem?_eq_some_iff.1 h2).1; simpa using this
  exact .inr ⟨by omega,by omega,by omega,by rw [show base + j - base = j by omega]; simpa using h2⟩
section
variable {G:Nat → Option PV} {B0:Nat} {w:World} {I:Nat → Prop} {M:Names} {s:St} {T:Tm}
def newNames (base:Nat) (seen:List Nat) (M:Names):Names := fun r' => if r' < base then M r' else (seen[r' - base]?).bind M
theorem newNames_spec {base:Nat} {seen:List Nat} {r r':Nat} (h:newName base seen r = some r'):newNames base seen M r' = M r := by
 rcases newName_spec h with ⟨h1,rfl⟩ | ⟨_,h2,_,h3⟩
 ·simp [newNames,h1]
 ·simp [newNames,Nat.not_lt.2 h2,h3]
theorem MapRep.rename {M':Names} {f:Nat → Option Nat} (hf:∀ r r',f r = some r' → M' r' = M r) {ps:List PV} {es:List MapEntry} (h:MapRep w I M ps es):MapRep w I M' (PV.renameL f ps) es := by
 induction h with
 | nil => exact .nil
 | cons k v r e es hk hv _ ih => exact .cons _ _ _ e es (hk.rename hf) (hv.rename hf) ih
theorem EntRep.rename {M':Names} {f:Nat → Option Nat} (hf:∀ r r',f r = some r' → M' r' = M r) {l:Loc} {e:Ent} (h:EntRep w I M l e):EntRep w I M' l ⟨e.sz,PV.renameL f e.es⟩ := by
 obtain ⟨h1,h2,h3⟩ := h
 refine ⟨h1,by rw [renameL_eq]; simpa using h2,?_⟩
 rcases h3 with ⟨h0,hu,c,elem,hc,hs,hl,hv⟩ | ⟨h0,s,pos,he,hb0,hc⟩ | ⟨h0,ps,ents,clock,he,hb0,hc,hm⟩
 ·refine .inl ⟨h0,?_,c,elem,hc,hs,hl,fun k p hk => ?_⟩
  ·intro v hv'
   rw [renameL_eq] at hv'
   obtain ⟨u,hu1,rfl⟩ := List.mem_map.1 hv'
   rw [rename_cells]; simpa using hu u hu1
  ·have:flat (PV.renameL f e.es) = (flat e.es).map (PV.rename f) := by
    rw [renameL_eq]
    clear hv hk hu h2
    generalize e.es = es
    induction es with
    | nil => rfl
    | cons v vs ih => rw [List.map_cons,flat_cons,flat_cons,ih,rename_cells,List.map_append]
   simp only [this,List.getElem?_map,Option.map_eq_some_iff] at hk
   obtain ⟨q,hq,rfl⟩ := hk
   obtain ⟨x,h4,h5⟩ := hv k q hq
   exact ⟨x,h4,h5.rename hf⟩
 ·refine .inr (.inl ⟨h0,s,pos,?_,hb0,hc⟩)
  rw [he]; rfl
 ·refine .inr (.inr ⟨h0,_,ents,clock,?_,hb0,hc,hm.rename hf⟩)
  rw [he]; rfl
theorem gcAll_sound (hs:SRel G B0 s w I M) {a:Act} (hT:TRel w I M T a.tmps) (cx:Cx) (body:Code) :
  ∃ M',SRel G B0 (gcAll cx body T s).2 w I M' ∧ TRel w I M' (gcAll cx body T s).1 a.tmps ∧ (∀ r,r < cx.base → M' r = M r) ∧ cx.base ≤ (gcAll cx body T s).2.next := by
 unfold gcAll
 simp only
 generalize hseen:reach s.heap cx.base _ _ [] = seen
 refine ⟨newNames cx.base seen M,?_,?_,fun r hr => by simp [newNames,hr],by simp⟩
 ·have hf:∀ r r',newName cx.base seen r = some r' → newNames cx.base seen M r' = M r := fun r r' h => newNames_spec h
  have hent:∀ r' e',look ((s.heap.filter fun (r,_) => Nat.blt r cx.base).map (fun (r,e) => (r,(⟨e.sz,PV.renameL (newName cx.base seen) e.es⟩:Ent))) ++
    seen.filterMap (fun r => match newName cx.base seen r,look s.heap r with | some k,some e => some (k,(⟨e.sz,PV.renameL (newName cx.base seen) e.es⟩:Ent)) | _,_ => none)) r' = some e' →
    ∃ r e,newName cx.base seen r = some r' ∧ s.hp r = some e ∧ e' = ⟨e.sz,PV.renameL (newName cx.base seen) e.es⟩ := by
   intro r' e' hl
   rcases look_append _ _ _ _ hl with hl | hl
   ·obtain ⟨e0,h1,rfl⟩ := look_mapV (fun e:Ent => (⟨e.sz,PV.renameL (newName cx.base seen) e.es⟩:Ent)) _ _ _ hl
    obtain ⟨h2,h3⟩ := look_filter _ _ _ _ h1
    exact ⟨r',e0,by simp [newName,blt_iff.2 h2],h3,rfl⟩
   ·have := look_mem _ _ _ hl
    obtain ⟨r,_,h1⟩ := List.mem_filterMap.1 this
    split at h1
    ·rename_i k e hk he
     cases h1
     exact ⟨r,e,hk,he,rfl⟩
    ·cases h1
  have hinjN:∀ q r r',newName cx.base seen q = some r' → newName cx.base seen r = some r' → q = r := by
   intro q r r' h1 h2
   rcases newName_spec h1 with ⟨a1,rfl⟩ | ⟨a1,a2,a3,a4⟩ <;> rcases newName_spec h2 with ⟨b1,b2⟩ | ⟨b1,b2,b3,b4⟩
   ·exact b2
   ·omega
   ·omega
   ·rw [a4] at b4; cases b4; rfl
  have hfz:∀ r r',newName cx.base seen r = some r' → memB (s.froz.filterMap (newName cx.base seen)) r' = s.fz r := by
   intro r r' h
   rw [Bool.eq_iff_iff,memB_iff]
   constructor
   ·intro hm
    obtain ⟨q,h1,h2⟩ := List.mem_filterMap.1 hm
    rw [hinjN q r r' h2 h] at h1
    exact (memB_iff _ _).2 h1
   ·intro hm
    exact List.mem_filterMap.2 ⟨r,(memB_iff _ _).1 hm,h⟩
  have hnb:∀ r r',newName cx.base seen r = some r' → r' < cx.base + seen.length := fun r r' h => by
   rcases newName_spec h with ⟨h1,rfl⟩ | ⟨_,_,h3,_⟩ <;> omega
  refine ⟨⟨?_,?_,?_,?_,hs.rel.bnd,hs.rel.glob,hs.rel.base⟩,?_,?_,?_⟩
  ·intro r' e' he
   obtain ⟨r,e,h1,h2,rfl⟩ := hent r' e' he
   obtain ⟨l,h3,h4⟩ := hs.rel.ent r e h2
   exact ⟨l,(hf r r' h1).trans h3,h4.rename hf⟩
  ·intro r' e' l he hm hz
   obtain ⟨r,e,h1,h2,rfl⟩ := hent r' e' he
   exact hs.rel.live r e l h2 ((hf r r' h1).symm.trans hm) ((hfz r r' h1).symm.trans hz)
  ·intro r' e' l he hm hz
   obtain ⟨r,e,h1,h2,rfl⟩ := hent r' e' he
   exact hs.rel.fro r e l h2 ((hf r r' h1).symm.trans hm) ((hfz r r' h1).symm.trans hz)
  ·intro r1 r2 e1 e2 l1 l2 he1 he2 hm1 hm2 hz hb
   obtain ⟨q1,d1,a1,b1,rfl⟩ := hent r1 e1 he1
   obtain ⟨q2,d2,a2,b2,rfl⟩ := hent r2 e2 he2
   have := hs.rel.inj q1 q2 d1 d2 l1 l2 b1 b2 ((hf q1 r1 a1).symm.trans hm1) ((hf q2 r2 a2).symm.trans hm2) ((hfz q1 r1 a1).symm.trans hz) hb
   subst this
   rw [a1] at a2; cases a2; rfl
  ·intro r' l hm
   simp only [newNames] at hm
   split at hm
   ·rename_i hlt; simp only; omega
   ·simp only [Option.bind_eq_some_iff] at hm
    obtain ⟨q,hq,_⟩ := hm
    have := (List.getElem?_eq_some_iff.1 hq).1
    simp only; omega
  ·intro r' e' he
   obtain ⟨r,e,h1,_,_⟩ := hent r' e' he
   exact hnb r r' h1
  ·intro r' hr'
   obtain ⟨q,_,h2⟩ := List.mem_filterMap.1 ((memB_iff _ _).1 hr')
   exact hnb q r' h2
 ·intro t
  rw [lookT_map (PV.rename (newName cx.base seen)) rfl]
  exact ((hT.restrict _) t).rename fun r r' h => newNames_spec h
theorem gc_next (cx:Cx) (body:Code) (T:Tm) (s:St) (hb:cx.base ≤ s.next):cx.base ≤ (gc cx body T s).2.next := by
 unfold gc
 cases (cx.ann.noGc || Nat.blt s.heap.length 48)
 ·simp only [cond_false]; unfold gcAll; simp
 ·simpa using hb
theorem gc_sound (hs:SRel G B0 s w I M) {a:Act} (hT:TRel w I M T a.tmps) (cx:Cx) (body:Code) (hb:cx.base ≤ s.next) :
  ∃ M',SRel G B0 (gc cx body T s).2 w I M' ∧ TRel w I M' (gc cx body T s).1 a.tmps ∧ (∀ r,r < cx.base → M' r = M r) ∧ cx.base ≤ (gc cx body T s).2.next := by
 have hn := gc_next cx body T s hb
 unfold gc at hn ⊢
 cases hc:(cx.ann.noGc || Nat.blt s.heap.length 48)
 ·simp only [cond_false]
  exact gcAll_sound hs hT cx body
 ·simp only [cond_true]
  exact ⟨M,hs,hT.restrict _,fun _ _ => rfl,hb⟩
end
end Go.Pi
namespace Go.Pi
variable [Hole]
section
variable {hp hp':Nat → Option Ent}
def LocalTo (hp':Nat → Option Ent) (hp:Nat → Option Ent) (f f':PV → Option (PV × List Nat)):Prop :=
 ∀ v v' fl,f v = some (v',fl) → (∀ r ∈ fl,hp' r = hp r) → f' v = some (v',fl)
theorem mapR_local {f f':PV → Option (PV × List Nat)} (hs:LocalTo hp' hp f f'):∀ (vs vs':List PV) (fl:List Nat),mapR f vs = some (vs',fl) → (∀ r ∈ fl,hp' r = hp r) → mapR f' vs = some (vs',fl)
 | [],vs',fl,h,_ => by simpa only [mapR] using h
 | v :: vs,vs',fl,h,hr => by
  simp only [mapR] at h ⊢
  split at h
  case h_2 => cases h
  rename_i v1 l1 vs1 l2 h1 h2
  cases h
  rw [hs v v1 l1 h1 (fun r h => hr r (by simp [h])),mapR_local hs vs vs1 l2 h2 (fun r h => hr r (by simp [h]))]
mutual
theorem reifyW_local {sub sub':PV → Option (PV × List Nat)} (hs:LocalTo hp' hp sub sub'):∀ (v v':PV) (fl:List Nat),reifyW hp sub v = some (v',fl) → (∀ r ∈ fl,hp' r = hp r) → reifyW hp' sub' v = some (v',fl)
 | .own r lo len,v',fl,h,hr => by
  simp only [reifyW] at h ⊢
  split at h
  case h_2 => cases h
  rename_i e he
  split at h
  case h_2 => cases h
  rename_i es l1 hm
  simp only [bif_some,Option.some.injEq,Prod.mk.injEq] at h
  obtain ⟨hc,rfl,rfl⟩ := h
  rw [hr r (by simp),he]
  simp only [mapR_local hs _ es l1 hm (fun q h => hr q (by simp [h])),bif_some]
  exact ⟨hc,trivial⟩
 | .agg cs,v',fl,h,hr => by
  simp only [reifyW] at h ⊢
  split at h
  case h_2 => cases h
  rename_i cs1 l1 h1
  cases h
  rw [reifyWL_local hs cs cs1 _ h1 hr]
 | .tuple cs,v',fl,h,hr => by
  simp only [reifyW] at h ⊢
  split at h
  case h_2 => cases h
  rename_i cs1 l1 h1
  cases h
  rw [reifyWL_local hs cs cs1 _ h1 hr]
 | .top,v',fl,h,_ => by simpa only [reifyW] using h
 | .bool b,v',fl,h,_ => by simpa only [reifyW] using h
 | .int k n,v',fl,h,_ => by simpa only [reifyW] using h
 | .str s,v',fl,h,_ => by simpa only [reifyW] using h
 | .nil,v',fl,h,_ => by simpa only [reifyW] using h
 | .slice es,v',fl,h,_ => by simpa only [reifyW] using h
 | .ptr r i off,v',fl,h,hr => by
  simp only [reifyW] at h ⊢
  split at h
  case h_2 => cases h
  rename_i e he
  split at h
  case h_2 => cases h
  rename_i v1 l1 hm
  simp only [bif_some,Option.some.injEq,Prod.mk.injEq] at h
  obtain ⟨hc,rfl,rfl⟩ := h
  obtain ⟨v0,hv0,hs0⟩ := Option.bind_eq_some_iff.1 hm
  rw [hr r (by simp),he]
  simp only [hv0,Option.bind_some,hs v0 v1 l1 hs0 (fun q h => hr q (by simp [h])),bif_some]
  exact ⟨hc,trivial⟩
 | .eptr e o,v',fl,h,_ => by simpa only [reifyW] using h
 | .nilPtr,v',fl,h,_ => by simpa only [reifyW] using h
 | .func f cs,v',fl,h,hr => by
  simp only [reifyW] at h ⊢
  split at h
  case h_2 => cases h
  rename_i cs1 l1 h1
  cases h
  rw [reifyWL_local hs cs cs1 _ h1 hr]
 | .nilFunc,v',fl,h,_ => by simpa only [reifyW] using h
 | .iface t v,v',fl,h,hr => by
  simp only [reifyW] at h ⊢
  split at h
  case h_2 => cases h
  rename_i v1 l1 h1
  cases h
  rw [reifyW_local hs v v1 _ h1 hr]
 | .nilIface,v',fl,h,_ => by simpa only [reifyW] using h
 | .hole k,v',fl,h,_ => by simpa only [reifyW] using h
 | .any,v',fl,h,_ => by simpa only [reifyW] using h
theorem reifyWL_local {sub sub':PV → Option (PV × List Nat)} (hs:LocalTo hp' hp sub sub'):∀ (vs vs':List PV) (fl:List Nat),reifyWL hp sub vs = some (vs',fl) → (∀ r ∈ fl,hp' r = hp r) → reifyWL hp' sub' vs = some (vs',fl)
 | [],vs',fl,h,_ => by simpa only [reifyWL] using h
 | v :: vs,vs',fl,h,hr => by
  simp only [reifyWL] at h ⊢
  split at h
  case h_2 => cases h
  rename_i v1 l1 vs1 l2 h1 h2
  cases h
  rw [reifyW_local hs v v1 l1 h1 (fun r h => hr r (by simp [h])),reifyWL_local hs vs vs1 l2 h2 (fun r h => hr r (by simp [h]))]
end
theorem reifyN_local:∀ d,LocalTo hp' hp (reifyN hp d) (reifyN hp' d)
 | 0 => fun v v' fl h hr => reifyW_local (sub := fun _ => none) (sub' := fun _ => none) (fun _ _ _ h => by cases h) v v' fl h hr
 | d+1 => fun v v' fl h hr => reifyW_local (reifyN_local d) v v' fl h hr
theorem reify_local:LocalTo hp' hp (reify hp) (reify hp') := by
 intro v v' fl h hr
 unfold reify at h ⊢
 cases hp':v.pureB
 ·rw [hp',cond_false] at h
  rw [cond_false]
  exact reifyN_local 6 v v' fl h hr
 ·rw [hp',cond_true] at h
  rw [cond_true]
  exact h
theorem reifyL_local (vs vs':List PV) (fl:List Nat) (h:reifyL hp vs = some (vs',fl)) (hr:∀ r ∈ fl,hp' r = hp r):reifyL hp' vs = some (vs',fl) := mapR_local reify_local vs vs' fl h hr
variable {P:Program} {fz fz':Nat → Bool} {n:Nat}
theorem loadOp_local {t:TypeId} {a v:PV} (h:loadOp P hp t a = some v) (hr:∀ r ∈ a.ids,hp' r = hp r):loadOp P hp' t a = some v := by
  cases a <;> first
    | exact h
    | (rename_i r i off
       unfold loadOp at h ⊢
       simp only at h
       simp only [hr r (by simp [PV.ids])]; exact h)
theorem storeOp_local {t:TypeId} {a v:PV} {o:Out} (h:storeOp P hp fz t a v = some o) (hr:∀ r ∈ a.ids,hp' r = hp r) (hz:∀ r ∈ o.wrote n,fz' r = fz r):storeOp P hp' fz' t a v = some o := by
 cases a <;> first
  | (unfold storeOp at h; split at h <;> simp_all; done)
  | skip
 rename_i r i off
 unfold storeOp at h ⊢
 cases hs:sizeT P t with
 | none => simp [hs] at h
 | some sz =>
 simp only [hs] at h
 simp only [hr r (by simp [PV.ids])]
 split at h
 case h_2 => cases h
 rename_i e he
 try simp only [he]
 split at h
 case h_2 => cases h
 rename_i x hi
 try simp only [hi]
 split at h
 case h_2 => cases h
 rename_i x' hx
 simp only [bif_none] at h ⊢
 obtain ⟨hc,h⟩ := h
 cases h
 rw [hz r (by simp [Out.wrote])]
 exact ⟨hc,rfl⟩
theorem indexAddrOp_local {t:TypeId} {a i v:PV} (h:indexAddrOp P hp t a i = some v) (hr:∀ r ∈ a.ids,hp' r = hp r):indexAddrOp P hp' t a i = some v := by
  cases a <;> first
    | exact h
    | (rename_i r lo len
       unfold indexAddrOp at h ⊢
       simp only at h
       simp only [hr r (by simp [PV.ids])]; exact h)
theorem elems_local {a:PV} {xs:List PV} (h:elems hp a = some xs) (hr:∀ r ∈ a.ids,hp' r = hp r):elems hp' a = some xs := by
  cases a <;> first
    | exact h
    | (rename_i r lo len
       unfold elems at h ⊢
       simp only at h
       simp only [hr r (by simp [PV.ids])]; exact h)
theorem arrCells_local {x:PV} {cs:List PV} {fl:List Nat} (h:arrCells hp x = some (cs,fl)) (hr:∀ r ∈ fl,hp' r = hp r):arrCells hp' x = some (cs,fl) := by
 cases x <;> first
  | exact h
  | skip
 rename_i r i off
 unfold arrCells at h ⊢
 simp only at h ⊢
 split at h
 case h_2 => cases h
 rename_i e he
 split at h
 case h_2 => cases h
 rename_i v fl1 hv1
 simp only [bif_some,Option.some.injEq,Prod.mk.injEq] at h
 obtain ⟨h0,rfl,rfl⟩ := h
 rw [hr r (by simp),he]
 simp only [Option.bind_eq_some_iff] at hv1
 obtain ⟨y,hy,hre⟩ := hv1
 have := reify_local (hp' := hp') (hp := hp) y v fl1 hre (fun q hq => hr q (by simp [hq]))
 simp only [hy,Option.bind_some,this,bif_some]
 exact ⟨h0,trivial⟩
theorem sliceOf_local {elem:TypeId} {x:PV} {l:Nat} {hi:Option PV} {o:Out} (h:sliceOf P hp elem x l hi = some o) (hr:∀ r ∈ x.ids,hp' r = hp r):sliceOf P hp' elem x l hi = some o := by
  cases hs:sizeT P elem with
  | none => cases x <;> simp [sliceOf,hs] at h
  | some sz =>
    cases x <;> first
      | (simp only [sliceOf,hs] at h ⊢; exact h)
      | (simp only [sliceOf,hs] at h; done)
      | (rename_i r q len
         have e := hr r (by simp [PV.ids])
         simp only [sliceOf,hs,e] at h ⊢
         exact h)
theorem sliceOp_local {t:TypeId} {x:PV} {lo hi:Option PV} {o:Out} (h:sliceOp P hp t x lo hi = some o) (hr:∀ r ∈ x.ids ++ o.fr,hp' r = hp r):sliceOp P hp' t x lo hi = some o := by
 unfold sliceOp at h ⊢
 cases hlo:lowOf lo with
 | none => simp [hlo] at h
 | some l =>
 simp only [hlo] at h ⊢
 cases hu:P.underlying t with
 | none => simp [hu] at h
 | some d =>
 simp only [hu] at h ⊢
 cases d <;> simp only [reduceCtorEq] at h ⊢
 case string => exact h
 case slice elem => exact sliceOf_local h (fun r h => hr r (by simp [h]))
 case array n elem =>
  cases hh:highOf hi n with
  | none => simp [hh] at h
  | some h' =>
  cases hs:sizeT P elem with
  | none => simp [hs] at h
  | some sz =>
  cases hcs:arrCells hp x with
  | none => simp [hcs] at h
  | some p =>
  obtain ⟨cs,fl⟩ := p
  simp only [hh,hs,hcs,bif_some] at h
  obtain ⟨hc,h⟩ := h
  cases hes:chunks (isAggT P elem) sz n cs with
  | none => simp [hes] at h
  | some es =>
  simp only [hes,Option.some.injEq] at h
  subst h
  have := arrCells_local (hp' := hp') hcs (fun r h => hr r (by simp [h]))
  simp only [this,bif_some,hes]
  exact ⟨hc,trivial⟩
theorem slice3Op_local {t:TypeId} {x:PV} {lo:Option PV} {hi mx:PV} {o:Out} (h:slice3Op P hp t x lo hi mx = some o) (hr:∀ r ∈ x.ids,hp' r = hp r):slice3Op P hp' t x lo hi mx = some o := by
 unfold slice3Op at h ⊢
 split at h
 case h_2 => cases h
 rename_i l h' m elem h1 h2 h3 h4
 try simp only [h1,h2,h3,h4]
 split at h
 ·rename_i sz hs
  try simp only [hs]
  exact h
 ·rename_i r o' len sz hs
  rw [hr r (by simp [PV.ids])]
  exact h
 ·cases h
theorem clearOp_local {st:Option TypeId} {x:PV} {o:Out} (h:clearOp P hp fz st x = some o) (hr:∀ r ∈ x.ids,hp' r = hp r) (hz:∀ r ∈ o.wrote n,fz' r = fz r):clearOp P hp' fz' st x = some o := by
 unfold clearOp at h ⊢
 split at h
 case h_2 => cases h
 rename_i elem h1
 try simp only [h1]
 split at h
 ·exact h
 ·exact h
 ·rename_i r lo len sz z hs hzt
  rw [hr r (by simp [PV.ids])]
  split at h
  case h_2 => cases h
  rename_i e he
  simp only [bif_some,Bool.and_eq_true] at h ⊢
  obtain ⟨hc2,h⟩ := h
  have hzr:fz' r = fz r := hz r (by cases h; simp [Out.wrote])
  rw [hzr]
  exact ⟨hc2,h⟩
 ·cases h
theorem arrayAtOp_local {t:TypeId} {x:PV} {o:Out} (h:arrayAtOp P hp t x = some o) (hr:∀ r ∈ o.fr,hp' r = hp r):arrayAtOp P hp' t x = some o := by
 unfold arrayAtOp at h ⊢
 split at h
 case h_2 => cases h
 rename_i m elem hu
 try simp only [hu]
 split at h
 case h_2 => cases h
 rename_i es fl hre
 simp only [bif_some] at h
 obtain ⟨hc,h⟩ := h
 cases h
 have := reify_local (hp' := hp') (hp := hp) x _ fl hre hr
 simp only [this,bif_some]
 exact ⟨hc,trivial⟩
theorem appended_local {z:PV} {xd:TypeDesc} {x:PV} {xs:List PV} (h:appended hp z xd x = some xs) (hr:∀ r ∈ x.ids,hp' r = hp r):appended hp' z xd x = some xs := by
 unfold appended at h ⊢
 cases xd <;> first
  | exact h
  | exact elems_local h hr
theorem appendOp_local {st xt:Option TypeId} {s x:PV} {o:Out} (h:appendOp P hp fz n st xt s x = some o) (hr:∀ r ∈ s.ids ++ x.ids,hp' r = hp r) (hz:∀ r ∈ o.wrote n,fz' r = fz r):appendOp P hp' fz' n st xt s x = some o := by
 unfold appendOp at h ⊢
 split at h
 case h_2 => cases h
 rename_i elem xd hu0 hx0
 try simp only [hu0,hx0]
 split at h
 case h_2 => cases h
 rename_i sz by_ z hs hb hzt
 try simp only [hs,hb,hzt]
 split at h
 case h_2 => cases h
 rename_i xs hxs
 simp only [appended_local (hp' := hp') hxs (fun r h => hr r (by simp [h])),bif_some]
 simp only [bif_some] at h
 obtain ⟨hc,h⟩ := h
 refine ⟨hc,?_⟩
 cases s <;> first
  | exact h
  | skip
 case ownF r lo len =>
  simp only [hr r (by simp [PV.ids])] at h ⊢
  exact h
 rename_i r lo len
 simp only [hr r (by simp [PV.ids])] at h ⊢
 split at h
 case h_2 => cases h
 rename_i e he
 simp only [bif_some,Bool.and_eq_true] at h ⊢
 obtain ⟨hc2,h⟩ := h
 have hzr:fz' r = fz r := by
  refine hz r ?_
  simp only [Bool.cond_eq_ite] at h
  split at h
  ·cases h; simp [Out.wrote]
  ·split at h
   ·cases h; simp [Out.wrote]
   ·cases h
 rw [hzr]
 exact ⟨hc2,h⟩
end
section
variable {hp hp':Nat → Option Ent} {P:Program} {fz fz':Nat → Bool} {n:Nat}
theorem map_lk {lk lk':Operand → PV} (l:List Operand) (h:∀ y ∈ l,lk' y = lk y):l.map lk' = l.map lk := List.map_congr_left h
theorem parts_lk {lk lk':Operand → PV} (l:List (Nat × Operand)) (h:∀ y ∈ l.map (·.2),lk' y = lk y):(l.map fun (i,x) => (i,lk' x)) = l.map fun (i,x) => (i,lk x) := by
 apply List.map_congr_left
 intro p hp
 obtain ⟨i,x⟩ := p
 simp only [Prod.mk.injEq,true_and]
 exact h x (List.mem_map.2 ⟨(i,x),hp,rfl⟩)
theorem evalOp_local {lk lk':Operand → PV} {op:Op} {out:Out} (h:evalOp P hp fz n lk op = some out) (hl:∀ y ∈ op.operands,lk' y = lk y) (hr:∀ r ∈ touch lk op ++ out.fr,hp' r = hp r) (hz:∀ r ∈ out.wrote n,fz' r = fz r) :
    evalOp P hp' fz' n lk' op = some out := by
  have ht:∀ r ∈ touch lk op,hp' r = hp r := fun r h => hr r (by simp [h])
  have hf:∀ r ∈ out.fr,hp' r = hp r := fun r h => hr r (by simp [h])
  cases op <;> simp only [evalOp,reduceCtorEq] at h ⊢
  case move y => rw [hl y (by simp [Op.operands])]; exact h
  case assign y => rw [hl y (by simp [Op.operands])]; exact h
  case pick c a b => rw [hl c (by simp [Op.operands]),hl a (by simp [Op.operands]),hl b (by simp [Op.operands])]; exact h
  case alloc t => exact h
  case box t y => rw [hl y (by simp [Op.operands])]; exact h
  case build t parts =>
    rw [parts_lk parts.toList (fun y hy => hl y (by simpa [Op.operands] using hy))]; exact h
  case buildSlice t len parts =>
    rw [parts_lk parts.toList (fun y hy => hl y (by simpa [Op.operands] using hy))]; exact h
  case load t a =>
    rw [hl a (by simp [Op.operands])]
    simp only [Option.map_eq_some_iff] at h ⊢
    obtain ⟨v,hv,rfl⟩ := h
    exact ⟨v,loadOp_local hv (fun r h => ht r (by simpa [touch] using h)),rfl⟩
  case store t a v =>
    rw [hl a (by simp [Op.operands]),hl v (by simp [Op.operands])]
    exact storeOp_local h (fun r h => ht r (by simpa [touch] using h)) hz
  case nilCheck y => rw [hl y (by simp [Op.operands])]; exact h
  case binOp op t a b yt => rw [hl a (by simp [Op.operands]),hl b (by simp [Op.operands])]; exact h
  case unOp op t a => rw [hl a (by simp [Op.operands])]; exact h
  case convert s d a => rw [hl a (by simp [Op.operands])]; exact h
  case sliceToArrayPointer t a =>
    rw [hl a (by simp [Op.operands])]
    exact arrayAtOp_local h hf
  case makeInterface t a => rw [hl a (by simp [Op.operands])]; exact h
  case makeFunc fn first cap =>
    cases fn <;> simp only [reduceCtorEq] at h ⊢
    rw [map_lk cap.toList (fun y hy => hl y (by simp only [Op.operands,Array.mem_append]; exact .inr (by simpa using hy)))]; exact h
  case makeSlice t l c => rw [hl l (by simp [Op.operands]),hl c (by simp [Op.operands])]; exact h
  case slice t x lo hi mx =>
    have e1:lo.map lk' = lo.map lk := by
      cases lo with
      | none => rfl
      | some y => simp only [Option.map_some]; rw [hl y (by simp [Op.operands])]
    cases mx with
    | some mx =>
      cases hi with
      | none => simp only [reduceCtorEq] at h
      | some hi =>
        dsimp only at h ⊢
        rw [hl x (by simp [Op.operands]),e1,hl hi (by simp [Op.operands]),hl mx (by simp [Op.operands])]
        exact slice3Op_local h (fun r h => ht r (by simpa [touch] using h))
    | none =>
    dsimp only at h ⊢
    have e2:hi.map lk' = hi.map lk := by
      cases hi with
      | none => rfl
      | some y => simp only [Option.map_some]; rw [hl y (by simp [Op.operands])]
    rw [hl x (by simp [Op.operands]),e1,e2]
    exact sliceOp_local h (fun r h => by
      rcases List.mem_append.1 h with h | h
      · exact ht r (by simpa [touch] using h)
      · exact hf r h)
  case fieldAddr t x f => rw [hl x (by simp [Op.operands])]; exact h
  case field t x f => rw [hl x (by simp [Op.operands])]; exact h
  case indexAddr t x i =>
    rw [hl x (by simp [Op.operands]),hl i (by simp [Op.operands])]
    simp only [Option.map_eq_some_iff] at h ⊢
    obtain ⟨v,hv,rfl⟩ := h
    exact ⟨v,indexAddrOp_local hv (fun r h => ht r (by simpa [touch] using h)),rfl⟩
  case index t x i => rw [hl x (by simp [Op.operands]),hl i (by simp [Op.operands])]; exact h
  case makeMap t r =>
    cases r with
    | none => exact h
    | some y =>
      dsimp only at h ⊢
      rw [hl y (by simp [Op.operands])]
      exact h
  case lookup t x i ok =>
    rw [hl x (by simp [Op.operands]),hl i (by simp [Op.operands])]
    split at h
    case h_2 => cases h
    rename_i key elem r hu hx
    rw [ht r (by simp [touch,hx,PV.ids])]
    exact h
  case mapUpdate t m k x =>
    rw [hl m (by simp [Op.operands]),hl k (by simp [Op.operands]),hl x (by simp [Op.operands])]
    split at h
    case h_2 => cases h
    rename_i key elem r hu hx
    rw [ht r (by simp [touch,hx,PV.ids])]
    have hw:fz' r = fz r := hz r (by
      split at h
      case h_2 => cases h
      simp only [Bool.cond_eq_ite] at h
      split at h
      case isFalse => cases h
      split at h
      case h_2 => cases h
      cases h
      simp [Out.wrote])
    rw [hw]
    exact h
  case range t x => rw [hl x (by simp [Op.operands])]; exact h
  case next it isS =>
    cases isS <;> simp only [reduceCtorEq] at h ⊢
    rw [hl it (by simp [Op.operands])]
    split at h
    case h_2 => cases h
    rename_i r hit
    have hrr:hp' r = hp r := ht r (by simp [touch,hit,PV.ids])
    rw [hrr]
    split at h
    case h_2 => cases h
    rename_i s pos he
    simp only [Bool.cond_eq_ite] at h ⊢
    split at h
    · rename_i hp1
      split at h
      · cases h
      rename_i hz1
      cases h
      rw [if_pos hp1,hz r (by simp [Out.wrote]),if_neg hz1]
    · rename_i hp1
      rw [if_neg hp1]; exact h
  case extract t i => rw [hl t (by simp [Op.operands])]; exact h
  case call c =>
    obtain ⟨callee,args,ats⟩ := c
    cases callee <;> simp only [reduceCtorEq] at h ⊢
    rename_i b
    have e1:args.toList.map lk' = args.toList.map lk := map_lk args.toList (fun y hy => hl y (by simpa [Op.operands,Call.operands] using hy))
    rw [e1]
    split at h <;> first
      | exact h
      | (rename_i s x hsx
         exact appendOp_local h (fun r h => ht r (by simpa [touch,hsx,PV.idsL] using h)) hz)
      | (rename_i x hsx
         exact clearOp_local h (fun r h => ht r (by simpa [touch,hsx,PV.idsL] using h)) hz)
      | cases h
theorem callOf_congr {lk lk':Operand → PV} {op:Op} (hl:∀ y ∈ op.operands,lk' y = lk y):callOf lk' op = callOf lk op := by
 unfold callOf
 split
 ·rename_i f args ats
  rw [hl f (by simp [Op.operands,Call.operands]),map_lk args.toList (fun y hy => hl y (by simp only [Op.operands,Call.operands,Array.mem_append]; exact .inr (by simpa using hy)))]
 ·rfl
end
end Go.Pi
