/- Tables of results; the interpreter as a machine of propositions; contracts; arguments. No condition. -/
import Derived.Test.YtgpmgondjppmmaaGreatDoorA4
import Derived.Test.YtgpmgondjppmmaaGreatDoorA1
import Derived.Deep.Slices
import Derived.OpenShut
import Derived.Carry
set_option linter.unusedSectionVars false
set_option linter.unusedSimpArgs false
set_option linter.unusedVariables false
namespace Go.Pi
variable [Hole]
def intEq:Int → Int → Bool
 | .ofNat a,.ofNat b => Nat.beq a b
 | .negSucc a,.negSucc b => Nat.beq a b
 | _,_ => false
def bytesEq:List UInt8 → List UInt8 → Bool
 | [],[] => true
 | a :: r,b :: t => Nat.beq a.toNat b.toNat && bytesEq r t
 | _,_ => false
mutual
def PV.same:PV → PV → Bool
 | .bool a,.bool b => a == b
 | .int k a,.int l b => decide (k = l) && intEq a b
 | .str a,.str b => bytesEq a.data.toList b.data.toList
 | .nil,.nil => true
 | .slice a,.slice b => PV.sameL a b
 | .eptr a n,.eptr b m => Nat.beq n m && PV.same a b
 | .nilPtr,.nilPtr => true
 | .agg a,.agg b => PV.sameL a b
 | .tuple a,.tuple b => PV.sameL a b
 | .func f a,.func g b => Nat.beq f g && PV.sameL a b
 | .nilFunc,.nilFunc => true
 | .iface t a,.iface u b => Nat.beq t u && PV.same a b
 | .nilIface,.nilIface => true
 | .hole a,.hole b => Nat.beq a b
 | .any,.any => true
 | _,_ => false
def PV.sameL:List PV → List PV → Bool
 | [],[] => true
 | a :: r,b :: t => PV.same a b && PV.sameL r t
 | _,_ => false
end
theorem intEq_spec {a b:Int} (h:intEq a b = true):a = b := by
 cases a <;> cases b <;> simp only [intEq,nat_beq_eq,Bool.false_eq_true] at h <;> rw [h]
theorem bytesEq_spec:∀ {a b:List UInt8},bytesEq a b = true → a = b
 | [],[],_ => rfl
 | a :: r,b :: t,h => by
  simp only [bytesEq,Bool.and_eq_true,nat_beq_eq] at h
  rw [UInt8.toNat_inj.1 h.1,bytesEq_spec h.2]
 | [],_ :: _,h => by simp [bytesEq] at h
 | _ :: _,[],h => by simp [bytesEq] at h
mutual
theorem PV.same_spec:∀ (a b:PV),PV.same a b = true → a = b
 | .bool a,b,h => by cases b <;> simp_all [PV.same]
 | .int k a,b,h => by
  cases b <;> simp only [PV.same,Bool.and_eq_true,decide_eq_true_eq,Bool.false_eq_true] at h
  rw [h.1,intEq_spec h.2]
 | .str a,b,h => by
  cases b <;> simp only [PV.same,Bool.false_eq_true] at h
  rename_i b
  have := bytesEq_spec h
  obtain ⟨⟨a⟩⟩ := a
  obtain ⟨⟨b⟩⟩ := b
  simp only at this
  rw [this]
 | .nil,b,h => by cases b <;> simp_all [PV.same]
 | .slice a,b,h => by
  cases b <;> simp only [PV.same,Bool.false_eq_true] at h
  rw [PV.sameL_spec a _ h]
 | .eptr a n,b,h => by
  cases b <;> simp only [PV.same,Bool.and_eq_true,nat_beq_eq,Bool.false_eq_true] at h
  rw [PV.same_spec a _ h.2,h.1]
 | .nilPtr,b,h => by cases b <;> simp_all [PV.same]
 | .agg a,b,h => by
  cases b <;> simp only [PV.same,Bool.false_eq_true] at h
  rw [PV.sameL_spec a _ h]
 | .tuple a,b,h => by
  cases b <;> simp only [PV.same,Bool.false_eq_true] at h
  rw [PV.sameL_spec a _ h]
 | .func f a,b,h => by
  cases b <;> simp only [PV.same,Bool.and_eq_true,nat_beq_eq,Bool.false_eq_true] at h
  rw [PV.sameL_spec a _ h.2,h.1]
 | .nilFunc,b,h => by cases b <;> simp_all [PV.same]
 | .iface t a,b,h => by
  cases b <;> simp only [PV.same,Bool.and_eq_true,nat_beq_eq,Bool.false_eq_true] at h
  rw [PV.same_spec a _ h.2,h.1]
 | .nilIface,b,h => by cases b <;> simp_all [PV.same]
 | .any,b,h => by cases b <;> simp_all [PV.same]
 | .hole a,b,h => by
  cases b <;> simp only [PV.same,nat_beq_eq,Bool.false_eq_true] at h
  rw [h]
 | .top,b,h => by simp [PV.same] at h
 | .own ..,b,h => by simp [PV.same] at h
 | .ptr ..,b,h => by simp [PV.same] at h
theorem PV.sameL_spec:∀ (a b:List PV),PV.sameL a b = true → a = b
 | [],[],_ => rfl
 | a :: r,b :: t,h => by
  simp only [PV.sameL,Bool.and_eq_true] at h
  rw [PV.same_spec a b h.1,PV.sameL_spec r t h.2]
 | [],_ :: _,h => by simp [PV.sameL] at h
 | _ :: _,[],h => by simp [PV.sameL] at h
end
mutual
def PV.mark:PV → Nat
 | .bool true => 3
 | .bool false => 5
 | .int _ (.ofNat n) => 2 * n + 7
 | .int _ (.negSucc n) => 3 * n+11
 | .str s => bytesMark s.data.toList 13
 | .slice es => PV.markL es 17
 | .eptr e n => PV.mark e + n+19
 | .agg es => PV.markL es 23
 | .tuple es => PV.markL es 29
 | .func f es => PV.markL es f + 31
 | .iface t v => PV.mark v + t + 37
 | .hole k => k + 41
 | .nil => 43
 | .nilPtr => 47
 | .nilFunc => 53
 | .nilIface => 59
 | _ => 61
def PV.markL:List PV → Nat → Nat
 | [],n => n
 | v :: vs,n => PV.markL vs ((n * 8191 + PV.mark v) % 1000000007)
def bytesMark:List UInt8 → Nat → Nat
 | [],n => n
 | b :: l,n => bytesMark l ((n * 257 + b.toNat) % 1000000007)
end
structure Row where
 mark:Nat
 ix:Nat
 fn:FuncId
 args:List PV
 res:PV
abbrev Tab := List (Nat × List Row)
def findRow:List Row → Nat → List PV → Option PV
 | [],_,_ => none
 | r :: rest,n,as => bif Nat.beq r.mark (PV.markL as 1) && Nat.blt r.ix n && PV.sameL r.args as then some r.res else findRow rest n as
def tabEnv (base:Env) (tab:Tab) (n:Nat):Env := fun f => match look tab f,base f with
 | some rows,some F => some (fun as => match findRow rows n as with | some v => some v | none => F as)
 | some rows,none => some (fun as => findRow rows n as)
 | none,F => F
def rowOk (P:Program) (base:Env) (G:Nat → Option PV) (A:FuncId → Option Ann) (tab:Tab) (fuel:Nat) (r:Row):Bool :=
 match evalSum P (tabEnv base tab r.ix) G A fuel r.fn r.args with
 | some v => PV.same v r.res
 | none => false
end Go.Pi
namespace Go.Pi
open Go.RowKit (Below)
variable [Hole]
def orE (E F:Env):Env := fun f => match E f,F f with
 | some A,some B => some (fun as => match A as with | some v => some v | none => B as)
 | some A,none => some A
 | none,X => X
section
variable {P:Program} {G:Nat → Option PV}
theorem findRow_some {n:Nat} {as:List PV} {v:PV}:∀ {rows:List Row},findRow rows n as = some v → ∃ r ∈ rows,r.ix < n ∧ r.args = as ∧ r.res = v
 | [],h => by simp [findRow] at h
 | r :: rest,h => by
  simp only [findRow,Bool.cond_eq_ite] at h
  split at h
  ·rename_i hc
   simp only [Bool.and_eq_true,blt_iff] at hc
   exact ⟨r,by simp,hc.1.2,PV.sameL_spec _ _ hc.2,by simpa using h⟩
  ·obtain ⟨r',h1,h2⟩ := findRow_some h
   exact ⟨r',by simp [h1],h2⟩
open Classical in
noncomputable def oneRow (as:List PV) (v:PV):Fn1 := fun as' => if as' = as then some v else none
def RowTrue (P:Program) (base:Env) (G:Nat → Option PV) (A:FuncId → Option Ann) (tab:Tab) (f:FuncId) (r:Row):Prop :=
 r.fn = f ∧ ∃ fuel,rowOk P base G A tab fuel r = true
theorem tab_ok {base:Env} {A:FuncId → Option Ann} {tab:Tab} (hB:EnvOk P G base) (hA:AnnOk P A) (hmix:P.follows .mixedOrders = true)
  (hen:∀ f rows,look tab f = some rows → Enters P f) (h:∀ f rows,look tab f = some rows → ∀ r ∈ rows,RowTrue P base G A tab f r):∀ n,EnvOk P G (tabEnv base tab n) := by
 classical
 intro n
 induction n using Nat.strongRecOn with
 | ind n ih =>
  have row:∀ f rows,look tab f = some rows → ∀ as v,findRow rows n as = some v → Sum P G f (oneRow as v) := by
   intro f rows hl as v hv
   obtain ⟨r,hr,hix,rfl,rfl⟩ := findRow_some hv
   obtain ⟨hfn,fuel,hok⟩ := h f rows hl r hr
   refine evalSum_sound (ih r.ix hix) hA hmix (hen f rows hl) fun as' r' hr' => ?_
   unfold oneRow at hr'
   split at hr'
   ·rename_i e
    cases hr'
    subst e
    unfold rowOk at hok
    split at hok
    ·rename_i v' hv'
     rw [hfn] at hv'
     rw [← PV.same_spec _ _ hok]
     exact ⟨fuel,hv'⟩
    ·cases hok
   ·cases hr'
  intro f F hF
  unfold tabEnv at hF
  split at hF
  ·rename_i rows F0 hl hb
   cases hF
   refine ⟨hen f rows hl,fun as r hr => ?_⟩
   dsimp only at hr
   split at hr
   ·rename_i v hv
    cases hr
    exact (row f rows hl as _ hv).2 as _ (by simp [oneRow])
   ·exact (hB f F0 hb).2 as r hr
  ·rename_i rows hl hb
   cases hF
   refine ⟨hen f rows hl,fun as r hr => ?_⟩
   exact (row f rows hl as r hr).2 as r (by simp [oneRow])
  ·exact hB f F hF
theorem EnvOk.or {E F:Env} (h:EnvOk P G E) (h':EnvOk P G F):EnvOk P G (orE E F) := by
 intro f X hX
 unfold orE at hX
 split at hX
 ·rename_i A B hA hB
  cases hX
  refine ⟨(h f A hA).1,fun as r hr => ?_⟩
  dsimp only at hr
  split at hr
  ·rename_i v hv
   cases hr
   exact (h f A hA).2 as _ hv
  ·exact (h' f B hB).2 as r hr
 ·rename_i A hA hB
  cases hX
  exact h f _ hA
 ·exact h' f X hX
end
end Go.Pi
namespace Go.Pi
def bstr (l:List UInt8):PV := .str ⟨l.toArray⟩
def cut1 (c:UInt8):List UInt8 → List UInt8 × List UInt8 × Bool
 | [] => ([],[],false)
 | b :: l => bif Nat.beq b.toNat c.toNat then ([],l,true) else match cut1 c l with | (x,y,f) => (b :: x,y,f)
def memU:List UInt8 → UInt8 → Bool
 | [],_ => false
 | a :: l,b => Nat.beq a.toNat b.toNat || memU l b
def dropU (cs:List UInt8):List UInt8 → List UInt8
 | [] => []
 | b :: l => bif memU cs b then dropU cs l else b :: l
def trimU (l cs:List UInt8):List UInt8 := dropU cs (dropU cs l.reverse).reverse
def behind:List UInt8 → List UInt8 → Option (List UInt8)
 | s,[] => some s
 | [],_ :: _ => none
 | a :: s,b :: p => bif Nat.beq a.toNat b.toNat then behind s p else none
def digitsU:Nat → List UInt8 → Option Nat
 | acc,[] => some acc
 | acc,b :: l => bif Nat.ble 48 b.toNat && Nat.ble b.toNat 57 && Nat.blt (acc * 10 + (b.toNat - 48)) 4294967296 then digitsU (acc * 10 + (b.toNat - 48)) l else none
def smallS (s:ByteArray):Bool := Nat.blt s.size 4294967281
def cutF:Fn1
 | [.str a,.str b] => match b.data.toList with
  | [c] => bif smallS a then match cut1 c a.data.toList with | (x,y,f) => some (.tuple [bstr x,bstr y,.bool f]) else none
  | _ => none
 | _ => none
def trimPrefixF:Fn1
 | [.str a,.str b] => match behind a.data.toList b.data.toList with
  | some x => some (bstr x)
  | none => some (bstr a.data.toList)
 | _ => none
def cutPrefixF:Fn1
 | [.str a,.str b] => match behind a.data.toList b.data.toList with
  | some x => some (.tuple [bstr x,.bool true])
  | none => some (.tuple [bstr a.data.toList,.bool false])
 | _ => none
def trimF:Fn1
 | [.str a,.str b] => bif smallS a && smallS b && b.data.toList.all (fun c => Nat.blt c.toNat 128) then some (bstr (trimU a.data.toList b.data.toList)) else none
 | _ => none
def parseUintF:Fn1
 | [.str a,.int .i64 10,.int .i64 32] => match a.data.toList with
  | [] => none
  | l => bif smallS a then match digitsU 0 l with | some n => some (.tuple [.int .u64 n,.nilIface]) | none => none else none
 | _ => none
def libEnv (cut trimPrefix trim cutPrefix parseUint:FuncId):Env := fun f =>
 bif Nat.beq f cut then some cutF else bif Nat.beq f trimPrefix then some trimPrefixF else bif Nat.beq f trim then some trimF
 else bif Nat.beq f cutPrefix then some cutPrefixF else bif Nat.beq f parseUint then some parseUintF else none
section
variable {P:Program} {env:Env} {G:Nat → Option PV} {A:FuncId → Option Ann}
theorem nbe (a b:Nat):(Nat.beq a b = true) = (a = b) := by
 apply propext
 constructor
 ·exact Nat.eq_of_beq_eq_true
 ·intro h; subst h; exact Nat.beq_refl a
structure Evs.Le (e e':Evs):Prop where
 call:∀ f a s r,e.call f a s = some r → e'.call f a s = some r
 loop:∀ cx b T s r,e.loop cx b T s = some r → e'.loop cx b T s = some r
theorem stepOp_mono {e e':Evs} (h:e.Le e') {T:Tm} {s:St} {op:Op} {r:PV × St} (hr:stepOp P env G e.call T s op = some r):stepOp P env G e'.call T s op = some r := by
 unfold stepOp at hr ⊢
 split at hr
 ·rename_i f args hc
  split at hr
  ·exact hr
  ·exact h.call _ _ _ _ hr
 ·exact hr
theorem seqOps_mono {e e':Evs} (h:e.Le e') {ops:List Oper}:∀ {rest:List Oper} {T:Tm} {s:St} {r:Tm × St},seqOps P env G e.call ops rest T s = some r → seqOps P env G e'.call ops rest T s = some r
 | [],_,_,_,hr => hr
 | o :: rest,T,s,r,hr => by
  unfold seqOps at hr ⊢
  split at hr
  ·split at hr
   ·rename_i v s1 hs
    rw [stepOp_mono h hs]
    exact seqOps_mono h hr
   ·cases hr
  ·exact seqOps_mono h hr
  ·cases hr
theorem apartCall_mono {e e':Evs} (h:e.Le e') {hp:Nat → Option Ent} {n:Nat} {f:FuncId} {args:List PV} {o:Out} (hr:apartCall e.call hp n f args = some o):apartCall e'.call hp n f args = some o := by
 unfold apartCall at hr ⊢
 split at hr
 ·cases hr
 ·split at hr
  ·cases hr
  ·rename_i hc
   rw [h.call _ _ _ _ hc]
   exact hr
theorem drawOp_mono {e e':Evs} (h:e.Le e') {T:Tm} {s:St} {op:Op} {o:Out} (hr:drawOp P env G e.call T s op = some o):drawOp P env G e'.call T s op = some o := by
 unfold drawOp at hr ⊢
 split at hr
 ·split at hr
  ·exact hr
  ·exact apartCall_mono h hr
 ·exact hr
theorem drawOps_mono {e e':Evs} (h:e.Le e') {ops:List Oper}:∀ {rest:List Oper} {j:Nat} {T:Tm} {s:St} {l:List Lg} {r:Tm × St × List Lg},drawOps P env G e.call ops rest j T s l = some r → drawOps P env G e'.call ops rest j T s l = some r
 | [],_,_,_,_,_,hr => hr
 | o :: rest,j,T,s,l,r,hr => by
  unfold drawOps at hr ⊢
  split at hr
  ·split at hr
   ·rename_i out hs
    simp only [drawOp_mono h hs]
    cases hk:okOut s out with
    | true => simp only [hk,cond_true] at hr ⊢; exact drawOps_mono h hr
    | false => simp [hk] at hr
   ·cases hr
  ·exact drawOps_mono h hr
  ·cases hr
theorem evalRegion_mono {e e':Evs} (h:e.Le e') {cx:Cx} {id:Nat} {ops:List Oper} {draw:Bool} {T:Tm} {s:St} {r:Tm × St} (hr:evalRegion P env G e.call cx id ops draw T s = some r):evalRegion P env G e'.call cx id ops draw T s = some r := by
 unfold evalRegion at hr ⊢
 cases draw with
 | true =>
  simp only [cond_true] at hr ⊢
  split at hr
  ·cases hm:look cx.ann.lasts id with
   | some k =>
    simp only [hm] at hr ⊢
    split at hr
    ·rename_i hd
     rw [drawOps_mono h hd]
     simp only [Bool.cond_eq_ite] at hr ⊢
     split at hr
     ·rename_i hl
      rw [if_pos hl]
      exact seqOps_mono h hr
     ·cases hr
    ·cases hr
   | none =>
    simp only [hm] at hr ⊢
    split at hr
    ·rename_i hd
     rw [drawOps_mono h hd]
     exact hr
    ·cases hr
  ·cases hr
 | false =>
  simp only [cond_false] at hr ⊢
  split at hr
  ·rename_i hd
   rw [seqOps_mono h hd]
   exact hr
  ·cases hr
theorem evalCode_mono {e e':Evs} (h:e.Le e') {cx:Cx}:∀ (c:Code) {T:Tm} {s:St} {r:Ex × Tm × St},evalCode P env G e.call e.loop cx c T s = some r → evalCode P env G e'.call e'.loop cx c T s = some r
 | .skip,_,_,_,hr => hr
 | .label _,_,_,_,hr => hr
 | .region _ _ _,_,_,_,hr => by
  unfold evalCode at hr ⊢
  split at hr
  ·rename_i hd
   rw [evalRegion_mono h hd]
   exact hr
  ·cases hr
 | .seq a b,T,s,r,hr => by
  unfold evalCode at hr ⊢
  cases ha:evalCode P env G e.call e.loop cx a T s with
  | none => rw [ha] at hr; cases hr
  | some x =>
   obtain ⟨ex,T1,s1⟩ := x
   rw [evalCode_mono h a ha]
   rw [ha] at hr
   cases ex with
   | normal => exact evalCode_mono h b hr
   | exit id => exact hr
   | ret => exact hr
 | .cond c a b,T,s,r,hr => by
  unfold evalCode at hr ⊢
  split at hr
  ·exact evalCode_mono h a hr
  ·exact evalCode_mono h b hr
  ·cases hr
 | .block id b,T,s,r,hr => by
  unfold evalCode at hr ⊢
  cases ha:evalCode P env G e.call e.loop cx b T s with
  | none => rw [ha] at hr; cases hr
  | some x =>
   rw [evalCode_mono h b ha]
   rw [ha] at hr
   exact hr
 | .loop b,T,s,r,hr => by
  unfold evalCode at hr ⊢
  exact h.loop _ _ _ _ _ hr
 | .exit _,_,_,_,hr => hr
 | .scope b,T,s,r,hr => by
  unfold evalCode at hr ⊢
  exact evalCode_mono h b hr
 | .ret,_,_,_,hr => hr
 | .rangeFunc ..,_,_,_,hr => by simp [evalCode] at hr
 | .goto _,_,_,_,hr => by simp [evalCode] at hr
 | .refuse _,_,_,_,hr => by simp [evalCode] at hr
theorem callWith_mono {e e':Evs} (h:e.Le e') {f:FuncId} {args:List PV} {s:St} {r:PV × St} (hr:callWith P env G A e f args s = some r):callWith P env G A e' f args s = some r := by
 unfold callWith at hr ⊢
 split at hr
 ·split at hr
  ·cases hr
  ·rename_i c _
   simp only [Bool.cond_eq_ite] at hr ⊢
   split at hr
   ·rename_i hn
    rw [if_pos hn]
    split at hr
    ·cases hr
    ·rename_i hx hc
     rw [evalCode_mono h c hc]
     split
     ·rename_i he; cases he; exact absurd rfl (hx _)
     ·rename_i he; cases he; exact hr
     ·rename_i he; cases he
    ·cases hr
   ·cases hr
 ·cases hr
theorem loopWith_mono {e e':Evs} (h:e.Le e') {cx:Cx} {b:Code} {T:Tm} {s:St} {r:Ex × Tm × St} (hr:loopWith P env G e cx b T s = some r):loopWith P env G e' cx b T s = some r := by
 unfold loopWith at hr ⊢
 cases hg:gc cx b T s with
 | mk T1 s1 =>
  rw [hg] at hr
  dsimp only at hr ⊢
  cases hc:evalCode P env G e.call e.loop cx b T1 s1 with
  | none => rw [hc] at hr; cases hr
  | some x =>
   obtain ⟨ex,T2,s2⟩ := x
   rw [evalCode_mono h b hc]
   rw [hc] at hr
   cases ex with
   | normal => exact h.loop _ _ _ _ _ hr
   | exit id => exact hr
   | ret => exact hr
theorem evalN_le:∀ n,(evalN P env G A n).Le (evalN P env G A (n+1))
 | 0 => ⟨fun _ _ _ _ h => by simp [evalN] at h,fun _ _ _ _ _ h => by simp [evalN] at h⟩
 | n+1 => ⟨fun _ _ _ _ h => callWith_mono (evalN_le n) h,fun _ _ _ _ _ h => loopWith_mono (evalN_le n) h⟩
theorem Evs.Le.rfl' {e:Evs}:e.Le e := ⟨fun _ _ _ _ h => h,fun _ _ _ _ _ h => h⟩
theorem Evs.Le.trans {a b c:Evs} (h:a.Le b) (h':b.Le c):a.Le c := ⟨fun _ _ _ _ k => h'.call _ _ _ _ (h.call _ _ _ _ k),fun _ _ _ _ _ k => h'.loop _ _ _ _ _ (h.loop _ _ _ _ _ k)⟩
theorem evalN_mono {n m:Nat} (h:n ≤ m):(evalN P env G A n).Le (evalN P env G A m) := by
 induction h with
 | refl => exact Evs.Le.rfl'
 | step _ ih => exact ih.trans (evalN_le _)
end
inductive Kont where
 | done (Q:Ex → Tm → St → Prop)
 | seq (b:Code) (k:Kont)
 | block (id:Nat) (k:Kont)
 | ops (all last:List Oper) (k:Kont)
section
variable (P:Program) (env:Env) (G:Nat → Option PV) (A:FuncId → Option Ann) (cx:Cx)
def retK:Kont → Ex → Tm → St → Prop
 | .done Q,ex,T,s => Q ex T s
 | .seq b k,.normal,T,s => ∃ n ex' T' s',evalCode P env G (evalN P env G A n).call (evalN P env G A n).loop cx b T s = some (ex',T',s') ∧ retK k ex' T' s'
 | .seq _ k,ex,T,s => retK k ex T s
 | .block id k,.exit id',T,s => if id' = id then retK k .normal T s else retK k (.exit id') T s
 | .block _ k,ex,T,s => retK k ex T s
 | .ops all last k,.normal,T,s => ∃ n T' s',seqOps P env G (evalN P env G A n).call all last T s = some (T',s') ∧ retK k .normal T' s'
 | .ops _ _ k,ex,T,s => retK k ex T s
def run (T:Tm) (s:St) (c:Code) (k:Kont):Prop :=
 ∃ n ex T' s',evalCode P env G (evalN P env G A n).call (evalN P env G A n).loop cx c T s = some (ex,T',s') ∧ retK P env G A cx k ex T' s'
def opsK (T:Tm) (s:St) (ops rest:List Oper) (k:Kont):Prop :=
 ∃ n T' s',seqOps P env G (evalN P env G A n).call ops rest T s = some (T',s') ∧ retK P env G A cx k .normal T' s'
def callK (f:FuncId) (args:List PV) (T:Tm) (s:St) (dst:Option Tmp) (ops rest:List Oper) (k:Kont):Prop :=
 ∃ n v s',(match envCall env s.hp f args with | some o => some (o.val,s.apply (thaw o)) | none => (evalN P env G A n).call f args s) = some (v,s') ∧ opsK P env G A cx (putT T dst v) s' ops rest k
def drawK (j:Nat) (T:Tm) (s:St) (l:List Lg) (m:List Nat) (ops rest:List Oper) (k:Kont):Prop :=
 ∃ n T' s' l',drawOps P env G (evalN P env G A n).call ops rest j T s l = some (T',s',l') ∧ logOk m l' = true ∧ retK P env G A cx k .normal T' s'
def dcallK (f:FuncId) (args:List PV) (j:Nat) (T:Tm) (s:St) (dst:Option Tmp) (rd:List Nat) (l:List Lg) (m:List Nat) (ops rest:List Oper) (k:Kont):Prop :=
 ∃ n o,(match envCall env s.hp f args with | some o => some o | none => apartCall (evalN P env G A n).call s.hp s.next f args) = some o ∧ okOut s o = true ∧
  drawK P env G A cx (j+1) (putT T dst o.val) (s.apply o) ({ ix := j,rd := rd ++ o.fr,wr := o.wrote s.next } :: l) m ops rest k
def loopK (T:Tm) (s:St) (b:Code) (k:Kont):Prop :=
 ∃ n ex T' s',(evalN P env G A n).loop cx b T s = some (ex,T',s') ∧ retK P env G A cx k ex T' s'
def CallW (f:FuncId) (args:List PV) (s:St) (Q:PV → St → Prop):Prop :=
 ∃ n v s',(evalN P env G A n).call f args s = some (v,s') ∧ Q v s'
end
section
variable {P:Program} {env:Env} {G:Nat → Option PV} {A:FuncId → Option Ann} {cx:Cx}
theorem retK_done (Q:Ex → Tm → St → Prop) (ex:Ex) (T:Tm) (s:St):retK P env G A cx (.done Q) ex T s = Q ex T s := rfl
theorem retK_seq (b:Code) (k:Kont) (T:Tm) (s:St):retK P env G A cx (.seq b k) .normal T s = run P env G A cx T s b k := rfl
theorem retK_seq_exit (b:Code) (k:Kont) (id:Nat) (T:Tm) (s:St):retK P env G A cx (.seq b k) (.exit id) T s = retK P env G A cx k (.exit id) T s := rfl
theorem retK_seq_ret (b:Code) (k:Kont) (T:Tm) (s:St):retK P env G A cx (.seq b k) .ret T s = retK P env G A cx k .ret T s := rfl
theorem retK_block (id:Nat) (k:Kont) (T:Tm) (s:St):retK P env G A cx (.block id k) .normal T s = retK P env G A cx k .normal T s := rfl
theorem retK_block_exit (id id':Nat) (k:Kont) (T:Tm) (s:St):retK P env G A cx (.block id k) (.exit id') T s = if id' = id then retK P env G A cx k .normal T s else retK P env G A cx k (.exit id') T s := rfl
theorem retK_block_ret (id:Nat) (k:Kont) (T:Tm) (s:St):retK P env G A cx (.block id k) .ret T s = retK P env G A cx k .ret T s := rfl
theorem run_skip (T:Tm) (s:St) (k:Kont):run P env G A cx T s .skip k = retK P env G A cx k .normal T s := by
 apply propext
 simp only [run,evalCode,Option.some.injEq,Prod.mk.injEq]
 constructor
 ·rintro ⟨_,_,_,_,⟨rfl,rfl,rfl⟩,h⟩; exact h
 ·intro h; exact ⟨0,_,T,s,⟨rfl,rfl,rfl⟩,h⟩
theorem run_label (l:Nat) (T:Tm) (s:St) (k:Kont):run P env G A cx T s (.label l) k = retK P env G A cx k .normal T s := by
 apply propext
 simp only [run,evalCode,Option.some.injEq,Prod.mk.injEq]
 constructor
 ·rintro ⟨_,_,_,_,⟨rfl,rfl,rfl⟩,h⟩; exact h
 ·intro h; exact ⟨0,_,T,s,⟨rfl,rfl,rfl⟩,h⟩
theorem run_exit (id:Nat) (T:Tm) (s:St) (k:Kont):run P env G A cx T s (.exit id) k = retK P env G A cx k (.exit id) T s := by
 apply propext
 simp only [run,evalCode,Option.some.injEq,Prod.mk.injEq]
 constructor
 ·rintro ⟨_,_,_,_,⟨rfl,rfl,rfl⟩,h⟩; exact h
 ·intro h; exact ⟨0,_,T,s,⟨rfl,rfl,rfl⟩,h⟩
theorem run_ret (T:Tm) (s:St) (k:Kont):run P env G A cx T s .ret k = retK P env G A cx k .ret T s := by
 apply propext
 simp only [run,evalCode,Option.some.injEq,Prod.mk.injEq]
 constructor
 ·rintro ⟨_,_,_,_,⟨rfl,rfl,rfl⟩,h⟩; exact h
 ·intro h; exact ⟨0,_,T,s,⟨rfl,rfl,rfl⟩,h⟩
theorem run_scope (b:Code) (T:Tm) (s:St) (k:Kont):run P env G A cx T s (.scope b) k = run P env G A cx T s b k := by
 simp [run,evalCode]
theorem run_seq (a b:Code) (T:Tm) (s:St) (k:Kont):run P env G A cx T s (.seq a b) k = run P env G A cx T s a (.seq b k) := by
 apply propext
 constructor
 ·rintro ⟨n,ex,T',s',h,hk⟩
  unfold evalCode at h
  cases ha:evalCode P env G (evalN P env G A n).call (evalN P env G A n).loop cx a T s with
  | none => rw [ha] at h; cases h
  | some x =>
   obtain ⟨ex1,T1,s1⟩ := x
   rw [ha] at h
   refine ⟨n,ex1,T1,s1,ha,?_⟩
   cases ex1 with
   | normal => exact ⟨n,ex,T',s',h,hk⟩
   | exit id => cases h; exact hk
   | ret => cases h; exact hk
 ·rintro ⟨n,ex,T',s',h,hk⟩
  cases ex with
  | normal =>
   obtain ⟨m,ex2,T2,s2,h2,hk2⟩ := hk
   refine ⟨max n m,ex2,T2,s2,?_,hk2⟩
   unfold evalCode
   rw [evalCode_mono (evalN_mono (Nat.le_max_left n m)) a h]
   exact evalCode_mono (evalN_mono (Nat.le_max_right n m)) b h2
  | exit id => exact ⟨n,_,T',s',by unfold evalCode; rw [h],hk⟩
  | ret => exact ⟨n,_,T',s',by unfold evalCode; rw [h],hk⟩
theorem run_block (id:Nat) (b:Code) (T:Tm) (s:St) (k:Kont):run P env G A cx T s (.block id b) k = run P env G A cx T s b (.block id k) := by
 apply propext
 constructor
 ·rintro ⟨n,ex,T',s',h,hk⟩
  unfold evalCode at h
  cases ha:evalCode P env G (evalN P env G A n).call (evalN P env G A n).loop cx b T s with
  | none => rw [ha] at h; cases h
  | some x =>
   obtain ⟨ex1,T1,s1⟩ := x
   rw [ha] at h
   refine ⟨n,ex1,T1,s1,ha,?_⟩
   cases ex1 with
   | normal => cases h; exact hk
   | exit id' =>
    simp only [retK]
    by_cases hi:id' = id
    ·subst hi
     simp only [nbe,Bool.cond_eq_ite,if_true,Option.some.injEq,Prod.mk.injEq] at h
     obtain ⟨rfl,rfl,rfl⟩ := h
     simpa using hk
    ·simp only [nbe,Bool.cond_eq_ite,if_neg hi,Option.some.injEq,Prod.mk.injEq] at h
     obtain ⟨rfl,rfl,rfl⟩ := h
     simpa [hi] using hk
   | ret => cases h; exact hk
 ·rintro ⟨n,ex,T',s',h,hk⟩
  cases ex with
  | normal => exact ⟨n,_,T',s',by unfold evalCode; rw [h],hk⟩
  | exit id' =>
   simp only [retK] at hk
   by_cases hi:id' = id
   ·subst hi
    exact ⟨n,.normal,T',s',by unfold evalCode; rw [h]; simp [Bool.cond_eq_ite],by simpa using hk⟩
   ·exact ⟨n,.exit id',T',s',by unfold evalCode; rw [h]; simp [Bool.cond_eq_ite,hi],by simpa [hi] using hk⟩
  | ret => exact ⟨n,_,T',s',by unfold evalCode; rw [h],hk⟩
def condK (P:Program) (env:Env) (G:Nat → Option PV) (A:FuncId → Option Ann) (cx:Cx) (v:PV) (T:Tm) (s:St) (a b:Code) (k:Kont):Prop :=
 match v with
 | .bool true => run P env G A cx T s a k
 | .bool false => run P env G A cx T s b k
 | _ => False
theorem condK_true (a b:Code) (T:Tm) (s:St) (k:Kont):condK P env G A cx (.bool true) T s a b k = run P env G A cx T s a k := rfl
theorem condK_false (a b:Code) (T:Tm) (s:St) (k:Kont):condK P env G A cx (.bool false) T s a b k = run P env G A cx T s b k := rfl
theorem condK_of (x:Bool) (a b:Code) (T:Tm) (s:St) (k:Kont) (h1:x = true → run P env G A cx T s a k) (h2:x = false → run P env G A cx T s b k):condK P env G A cx (.bool x) T s a b k := by
 cases x
 ·exact h2 rfl
 ·exact h1 rfl
theorem run_cond (c:Operand) (a b:Code) (T:Tm) (s:St) (k:Kont):run P env G A cx T s (.cond c a b) k = condK P env G A cx (lkIn G T c) T s a b k := by
 simp only [run,evalCode]
 generalize lkIn G T c = v
 match v with
 | .bool true => rfl
 | .bool false => rfl
 | .top | .int .. | .str _ | .nil | .slice _ | .own .. | .ptr .. | .omap _ | .ownF .. | .eptr .. | .nilPtr | .agg _ | .tuple _ | .func .. | .nilFunc | .iface .. | .nilIface | .hole _ | .any => simp [condK]
theorem run_region (id:Nat) (ops:Array Oper) (T:Tm) (s:St) (k:Kont):run P env G A cx T s (.region id ops false) k = opsK P env G A cx T s ops.toList ops.toList k := by
 apply propext
 simp only [run,opsK,evalCode,evalRegion,cond_false]
 constructor
 ·rintro ⟨n,ex,T',s',h,hk⟩
  split at h
  ·rename_i T1 s1 hs
   split at hs
   ·rename_i h1; cases hs; cases h; exact ⟨n,_,_,h1,hk⟩
   ·cases hs
  ·cases h
 ·rintro ⟨n,T',s',h,hk⟩
  exact ⟨n,.normal,T',s',by rw [h],hk⟩
theorem retK_ops (all last:List Oper) (k:Kont) (T:Tm) (s:St):retK P env G A cx (.ops all last k) .normal T s = opsK P env G A cx T s all last k := rfl
theorem run_draw (id:Nat) (ops:Array Oper) (T:Tm) (s:St) (k:Kont):run P env G A cx T s (.region id ops true) k =
  match look cx.ann.draws id with
  | some m => match look cx.ann.lasts id with
   | some j => drawK P env G A cx 0 T s [] m (ops.toList.take (ops.toList.length - j)) (ops.toList.take (ops.toList.length - j)) (.ops ops.toList (ops.toList.drop (ops.toList.length - j)) k)
   | none => drawK P env G A cx 0 T s [] m ops.toList ops.toList k
  | none => False := by
 apply propext
 simp only [run,evalCode,evalRegion,cond_true]
 cases hm:look cx.ann.draws id with
 | none => simp
 | some m =>
  cases hlast:look cx.ann.lasts id with
  | some j =>
   simp only [drawK,retK]
   constructor
   ·rintro ⟨n,ex,T',s',h,hk⟩
    split at h
    ·rename_i T1 s1 hs
     split at hs
     ·rename_i T2 s2 l h1
      simp only [Bool.cond_eq_ite] at hs
      split at hs
      ·rename_i hl; cases h; exact ⟨n,_,_,l,h1,hl,n,_,_,hs,hk⟩
      ·cases hs
     ·cases hs
    ·cases h
   ·rintro ⟨n,T',s',l,h,hl,n2,T2,s2,h2,hk⟩
    refine ⟨max n n2,.normal,T2,s2,?_,hk⟩
    rw [drawOps_mono (evalN_mono (Nat.le_max_left n n2)) h]
    simp only [hl,cond_true,seqOps_mono (evalN_mono (Nat.le_max_right n n2)) h2]
  | none =>
  simp only [drawK]
  constructor
  ·rintro ⟨n,ex,T',s',h,hk⟩
   split at h
   ·rename_i T1 s1 hs
    split at hs
    ·rename_i T2 s2 l h1
     simp only [Bool.cond_eq_ite] at hs
     split at hs
     ·rename_i hl; cases hs; cases h; exact ⟨n,_,_,l,h1,hl,hk⟩
     ·cases hs
    ·cases hs
   ·cases h
  ·rintro ⟨n,T',s',l,h,hl,hk⟩
   exact ⟨n,.normal,T',s',by rw [h]; simp [hl],hk⟩
theorem run_loop (b:Code) (T:Tm) (s:St) (k:Kont):run P env G A cx T s (.loop b) k = loopK P env G A cx T s b k := rfl
theorem opsK_nil (ops:List Oper) (T:Tm) (s:St) (k:Kont):opsK P env G A cx T s ops [] k = retK P env G A cx k .normal T s := by
 apply propext
 simp only [opsK,seqOps,Option.some.injEq,Prod.mk.injEq]
 constructor
 ·rintro ⟨_,_,_,⟨rfl,rfl⟩,h⟩; exact h
 ·intro h; exact ⟨0,T,s,⟨rfl,rfl⟩,h⟩
theorem opsK_cons (ops:List Oper) (o:Oper) (rest:List Oper) (T:Tm) (s:St) (k:Kont):opsK P env G A cx T s ops (o :: rest) k =
  match wantedP ops T o with
  | some true => (match callOf (lkIn G T) o.op with
   | some x => callK P env G A cx x.1 x.2 T s o.dst ops rest k
   | none => match evalOp P s.hp s.fz s.next (lkIn G T) o.op with
    | some x => opsK P env G A cx (putT T o.dst x.val) (s.apply x) ops rest k
    | none => False)
  | some false => opsK P env G A cx (putT T o.dst undefP) s ops rest k
  | none => False := by
 apply propext
 unfold opsK
 constructor
 ·rintro ⟨n,T',s',h,hk⟩
  unfold seqOps at h
  split at h
  ·rename_i hw
   rw [hw]
   dsimp only
   split at h
   ·rename_i v s1 hs
    unfold stepOp at hs
    cases hc:callOf (lkIn G T) o.op with
    | some x =>
     rw [hc] at hs
     exact ⟨n,v,s1,hs,n,T',s',h,hk⟩
    | none =>
     rw [hc] at hs
     dsimp only at hs ⊢
     cases he:evalOp P s.hp s.fz s.next (lkIn G T) o.op with
     | none => rw [he] at hs; cases hs
     | some x => rw [he] at hs; cases hs; exact ⟨n,T',s',h,hk⟩
   ·cases h
  ·rename_i hw
   rw [hw]
   exact ⟨n,T',s',h,hk⟩
  ·cases h
 ·intro h
  cases hw:wantedP ops T o with
  | none => rw [hw] at h; exact h.elim
  | some w =>
   rw [hw] at h
   cases w with
   | false =>
    obtain ⟨n,T',s',h,hk⟩ := h
    exact ⟨n,T',s',by unfold seqOps; rw [hw]; exact h,hk⟩
   | true =>
    dsimp only at h
    cases hc:callOf (lkIn G T) o.op with
    | some x =>
     rw [hc] at h
     obtain ⟨n,v,s1,hs,m,T',s',h,hk⟩ := h
     refine ⟨max n m,T',s',?_,hk⟩
     unfold seqOps
     rw [hw]
     dsimp only
     have hst:stepOp P env G (evalN P env G A n).call T s o.op = some (v,s1) := by unfold stepOp; rw [hc]; exact hs
     rw [stepOp_mono (evalN_mono (Nat.le_max_left n m)) hst]
     exact seqOps_mono (evalN_mono (Nat.le_max_right n m)) h
    | none =>
     rw [hc] at h
     dsimp only at h
     cases he:evalOp P s.hp s.fz s.next (lkIn G T) o.op with
     | none => rw [he] at h; exact h.elim
     | some x =>
      rw [he] at h
      obtain ⟨n,T',s',h,hk⟩ := h
      refine ⟨n,T',s',?_,hk⟩
      unfold seqOps
      rw [hw]
      dsimp only
      have hst:stepOp P env G (evalN P env G A n).call T s o.op = some (x.val,s.apply x) := by unfold stepOp; rw [hc]; dsimp only; rw [he]
      rw [hst]
      exact h
theorem drawK_nil (ops:List Oper) (j:Nat) (T:Tm) (s:St) (l:List Lg) (m:List Nat) (k:Kont):drawK P env G A cx j T s l m ops [] k = (logOk m l = true ∧ retK P env G A cx k .normal T s) := by
 apply propext
 simp only [drawK,drawOps,Option.some.injEq,Prod.mk.injEq]
 constructor
 ·rintro ⟨_,_,_,_,⟨rfl,rfl,rfl⟩,h⟩; exact h
 ·intro h; exact ⟨0,T,s,l,⟨rfl,rfl,rfl⟩,h⟩
theorem drawK_cons (ops:List Oper) (o:Oper) (rest:List Oper) (j:Nat) (T:Tm) (s:St) (l:List Lg) (m:List Nat) (k:Kont):drawK P env G A cx j T s l m ops (o :: rest) k =
  match wantedP ops T o with
  | some true => (match callOf (lkIn G T) o.op with
   | some x => dcallK P env G A cx x.1 x.2 j T s o.dst (touch (lkIn G T) o.op) l m ops rest k
   | none => match evalOp P s.hp s.fz s.next (lkIn G T) o.op with
    | some x => okOut s x = true ∧ drawK P env G A cx (j+1) (putT T o.dst x.val) (s.apply x) ({ ix := j,rd := touch (lkIn G T) o.op ++ x.fr,wr := x.wrote s.next } :: l) m ops rest k
    | none => False)
  | some false => drawK P env G A cx (j+1) (putT T o.dst undefP) s l m ops rest k
  | none => False := by
 apply propext
 unfold drawK
 constructor
 ·rintro ⟨n,T',s',l',h,hk⟩
  unfold drawOps at h
  split at h
  ·rename_i hw
   rw [hw]
   dsimp only
   split at h
   ·rename_i out hs
    simp only [Bool.cond_eq_ite] at h
    split at h
    ·rename_i hok
     unfold drawOp at hs
     cases hc:callOf (lkIn G T) o.op with
     | some x =>
      rw [hc] at hs
      exact ⟨n,out,hs,hok,n,T',s',l',h,hk⟩
     | none =>
      rw [hc] at hs
      dsimp only at hs ⊢
      rw [hs]
      exact ⟨hok,n,T',s',l',h,hk⟩
    ·cases h
   ·cases h
  ·rename_i hw
   rw [hw]
   exact ⟨n,T',s',l',h,hk⟩
  ·cases h
 ·intro h
  cases hw:wantedP ops T o with
  | none => rw [hw] at h; exact h.elim
  | some w =>
   rw [hw] at h
   cases w with
   | false =>
    obtain ⟨n,T',s',l',h,hk⟩ := h
    exact ⟨n,T',s',l',by unfold drawOps; rw [hw]; exact h,hk⟩
   | true =>
    dsimp only at h
    cases hc:callOf (lkIn G T) o.op with
    | some x =>
     rw [hc] at h
     obtain ⟨n,out,hs,hok,m',T',s',l',h,hk⟩ := h
     refine ⟨max n m',T',s',l',?_,hk⟩
     unfold drawOps
     rw [hw]
     dsimp only
     have hst:drawOp P env G (evalN P env G A n).call T s o.op = some out := by unfold drawOp; rw [hc]; exact hs
     rw [drawOp_mono (evalN_mono (Nat.le_max_left n m')) hst]
     simp only [hok,cond_true]
     exact drawOps_mono (evalN_mono (Nat.le_max_right n m')) h
    | none =>
     rw [hc] at h
     dsimp only at h
     cases he:evalOp P s.hp s.fz s.next (lkIn G T) o.op with
     | none => rw [he] at h; exact h.elim
     | some x =>
      rw [he] at h
      obtain ⟨hok,n,T',s',l',h,hk⟩ := h
      refine ⟨n,T',s',l',?_,hk⟩
      unfold drawOps
      rw [hw]
      dsimp only
      have hst:drawOp P env G (evalN P env G A n).call T s o.op = some x := by unfold drawOp; rw [hc]; dsimp only; rw [he]
      rw [hst]
      simp only [hok,cond_true]
      exact h
theorem callK_run {f:FuncId} {args:List PV} {ops rest:List Oper} {T:Tm} {dst:Option Tmp} {s:St} {k:Kont} (he:env f = none)
  (h:CallW P env G A f args s fun v s' => opsK P env G A cx (putT T dst v) s' ops rest k):callK P env G A cx f args T s dst ops rest k := by
 obtain ⟨n,v,s',hc,hk⟩ := h
 exact ⟨n,v,s',by simp only [envCall,he]; exact hc,hk⟩
theorem callK_env {f:FuncId} {args as:List PV} {fr:List Nat} {F:Fn1} {r:PV} {ops rest:List Oper} {T:Tm} {dst:Option Tmp} {s:St} {k:Kont} (he:env f = some F) (hr:reifyL s.hp args = some (as,fr)) (hF:F as = some r)
  (h:opsK P env G A cx (putT T dst r) (s.apply (thaw { val := r,fr := fr })) ops rest k):callK P env G A cx f args T s dst ops rest k :=
 ⟨0,r,_,by simp only [envCall,he,hr,hF],h⟩
theorem dcallK_env {f:FuncId} {args as:List PV} {fr:List Nat} {F:Fn1} {r:PV} {ops rest:List Oper} {j:Nat} {T:Tm} {dst:Option Tmp} {s:St} {rd:List Nat} {l:List Lg} {m:List Nat} {k:Kont}
  (he:env f = some F) (hr:reifyL s.hp args = some (as,fr)) (hF:F as = some r) (hok:fr.all (fun r => Nat.blt r s.next) = true)
  (h:drawK P env G A cx (j+1) (putT T dst r) (s.apply { val := r,fr := fr }) ({ ix := j,rd := rd ++ fr,wr := [] } :: l) m ops rest k):dcallK P env G A cx f args j T s dst rd l m ops rest k :=
 ⟨0,{ val := r,fr := fr },by simp only [envCall,he,hr,hF],by simp [okOut,hok],h⟩
def endK (P:Program) (rs:List ResultVar) (Q:PV → St → Prop):Ex → Tm → St → Prop := fun ex T s =>
 match ex with
 | .exit _ => False
 | _ => match resultsP P s T rs with
  | some vs => Q (oneP vs) s
  | none => False
theorem callW_of {f:FuncId} {fn:Func} {c:Code} {a:Ann} {args:List PV} {s:St} {Q:PV → St → Prop} (hA:A f = some a) (hf:P.funcs[f]? = some fn) (hb:fn.body = some c) (hn:Nat.ble args.length fn.ntmps = true)
  (h:run P env G A ⟨a,s.next⟩ (startT a.keep args) s c (.done (endK P fn.results.toList Q))):CallW P env G A f args s Q := by
 obtain ⟨n,ex,T,s',he,hk⟩ := h
 simp only [retK] at hk
 have key:∀ vs,resultsP P s' T fn.results.toList = some vs → (∀ id,ex ≠ .exit id) → (evalN P env G A (n+1)).call f args s = some (oneP vs,s') := by
  intro vs hvs hx
  show callWith P env G A (evalN P env G A n) f args s = _
  unfold callWith
  simp only [hA,hf,hb,hn,cond_true,he]
  cases ex with
  | exit id => exact absurd rfl (hx id)
  | normal => simp only [hvs]
  | ret => simp only [hvs]
 unfold endK at hk
 cases ex with
 | exit id => exact hk.elim
 | normal =>
  dsimp only at hk
  split at hk
  ·rename_i vs hvs; exact ⟨n+1,_,s',key vs hvs (by simp),hk⟩
  ·exact hk.elim
 | ret =>
  dsimp only at hk
  split at hk
  ·rename_i vs hvs; exact ⟨n+1,_,s',key vs hvs (by simp),hk⟩
  ·exact hk.elim
theorem CallW.mono {f:FuncId} {args:List PV} {s:St} {Q Q':PV → St → Prop} (h:CallW P env G A f args s Q) (hq:∀ v s,Q v s → Q' v s):CallW P env G A f args s Q' := by
 obtain ⟨n,v,s',hc,hk⟩ := h
 exact ⟨n,v,s',hc,hq v s' hk⟩
theorem sum_of_callW {f:FuncId} {args:List PV} {Q:PV → Prop} (h:CallW P env G A f args ⟨0,[],[]⟩ fun v s => ∃ r fl,reify s.hp v = some (r,fl) ∧ Q r):∃ n r,evalSum P env G A n f args = some r ∧ Q r := by
 obtain ⟨n,v,s',hc,r,fl,hr,hq⟩ := h
 exact ⟨n,r,by unfold evalSum; rw [hc]; simp only [hr],hq⟩
def roundK (P:Program) (env:Env) (G:Nat → Option PV) (A:FuncId → Option Ann) (cx:Cx) (keep:List Nat) (I:Nat → List PV → St → Prop) (m:Nat) (k:Kont):Ex → Tm → St → Prop := fun ex T s =>
 match ex with
 | .normal => ∃ m',m' < m ∧ I m' (keep.map (lookT T)) s
 | ex => retK P env G A cx k ex T s
theorem roundK_normal {keep:List Nat} {I:Nat → List PV → St → Prop} {m:Nat} {k:Kont} {T:Tm} {s:St}:roundK P env G A cx keep I m k .normal T s = ∃ m',m' < m ∧ I m' (keep.map (lookT T)) s := rfl
theorem roundK_exit {keep:List Nat} {I:Nat → List PV → St → Prop} {m:Nat} {k:Kont} {T:Tm} {s:St} {id:Nat}:roundK P env G A cx keep I m k (.exit id) T s = retK P env G A cx k (.exit id) T s := rfl
theorem roundK_ret {keep:List Nat} {I:Nat → List PV → St → Prop} {m:Nat} {k:Kont} {T:Tm} {s:St}:roundK P env G A cx keep I m k .ret T s = retK P env G A cx k .ret T s := rfl
theorem gc_noGc {b:Code} {T:Tm} {s:St} {keep:List Nat} (hg:cx.ann.noGc = true) (hk:look cx.ann.loops (firstRegion b) = some keep):gc cx b T s = (restrict keep T,s) := by
 simp [gc,hg,hk]
theorem restrict_zip (keep:List Nat) (T:Tm):restrict keep T = keep.zip (keep.map (lookT T)) := by
 induction keep with
 | nil => rfl
 | cons i keep ih => simp only [restrict,List.map_cons,List.zip_cons_cons] at ih ⊢; rw [ih]
theorem loopK_of {b:Code} {k:Kont} {keep:List Nat} (I:Nat → List PV → St → Prop) (hg:cx.ann.noGc = true) (hk:look cx.ann.loops (firstRegion b) = some keep)
  (step:∀ m vs s,I m vs s → run P env G A cx (keep.zip vs) s b (.done (roundK P env G A cx keep I m k))):∀ (m:Nat) (T:Tm) (s:St),I m (keep.map (lookT T)) s → loopK P env G A cx T s b k := by
 intro m
 induction m using Nat.strongRecOn with
 | ind m ih =>
  intro T s h
  obtain ⟨n,ex,T',s',he,hr⟩ := step m _ s h
  simp only [retK] at hr
  cases ex with
  | normal =>
   obtain ⟨m',hm,hI⟩ := hr
   obtain ⟨n2,ex2,T2,s2,h2,hk2⟩ := ih m' hm T' s' hI
   refine ⟨max n n2+1,ex2,T2,s2,?_,hk2⟩
   show loopWith P env G (evalN P env G A (max n n2)) cx b T s = _
   unfold loopWith
   rw [gc_noGc hg hk]
   dsimp only
   rw [restrict_zip,evalCode_mono (evalN_mono (Nat.le_max_left n n2)) b he]
   exact (evalN_mono (Nat.le_max_right n n2)).loop _ _ _ _ _ h2
  | exit id =>
   refine ⟨n+1,_,T',s',?_,hr⟩
   show loopWith P env G (evalN P env G A n) cx b T s = _
   unfold loopWith
   rw [gc_noGc hg hk]
   dsimp only
   rw [restrict_zip,he]
  | ret =>
   refine ⟨n+1,_,T',s',?_,hr⟩
   show loopWith P env G (evalN P env G A n) cx b T s = _
   unfold loopWith
   rw [gc_noGc hg hk]
   dsimp only
   rw [restrict_zip,he]
def roundX (keep:List Nat) (I:Nat → List PV → St → Prop) (m id:Nat) (Qx:Tm → St → Prop):Ex → Tm → St → Prop := fun ex T s =>
 match ex with
 | .normal => ∃ m',m' < m ∧ I m' (keep.map (lookT T)) s
 | .exit i => i = id ∧ Qx T s
 | .ret => False
theorem roundX_normal {keep:List Nat} {I:Nat → List PV → St → Prop} {m id:Nat} {Qx:Tm → St → Prop} {T:Tm} {s:St}:roundX keep I m id Qx .normal T s = ∃ m',m' < m ∧ I m' (keep.map (lookT T)) s := rfl
theorem roundX_exit {keep:List Nat} {I:Nat → List PV → St → Prop} {m id i:Nat} {Qx:Tm → St → Prop} {T:Tm} {s:St}:roundX keep I m id Qx (.exit i) T s = (i = id ∧ Qx T s) := rfl
theorem loopK_exit {b:Code} {k:Kont} {keep:List Nat} (I:Nat → List PV → St → Prop) (id:Nat) (Qx:Tm → St → Prop) (hg:cx.ann.noGc = true) (hk:look cx.ann.loops (firstRegion b) = some keep)
  (step:∀ m vs s,I m vs s → run P env G A cx (keep.zip vs) s b (.done (roundX keep I m id Qx))) (cont:∀ T s,Qx T s → retK P env G A cx k (.exit id) T s) (m:Nat) (T:Tm) (s:St) (h:I m (keep.map (lookT T)) s):loopK P env G A cx T s b k := by
 refine loopK_of I hg hk (fun m vs s hI => ?_) m T s h
 obtain ⟨n,ex,T',s',he,hr⟩ := step m vs s hI
 refine ⟨n,ex,T',s',he,?_⟩
 simp only [retK] at hr ⊢
 cases ex with
 | normal => exact hr
 | exit i =>
  obtain ⟨rfl,hq⟩ := hr
  exact cont T' s' hq
 | ret => exact hr.elim
end
end Go.Pi
namespace Go.Pi
open Go.RowKit (Below)
variable [Hole]
def Gives (P:Program) (G:Nat → Option PV) (f:FuncId) (as:List PV) (Q:PV → Prop):Prop := ∃ r,Q r ∧ Sum P G f (oneRow as r)
theorem Gives.mono {P:Program} {G:Nat → Option PV} {f:FuncId} {as:List PV} {Q Q':PV → Prop} (h:Gives P G f as Q) (hq:∀ r,Q r → Q' r):Gives P G f as Q' := by
 obtain ⟨r,hr,hs⟩ := h
 exact ⟨r,hq r hr,hs⟩
abbrev CRel := List PV → PV → Prop
open Classical in
noncomputable def relFn (P:Program) (G:Nat → Option PV) (f:FuncId) (R:CRel):Fn1 := fun as => if h:Gives P G f as (R as) then some h.choose else none
theorem relFn_sum {P:Program} {G:Nat → Option PV} {f:FuncId} {R:CRel} (hen:Enters P f):Sum P G f (relFn P G f R) := by
 refine ⟨hen,fun as r hr => ?_⟩
 unfold relFn at hr
 split at hr
 ·rename_i hd
  cases hr
  exact hd.choose_spec.2.2 as _ (by simp [oneRow])
 ·cases hr
theorem relFn_some {P:Program} {G:Nat → Option PV} {f:FuncId} {R:CRel} {as:List PV} (h:Gives P G f as (R as)):∃ r,relFn P G f R as = some r ∧ R as r := by
 refine ⟨h.choose,?_,h.choose_spec.1⟩
 simp [relFn,h]
abbrev Specs := List (Nat × CRel)
noncomputable def specEnv (P:Program) (G:Nat → Option PV) (S:Specs):Env := fun f => (look S f).map (relFn P G f)
theorem look_mem' {α:Type}:∀ {l:List (Nat × α)} {k:Nat} {v:α},look l k = some v → (k,v) ∈ l
 | [],_,_,h => by cases h
 | (i,x) :: r,k,v,h => by
  simp only [look,Bool.cond_eq_ite,nat_beq_eq] at h
  split at h
  ·rename_i e; subst e; cases h; exact List.mem_cons_self ..
  ·exact List.mem_cons_of_mem _ (look_mem' h)
theorem specEnv_ok {P:Program} {G:Nat → Option PV} {S:Specs} (hen:∀ p ∈ S,Enters P p.1):EnvOk P G (specEnv P G S) := by
 intro f F hF
 simp only [specEnv,Option.map_eq_some_iff] at hF
 obtain ⟨R,hR,rfl⟩ := hF
 exact relFn_sum (hen _ (look_mem' hR))
section
variable {P:Program} {G:Nat → Option PV} {A:FuncId → Option Ann} {cx:Cx} {S:Specs}
theorem callK_spec {f:FuncId} {R:CRel} {args as:List PV} {fr:List Nat} {ops rest:List Oper} {T:Tm} {dst:Option Tmp} {s:St} {k:Kont} (hS:look S f = some R) (hr:reifyL s.hp args = some (as,fr)) (hg:Gives P G f as (R as))
  (h:∀ r,R as r → opsK P (specEnv P G S) G A cx (putT T dst r) (s.apply (thaw { val := r,fr := fr })) ops rest k):callK P (specEnv P G S) G A cx f args T s dst ops rest k := by
 obtain ⟨r,h1,h2⟩ := relFn_some hg
 exact callK_env (by simp only [specEnv,hS,Option.map_some]) hr h1 (h r h2)
theorem dcallK_spec {f:FuncId} {R:CRel} {args as:List PV} {fr:List Nat} {ops rest:List Oper} {j:Nat} {T:Tm} {dst:Option Tmp} {s:St} {rd:List Nat} {l:List Lg} {m:List Nat} {k:Kont}
  (hS:look S f = some R) (hr:reifyL s.hp args = some (as,fr)) (hg:Gives P G f as (R as)) (hok:fr.all (fun r => Nat.blt r s.next) = true)
  (h:∀ r,R as r → drawK P (specEnv P G S) G A cx (j+1) (putT T dst r) (s.apply { val := r,fr := fr }) ({ ix := j,rd := rd ++ fr,wr := [] } :: l) m ops rest k) :
  dcallK P (specEnv P G S) G A cx f args j T s dst rd l m ops rest k := by
 obtain ⟨r,h1,h2⟩ := relFn_some hg
 exact dcallK_env (by simp only [specEnv,hS,Option.map_some]) hr h1 hok (h r h2)
theorem reifyL_pure {hp:Nat → Option Ent}:∀ {args:List PV},PV.pureL args = true → reifyL hp args = some (args,[])
 | [],_ => rfl
 | v :: vs,h => by
  simp only [PV.pureL,Bool.and_eq_true] at h
  have ih := reifyL_pure (hp := hp) h.2
  unfold reifyL at ih ⊢
  simp only [mapR,reify,h.1,cond_true,ih,List.append_nil]
theorem apply_thaw (s:St) (r:PV):s.apply (thaw { val := r,fr := [] }) = ⟨s.next+1,s.heap,s.froz⟩ := by
 unfold thaw
 cases r.bareB <;> rfl
theorem apply_val (s:St) (r:PV):s.apply { val := r,fr := [] } = ⟨s.next+1,s.heap,s.froz⟩ := rfl
theorem callK_pure {f:FuncId} {R:CRel} {args:List PV} {ops rest:List Oper} {T:Tm} {dst:Option Tmp} {s:St} {k:Kont} (hS:look S f = some R) (hp:PV.pureL args = true) (hg:Gives P G f args (R args))
  (h:∀ r,R args r → opsK P (specEnv P G S) G A cx (putT T dst r) ⟨s.next+1,s.heap,s.froz⟩ ops rest k):callK P (specEnv P G S) G A cx f args T s dst ops rest k :=
 callK_spec hS (reifyL_pure hp) hg fun r hr => by rw [apply_thaw]; exact h r hr
theorem dcallK_pure {f:FuncId} {R:CRel} {args:List PV} {ops rest:List Oper} {j:Nat} {T:Tm} {dst:Option Tmp} {s:St} {rd:List Nat} {l:List Lg} {m:List Nat} {k:Kont}
  (hS:look S f = some R) (hp:PV.pureL args = true) (hg:Gives P G f args (R args))
  (h:∀ r,R args r → drawK P (specEnv P G S) G A cx (j+1) (putT T dst r) ⟨s.next+1,s.heap,s.froz⟩ ({ ix := j,rd := rd,wr := [] } :: l) m ops rest k) :
  dcallK P (specEnv P G S) G A cx f args j T s dst rd l m ops rest k :=
 dcallK_spec hS (reifyL_pure hp) hg rfl fun r hr => by rw [apply_val,List.append_nil]; exact h r hr
theorem gives_of {f:FuncId} {as:List PV} {Q:PV → Prop} (hS:∀ p ∈ S,Enters P p.1) (hA:AnnOk P A) (hmix:P.follows .mixedOrders = true) (hen:Enters P f)
  (h:CallW P (specEnv P G S) G A f as ⟨0,[],[]⟩ fun v s => ∃ r fl,reify s.hp v = some (r,fl) ∧ Q r):Gives P G f as Q := by
 obtain ⟨n,r,hr,hq⟩ := sum_of_callW h
 refine ⟨r,hq,evalSum_sound (specEnv_ok hS) hA hmix hen fun as' r' h' => ?_⟩
 unfold oneRow at h'
 split at h'
 ·rename_i e; cases h'; subst e; exact ⟨n,hr⟩
 ·cases h'
theorem sum_gives {f:FuncId} {F:Fn1} {as:List PV} {r:PV} {Q:PV → Prop} (h:Sum P G f F) (hr:F as = some r) (hq:Q r):Gives P G f as Q := by
 refine ⟨r,hq,h.1,fun as' r' h' => ?_⟩
 unfold oneRow at h'
 split at h'
 ·rename_i e; cases h'; subst e; exact h.2 _ _ hr
 ·cases h'
end
end Go.Pi
namespace Go.Pi
open Go.ChangeShapes Go.WideShapes
open Go.RowKit (Below)
section
variable (P:Program)
def tileF:List Field → Nat → Option Nat
 | [],o => some o
 | f :: fs,o => bif Nat.beq f.offset o then tileF fs (o + P.cellsOf f.type) else none
def typedF (q:TypeId → List PV → Prop):List Field → List PV → Prop
 | [],vs => vs = []
 | f :: fs,vs => ∃ a b,vs = a ++ b ∧ q f.type a ∧ typedF q fs b
def typedA (q:List PV → Prop):Nat → List PV → Prop
 | 0,vs => vs = []
 | k+1,vs => ∃ a b,vs = a ++ b ∧ q a ∧ typedA q k b
def typed:Nat → TypeId → List PV → Prop
 | 0,_,_ => False
 | n+1,t,vs => match P.underlying t with
  | some .bool => ∃ b,vs = [.bool b]
  | some (.int k) => ∃ m,vs = [.int k m] ∧ (Lit.int k m).wf = true
  | some .string => ∃ s:ByteArray,vs = [.str s] ∧ s.size ≤ maxLen
  | some (.slice e) => vs = [.nil] ∨ ∃ es,vs = [.slice es] ∧ es.length ≤ maxLen ∧ ∀ v ∈ es,typed n e v.cells ∧ (bif isAggT P e then ∃ cs,v = .agg cs else v.cells = [v])
  | some (.struct fs) => typedF (typed n) fs.toList vs
  | some (.array k e) => typedA (typed n e) k vs
  | _ => False
end
section
variable {P:Program} [Hole]
theorem all2A_append {α β:Type} {R:α → β → Prop} {a b:List α} {x y:List β} (h:All2 R a x) (h':All2 R b y):All2 R (a ++ b) (x ++ y) := by
 refine ⟨by rw [List.length_append,List.length_append,h.1,h'.1],fun k v z hv hz => ?_⟩
 by_cases hk:k < a.length
 ·rw [List.getElem?_append_left hk] at hv
  rw [List.getElem?_append_left (by rw [h.1]; exact hk)] at hz
  exact h.2 k v z hv hz
 ·rw [List.getElem?_append_right (by omega)] at hv
  rw [List.getElem?_append_right (by rw [h.1]; omega),h.1] at hz
  exact h'.2 _ v z hv hz
theorem all2A_nil {α β:Type} {R:α → β → Prop}:All2 R ([]:List α) ([]:List β) := ⟨rfl,fun k v x h => by simp at h⟩
theorem all2A_one {α β:Type} {R:α → β → Prop} {a:α} {x:β} (h:R a x):All2 R [a] [x] := ⟨rfl,fun k v y hv hy => by
 match k with
 | 0 => cases hv; cases hy; exact h
 | k+1 => simp at hv⟩
theorem flatG_get {α:Type} (V:Nat → List α) (sz:Nat) (h0:0 < sz):∀ n,(∀ i,i < n → (V i).length = sz) → ((List.range n).flatMap V).length = n * sz ∧ ∀ i j,i < n → j < sz → ((List.range n).flatMap V)[i * sz + j]? = (V i)[j]?
 | 0,_ => ⟨by simp,fun i j h => absurd h (Nat.not_lt_zero i)⟩
 | n+1,h => by
  obtain ⟨h1,h2⟩ := flatG_get V sz h0 n fun i hi => h i (by omega)
  have hl := h n (Nat.lt_succ_self n)
  have e:(List.range (n+1)).flatMap V = (List.range n).flatMap V ++ V n := by rw [List.range_succ,List.flatMap_append]; simp
  rw [e]
  refine ⟨by rw [List.length_append,h1,hl,Nat.succ_mul],fun i j hi hj => ?_⟩
  rcases Nat.lt_succ_iff_lt_or_eq.1 hi with hi | rfl
  ·have:i * sz + j < n * sz := by
    have:(i+1) * sz ≤ n * sz := Nat.mul_le_mul_right sz hi
    rw [Nat.succ_mul] at this
    omega
   rw [List.getElem?_append_left (by rw [h1]; exact this)]
   exact h2 i j hi hj
  ·rw [List.getElem?_append_right (by rw [h1]; omega),h1]
   congr 1
   omega
theorem fieldsA_of {w:World} {I:Nat → Prop} {rd:TypeId → List Value → Prop} {q:TypeId → List PV → Prop} (hq:∀ t cs,rd t cs → ∃ vs,q t vs ∧ All2 (PRep w I) vs cs):∀ (fs:List Field) (o:Nat) (cs:List Value),tileF P fs o = some cs.length → (∀ f ∈ fs,rd f.type ((cs.drop f.offset).take (P.cellsOf f.type))) →
  (∀ f ∈ fs,∀ cs,rd f.type cs → cs.length = P.cellsOf f.type) → ∃ vs,typedF q fs vs ∧ All2 (PRep w I) vs (cs.drop o)
 | [],o,cs,ht,_,_ => by
  simp only [tileF,Option.some.injEq] at ht
  exact ⟨[],rfl,by rw [ht,List.drop_length]; exact all2A_nil⟩
 | f :: fs,o,cs,ht,hr,hl => by
  simp only [tileF,Bool.cond_eq_ite,Nat.beq_eq] at ht
  split at ht
  ·rename_i e
   have h1 := hr f (List.mem_cons_self ..)
   obtain ⟨a,ha,ha2⟩ := hq _ _ h1
   obtain ⟨b,hb,hb2⟩ := fieldsA_of hq fs _ cs ht (fun g hg => hr g (List.mem_cons_of_mem _ hg)) (fun g hg => hl g (List.mem_cons_of_mem _ hg))
   have hlen := hl f (List.mem_cons_self ..) _ h1
   refine ⟨a ++ b,⟨a,b,rfl,ha,hb⟩,?_⟩
   have:cs.drop o = (cs.drop f.offset).take (P.cellsOf f.type) ++ cs.drop (o + P.cellsOf f.type) := by
    rw [e,← List.drop_drop,List.take_append_drop]
   rw [this]
   exact all2A_append ha2 hb2
  ·cases ht
theorem arrayA_of {w:World} {I:Nat → Prop} {rd:List Value → Prop} {q:List PV → Prop} {sz:Nat} (hq:∀ cs,rd cs → ∃ vs,q vs ∧ All2 (PRep w I) vs cs):∀ (k i:Nat) (cs:List Value),cs.length = (i + k) * sz → (∀ j,j < i + k → rd ((cs.drop (j * sz)).take sz)) →
  ∃ vs,typedA q k vs ∧ All2 (PRep w I) vs (cs.drop (i * sz))
 | 0,i,cs,hl,_ => ⟨[],rfl,by rw [Nat.add_zero] at hl; rw [← hl,List.drop_length]; exact all2A_nil⟩
 | k+1,i,cs,hl,hr => by
  obtain ⟨a,ha,ha2⟩ := hq _ (hr i (by omega))
  obtain ⟨b,hb,hb2⟩ := arrayA_of hq k (i+1) cs (by rw [hl]; congr 1; omega) (fun j hj => hr j (by omega))
  refine ⟨a ++ b,⟨a,b,rfl,ha,hb⟩,?_⟩
  have:cs.drop (i * sz) = (cs.drop (i * sz)).take sz ++ cs.drop ((i+1) * sz) := by
   rw [Nat.succ_mul,← List.drop_drop,List.take_append_drop]
  rw [this]
  exact all2A_append ha2 hb2
end
section
variable {P:Program} [Hole] {H:Type} {enc:TypeId × Value → H} {w:World} {I:Nat → Prop} {spare:Nat → Bool} {held:Bool} {base:Nat}
def packV (agg:Bool) (vs:List PV):PV := bif agg then .agg vs else vs.headD .nil
end
section
variable (P:Program)
def closedT (S:List TypeId):Bool := S.all fun t => match P.underlying t with
  | some .bool | some (.int _) | some .string => Nat.beq (P.cellsOf t) 1
  | some (.slice e) => Nat.beq (P.cellsOf t) 1 && Nat.blt 0 (P.cellsOf e) && S.elem e
  | some (.struct fs) => (tileF P fs.toList 0 == some (P.cellsOf t)) && fs.toList.all fun f => S.elem f.type
  | some (.array k e) => Nat.beq (P.cellsOf t) (k * P.cellsOf e) && S.elem e
  | _ => false
end
section
variable {P:Program} [Hole] {H:Type} {enc:TypeId × Value → H} {w:World} {I:Nat → Prop} {spare:Nat → Bool} {held:Bool} {base:Nat} {S:List TypeId}
theorem typedR_of (hI:∀ b,b < w.heap.size → I b) (hS:closedT P S = true):∀ (n:Nat) (t:TypeId) (cs:List Value) (x:DataW H × List MemPlace),t ∈ S → DataW.trod enc P w base spare held n t cs = some x → cs.length = P.cellsOf t ∧ ∃ vs,typed P n t vs ∧ All2 (PRep w I) vs cs
 | 0,_,_,_,_,h => by simp [DataW.trod] at h
 | d+1,t,cs,x,hmem,h => by
  have hp := List.all_eq_true.1 hS t hmem
  split at hp
  ·rename_i ht
   obtain ⟨b,rfl,_⟩ := DataW.trod_bool ht h
   refine ⟨(Nat.eq_of_beq_eq_true hp).symm,_,?_,all2A_one (.bool b)⟩
   simp only [typed,ht]
   exact ⟨b,rfl⟩
  ·rename_i k ht
   obtain ⟨m,rfl,_,hw⟩ := DataW.trod_int ht h
   refine ⟨(Nat.eq_of_beq_eq_true hp).symm,_,?_,all2A_one (.int k m)⟩
   simp only [typed,ht]
   exact ⟨m,rfl,hw⟩
  ·rename_i ht
   obtain ⟨s,rfl,_,hs⟩ := DataW.trod_string ht h
   refine ⟨(Nat.eq_of_beq_eq_true hp).symm,_,?_,all2A_one (.str s)⟩
   simp only [typed,ht]
   exact ⟨s,rfl,hs⟩
  ·rename_i e ht
   simp only [Bool.and_eq_true,List.elem_eq_mem,decide_eq_true_eq] at hp
   obtain ⟨⟨hc,h0⟩,hpe⟩ := hp
   have hc := (Nat.eq_of_beq_eq_true hc).symm
   have h0:0 < P.cellsOf e := Nat.le_of_ble_eq_true h0
   have tt:∀ vs,typed P (d+1) t vs = (vs = [.nil] ∨ ∃ es,vs = [.slice es] ∧ es.length ≤ maxLen ∧ ∀ v ∈ es,typed P d e v.cells ∧ (bif isAggT P e then ∃ cs,v = .agg cs else v.cells = [v])) := fun vs => by simp only [typed,ht]
   rcases DataW.trod_slice ht h with ⟨rfl,_⟩ | ⟨a,len,cap,elems,rest,n,hd,rfl,_,hb,hl,hm,hlen,hel,_,_⟩
   ·exact ⟨hc,[.nil],by rw [tt]; exact .inl rfl,all2A_one .nil⟩
   cases hd
   refine ⟨hc,?_⟩
   have key:∀ i,i < len → ∃ z:List Value × List PV,w.cells? base (a.add (i * P.cellsOf e)) (P.cellsOf e) = some z.1 ∧ z.1.length = P.cellsOf e ∧ typed P d e z.2 ∧ All2 (PRep w I) z.2 z.1 := fun i hi => by
    obtain ⟨cs',h1,h2⟩ := Option.bind_eq_some_iff.1 ((hel i hi).trans (List.getElem?_eq_getElem (by rw [hlen]; exact hi)))
    obtain ⟨h3,vs,h4,h5⟩ := typedR_of hI hS d e cs' _ hpe h2
    exact ⟨(cs',vs),h1,h3,h4,h5⟩
   obtain ⟨Z,hZ⟩ := Deep.choose_lt key
   have agg_of:∀ vs,typed P d e vs → (packV (isAggT P e) vs).cells = vs ∧ (bif isAggT P e then ∃ cs,packV (isAggT P e) vs = .agg cs else (packV (isAggT P e) vs).cells = [packV (isAggT P e) vs]) := fun vs hv => by
    cases d with
    | zero => exact absurd hv (by simp [typed])
    | succ d =>
     unfold typed at hv
     unfold isAggT
     split at hv
     ·rename_i hu; rw [hu]; obtain ⟨b,rfl⟩ := hv; exact ⟨rfl,rfl⟩
     ·rename_i hu; rw [hu]; obtain ⟨b,rfl,_⟩ := hv; exact ⟨rfl,rfl⟩
     ·rename_i hu; rw [hu]; obtain ⟨b,rfl,_⟩ := hv; exact ⟨rfl,rfl⟩
     ·rename_i hu; rw [hu]
      rcases hv with rfl | ⟨es,rfl,_⟩
      ·exact ⟨rfl,rfl⟩
      ·exact ⟨rfl,rfl⟩
     ·rename_i hu; rw [hu]; exact ⟨rfl,⟨_,rfl⟩⟩
     ·rename_i hu; rw [hu]; exact ⟨rfl,⟨_,rfl⟩⟩
     ·exact hv.elim
   obtain ⟨E,hE⟩:∃ E,E = (List.range len).map fun i => packV (isAggT P e) (Z i).2 := ⟨_,rfl⟩
   have hEl:E.length = len := by rw [hE]; simp
   have hEt:∀ v ∈ E,typed P d e v.cells ∧ (bif isAggT P e then ∃ cs,v = .agg cs else v.cells = [v]) := fun v hv => by
    rw [hE,List.mem_map] at hv
    obtain ⟨i,hi,rfl⟩ := hv
    obtain ⟨_,_,z3,_⟩ := hZ i (List.mem_range.1 hi)
    obtain ⟨a1,a2⟩ := agg_of _ z3
    exact ⟨by rw [a1]; exact z3,a2⟩
   refine ⟨[.slice E],by rw [tt]; exact .inr ⟨E,rfl,by rw [hEl]; omega,hEt⟩,all2A_one ?_⟩
   rcases Nat.eq_zero_or_pos len with rfl | hpos
   ·obtain rfl:E = [] := List.eq_nil_of_length_eq_zero hEl
    exact .empty _ _
   have hflat:flat E = (List.range len).flatMap fun i => (Z i).2 := by
    unfold flat
    rw [hE,List.flatMap_map]
    exact Deep.flatMap_congr_range fun i hi => (agg_of _ (hZ i hi).2.2.1).1
   have lenV:∀ i,i < len → ((Z i).2).length = P.cellsOf e := fun i hi => by rw [← (hZ i hi).2.2.2.1]; exact (hZ i hi).2.1
   obtain ⟨f1,f2⟩ := flatG_get (fun i => (Z i).2) (P.cellsOf e) h0 len lenV
   obtain ⟨g1,g2⟩ := flatG_get (fun i => (Z i).1) (P.cellsOf e) h0 len fun i hi => (hZ i hi).2.1
   have cell:∀ i j,i < len → j < P.cellsOf e → w.cell? ⟨a.block,a.off + (i * P.cellsOf e + j),none⟩ = ((Z i).1)[j]? ∧ a = ⟨a.block,a.off,none⟩ := fun i j hi hj => by
    obtain ⟨_,z2,z3⟩ := World.cells?_some (hZ 0 hpos).1
    obtain ⟨_,y2,y3⟩ := World.cells?_some (hZ i hi).1
    have hs:a.spot = none := by
     have h3 := z3 0 h0
     rw [Nat.zero_mul] at h3
     have e0:(a.add 0).add 0 = a := rfl
     rw [e0,List.getElem?_eq_getElem (by omega)] at h3
     unfold World.cell? at h3
     split at h3
     ·split at h3
      ·cases h3
      ·rename_i hn; simpa using hn
     ·cases h3
    have ea:a = ⟨a.block,a.off,none⟩ := by cases a; simp only at hs; rw [hs]
    refine ⟨?_,ea⟩
    rw [← y3 j hj,Deep.add_add]
    congr 1
    rw [ea]
    unfold Addr.add
    split
    ·rename_i h; rw [h]; rfl
    ·rfl
   have ea := (cell 0 0 hpos h0).2
   have split:∀ q,q < len * P.cellsOf e → ∃ i j,i < len ∧ j < P.cellsOf e ∧ q = i * P.cellsOf e + j := fun q hq => ⟨q / P.cellsOf e,q % P.cellsOf e,Nat.div_lt_of_lt_mul (by rw [Nat.mul_comm]; exact hq),Nat.mod_lt _ h0,by rw [Nat.mul_comm]; exact (Nat.div_add_mod _ _).symm⟩
   have hbl:a.block < w.heap.size := by
    have h3 := (cell 0 0 hpos h0).1
    rw [List.getElem?_eq_getElem (by rw [(hZ 0 hpos).2.1]; exact h0)] at h3
    unfold World.cell? at h3
    split at h3
    ·rename_i hh; exact (Array.getElem?_eq_some_iff.1 hh).1
    ·cases h3
   rw [ea]
   have := PRep.slice (w := w) (I := I) E (P.cellsOf e) a.block a.off cap ((List.range len).flatMap fun i => (Z i).1) h0 ?_ (hI _ hbl) (by rw [hEl]; exact hl) ?_ (by rw [g1,hflat,f1]) ?_
   ·rw [hEl] at this; exact this
   ·intro v hv
    rw [hE,List.mem_map] at hv
    obtain ⟨i,hi,rfl⟩ := hv
    have hi := List.mem_range.1 hi
    rw [(agg_of _ (hZ i hi).2.2.1).1]
    exact lenV i hi
   ·intro q y hq
    obtain ⟨i,j,hi,hj,rfl⟩ := split q (by rw [← g1]; exact (List.getElem?_eq_some_iff.1 hq).1)
    rw [g2 i j hi hj] at hq
    rw [(cell i j hi hj).1]
    exact hq
   ·intro q v y hv hy
    obtain ⟨i,j,hi,hj,rfl⟩ := split q (by rw [← g1]; exact (List.getElem?_eq_some_iff.1 hy).1)
    rw [hflat,f2 i j hi hj] at hv
    rw [g2 i j hi hj] at hy
    exact (hZ i hi).2.2.2.2 j v y hv hy
  ·rename_i fs ht
   simp only [Bool.and_eq_true,beq_iff_eq,List.all_eq_true,List.elem_eq_mem,decide_eq_true_eq] at hp
   obtain ⟨h1,h2⟩ := hp
   obtain ⟨xs,k,hd,_,hl,hxl,hx⟩ := DataW.trod_struct ht h
   cases hd
   refine ⟨hl,?_⟩
   have tt:∀ vs,typed P (d+1) t vs = typedF (typed P d) fs.toList vs := fun vs => by simp only [typed,ht]
   simp only [tt]
   have := fieldsA_of (P := P) (w := w) (I := I) (rd := fun t' cs' => t' ∈ S ∧ ∃ y,DataW.trod enc P w base spare held d t' cs' = some y) (q := typed P d) (fun t' cs' ⟨g1,y,g2⟩ => (typedR_of hI hS d t' cs' y g1 g2).2) fs.toList 0 cs (by rw [h1,hl])
    (fun f hf => ?_) (fun f hf cs' ⟨g1,y,g2⟩ => (typedR_of hI hS d f.type cs' y g1 g2).1)
   ·simpa using this
   ·obtain ⟨i,hi,rfl⟩ := List.getElem_of_mem hf
    have hi':i < fs.size := by simpa using hi
    have := hx i fs.toList[i] (by simp [hi'])
    rw [List.getElem?_eq_getElem (by omega)] at this
    exact ⟨h2 _ hf,_,this⟩
  ·rename_i k e ht
   simp only [Bool.and_eq_true,List.elem_eq_mem,decide_eq_true_eq] at hp
   obtain ⟨h1,h2⟩ := hp
   have h1 := Nat.eq_of_beq_eq_true h1
   obtain ⟨xs,m,hd,_,hl,hxl,hx⟩ := DataW.trod_array ht h
   cases hd
   refine ⟨hl,?_⟩
   have tt:∀ vs,typed P (d+1) t vs = typedA (typed P d e) k vs := fun vs => by simp only [typed,ht]
   simp only [tt]
   have := arrayA_of (w := w) (I := I) (rd := fun cs' => ∃ y,DataW.trod enc P w base spare held d e cs' = some y) (q := typed P d e) (sz := P.cellsOf e) (fun cs' ⟨y,g2⟩ => (typedR_of hI hS d e cs' y h2 g2).2) k 0 cs (by rw [hl,h1,Nat.zero_add])
    (fun j hj => ?_)
   ·simpa using this
   ·have := hx j (by omega)
    rw [List.getElem?_eq_getElem (by omega)] at this
    exact ⟨_,this⟩
  ·cases hp
end
end Go.Pi
