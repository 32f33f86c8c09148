/- The machine on symbols: integers. No condition. -/
import Derived.Test.YtgpmgondjppmmaaGreatDoorF1
import Derived.Test.YtgpmgondjppmmaaGreatDoorN1
import Derived.IntWalk
import Derived.Test.YtgpmgondjppmmaaGreatDoorA5
set_option linter.unnecessarySimpa false
set_option linter.unusedSectionVars false
set_option linter.unusedSimpArgs false
set_option linter.unusedVariables false
set_option maxRecDepth 100000
namespace Go.Proofs.Tryz
open Go Go.Pi Go.Num
variable [Hole] {G:Nat → Option PV}
theorem beq_lit (a b:Nat):Nat.beq a b = decide (a = b) := by
 rw [Bool.eq_iff_iff,nat_beq_eq,decide_eq_true_eq]
theorem blt_lit (a b:Nat):Nat.blt a b = decide (a < b) := by
 rw [Bool.eq_iff_iff,blt_iff,decide_eq_true_eq]
theorem ble_lit (a b:Nat):Nat.ble a b = decide (a ≤ b) := by
 rw [Bool.eq_iff_iff,ble_iff,decide_eq_true_eq]
theorem natOf_int {k:IntKind} {n:Nat}:natOf (.int k (n:Int)) = some n := rfl
theorem natOf_0 (k:IntKind):natOf (.int k 0) = some 0 := rfl
theorem natOf_1 (k:IntKind):natOf (.int k 1) = some 1 := rfl
theorem natOf_2 (k:IntKind):natOf (.int k 2) = some 2 := rfl
theorem natOf_3 (k:IntKind):natOf (.int k 3) = some 3 := rfl
theorem natOf_4 (k:IntKind):natOf (.int k 4) = some 4 := rfl
theorem bits_u64:IntKind.u64.bits = 64 := rfl
theorem bits_i64:IntKind.i64.bits = 64 := rfl
theorem bits_u32:IntKind.u32.bits = 32 := rfl
def orI (w:Nat) (a b:Int):Int := ((BitVec.ofInt w a ||| BitVec.ofInt w b).toNat:Int)
def andI (w:Nat) (a b:Int):Int := ((BitVec.ofInt w a &&& BitVec.ofInt w b).toNat:Int)
theorem ib_add (k:IntKind) (a b:Int):intBin .add k a b = some (.int k (k.wrap (a + b))) := rfl
theorem ib_sub (k:IntKind) (a b:Int):intBin .sub k a b = some (.int k (k.wrap (a - b))) := rfl
theorem ib_mul (k:IntKind) (a b:Int):intBin .mul k a b = some (.int k (k.wrap (a * b))) := rfl
theorem ib_quo (k:IntKind) (a b:Int):intBin .quo k a b = bif b == 0 then none else some (.int k (k.wrap (a.tdiv b))) := rfl
theorem ib_rem (k:IntKind) (a b:Int):intBin .rem k a b = bif b == 0 then none else some (.int k (a.tmod b)) := rfl
theorem ib_and (k:IntKind) (a b:Int):intBin .and k a b = some (.int k (k.wrap (andI k.bits a b))) := rfl
theorem ib_or (k:IntKind) (a b:Int):intBin .or k a b = some (.int k (k.wrap (orI k.bits a b))) := rfl
theorem ib_eql (k:IntKind) (a b:Int):intBin .eql k a b = some (.bool (a == b)) := rfl
theorem ib_neq (k:IntKind) (a b:Int):intBin .neq k a b = some (.bool (a != b)) := rfl
theorem ib_lss (k:IntKind) (a b:Int):intBin .lss k a b = some (.bool (decide (a < b))) := rfl
theorem ib_leq (k:IntKind) (a b:Int):intBin .leq k a b = some (.bool (decide (a ≤ b))) := rfl
theorem ib_gtr (k:IntKind) (a b:Int):intBin .gtr k a b = some (.bool (decide (a > b))) := rfl
theorem ib_geq (k:IntKind) (a b:Int):intBin .geq k a b = some (.bool (decide (a ≥ b))) := rfl
theorem natOf_succ {k:IntKind} {n:Nat}:natOf (.int k ((n:Int)+1)) = some (n+1) := rfl
theorem natOf_add {k:IntKind} {n m:Nat}:natOf (.int k ((n:Int) + (m:Int))) = some (n + m) := rfl
theorem natOf_add1 {k:IntKind} {n m:Nat}:natOf (.int k ((n:Int) + (m:Int)+1)) = some (n + m+1) := rfl
theorem cells_int (k:IntKind) (n:Int):(PV.int k n).cells = [.int k n] := rfl
theorem cells_bool (b:Bool):(PV.bool b).cells = [.bool b] := rfl
theorem cells_str (b:ByteArray):(PV.str b).cells = [.str b] := rfl
theorem cells_slice (b:List PV):(PV.slice b).cells = [.slice b] := rfl
theorem cells_nil:PV.nil.cells = [.nil] := rfl
theorem cells_agg (b:List PV):(PV.agg b).cells = b := rfl
theorem cells_own (r l n:Nat):(PV.own r l n).cells = [.own r l n] := rfl
theorem ok_int (k:IntKind) (n:Int):(PV.int k n).cellOk = true := rfl
theorem ok_bool (b:Bool):(PV.bool b).cellOk = true := rfl
theorem ok_slice (b:List PV):(PV.slice b).cellOk = true := rfl
theorem ok_nil:PV.nil.cellOk = true := rfl
theorem ok_own (r l n:Nat):(PV.own r l n).cellOk = true := rfl
theorem ok_ptr (r l n:Nat):(PV.ptr r l n).cellOk = true := rfl
theorem ok_str (b:ByteArray):(PV.str b).cellOk = true := rfl
theorem ok_func (f:FuncId) (c:List PV):(PV.func f c).cellOk = true := rfl
theorem ok_nilPtr:PV.nilPtr.cellOk = true := rfl
theorem isTop_int (k:IntKind) (n:Int):(PV.int k n).isTop = false := rfl
theorem isTop_bool (b:Bool):(PV.bool b).isTop = false := rfl
theorem isTop_str (b:ByteArray):(PV.str b).isTop = false := rfl
theorem isTop_nil:PV.nil.isTop = false := rfl
theorem isTop_slice (b:List PV):(PV.slice b).isTop = false := rfl
theorem isTop_own (r l n:Nat):(PV.own r l n).isTop = false := rfl
theorem isTop_ptr (r l n:Nat):(PV.ptr r l n).isTop = false := rfl
theorem isTop_agg (b:List PV):(PV.agg b).isTop = false := rfl
theorem isTop_eptr (b:PV) (n:Nat):(PV.eptr b n).isTop = false := rfl
theorem w_i64 {n:Int} (h : -9223372036854775808 ≤ n ∧ n ≤ 9223372036854775807):IntKind.i64.wrap n = n := IntWalk.i64_in _ h
theorem w_u64 {n:Int} (h:0 ≤ n ∧ n ≤ 18446744073709551615):IntKind.u64.wrap n = n := IntWalk.u64_in _ h
theorem w_u32 {n:Int} (h:0 ≤ n ∧ n ≤ 4294967295):IntKind.u32.wrap n = n := by rw [IntKind.wrap_u32]; omega
theorem guard_bool (t:TypeId) (p q a b:Bool):guardB prog t p q (.bool a) (.bool b) = true := rfl
def entersB (P : Program) (f : FuncId) : Bool := match P.funcs[f]? with | some fn => fn.body.isSome && !(fn.name == "runtime.NumGoroutine") | none => false
theorem enters_B {f:FuncId} (h:entersB prog f = true):Pi.Enters prog f := by
 unfold entersB at h
 split at h
 ·rename_i fn hf
  simp only [Bool.and_eq_true,Bool.not_eq_true',beq_eq_false_iff_ne] at h
  exact ⟨fn,hf,h.1,h.2⟩
 ·cases h
theorem enters_S {S:Specs} (h:(S.map (·.1)).all (entersB prog) = true):∀ p ∈ S,Pi.Enters prog p.1 := fun p hp =>
 enters_B (List.all_eq_true.1 h p.1 (List.mem_map_of_mem hp))
def outK (Q:PV → Prop):PV → St → Prop := fun v s => ∃ r fl,reify s.hp v = some (r,fl) ∧ Q r
theorem gives {S:Specs} {f:FuncId} {vs:List PV} {Q:PV → Prop} (hS:(S.map (·.1)).all (entersB prog) = true) (hf:entersB prog f = true)
  (h:CallW prog (specEnv prog G S) G A1 f vs ⟨0,[],[]⟩ (outK Q)):Gives prog G f vs Q :=
 gives_of (enters_S hS) annOk mixed (enters_B hf) h
theorem reify_pure {hp:Nat → Option Ent} {v:PV} (h:v.pureB = true):reify hp v = some (v,[]) := by simp [reify,h]
theorem outK_pure {Q:PV → Prop} {v:PV} {s:St} (h:v.pureB = true) (hq:Q v):outK Q v s := ⟨v,[],reify_pure h,hq⟩
end Go.Proofs.Tryz
namespace Go.Proofs.Tryz
open Go Go.Pi
theorem tb {x i:Nat}:x.testBit i = decide (x / 2 ^ i % 2 = 1) := Nat.testBit_eq_decide_div_mod_eq
attribute [simp] retK_ops List.dropLast_cons_cons List.dropLast_singleton run_skip run_label run_exit run_ret run_scope run_seq run_block run_cond condK_true condK_false run_region
 run_loop opsK_nil opsK_cons drawK_nil drawK_cons retK_done retK_seq retK_seq_exit retK_seq_ret retK_block retK_block_exit retK_block_ret wantedP callOf
 evalOp lkIn lookT putT ofValue ofCell binP ib_add ib_sub ib_mul ib_quo ib_rem ib_and ib_or
 ib_eql ib_neq ib_lss ib_leq ib_gtr ib_geq shiftBin unP isConstB St.apply addFr beq_lit blt_lit ble_lit
 lenT loadOp storeOp upd Go.Pi.look St.hp St.fz memB endK resultsP oneP startT roundX_normal roundX_exit
 roundK_normal roundK_exit roundK_ret fieldAddrOp fieldOp cells_int cells_bool cells_str cells_slice cells_nil cells_agg cells_own subLoad subStore
 ok_int ok_bool ok_slice ok_nil ok_own bits_u64 bits_i64 bits_u32 natOf_int natOf_succ natOf_add natOf_add1 natOf_0 natOf_1
 natOf_2 natOf_3 natOf_4 convP guard_bool undefP buildOp sizesOk placesOf structPlace spliceP isTop_int isTop_bool isTop_str
 isTop_nil isTop_slice isTop_own isTop_ptr isTop_agg isTop_eptr ok_ptr ok_str ok_func ok_nilPtr indexAddrOp makeSliceOp okOut touch
 Out.wrote share inOrder PV.ids PV.idsL
attribute [simp] und3 size3 agg3 bytes3 zero3 und4 size4 agg4 zero4 und5 size5 agg5 und9 size9 agg9 bytes9 zero9 und22 size22 agg22 und23 size23 agg23 und24 size24 agg24 underlying26 size26 agg26 und27 size27 agg27 bytes27 zero27 underlying29 size29 agg29 und33 size33 agg33 und37 size37 agg37 und38 size38 agg38 zero38 underlying40 size40 agg40 zero40 size46 agg46 und47 size47 agg47 underlying49 size49 agg49 bytes49 zero49 underlying58 underlying60 underlying62 underlying64 underlying67 underlying76 underlying79 underlying84 underlying91 size91 agg91 zero91 und95 size95 agg95 underlying97 size97 agg97 und98 size98 agg98 underlying100 size100 agg100 underlying102 size102 agg102 zero102 size104 agg104 zero104 size112 agg112 underlying114 size114 agg114 zero114 underlying116 size116 agg116 bytes116 zero116 size119 agg119 underlying121 size121 agg121 zero121 size122 agg122 underlying124 size124 agg124 bytes124 zero124 underlying135 size135 agg135 bytes135 zero135 underlying140 underlying147 underlying153 underlying160 underlying162 underlying185 size185 agg185 zero185 zero187 size191 agg191 underlying193 zero193 underlying197 size197 agg197 zero197 size198 agg198 bytes198 zero198 size199 agg199 bytes199 zero199 underlying202 size202 agg202 bytes202 zero202 underlying217 underlying220 underlying223 size244 agg244 bytes244 zero244 underlying259 underlying287 underlying357 underlying361 underlying365
end Go.Proofs.Tryz
namespace Go.Proofs.Tryz
open Go Go.Pi Go.Num
variable [Hole] {G:Nat → Option PV}
noncomputable def the {α:Type} [Inhabited α] (R:α → Prop):α := Classical.epsilon R
theorem the_eq {α:Type} [Inhabited α] {R:α → Prop} {a:α} (h:R a) (inj:∀ b,R b → b = a):the R = a := inj _ (Classical.epsilon_spec ⟨a,h⟩)
noncomputable def mg (v:PV):List Int := the (IsMag v)
noncomputable def it (v:PV):Int := the (IsInt v)
noncomputable def ratv (v:PV):Rat := the (IsRat v)
theorem mg_eq {v:PV} {ds:List Int} (h:IsMag v ds):mg v = ds := the_eq h fun _ h' => h'.inj h
theorem IsInt.inj {v:PV} {x y:Int} (h:IsInt v x) (h':IsInt v y):x = y := by
 obtain ⟨b,m,ds,rfl,h⟩ := h
 obtain ⟨c,n,es,e,h'⟩ := h'
 simp only [PV.agg.injEq,List.cons.injEq,PV.bool.injEq,and_true] at e
 obtain ⟨rfl,rfl⟩ := e
 rw [h.val,h'.val,h.mag.inj h'.mag]
theorem it_eq {v:PV} {z:Int} (h:IsInt v z):it v = z := the_eq h fun _ h' => IsInt.inj h' h
theorem ratv_eq {v:PV} {q:Rat} (h:IsRat v q):ratv v = q := the_eq h fun _ h' => h'.inj h
def sg (b:Bool) (n:Int):Int := if b then -n else n
def cmpI (x y:Int):Int := if x < y then -1 else if x = y then 0 else 1
def trimR:CRel | [v],r => IsMag r (trimL (mg v)) | _,_ => False
def signedR:CRel | [.bool b,v],r => IsInt r (sg b (val (mg v))) | _,_ => False
def orderR:CRel | [a,b],r => r = .int .i64 (cmpI (val (mg a)) (val (mg b))) | _,_ => False
def compareR:CRel | [a,b],r => r = .int .i64 (cmpI (it a) (it b)) | _,_ => False
def plusR:CRel | [a,b],r => ∃ ds,IsMag r ds ∧ Dig ds ∧ val ds = val (mg a) + val (mg b) ∧ ds.length ≤ (mg a).length + (mg b).length+1 | _,_ => False
def minusR:CRel | [a,b],r => ∃ ds,IsMag r ds ∧ Dig ds ∧ val ds = val (mg a) - val (mg b) ∧ ds.length ≤ (mg a).length | _,_ => False
def signR:CRel | [a],r => r = .int .i64 (it a).sign | _,_ => False
def negR:CRel | [a],r => IsInt r (-(it a)) | _,_ => False
def addR:CRel | [a,b],r => IsInt r (it a + it b) | _,_ => False
def subR:CRel | [a,b],r => IsInt r (it a - it b) | _,_ => False
def mulR:CRel | [a,b],r => IsInt r (it a * it b) | _,_ => False
def fromR:CRel | [.int _ n],r => IsInt r n | _,_ => False
def shortR:CRel | [v,.int _ d],r => ∃ q ds,r = .tuple [q,.int .u32 (val (mg v) % d)] ∧ IsMag q ds ∧ Norm ds ∧ val ds = val (mg v) / d | _,_ => False
def scaleR:CRel | [v,.int _ b,.int _ p],r => ∃ ds,IsMag r ds ∧ Norm ds ∧ val ds = val (mg v) * b + p | _,_ => False
def divideR:CRel | [a,b],r => ∃ q x,∃ ds es,r = .tuple [q,x] ∧ IsMag q ds ∧ Norm ds ∧ IsMag x es ∧ Norm es ∧ val ds = val (mg a) / val (mg b) ∧ val es = val (mg a) % val (mg b) | _,_ => False
def gcdR:CRel | [a,b],r => IsInt r (Nat.gcd (it a).natAbs (it b).natAbs) | _,_ => False
theorem reify_ownU {hp:Nat → Option Ent} {r lo len:Nat} {ds:List Int} (h:hp r = some ⟨1,U ds⟩) (hl:lo + len ≤ ds.length):reify hp (.own r lo len) = some (.slice (U ((ds.drop lo).take len)),[r]) := by
 have hm:∀ (sub:PV → Option (PV × List Nat)) (es:List Int),(∀ n,sub (.int .u32 n) = some (.int .u32 n,[])) → mapR sub (U es) = some (U es,[]) := by
  intro sub es hs
  induction es with
  | nil => rfl
  | cons d es ih => simp only [U_cons,mapR,hs,ih,List.append_nil]
 simp only [reify,PV.pureB,cond_false,reifyN,reifyW,h]
 rw [U_drop,U_take,hm _ _ fun n => by simp [reifyN,reifyW,PV.pureB]]
 simp [U_len,ble_lit,blt_lit,hl]
theorem outK_ownU {Q:PV → Prop} {s:St} {j n:Nat} {ds:List Int} (h:s.hp j = some ⟨1,U ds⟩) (hn:ds.length = n) (hq:Q (.slice (U ds))):outK Q (.own j 0 n) s := by
 have := reify_ownU (lo := 0) (len := n) h (by omega)
 rw [List.drop_zero,List.take_of_length_le (by omega)] at this
 exact ⟨_,_,this,hq⟩
theorem look_one (j:Nat) (e:Ent):Go.Pi.look [(j,e)] j = some e := by simp [Go.Pi.look,beq_lit]
structure Fresh (n:Nat) (H:List (Nat × Ent)) (Z:List Nat):Prop where
 heap:∀ p ∈ H,p.1 < n
 froz:∀ q ∈ Z,q < n
theorem Fresh.memB {n:Nat} {H:List (Nat × Ent)} {Z:List Nat} (h:Fresh n H Z) {q:Nat} (hq:n ≤ q):memB Z q = false := by
 cases hm:Go.Pi.memB Z q with
 | false => rfl
 | true =>
  have := h.froz q ((memB_iff _ _).1 hm)
  omega
theorem del_out {q:Nat}:∀ {H:List (Nat × Ent)},(∀ p ∈ H,p.1 ≠ q) → del H q = H
 | [],_ => rfl
 | (i,e) :: H,h => by
  have h1:i ≠ q := h (i,e) (by simp)
  simp only [del,beq_lit,h1,decide_false,cond_false]
  rw [del_out fun p hp => h p (by simp [hp])]
theorem Fresh.del {n:Nat} {H:List (Nat × Ent)} {Z:List Nat} (h:Fresh n H Z) {q:Nat} (hq:n ≤ q):del H q = H := del_out fun p hp => by have := h.heap p hp; omega
theorem look_lt {n:Nat} {H:List (Nat × Ent)} (h:∀ p ∈ H,p.1 < n) {q:Nat} {e:Ent} (hl:Go.Pi.look H q = some e):q < n := h _ (look_mem' hl)
theorem Fresh.look {n:Nat} {H:List (Nat × Ent)} {Z:List Nat} (h:Fresh n H Z) {q:Nat} {e:Ent} (hl:Go.Pi.look H q = some e):q < n := look_lt h.heap hl
theorem Fresh.mono {n m:Nat} {H:List (Nat × Ent)} {Z:List Nat} (h:Fresh n H Z) (hm:n ≤ m):Fresh m H Z := ⟨fun p hp => by have := h.heap p hp; omega,fun q hq => by have := h.froz q hq; omega⟩
theorem Fresh.cons {n m j:Nat} {H:List (Nat × Ent)} {Z:List Nat} {e:Ent} (h:Fresh n H Z) (hm:n ≤ m) (hj:j < m):Fresh m ((j,e) :: H) Z := ⟨fun p hp => by
 rcases List.mem_cons.1 hp with rfl | hp
 ·exact hj
 ·have := h.heap p hp; omega,(h.mono hm).froz⟩
theorem memB_filter (n q:Nat):∀ l:List Nat,memB l q = false → memB (l.filter fun r => Nat.blt r n) q = false
 | [],_ => rfl
 | a :: l,h => by
  simp only [memB,Bool.or_eq_false_iff] at h
  rw [List.filter_cons]
  split
  ·simp only [memB,h.1,memB_filter n q l h.2,Bool.or_self]
  ·exact memB_filter n q l h.2
theorem memB_append (q:Nat):∀ l m:List Nat,memB l q = false → memB m q = false → memB (l ++ m) q = false
 | [],_,_,h => h
 | a :: l,m,h,h' => by
  simp only [memB,Bool.or_eq_false_iff] at h
  simp only [List.cons_append,memB,h.1,memB_append q l m h.2 h',Bool.or_self]
theorem callK_own {P:Program} {A:FuncId → Option Ann} {cx:Cx} {S:Specs} {f:FuncId} {R:CRel} {args vs:List PV} {fr:List Nat} {ops rest:List Oper} {T:Tm} {dst:Option Tmp} {s:St} {k:Kont} (hS:Go.Pi.look S f = some R) (hr:reifyL s.hp args = some (vs,fr)) (hg:Gives P G f vs (R vs))
  (h:∀ r z,R vs r → (∀ q,memB s.froz q = false → memB fr q = false → memB z q = false) → opsK P (specEnv P G S) G A cx (putT T dst r) ⟨s.next+1,s.heap,z⟩ ops rest k):callK P (specEnv P G S) G A cx f args T s dst ops rest k := by
 refine callK_spec hS hr hg fun r hr => ?_
 unfold thaw
 cases r.bareB
 ·refine h r _ hr fun q h1 h2 => ?_
  show memB (addFr s.next s.froz fr) q = false
  rw [addFr_eq]
  exact memB_append q _ _ (memB_filter _ q fr h2) h1
 ·exact h r _ hr fun q h1 _ => h1
def trimI (L:List Int) (F:List (Nat × Ent)) (z:List Nat):Nat → List PV → St → Prop := fun m vs s => ∃ v ds k,vs = [v] ∧ IsMag v ds ∧ ds.length = m ∧ m < 1000000 ∧ trimL ds = trimL L ∧ s = ⟨k,F,z⟩
theorem trim_ok (v:PV) (ds:List Int) (hv:IsMag v ds) (hl:ds.length < 1000000):Gives prog G 146 [v] (fun r => IsMag r (trimL ds)) := by
 refine gives (S := []) rfl (by kernel_rfl) (callW_of ann146 func146 rfl (by kernel_rfl) ?_)
 simp [run_draw]
 refine loopK_of (trimI ds [] []) rfl rfl ?_ ds.length _ _ ⟨v,ds,1,rfl,hv,rfl,hl,rfl,rfl⟩
 rintro m vs s ⟨v,es,k,rfl,hv,hm,hl,ht,rfl⟩
 have h1 := hv.len
 rcases List.eq_nil_or_concat es with rfl | ⟨l,d,rfl⟩
 ·simp [run_draw,h1]
  exact outK_pure hv.pure (by rw [← ht]; exact hv)
 ·have h2 := hv.ne (by simp)
  subst h2
  rw [List.concat_eq_append] at *
  have hm:l.length+1 = m := by simpa using hm
  have w:IntKind.i64.wrap (l.length:Int) = l.length := w_i64 (by omega)
  have g:(U (l ++ [d]))[l.length]? = some (.int .u32 d) := by simp [U]
  have n1:(U (l ++ [d])).length = l.length+1 := by simp [U]
  simp [run_draw,indexAddrOp,h1,w,g]
  refine condK_of _ _ _ _ _ _ (fun hd => ?_) (fun hd => ?_)
  ·have hd:d = 0 := by simpa using hd
   subst hd
   simp [run_draw,h1,w,sliceOp,sliceOf,lowOf,highOf,n1,U_all']
   refine ⟨l.length,by omega,_,l,_,rfl,?_,rfl,by omega,by rw [← ht,trimL_zero],rfl⟩
   rw [show (U (l ++ [0])).take l.length = U l by simp [U]]
   exact IsMag.slice l
  ·have hd:d ≠ 0 := by simpa using hd
   simp [run_draw]
   exact outK_pure hv.pure (by rw [← ht,trimL_pos _ hd]; exact IsMag.slice _)
theorem trim_g {v:PV} {ds:List Int} (hv:IsMag v ds) (hl:ds.length < 1000000):Gives prog G 146 [v] (trimR [v]) :=
 (trim_ok v ds hv hl).mono fun r h => by simp only [trimR,mg_eq hv]; exact h
theorem signed_ok (b:Bool) (v:PV) (ds:List Int) (hv:IsMag v ds) (hd:Dig ds) (hl:ds.length < 1000000):Gives prog G 108 [.bool b,v] (signedR [.bool b,v]) := by
 refine gives (S := [(146,trimR)]) (by kernel_rfl) (by kernel_rfl) (callW_of ann108 func108 rfl (by kernel_rfl) ?_)
 simp [run_draw]
 refine callK_pure rfl (by simp [PV.pureL,hv.pure]) (trim_g hv hl) fun r hr => ?_
 simp only [trimR,mg_eq hv] at hr
 have h1 := hr.len
 have hn := norm_trim hd
 have fin:∀ c:Bool,c = (b && decide (0 < (trimL ds).length)) → IsInt (.agg [.bool c,r]) (sg b (val (mg v))) := by
  intro c hc
  refine ⟨c,r,trimL ds,rfl,hr,hn,?_,fun h => ?_⟩
  ·rw [mg_eq hv,val_trim]
   cases b with
   | false => simp [sg,hc]
   | true =>
    simp only [sg,if_true]
    by_cases h0:0 < (trimL ds).length
    ·simp [hc,h0]
    ·have:trimL ds = [] := List.length_eq_zero_iff.1 (by omega)
     have hz:val ds = 0 := by rw [← val_trim,this]; rfl
     simp [hz]
  ·rw [h] at hc
   simp at hc
   exact List.length_pos_iff.1 hc.2
 cases b
 ·simp [run_draw,logOk,h1,hr.cells,hr.cellOk,hr.isTop]
  exact outK_pure (by simp [PV.pureB,PV.pureL,hr.pure]) (fin _ (by simp))
 ·simp [run_draw,logOk,h1,hr.cells,hr.cellOk,hr.isTop]
  exact outK_pure (by simp [PV.pureB,PV.pureL,hr.pure]) (fin _ (by simp))
theorem cmpI_lt {x y:Int} (h:x < y):cmpI x y = -1 := if_pos h
theorem cmpI_gt {x y:Int} (h:y < x):cmpI x y = 1 := by unfold cmpI; rw [if_neg (by omega),if_neg (by omega)]
theorem cmpI_eq {x y:Int} (h:x = y):cmpI x y = 0 := by unfold cmpI; rw [if_neg (by omega),if_pos h]
def orderI (a b:List Int):Nat → List PV → St → Prop := fun j vs s => ∃ k,vs = [.int .i64 ((j:Int) - 1),.slice (U a),.slice (U b)] ∧ j ≤ a.length ∧ a.drop j = b.drop j ∧ s = ⟨k,[],[]⟩
theorem order_ok (va vb:PV) (a b:List Int) (ha:IsMag va a) (hb:IsMag vb b) (na:Norm a) (nb:Norm b) (la:a.length < 1000000) (lb:b.length < 1000000):Gives prog G 144 [va,vb] (orderR [va,vb]) := by
 refine gives (S := []) (by kernel_rfl) (by kernel_rfl) (callW_of ann144 func144 rfl (by kernel_rfl) ?_)
 have h1 := ha.len
 have h2 := hb.len
 have fin:∀ c s,c = cmpI (val a) (val b) → outK (orderR [va,vb]) (.int .i64 c) s := fun c s h => outK_pure rfl (by simp only [orderR,mg_eq ha,mg_eq hb,h])
 by_cases hl:a.length = b.length
 ·have hli:(a.length:Int) = b.length := by omega
  simp [run_draw,h1,h2,hl]
  rcases Nat.eq_zero_or_pos a.length with h0 | h0
  ·have e1:a = [] := List.length_eq_zero_iff.1 h0
   have e2:b = [] := List.length_eq_zero_iff.1 (by omega)
   subst e1; subst e2
   have w:IntKind.i64.wrap (-1) = -1 := rfl
   refine loopK_of (fun m vs s => ∃ k v w,vs = [.int .i64 (-1),v,w] ∧ s = ⟨k,[],[]⟩) rfl rfl ?_ 0 _ _ ⟨_,_,_,rfl,rfl⟩
   rintro m vs s ⟨k,v,w,rfl,rfl⟩
   simp [run_draw]
   exact fin _ _ (cmpI_eq rfl).symm
  ·have ea := ha.at h0
   have eb := hb.at (show 0 < b.length by omega)
   subst ea; subst eb
   have w:IntKind.i64.wrap ((b.length:Int) - 1) = (b.length:Int) - 1 := w_i64 (by omega)
   refine loopK_of (orderI a b) rfl rfl ?_ a.length _ _ ⟨_,by simp [run_draw,w,hli],by omega,by rw [List.drop_of_length_le (by omega),List.drop_of_length_le (by omega)],rfl⟩
   rintro j vs s ⟨k,rfl,hj,hd,rfl⟩
   rcases j with _ | j
   ·simp [run_draw]
    exact fin _ _ (cmpI_eq (by rw [List.drop_zero,List.drop_zero] at hd; rw [hd])).symm
   ·rw [show ((j+1:Nat):Int) - 1 = (j:Int) by omega]
    have ga := U_get (ds := a) (i := j) (by omega)
    have gb := U_get (ds := b) (i := j) (by omega)
    simp [run_draw,logOk,ga,gb]
    refine condK_of _ _ _ _ _ _ (fun hc => ?_) (fun hc => ?_)
    ·have hc:a[j] ≠ b[j] := by simpa using hc
     simp [run_draw,logOk,ga,gb]
     refine condK_of _ _ _ _ _ _ (fun hc2 => ?_) (fun hc2 => ?_)
     ·have hc2:a[j] < b[j] := by simpa using hc2
      simp [run_draw]
      exact fin _ _ (cmpI_lt (val_lt_of na.dig nb.dig _ _ hd hc2)).symm
     ·have hc2:b[j] < a[j] := by simp at hc2; omega
      simp [run_draw]
      exact fin _ _ (cmpI_gt (val_lt_of nb.dig na.dig _ _ hd.symm hc2)).symm
    ·have hc:a[j] = b[j] := by simpa using hc
     have w:IntKind.i64.wrap ((j:Int) - 1) = (j:Int) - 1 := w_i64 (by omega)
     simp [run_draw,w]
     refine ⟨j,by omega,_,rfl,by omega,?_,rfl⟩
     rw [List.drop_eq_getElem_cons (show j < a.length by omega),List.drop_eq_getElem_cons (show j < b.length by omega),hc,hd]
 ·have hli:((a.length:Int) != b.length) = true := by simp only [bne_iff_ne,ne_eq]; omega
  by_cases hlt:a.length < b.length
  ·have hlt':(a.length:Int) < b.length := by omega
   simp [run_draw,h1,h2,hl,hli,hlt,hlt']
   exact fin _ _ (cmpI_lt (val_short na.dig nb.dig nb.top hlt)).symm
  ·have hlt':¬ (a.length:Int) < b.length := by omega
   simp [run_draw,h1,h2,hl,hli,hlt,hlt']
   exact fin _ _ (cmpI_gt (val_short nb.dig na.dig na.top (by omega))).symm
theorem sign_ok (v:PV) (z:Int) (h:IsInt v z):Gives prog G 109 [v] (signR [v]) := by
 have hz := it_eq h
 obtain ⟨b,m,ds,rfl,h⟩ := h
 refine gives (S := []) (by kernel_rfl) (by kernel_rfl) (callW_of ann109 func109 rfl (by kernel_rfl) ?_)
 have h1 := h.mag.len
 have fin:∀ c s,c = z.sign → outK (signR [.agg [.bool b,m]]) (.int .i64 c) s := fun c s e => outK_pure rfl (by simp only [signR,hz,e])
 by_cases h0:ds = []
 ·have hz0 := h.zero_iff.2 h0
  simp [run_draw,logOk,h1,h0,h.mag.cellOk]
  exact fin _ _ (by rw [hz0]; rfl)
 ·have hp:0 < ds.length := List.length_pos_iff.2 h0
  have hb0:((ds.length:Int) == 0) = false := by simp only [beq_eq_false_iff_ne,ne_eq]; omega
  have hz0:z ≠ 0 := fun e => h0 (h.zero_iff.1 e)
  have hb := h.neg_iff
  cases b
  ·simp [run_draw,logOk,h1,hb0,h.mag.cellOk]
   exact fin _ _ (by
     have:¬ z < 0 := by simpa using hb
     exact (Int.sign_eq_one_of_pos (by omega)).symm)
  ·simp [run_draw,logOk,h1,hb0,h.mag.cellOk]
   exact fin _ _ (by
     have:z < 0 := by simpa using hb
     exact (Int.sign_eq_neg_one_of_neg (by omega)).symm)
theorem neg_ok (v:PV) (z:Int) (h:IsInt v z):Gives prog G 131 [v] (negR [v]) := by
 have hz := it_eq h
 obtain ⟨b,m,ds,rfl,h⟩ := h
 refine gives (S := []) (by kernel_rfl) (by kernel_rfl) (callW_of ann131 func131 rfl (by kernel_rfl) ?_)
 have h1 := h.mag.len
 have fin:∀ c s,c = (!b && decide (0 < ds.length)) → outK (negR [.agg [.bool b,m]]) (.agg [.bool c,m]) s := fun c s e => outK_pure (by simp [PV.pureB,PV.pureL,h.mag.pure]) (by
  simp only [negR,hz]
  refine ⟨c,m,ds,rfl,h.mag,h.norm,?_,fun hc => ?_⟩
  ·have hv := h.val
   have h0 := h.zero_iff
   by_cases hd:ds = []
   ·rw [h0.2 hd,hd]; cases c <;> rfl
   ·have hp:0 < ds.length := List.length_pos_iff.2 hd
    subst e
    cases b <;> simp [hp] at hv ⊢ <;> omega
  ·rw [hc] at e
   simp at e
   exact List.length_pos_iff.1 e.2)
 cases b
 ·simp [run_draw,logOk,h1,h.mag.cellOk,h.mag.cells,h.mag.isTop]
  exact fin _ _ (by simp)
 ·simp [run_draw,logOk,h1,h.mag.cellOk,h.mag.cells,h.mag.isTop]
  exact fin _ _ (by simp)
theorem bits64':min (Int.toNat 32) IntKind.u64.bits = 32 := by decide
theorem halves {s:Int} (h:0 ≤ s):∃ d c,IntKind.u32.wrap s = d ∧ s.fdiv 4294967296 = c ∧ s = d + 4294967296 * c ∧ (0 ≤ d ∧ d < 4294967296) ∧ 0 ≤ c := by
 refine ⟨s % 4294967296,s / 4294967296,by rw [IntKind.wrap_u32],?_,by omega,by omega,by omega⟩
 rw [Int.fdiv_eq_ediv_of_nonneg _ (by decide)]
theorem own_at {w:List Int} {n i:Nat} (h:w.length = i) (hi:i < n):(U (w ++ List.replicate (n - i) 0))[i]? = some (.int .u32 0) := by
 subst h
 simp [U,List.getElem?_append_right,List.getElem?_replicate,hi]
 omega
theorem own_set {w:List Int} {n i:Nat} (h:w.length = i) (hi:i < n) (d:Int):(U (w ++ List.replicate (n - i) 0)).set i (.int .u32 d) = U ((w ++ [d]) ++ List.replicate (n - (i+1)) 0) := by
 subst h
 rw [U_set]
 congr 1
 rw [show n - w.length = (n - (w.length+1))+1 by omega,List.replicate_succ]
 simp
theorem take_all {α:Type} (l:List α) (i:Nat) (h:l.length ≤ i):l.take i = l := List.take_of_length_le h
def plusI (va vb:PV) (a b:List Int):Nat → List PV → St → Prop := fun m vs s => ∃ (j i:Nat) (c:Int) (w:List Int) (k:Nat) (es:List PV),vs = [.int .i64 (i:Int),.int .u64 c,vb,.int .i64 a.length,.own j 0 (a.length+1),va,va] ∧ i + m = a.length ∧
 w.length = i ∧ Dig w ∧ 0 ≤ c ∧ c ≤ 1 ∧ val w + pw i * c = val (a.take i) + val (b.take i) ∧ es = U (w ++ List.replicate (a.length+1 - i) 0) ∧ s = ⟨k,[(j,⟨1,es⟩)],[]⟩
theorem plus_ge (va vb:PV) (a b:List Int) (ha:IsMag va a) (hb:IsMag vb b) (da:Dig a) (db:Dig b) (hba:b.length ≤ a.length) (la:a.length < 1000000):Gives prog G 159 [va,vb] (fun r => ∃ ds,IsMag r ds ∧ Dig ds ∧ val ds = val a + val b ∧ ds.length ≤ a.length + b.length+1) := by
 refine gives (S := []) (by kernel_rfl) (by kernel_rfl) (callW_of ann159 func159 rfl (by kernel_rfl) ?_)
 have h1 := ha.len
 have h2 := hb.len
 have hba':b.length ≤ a.length := hba
 have hlt:¬ (a.length:Int) < b.length := by omega
 have w1:IntKind.i64.wrap ((a.length:Int)+1) = ((a.length+1:Nat):Int) := w_i64 (by omega)
 have cap:(a.length+1) * 4 ≤ 140737488355328 := by omega
 have cap2:a.length+1 < 9223372036854775808 := by omega
 simp [run_draw,logOk,h1,h2,hlt,w1,makeSliceOp,cap,cap2,natOf_int,U_rep]
 refine loopK_of (plusI va vb a b) rfl rfl ?step a.length _ _ ?init
 case init => exact ⟨_,0,0,[],_,_,rfl,by omega,rfl,fun _ h => (by cases h),by omega,by omega,by simp [val],rfl,rfl⟩
 case step =>
 rintro m vs s ⟨j,i,c,w,k,es,rfl,him,hw,dw,hc0,hc1,hv,hes,rfl⟩
 rcases Nat.eq_zero_or_pos m with h0 | h0
 ·have hi:i = a.length := by omega
  subst hi
  have hs:es.set a.length (.int .u32 (IntKind.u32.wrap c)) = U (w ++ [IntKind.u32.wrap c]) := by
   rw [hes,own_set hw (by omega)]; simp
  have hcw:IntKind.u32.wrap c = c := w_u32 (by omega)
  rw [hcw] at hs
  have g0 := own_at (n := a.length+1) hw (by omega)
  rw [← hes] at g0
  simp [run_draw,logOk,h1,hcw,hs,g0]
  refine outK_ownU (look_one _ _) (by simp [hw]) ⟨w ++ [c],IsMag.slice _,dw.join (Dig.one (by omega)),?_,by simp [hw]⟩
  rw [val_snoc,hw,hv,List.take_length,take_all b _ hba']
 ·have hi:i < a.length := by omega
  have ea := ha.at (show 0 < a.length by omega)
  subst ea
  have hii:(i:Int) < a.length := by omega
  have ga := U_get hi
  have ra := da.get hi
  have wa:IntKind.u64.wrap a[i] = a[i] := w_u64 (by omega)
  have wi:IntKind.i64.wrap ((i:Int)+1) = ((i+1:Nat):Int) := w_i64 (by omega)
  have gw := own_at (n := a.length+1) hw (by omega)
  rw [← hes] at gw
  have li:i < a.length+1 := by omega
  rcases Nat.lt_or_ge i b.length with hib | hib
  ·have eb := hb.at (show 0 < b.length by omega)
   subst eb
   have gb := U_get hib
   have rb := db.get hib
   have wb:IntKind.u64.wrap b[i] = b[i] := w_u64 (by omega)
   have s1:IntKind.u64.wrap (c + a[i]) = c + a[i] := w_u64 (by omega)
   have s2:IntKind.u64.wrap (c + a[i] + b[i]) = c + a[i] + b[i] := w_u64 (by omega)
   obtain ⟨d,e,k1,k2,k3,k4,k5⟩ := halves (s := c + a[i] + b[i]) (by omega)
   have hset := own_set (n := a.length+1) hw (by omega) d
   obtain ⟨es2,hes2⟩:∃ e,e = U ((w ++ [d]) ++ List.replicate (a.length+1 - (i+1)) 0) := ⟨_,rfl⟩
   rw [← hes,← hes2] at hset
   have hii2:(i:Int) < b.length := by omega
   simp [run_draw,logOk,h1,h2,hii,hii2,ga,gb,wa,wb,s1,s2,wi,k1,k2,gw,li,hset,bits64']
   refine ⟨a.length - (i+1),by omega,j,i+1,e,w ++ [d],_,_,rfl,by omega,by simp [hw],dw.join (Dig.one k4),k5,by omega,?_,hes2,rfl⟩
   rw [val_snoc,hw,val_take_succ hi,val_take_succ hib,show pw (i+1) = 4294967296 * pw i from rfl]
   grind
  ·have s1:IntKind.u64.wrap (c + a[i]) = c + a[i] := w_u64 (by omega)
   obtain ⟨d,e,k1,k2,k3,k4,k5⟩ := halves (s := c + a[i]) (by omega)
   have hset := own_set (n := a.length+1) hw (by omega) d
   obtain ⟨es2,hes2⟩:∃ e,e = U ((w ++ [d]) ++ List.replicate (a.length+1 - (i+1)) 0) := ⟨_,rfl⟩
   rw [← hes,← hes2] at hset
   have hii2:¬ (i:Int) < b.length := by omega
   simp [run_draw,logOk,h1,h2,hii,hii2,ga,wa,s1,wi,k1,k2,gw,li,hset,bits64']
   refine ⟨a.length - (i+1),by omega,j,i+1,e,w ++ [d],_,_,rfl,by omega,by simp [hw],dw.join (Dig.one k4),k5,by omega,?_,hes2,rfl⟩
   rw [val_snoc,hw,val_take_succ hi,take_all b (i+1) (by omega),show pw (i+1) = 4294967296 * pw i from rfl]
   rw [take_all b i (by omega)] at hv
   grind
theorem plus_lt (va vb:PV) (a b:List Int) (ha:IsMag va a) (hb:IsMag vb b) (da:Dig a) (db:Dig b) (hba:b.length < a.length) (la:a.length < 1000000):Gives prog G 159 [vb,va] (fun r => ∃ ds,IsMag r ds ∧ Dig ds ∧ val ds = val a + val b ∧ ds.length ≤ a.length + b.length+1) := by
 refine gives (S := []) (by kernel_rfl) (by kernel_rfl) (callW_of ann159 func159 rfl (by kernel_rfl) ?_)
 have h1 := ha.len
 have h2 := hb.len
 have hba':b.length ≤ a.length := by omega
 have hlt:(b.length:Int) < a.length := by omega
 have w1:IntKind.i64.wrap ((a.length:Int)+1) = ((a.length+1:Nat):Int) := w_i64 (by omega)
 have cap:(a.length+1) * 4 ≤ 140737488355328 := by omega
 have cap2:a.length+1 < 9223372036854775808 := by omega
 simp [run_draw,logOk,h1,h2,hlt,w1,makeSliceOp,cap,cap2,natOf_int,U_rep]
 refine loopK_of (plusI va vb a b) rfl rfl ?step a.length _ _ ?init
 case init => exact ⟨_,0,0,[],_,_,rfl,by omega,rfl,fun _ h => (by cases h),by omega,by omega,by simp [val],rfl,rfl⟩
 case step =>
 rintro m vs s ⟨j,i,c,w,k,es,rfl,him,hw,dw,hc0,hc1,hv,hes,rfl⟩
 rcases Nat.eq_zero_or_pos m with h0 | h0
 ·have hi:i = a.length := by omega
  subst hi
  have hs:es.set a.length (.int .u32 (IntKind.u32.wrap c)) = U (w ++ [IntKind.u32.wrap c]) := by
   rw [hes,own_set hw (by omega)]; simp
  have hcw:IntKind.u32.wrap c = c := w_u32 (by omega)
  rw [hcw] at hs
  have g0 := own_at (n := a.length+1) hw (by omega)
  rw [← hes] at g0
  simp [run_draw,logOk,h1,hcw,hs,g0]
  refine outK_ownU (look_one _ _) (by simp [hw]) ⟨w ++ [c],IsMag.slice _,dw.join (Dig.one (by omega)),?_,by simp [hw]⟩
  rw [val_snoc,hw,hv,List.take_length,take_all b _ hba']
 ·have hi:i < a.length := by omega
  have ea := ha.at (show 0 < a.length by omega)
  subst ea
  have hii:(i:Int) < a.length := by omega
  have ga := U_get hi
  have ra := da.get hi
  have wa:IntKind.u64.wrap a[i] = a[i] := w_u64 (by omega)
  have wi:IntKind.i64.wrap ((i:Int)+1) = ((i+1:Nat):Int) := w_i64 (by omega)
  have gw := own_at (n := a.length+1) hw (by omega)
  rw [← hes] at gw
  have li:i < a.length+1 := by omega
  rcases Nat.lt_or_ge i b.length with hib | hib
  ·have eb := hb.at (show 0 < b.length by omega)
   subst eb
   have gb := U_get hib
   have rb := db.get hib
   have wb:IntKind.u64.wrap b[i] = b[i] := w_u64 (by omega)
   have s1:IntKind.u64.wrap (c + a[i]) = c + a[i] := w_u64 (by omega)
   have s2:IntKind.u64.wrap (c + a[i] + b[i]) = c + a[i] + b[i] := w_u64 (by omega)
   obtain ⟨d,e,k1,k2,k3,k4,k5⟩ := halves (s := c + a[i] + b[i]) (by omega)
   have hset := own_set (n := a.length+1) hw (by omega) d
   obtain ⟨es2,hes2⟩:∃ e,e = U ((w ++ [d]) ++ List.replicate (a.length+1 - (i+1)) 0) := ⟨_,rfl⟩
   rw [← hes,← hes2] at hset
   have hii2:(i:Int) < b.length := by omega
   simp [run_draw,logOk,h1,h2,hii,hii2,ga,gb,wa,wb,s1,s2,wi,k1,k2,gw,li,hset,bits64']
   refine ⟨a.length - (i+1),by omega,j,i+1,e,w ++ [d],_,_,rfl,by omega,by simp [hw],dw.join (Dig.one k4),k5,by omega,?_,hes2,rfl⟩
   rw [val_snoc,hw,val_take_succ hi,val_take_succ hib,show pw (i+1) = 4294967296 * pw i from rfl]
   grind
  ·have s1:IntKind.u64.wrap (c + a[i]) = c + a[i] := w_u64 (by omega)
   obtain ⟨d,e,k1,k2,k3,k4,k5⟩ := halves (s := c + a[i]) (by omega)
   have hset := own_set (n := a.length+1) hw (by omega) d
   obtain ⟨es2,hes2⟩:∃ e,e = U ((w ++ [d]) ++ List.replicate (a.length+1 - (i+1)) 0) := ⟨_,rfl⟩
   rw [← hes,← hes2] at hset
   have hii2:¬ (i:Int) < b.length := by omega
   simp [run_draw,logOk,h1,h2,hii,hii2,ga,wa,s1,wi,k1,k2,gw,li,hset,bits64']
   refine ⟨a.length - (i+1),by omega,j,i+1,e,w ++ [d],_,_,rfl,by omega,by simp [hw],dw.join (Dig.one k4),k5,by omega,?_,hes2,rfl⟩
   rw [val_snoc,hw,val_take_succ hi,take_all b (i+1) (by omega),show pw (i+1) = 4294967296 * pw i from rfl]
   rw [take_all b i (by omega)] at hv
   grind
theorem plus_ok (va vb:PV) (a b:List Int) (ha:IsMag va a) (hb:IsMag vb b) (da:Dig a) (db:Dig b) (la:a.length < 1000000) (lb:b.length < 1000000):Gives prog G 159 [va,vb] (plusR [va,vb]) := by
 have e:plusR [va,vb] = fun r => ∃ ds,IsMag r ds ∧ Dig ds ∧ val ds = val a + val b ∧ ds.length ≤ a.length + b.length+1 := by funext r; simp only [plusR,mg_eq ha,mg_eq hb]
 rw [e]
 rcases Nat.lt_or_ge a.length b.length with h | h
 ·refine (plus_lt vb va b a hb ha db da h lb).mono fun r ⟨ds,h1,h2,h3,h4⟩ => ⟨ds,h1,h2,by omega,by omega⟩
 ·exact plus_ge va vb a b ha hb da db h la
def minusI (va vb:PV) (a b:List Int):Nat → List PV → St → Prop := fun m vs s => ∃ (j i:Nat) (c:Int) (w:List Int) (k:Nat) (es:List PV),vs = [.int .i64 (i:Int),vb,.int .i64 a.length,.own j 0 a.length,va,.int .i64 c] ∧ i + m = a.length ∧
 w.length = i ∧ Dig w ∧ 0 ≤ c ∧ c ≤ 1 ∧ val w = val (a.take i) - val (b.take i) + pw i * c ∧ es = U (w ++ List.replicate (a.length - i) 0) ∧ s = ⟨k,[(j,⟨1,es⟩)],[]⟩
theorem minus_ok (va vb:PV) (a b:List Int) (ha:IsMag va a) (hb:IsMag vb b) (da:Dig a) (db:Dig b) (hba:b.length ≤ a.length) (hle:val b ≤ val a) (la:a.length < 1000000):Gives prog G 160 [va,vb] (minusR [va,vb]) := by
 have e:minusR [va,vb] = fun r => ∃ ds,IsMag r ds ∧ Dig ds ∧ val ds = val a - val b ∧ ds.length ≤ a.length := by funext r; simp only [minusR,mg_eq ha,mg_eq hb]
 rw [e]
 refine gives (S := []) (by kernel_rfl) (by kernel_rfl) (callW_of ann160 func160 rfl (by kernel_rfl) ?_)
 have h1 := ha.len
 have h2 := hb.len
 have cap:a.length * 4 ≤ 140737488355328 := by omega
 have cap2:a.length < 9223372036854775808 := by omega
 simp [run_draw,logOk,h1,h2,makeSliceOp,cap,cap2,U_rep]
 refine loopK_of (minusI va vb a b) rfl rfl ?step a.length _ _ ?init
 case init => exact ⟨_,0,0,[],_,_,rfl,by omega,rfl,fun _ h => (by cases h),by omega,by omega,by simp [val],rfl,rfl⟩
 case step =>
 rintro m vs s ⟨j,i,c,w,k,es,rfl,him,hw,dw,hc0,hc1,hv,hes,rfl⟩
 rcases Nat.eq_zero_or_pos m with h0 | h0
 ·have hi:i = a.length := by omega
  subst hi
  simp [run_draw,logOk,h1]
  rw [Nat.sub_self,List.replicate_zero,List.append_nil] at hes
  subst hes
  refine outK_ownU (look_one _ _) hw ⟨w,IsMag.slice _,dw,?_,by omega⟩
  rw [List.take_length,take_all b _ hba] at hv
  have := val_lt dw
  rw [hw] at this
  rcases Int.lt_or_le 0 c with h | h
  ·have:c = 1 := by omega
   subst this
   omega
  ·have:c = 0 := by omega
   subst this
   omega
 ·have hi:i < a.length := by omega
  have ea := ha.at (show 0 < a.length by omega)
  subst ea
  have hii:(i:Int) < a.length := by omega
  have ga := U_get hi
  have ra := da.get hi
  have wa:IntKind.i64.wrap a[i] = a[i] := w_i64 (by omega)
  have wi:IntKind.i64.wrap ((i:Int)+1) = ((i+1:Nat):Int) := w_i64 (by omega)
  have gw := own_at (n := a.length) hw (by omega)
  rw [← hes] at gw
  have li:i < a.length := by omega
  have s1:IntKind.i64.wrap (a[i] - c) = a[i] - c := w_i64 (by omega)
  rcases Nat.lt_or_ge i b.length with hib | hib
  ·skip
   have eb := hb.at (show 0 < b.length by omega)
   subst eb
   have gb := U_get hib
   have rb := db.get hib
   have wb:IntKind.i64.wrap b[i] = b[i] := w_i64 (by omega)
   have s2:IntKind.i64.wrap (a[i] - c - b[i]) = a[i] - c - b[i] := w_i64 (by omega)
   have hii2:(i:Int) < b.length := by omega
   rcases Int.lt_or_le (a[i] - c - b[i]) 0 with hn | hn
   ·obtain ⟨dd,hdd⟩:∃ z,z = a[i] - c - b[i] + 4294967296 := ⟨_,rfl⟩
    have hd:IntKind.u32.wrap (a[i] - c - b[i]) = dd := by rw [IntKind.wrap_u32]; omega
    have hset := own_set (n := a.length) hw (by omega) dd
    obtain ⟨es2,hes2⟩:∃ e,e = U ((w ++ [dd]) ++ List.replicate (a.length - (i+1)) 0) := ⟨_,rfl⟩
    rw [← hes,← hes2] at hset
    have hb':decide (a[i] - c - b[i] < 0) = true := by simpa using hn
    obtain ⟨nn,hnn⟩:∃ z,z = a[i] - c - b[i] := ⟨_,rfl⟩
    rw [← hnn] at hd hb'
    have s3:IntKind.i64.wrap (a[i] - c - b[i]) = nn := by rw [hnn]; exact s2
    simp [run_draw,logOk,h1,h2,hii,ga,wa,wi,gw,li,hii2,gb,wb,s1,s3,hd,hset,hb']
    refine ⟨a.length - (i+1),by omega,j,i+1,1,w ++ [dd],_,_,rfl,by omega,by simp [hw],dw.join (Dig.one (by omega)),by omega,by omega,?_,hes2,rfl⟩
    rw [val_snoc,hw,val_take_succ hi,val_take_succ hib,show pw (i+1) = 4294967296 * pw i from rfl]
    grind
   ·obtain ⟨dd,hdd⟩:∃ z,z = a[i] - c - b[i] := ⟨_,rfl⟩
    have hd:IntKind.u32.wrap (a[i] - c - b[i]) = dd := by rw [IntKind.wrap_u32]; omega
    have hset := own_set (n := a.length) hw (by omega) dd
    obtain ⟨es2,hes2⟩:∃ e,e = U ((w ++ [dd]) ++ List.replicate (a.length - (i+1)) 0) := ⟨_,rfl⟩
    rw [← hes,← hes2] at hset
    have hn2:¬ a[i] - c - b[i] < 0 := by omega
    have hb':decide (a[i] - c - b[i] < 0) = false := by simpa using hn
    obtain ⟨nn,hnn⟩:∃ z,z = a[i] - c - b[i] := ⟨_,rfl⟩
    rw [← hnn] at hd hb'
    have s3:IntKind.i64.wrap (a[i] - c - b[i]) = nn := by rw [hnn]; exact s2
    simp [run_draw,logOk,h1,h2,hii,ga,wa,wi,gw,li,hii2,gb,wb,s1,s3,hd,hset,hb']
    refine ⟨a.length - (i+1),by omega,j,i+1,0,w ++ [dd],_,_,rfl,by omega,by simp [hw],dw.join (Dig.one (by omega)),by omega,by omega,?_,hes2,rfl⟩
    rw [val_snoc,hw,val_take_succ hi,val_take_succ hib,show pw (i+1) = 4294967296 * pw i from rfl]
    grind
  ·skip
   have hii2:¬ (i:Int) < b.length := by omega
   rcases Int.lt_or_le (a[i] - c) 0 with hn | hn
   ·obtain ⟨dd,hdd⟩:∃ z,z = a[i] - c + 4294967296 := ⟨_,rfl⟩
    have hd:IntKind.u32.wrap (a[i] - c) = dd := by rw [IntKind.wrap_u32]; omega
    have hset := own_set (n := a.length) hw (by omega) dd
    obtain ⟨es2,hes2⟩:∃ e,e = U ((w ++ [dd]) ++ List.replicate (a.length - (i+1)) 0) := ⟨_,rfl⟩
    rw [← hes,← hes2] at hset
    have hb':decide (a[i] - c < 0) = true := by simpa using hn
    obtain ⟨nn,hnn⟩:∃ z,z = a[i] - c := ⟨_,rfl⟩
    rw [← hnn] at hd hb'
    have s3:IntKind.i64.wrap (a[i] - c) = nn := by rw [hnn]; exact s1
    simp [run_draw,logOk,h1,h2,hii,ga,wa,wi,gw,li,hii2,s3,hd,hset,hb']
    refine ⟨a.length - (i+1),by omega,j,i+1,1,w ++ [dd],_,_,rfl,by omega,by simp [hw],dw.join (Dig.one (by omega)),by omega,by omega,?_,hes2,rfl⟩
    rw [val_snoc,hw,val_take_succ hi,take_all b (i+1) (by omega),show pw (i+1) = 4294967296 * pw i from rfl]
    rw [take_all b i (by omega)] at hv
    grind
   ·obtain ⟨dd,hdd⟩:∃ z,z = a[i] - c := ⟨_,rfl⟩
    have hd:IntKind.u32.wrap (a[i] - c) = dd := by rw [IntKind.wrap_u32]; omega
    have hset := own_set (n := a.length) hw (by omega) dd
    obtain ⟨es2,hes2⟩:∃ e,e = U ((w ++ [dd]) ++ List.replicate (a.length - (i+1)) 0) := ⟨_,rfl⟩
    rw [← hes,← hes2] at hset
    have hn2:¬ a[i] - c < 0 := by omega
    have hb':decide (a[i] - c < 0) = false := by simpa using hn
    obtain ⟨nn,hnn⟩:∃ z,z = a[i] - c := ⟨_,rfl⟩
    rw [← hnn] at hd hb'
    have s3:IntKind.i64.wrap (a[i] - c) = nn := by rw [hnn]; exact s1
    simp [run_draw,logOk,h1,h2,hii,ga,wa,wi,gw,li,hii2,s3,hd,hset,hb']
    refine ⟨a.length - (i+1),by omega,j,i+1,0,w ++ [dd],_,_,rfl,by omega,by simp [hw],dw.join (Dig.one (by omega)),by omega,by omega,?_,hes2,rfl⟩
    rw [val_snoc,hw,val_take_succ hi,take_all b (i+1) (by omega),show pw (i+1) = 4294967296 * pw i from rfl]
    rw [take_all b i (by omega)] at hv
    grind
theorem dig_zeros (n:Nat):Dig (List.replicate n 0) := fun d hd => by rw [List.eq_of_mem_replicate hd]; omega
def mulH (j:Nat) (es:List PV) (ca cb:List PV):List (Nat × Ent) := [(j,⟨1,es⟩),(2,⟨2,[.agg [.bool false,.nil]]⟩),(1,⟨2,[.agg cb]⟩),(0,⟨2,[.agg ca]⟩)]
def mulI (va vb:PV) (a b:List Int) (ca cb:List PV):Nat → List PV → St → Prop := fun m vs s => ∃ (j i:Nat) (ds:List Int) (k:Nat) (es:List PV),vs = [.own j 0 (a.length + b.length),.int .i64 (i:Int),.ptr 1 0 0,.int .i64 a.length,va,.ptr 0 0 0,.ptr 2 0 0] ∧ i + m = a.length ∧ 2 < j ∧
 ds.length = a.length + b.length ∧ Dig ds ∧ val ds = val (a.take i) * val b ∧ (∀ p,(h:p < ds.length) → i + b.length ≤ p → ds[p] = 0) ∧ es = U ds ∧ s = ⟨k,mulH j es ca cb,[]⟩
def mulJ (va vb:PV) (a b:List Int) (ca cb:List PV) (j i:Nat) (x:Int) (D:List Int):Nat → List PV → St → Prop := fun m vs s => ∃ (q:Nat) (c:Int) (ds:List Int) (k:Nat) (es:List PV),
 vs = [.int .i64 (q:Int),.int .u64 c,.own j 0 (a.length + b.length),.int .i64 (i:Int),.int .i64 b.length,vb,.int .u32 x,.ptr 1 0 0,.int .i64 (i:Int),.int .i64 a.length,.ptr 0 0 0,.ptr 2 0 0,va] ∧ q + m = b.length ∧ 0 ≤ c ∧ c < 4294967296 ∧
 ds.length = a.length + b.length ∧ Dig ds ∧ val ds + pw (i + q) * c = val D + pw i * (x * val (b.take q)) ∧ (∀ p,(h:p < ds.length) → i + b.length ≤ p → ds[p] = 0) ∧ es = U ds ∧ s = ⟨k,mulH j es ca cb,[]⟩
theorem mul_small {x y:Int} (hx:0 ≤ x ∧ x < 4294967296) (hy:0 ≤ y ∧ y < 4294967296):0 ≤ x * y ∧ x * y ≤ 18446744065119617025 := by
 have h1 := Int.mul_nonneg hx.1 hy.1
 have h2:x * y ≤ 4294967295 * 4294967295 := Int.mul_le_mul (by omega) (by omega) hy.1 (by omega)
 omega
theorem mul_ok (v w:PV) (x y:Int) (hv:IsInt v x) (hw:IsInt w y) (fx:Fits x 400000) (fy:Fits y 400000):Gives prog G 104 [v,w] (mulR [v,w]) := by
 have e:mulR [v,w] = fun r => IsInt r (x * y) := by funext r; simp only [mulR,it_eq hv,it_eq hw]
 rw [e]; clear e
 obtain ⟨ba,va,a,rfl,ia⟩ := hv
 obtain ⟨bb,vb,b,rfl,ib⟩ := hw
 have la := ia.len fx
 have lb := ib.len fy
 have ha := ia.mag
 have hb := ib.mag
 have da := ia.norm.dig
 have db := ib.norm.dig
 refine gives (S := [(108,signedR)]) (by kernel_rfl) (by kernel_rfl) (callW_of ann104 func104 rfl (by kernel_rfl) ?_)
 have h1 := ha.len
 have h2 := hb.len
 have w1:IntKind.i64.wrap ((a.length:Int) + b.length) = (a.length:Int) + b.length := w_i64 (by omega)
 have cap:(a.length + b.length) * 4 ≤ 140737488355328 := by omega
 have cap2:a.length + b.length < 9223372036854775808 := by omega
 simp [run_draw,logOk,h1,h2,ha.cellOk,hb.cellOk,w1,makeSliceOp,cap,cap2,U_rep]
 refine loopK_of (mulI va vb a b [.bool ba,va] [.bool bb,vb]) rfl rfl ?step a.length _ _ ?init
 case init => exact ⟨_,0,List.replicate (a.length + b.length) 0,_,_,rfl,by omega,by omega,by simp,dig_zeros _,by simp [val,val_zeros],fun p h _ => by simp,rfl,rfl⟩
 case step =>
 rintro m vs s ⟨j,i,ds,k,es,rfl,him,hj,hl,dd,hval,hz,hes,rfl⟩
 have j0:¬ j = 0 := by omega
 have j1:¬ j = 1 := by omega
 have j2:¬ j = 2 := by omega
 rcases Nat.eq_zero_or_pos m with h0 | h0
 ·have hi:i = a.length := by omega
  subst hi
  rw [List.take_length] at hval
  have fin:∀ c z s,c = xor ba bb → IsInt z (sg c (val ds)) → outK (fun r => IsInt r (x * y)) z s := by
   intro c z s hc hz
   refine outK_pure hz.pure ?_
   have:x * y = sg c (val ds) := by rw [hval,hc,ia.val,ib.val]; cases ba <;> cases bb <;> simp [sg,Int.neg_mul,Int.mul_neg]
   rw [this]; exact hz
  have go:∀ c:Bool,Gives prog G 108 [.bool c,.slice (U ds)] (signedR [.bool c,.slice (U ds)]) := fun c => signed_ok c _ ds (IsMag.slice _) dd (by omega)
  have rf:∀ (c:Bool) (H:Nat → Option Ent),H j = some ⟨1,U ds⟩ → reifyL H [.bool c,.own j 0 (a.length + b.length)] = some ([.bool c,.slice (U ds)],[j]) := by
   intro c H hH
   have := reify_ownU (lo := 0) (len := a.length + b.length) hH (by omega)
   rw [List.drop_zero,take_all _ _ (by omega)] at this
   simp only [reifyL,mapR,this]
   simp [reify,PV.pureB]
  subst hes
  have tail:∀ r z c,IsInt r z → sg c (val ds) = z → IsInt r (sg c (val ds)) := fun r z c h e => by rw [e]; exact h
  cases ba <;> cases bb <;>
  ·simp [run_draw,logOk,mulH,h1,h2,j0,j1,j2,ha.cellOk,hb.cellOk,eqPV]
   refine callK_own (R := signedR) rfl (rf _ _ ?_) (go _) fun r z hr hzz => ?_
   ·simp [St.hp,Go.Pi.look,beq_lit]
   have z2:memB z 2 = false := hzz 2 rfl (by simp [memB,beq_lit,j2])
   simp only [signedR,mg_eq (IsMag.slice ds)] at hr
   have hr' := hr
   obtain ⟨br,mr,dr,rfl,ir⟩ := hr
   simp [run_draw,logOk,j0,j1,j2,ir.mag.cellOk,z2]
   exact fin _ _ _ (by rfl) hr'
 ·have hi:i < a.length := by omega
  have ea := ha.at (show 0 < a.length by omega)
  subst ea
  have hii:(i:Int) < a.length := by omega
  have ga := U_get hi
  have ra := da.get hi
  have wa:IntKind.u64.wrap a[i] = a[i] := w_u64 (by omega)
  have wi:IntKind.i64.wrap ((i:Int)+1) = ((i+1:Nat):Int) := w_i64 (by omega)
  simp [run_draw,logOk,mulH,h1,h2,j0,j1,j2,hii,ga,ha.cellOk,hb.cellOk]
  refine loopK_of (mulJ (.slice (U a)) vb a b [.bool ba,.slice (U a)] [.bool bb,vb] j i a[i] ds) rfl rfl ?step b.length _ _ ?init
  case init => exact ⟨0,0,ds,_,_,rfl,by omega,by omega,by omega,hl,dd,by simp [val],hz,hes,rfl⟩
  case step =>
  rintro m2 vs s ⟨q,c,es1,k1,E,rfl,hq,hc0,hc1,hl1,dd1,hv1,hz1,hE,rfl⟩
  rcases Nat.eq_zero_or_pos m2 with h0 | h0
  ·have hqb:q = b.length := by omega
   subst hqb
   have hp:i + b.length < es1.length := by omega
   have g0:E[i + b.length]? = some (.int .u32 es1[i + b.length]) := by rw [hE]; exact U_get hp
   have wib:IntKind.i64.wrap ((i:Int) + b.length) = (i:Int) + b.length := w_i64 (by omega)
   have wc:IntKind.u32.wrap c = c := w_u32 (by omega)
   have hset:E.set (i + b.length) (.int .u32 c) = U (es1.set (i + b.length) c) := by rw [hE,U_set]
   have z0 := hz1 _ hp (Nat.le_refl _)
   obtain ⟨E2,hE2⟩:∃ e,e = U (es1.set (i + b.length) c) := ⟨_,rfl⟩
   rw [← hE2] at hset
   have hpl:i + b.length < a.length + b.length := by omega
   simp [run_draw,logOk,mulH,h1,h2,j0,j1,j2,hpl,wib,wc,wi,g0,hset,ha.cellOk,hb.cellOk]
   refine ⟨a.length - (i+1),by omega,j,i+1,es1.set (i + b.length) c,_,_,rfl,by omega,hj,by simpa using hl1,dd1.set (by omega),?_,?_,hE2,rfl⟩
   ·rw [val_set hp,z0,val_take_succ hi,Int.add_mul,← hval]
    rw [List.take_length] at hv1
    grind
   ·intro p h hle
    rw [List.getElem_set_ne (by omega)]
    exact hz1 p (by simpa using h) (by omega)
  ·have hqb:q < b.length := by omega
   have eb := hb.at (show 0 < b.length by omega)
   subst eb
   have hqq:(q:Int) < b.length := by omega
   have gb := U_get hqb
   have rb := db.get hqb
   have wb:IntKind.u64.wrap b[q] = b[q] := w_u64 (by omega)
   have hp:i + q < es1.length := by omega
   have re := dd1.get hp
   have g0:E[i + q]? = some (.int .u32 es1[i + q]) := by rw [hE]; exact U_get hp
   have we:IntKind.u64.wrap es1[i + q] = es1[i + q] := w_u64 (by omega)
   have wiq:IntKind.i64.wrap ((i:Int) + q) = (i:Int) + q := w_i64 (by omega)
   have wq:IntKind.i64.wrap ((q:Int)+1) = ((q+1:Nat):Int) := w_i64 (by omega)
   have hxy := mul_small ra rb
   obtain ⟨P,hP⟩:∃ z,z = a[i] * b[q] := ⟨_,rfl⟩
   rw [← hP] at hxy
   have s1:IntKind.u64.wrap (a[i] * b[q]) = P := by rw [← hP]; exact w_u64 (by omega)
   have s2:IntKind.u64.wrap (P + es1[i + q]) = P + es1[i + q] := w_u64 (by omega)
   have s3:IntKind.u64.wrap (c + (P + es1[i + q])) = c + (P + es1[i + q]) := w_u64 (by omega)
   obtain ⟨d,e,k1',k2,k3,k4,k5⟩ := halves (s := c + (P + es1[i + q])) (by omega)
   have hset:E.set (i + q) (.int .u32 d) = U (es1.set (i + q) d) := by rw [hE,U_set]
   obtain ⟨E2,hE2⟩:∃ e,e = U (es1.set (i + q) d) := ⟨_,rfl⟩
   rw [← hE2] at hset
   have hpl:i + q < a.length + b.length := by omega
   simp [run_draw,logOk,mulH,h1,h2,j0,j1,j2,hqq,gb,wa,wb,we,wiq,wq,s1,s2,s3,k1',k2,hpl,g0,hset,ha.cellOk,hb.cellOk]
   refine ⟨b.length - (q+1),by omega,q+1,e,es1.set (i + q) d,_,_,rfl,by omega,k5,by omega,by simpa using hl1,dd1.set k4,?_,?_,hE2,rfl⟩
   ·rw [val_set hp,val_take_succ hqb,show i + (q+1) = (i + q)+1 by omega,show pw (i + q+1) = 4294967296 * pw (i + q) from rfl,pw_add]
    rw [pw_add] at hv1
    grind
   ·intro p h hle
    rw [List.getElem_set_ne (by omega)]
    exact hz1 p (by simpa using h) hle
theorem w_u64_mod (n:Int):IntKind.u64.wrap n = n % 18446744073709551616 := by
 simp [IntKind.wrap,IntKind.bits,IntKind.signed]
theorem signed_g {b:Bool} {v:PV} {ds:List Int} (hv:IsMag v ds) (hd:Dig ds) (hl:ds.length < 1000000):Gives prog G 108 [.bool b,v] (signedR [.bool b,v]) := signed_ok b v ds hv hd hl
theorem from_ok (n:Int) (hn : -9223372036854775808 ≤ n ∧ n ≤ 9223372036854775807):Gives prog G 74 [.int .i64 n] (fromR [.int .i64 n]) := by
 refine gives (S := [(108,signedR)]) (by kernel_rfl) (by kernel_rfl) (callW_of ann74 func74 rfl (by kernel_rfl) ?_)
 have step:∀ u:Int,0 ≤ u ∧ u < 18446744073709551616 → u = n.natAbs → ∃ d e,IntKind.u32.wrap u = d ∧ IntKind.u32.wrap (u.fdiv 4294967296) = e ∧ Dig [d,e] ∧ val [d,e] = n.natAbs := by
  intro u hu hn
  obtain ⟨d,e,k1,k2,k3,k4,k5⟩ := halves (s := u) hu.1
  refine ⟨d,e,k1,by rw [k2]; exact w_u32 (by omega),fun x hx => ?_,?_⟩
  ·rcases List.mem_cons.1 hx with rfl | hx
   ·exact k4
   ·simp at hx; subst hx; omega
  ·simp only [val]; omega
 rcases Int.lt_or_le n 0 with h | h
 ·have hd:decide (n < 0) = true := by simpa using h
  have e1:IntKind.u64.wrap n = n+18446744073709551616 := by rw [w_u64_mod]; omega
  have e2:IntKind.u64.wrap (0 - (n+18446744073709551616)) = -n := by rw [w_u64_mod]; omega
  obtain ⟨d,e,k1,k2,k3,k4⟩ := step (-n) (by omega) (by omega)
  obtain ⟨m,hm⟩:∃ z,z = n+18446744073709551616 := ⟨_,rfl⟩
  obtain ⟨p,hp⟩:∃ z,z = -n := ⟨_,rfl⟩
  rw [← hm] at e1 e2
  rw [← hp] at k1 k2 e2
  have e2':IntKind.u64.wrap (-m) = p := by rw [← e2]; congr 1; omega
  simp [run_draw,logOk,hd,e1,e2',k1,k2,buildSliceOp,putParts,repeatP,uniform,PV.pureL,PV.pureB]
  refine callK_pure (R := signedR) rfl (by simp [PV.pureL,PV.pureB]) (signed_g (IsMag.slice [d,e]) k3 (by simp)) fun r hr => ?_
  have hr:IsInt r (sg true (val [d,e])) := by have h := hr; simp only [signedR] at h; rw [show mg (.slice [.int .u32 d,.int .u32 e]) = [d,e] from mg_eq (IsMag.slice [d,e])] at h; exact h
  have hr' := hr
  obtain ⟨br,mr,dr,rfl,ir⟩ := hr
  simp [run_draw,logOk,ir.mag.cellOk]
  refine outK_pure hr'.pure ?_
  have:sg true (val [d,e]) = n := by rw [k4]; simp [sg]; omega
  rw [this] at hr'
  exact hr'
 ·have hd:decide (n < 0) = false := by simpa using h
  have hd2:¬ n < 0 := by omega
  have e1:IntKind.u64.wrap n = n := by rw [w_u64_mod]; omega
  obtain ⟨d,e,k1,k2,k3,k4⟩ := step n (by omega) (by omega)
  simp [run_draw,logOk,hd,e1,k1,k2,buildSliceOp,putParts,repeatP,uniform,PV.pureL,PV.pureB]
  refine callK_pure (R := signedR) rfl (by simp [PV.pureL,PV.pureB]) (signed_g (IsMag.slice [d,e]) k3 (by simp)) fun r hr => ?_
  have hr:IsInt r (sg false (val [d,e])) := by have h := hr; simp only [signedR] at h; rw [show mg (.slice [.int .u32 d,.int .u32 e]) = [d,e] from mg_eq (IsMag.slice [d,e])] at h; exact h
  have hr' := hr
  obtain ⟨br,mr,dr,rfl,ir⟩ := hr
  simp [run_draw,logOk,ir.mag.cellOk]
  refine outK_pure hr'.pure ?_
  have:sg false (val [d,e]) = n := by rw [k4]; simp [sg]; omega
  rw [this] at hr'
  exact hr'
theorem val_le_iff {x y:Int}:decide (cmpI x y ≥ 0) = decide (y ≤ x) := by
 unfold cmpI
 by_cases h:x < y
 ·rw [if_pos h]; simp; omega
 ·rw [if_neg h]
  by_cases h2:x = y
  ·rw [if_pos h2]; simp; omega
  ·rw [if_neg h2]; simp; omega
theorem add_ok (v w:PV) (x y:Int) (hv:IsInt v x) (hw:IsInt w y) (fx:Fits x 400000) (fy:Fits y 400000):Gives prog G 128 [v,w] (addR [v,w]) := by
 have e:addR [v,w] = fun r => IsInt r (x + y) := by funext r; simp only [addR,it_eq hv,it_eq hw]
 rw [e]; clear e
 obtain ⟨ba,va,a,rfl,ia⟩ := hv
 obtain ⟨bb,vb,b,rfl,ib⟩ := hw
 have la := ia.len fx
 have lb := ib.len fy
 have ha := ia.mag
 have hb := ib.mag
 have da := ia.norm.dig
 have db := ib.norm.dig
 refine gives (S := [(108,signedR),(159,plusR),(160,minusR),(144,orderR)]) (by kernel_rfl) (by kernel_rfl) (callW_of ann128 func128 rfl (by kernel_rfl) ?_)
 have fin:∀ (br:Bool) (mr:PV) (z:Int) s,IsInt (.agg [.bool br,mr]) z → z = x + y → outK (fun r => IsInt r (x + y)) (.agg [.bool br,mr]) s := fun br mr z s h e => outK_pure h.pure (by rw [← e]; exact h)
 have hx := ia.val
 have hy := ib.val
 by_cases hs:ba = bb
 ·subst hs
  have eb:(ba == ba) = true := by simp
  simp [run_draw,logOk,ha.cellOk,hb.cellOk,eqPV,eb]
  refine dcallK_pure (R := plusR) rfl (by simp [PV.pureL,ha.pure,hb.pure]) (plus_ok va vb a b ha hb da db (by omega) (by omega)) fun r hr => ?_
  obtain ⟨ds,hr,hd,hval,hl⟩ := hr
  rw [mg_eq ha,mg_eq hb] at hval hl
  simp [run_draw,logOk,ha.cellOk,hb.cellOk]
  refine dcallK_pure (R := signedR) rfl (by simp [PV.pureL,PV.pureB,hr.pure]) (signed_g hr hd (by omega)) fun r2 hr2 => ?_
  simp only [signedR,mg_eq hr] at hr2
  have hr' := hr2
  obtain ⟨br,mr,dr,rfl,ir⟩ := hr2
  simp [run_draw,logOk,ha.cellOk,hb.cellOk,ir.mag.cellOk,ha.ids,hb.ids,hr.ids]
  refine fin _ _ _ _ hr' ?_
  rw [hval,hx,hy]
  cases ba <;> simp [sg]; omega
 ·have eb:(ba == bb) = false := by simpa using hs
  have hbb:bb = !ba := by cases ba <;> cases bb <;> simp_all
  simp [run_draw,logOk,ha.cellOk,hb.cellOk,eqPV,eb]
  refine callK_pure (R := orderR) rfl (by simp [PV.pureL,ha.pure,hb.pure]) (order_ok va vb a b ha hb ia.norm ib.norm (by omega) (by omega)) fun r hr => ?_
  simp only [orderR,mg_eq ha,mg_eq hb] at hr
  subst hr
  rcases Int.lt_or_le (val a) (val b) with hlt | hle
  ·have hc:cmpI (val a) (val b) = -1 := cmpI_lt hlt
   simp [run_draw,logOk,ha.cellOk,hb.cellOk,hc]
   have hlen:a.length ≤ b.length := by
    rcases Nat.lt_or_ge b.length a.length with h | h
    ·have := val_short db da ia.norm.top h; omega
    ·exact h
   refine dcallK_pure (R := minusR) rfl (by simp [PV.pureL,ha.pure,hb.pure]) (minus_ok vb va b a hb ha db da hlen (by omega) (by omega)) fun r hr => ?_
   obtain ⟨ds,hr,hd,hval,hl⟩ := hr
   rw [mg_eq ha,mg_eq hb] at hval
   rw [mg_eq hb] at hl
   simp [run_draw,logOk,ha.cellOk,hb.cellOk]
   refine dcallK_pure (R := signedR) rfl (by simp [PV.pureL,PV.pureB,hr.pure]) (signed_g hr hd (by omega)) fun r2 hr2 => ?_
   simp only [signedR,mg_eq hr] at hr2
   have hr' := hr2
   obtain ⟨br,mr,dr,rfl,ir⟩ := hr2
   simp [run_draw,logOk,ha.cellOk,hb.cellOk,ir.mag.cellOk,ha.ids,hb.ids,hr.ids]
   refine fin _ _ _ _ hr' ?_
   rw [hval,hx,hy,hbb]
   cases ba <;> simp [sg] <;> omega
  ·have hc:decide (cmpI (val a) (val b) ≥ 0) = true := by rw [val_le_iff]; simpa using hle
   have hc2:0 ≤ cmpI (val a) (val b) := by simpa using hc
   simp [run_draw,logOk,ha.cellOk,hb.cellOk,hc2]
   have hlen:b.length ≤ a.length := by
    rcases Nat.lt_or_ge a.length b.length with h | h
    ·have := val_short da db ib.norm.top h; omega
    ·exact h
   refine dcallK_pure (R := minusR) rfl (by simp [PV.pureL,ha.pure,hb.pure]) (minus_ok va vb a b ha hb da db hlen (by omega) (by omega)) fun r hr => ?_
   obtain ⟨ds,hr,hd,hval,hl⟩ := hr
   rw [mg_eq ha,mg_eq hb] at hval
   rw [mg_eq ha] at hl
   simp [run_draw,logOk,ha.cellOk,hb.cellOk]
   refine dcallK_pure (R := signedR) rfl (by simp [PV.pureL,PV.pureB,hr.pure]) (signed_g hr hd (by omega)) fun r2 hr2 => ?_
   simp only [signedR,mg_eq hr] at hr2
   have hr' := hr2
   obtain ⟨br,mr,dr,rfl,ir⟩ := hr2
   simp [run_draw,logOk,ha.cellOk,hb.cellOk,ir.mag.cellOk,ha.ids,hb.ids,hr.ids]
   refine fin _ _ _ _ hr' ?_
   rw [hval,hx,hy,hbb]
   cases ba <;> simp [sg] <;> omega
theorem or_side {r d:Int} {i w:Nat} (hr:0 ≤ r) (hd:0 ≤ d) (hdi:d < 2 ^ i) (hs:r * 2 ^ i + d < 2 ^ w):orI w (r * 2 ^ i) d = r * 2 ^ i + d := by
 unfold orI
 obtain ⟨r,rfl⟩ := Int.eq_ofNat_of_zero_le hr
 obtain ⟨d,rfl⟩ := Int.eq_ofNat_of_zero_le hd
 have hdi':d < 2 ^ i := by
   have:((d:Nat):Int) < ((2 ^ i:Nat):Int) := by simpa using hdi
   omega
 have hs':r * 2 ^ i + d < 2 ^ w := by
  have:((r * 2 ^ i + d:Nat):Int) < ((2 ^ w:Nat):Int) := by simpa using hs
  omega
 have e1:(BitVec.ofInt w ((r:Int) * 2 ^ i)).toNat = r * 2 ^ i := by
  rw [BitVec.toNat_ofInt]
  have:((r:Int) * 2 ^ i) % ((2 ^ w:Nat):Int) = ((r * 2 ^ i:Nat):Int) := by
   rw [show (r:Int) * 2 ^ i = ((r * 2 ^ i:Nat):Int) by simp,← Int.natCast_emod,Nat.mod_eq_of_lt (by omega)]
  rw [this]; exact Int.toNat_natCast _
 have e2:(BitVec.ofInt w (d:Int)).toNat = d := by
  rw [BitVec.toNat_ofInt,← Int.natCast_emod,Nat.mod_eq_of_lt (by omega)]; simp
 rw [BitVec.toNat_or,e1,e2,Nat.mul_comm,← Nat.two_pow_add_eq_or_of_lt hdi',Nat.mul_comm]
 simp
def shortI (va:PV) (a:List Int) (y:Int):Nat → List PV → St → Prop := fun m vs s => ∃ (j:Nat) (r:Int) (ds:List Int) (k:Nat) (es:List PV),vs = [.int .i64 ((m:Int) - 1),.int .u64 r,.int .u32 y,.own j 0 a.length,va] ∧ m ≤ a.length ∧ 0 ≤ r ∧ r < y ∧
 ds.length = a.length ∧ Dig ds ∧ val (a.drop m) = y * val (ds.drop m) + r ∧ es = U ds ∧ s = ⟨k,[(j,⟨1,es⟩)],[]⟩
theorem short_ok (va:PV) (a:List Int) (y:Int) (ha:IsMag va a) (da:Dig a) (la:a.length < 1000000) (hy:0 < y ∧ y < 4294967296):Gives prog G 111 [va,.int .u32 y] (shortR [va,.int .u32 y]) := by
 have e:shortR [va,.int .u32 y] = fun r => ∃ q ds,r = .tuple [q,.int .u32 (val a % y)] ∧ IsMag q ds ∧ Norm ds ∧ val ds = val a / y := by funext r; simp only [shortR,mg_eq ha]
 rw [e]; clear e
 refine gives (S := [(146,trimR)]) (by kernel_rfl) (by kernel_rfl) (callW_of ann111 func111 rfl (by kernel_rfl) ?_)
 have h1 := ha.len
 have cap:a.length * 4 ≤ 140737488355328 := by omega
 have cap2:a.length < 9223372036854775808 := by omega
 have w1:IntKind.i64.wrap ((a.length:Int) - 1) = (a.length:Int) - 1 := w_i64 (by omega)
 simp [run_draw,logOk,h1,makeSliceOp,cap,cap2,U_rep,w1]
 refine loopK_of (shortI va a y) rfl rfl ?step a.length _ _ ?init
 case init => exact ⟨_,0,List.replicate a.length 0,_,_,rfl,by omega,by omega,by omega,by simp,dig_zeros _,by simp [val],rfl,rfl⟩
 case step =>
 rintro m vs s ⟨j,r,ds,k,es,rfl,hm,hr0,hr1,hl,dd,hv,hes,rfl⟩
 rcases m with _ | m
 ·simp [run_draw,logOk]
  subst hes
  have rf:∀ H:Nat → Option Ent,H j = some ⟨1,U ds⟩ → reifyL H [.own j 0 a.length] = some ([.slice (U ds)],[j]) := by
   intro H hH
   have := reify_ownU (lo := 0) (len := a.length) hH (by omega)
   rw [List.drop_zero,take_all _ _ (by omega)] at this
   simp only [reifyL,mapR,this]; rfl
  refine callK_own (R := trimR) rfl (rf _ ?_) (trim_g (IsMag.slice ds) (by omega)) fun q z hq hz => ?_
  ·simp [St.hp,Go.Pi.look,beq_lit]
  simp only [trimR,mg_eq (IsMag.slice ds)] at hq
  have wr:IntKind.u32.wrap r = r := w_u32 (by omega)
  simp [run_draw,logOk,wr]
  rw [List.drop_zero,List.drop_zero] at hv
  have hq1:val a / y = val ds := by
   rw [hv,Int.mul_add_ediv_left _ _ (by omega),Int.ediv_eq_zero_of_lt hr0 hr1,Int.add_zero]
  have hr1':val a % y = r := by
   rw [hv,Int.mul_add_emod_self_left,Int.emod_eq_of_lt hr0 hr1]
  refine outK_pure (by simp [PV.pureB,PV.pureL,hq.pure]) ⟨q,by rw [hr1'],trimL ds,hq,norm_trim dd,by rw [val_trim,hq1]⟩
 ·have hi:m < a.length := by omega
  have ea := ha.at (show 0 < a.length by omega)
  subst ea
  have ga := U_get hi
  have ra := da.get hi
  have em:(((m+1:Nat):Int) - 1) = (m:Int) := by omega
  rw [em]
  have wa:IntKind.u64.wrap a[m] = a[m] := w_u64 (by omega)
  have wi:IntKind.i64.wrap ((m:Int) - 1) = (m:Int) - 1 := w_i64 (by omega)
  have wy:IntKind.u64.wrap y = y := w_u64 (by omega)
  have hr2:r * 4294967296 + a[m] < 18446744073709551616 := by omega
  have ws:IntKind.u64.wrap (r * 4294967296) = r * 4294967296 := w_u64 (by omega)
  have hor := or_side (r := r) (d := a[m]) (i := 32) (w := 64) hr0 ra.1 (by simpa using ra.2) (by simpa using hr2)
  obtain ⟨t,ht⟩:∃ z,z = r * 4294967296 + a[m] := ⟨_,rfl⟩
  have hor':orI 64 (r * 4294967296) a[m] = t := by rw [ht]; simpa using hor
  have wt:IntKind.u64.wrap t = t := w_u64 (by omega)
  have hy0:(y == 0) = false := by simp only [beq_eq_false_iff_ne,ne_eq]; omega
  have t0:0 ≤ t := by omega
  obtain ⟨q,hq⟩:∃ z,z = t / y := ⟨_,rfl⟩
  obtain ⟨r',hr'⟩:∃ z,z = t % y := ⟨_,rfl⟩
  have hqr:y * q + r' = t := by rw [hq,hr']; exact Int.mul_ediv_add_emod t y
  have hr'0:0 ≤ r' := by rw [hr']; exact Int.emod_nonneg _ (by omega)
  have hr'1:r' < y := by rw [hr']; exact Int.emod_lt_of_pos _ (by omega)
  have hq0:0 ≤ q := by rw [hq]; exact Int.ediv_nonneg t0 (by omega)
  have hq1:q < 4294967296 := by
   rw [hq]
   refine Int.ediv_lt_of_lt_mul (by omega) ?_
   have:r * 4294967296 + 4294967296 ≤ 4294967296 * y := by omega
   omega
  have td:IntKind.u64.wrap (t.tdiv y) = q := by rw [Int.tdiv_eq_ediv_of_nonneg t0,← hq]; exact w_u64 (by omega)
  have tm:t.tmod y = r' := by rw [Int.tmod_eq_emod_of_nonneg t0,hr']
  have wq:IntKind.u32.wrap q = q := w_u32 (by omega)
  have hl2:m < ds.length := by omega
  have g0:es[m]? = some (.int .u32 ds[m]) := by rw [hes]; exact U_get hl2
  have hset:es.set m (.int .u32 q) = U (ds.set m q) := by rw [hes,U_set]
  obtain ⟨E2,hE2⟩:∃ e,e = U (ds.set m q) := ⟨_,rfl⟩
  rw [← hE2] at hset
  simp [run_draw,logOk,h1,wa,wi,wy,ga,ws,wt,hor',hy0,td,tm,wq,g0,hset,hi]
  refine ⟨m,by omega,j,r',ds.set m q,_,_,rfl,by omega,hr'0,hr'1,by simpa using hl,dd.set ⟨hq0,hq1⟩,?_,hE2,rfl⟩
  have e1:(ds.set m q).drop m = q :: ds.drop (m+1) := by
   rw [List.drop_eq_getElem_cons (by simpa using hl2),List.getElem_set_self,List.drop_set_of_lt (by omega)]
  rw [e1,List.drop_eq_getElem_cons hi]
  simp only [val]
  rw [hv]
  grind
def scaleI (va:PV) (a:List Int) (x p:Int):Nat → List PV → St → Prop := fun m vs s => ∃ (j i:Nat) (c:Int) (w:List Int) (k:Nat) (es:List PV),vs = [.int .i64 (i:Int),.int .u64 c,.int .i64 a.length,.own j 0 (a.length+1),va,.int .u32 x,va] ∧ i + m = a.length ∧
 w.length = i ∧ Dig w ∧ 0 ≤ c ∧ c < 4294967296 ∧ val w + pw i * c = val (a.take i) * x + p ∧ es = U (w ++ List.replicate (a.length+1 - i) 0) ∧ s = ⟨k,[(j,⟨1,es⟩)],[]⟩
theorem scale_ok (va:PV) (a:List Int) (x p:Int) (ha:IsMag va a) (da:Dig a) (la:a.length < 900000) (hx:0 ≤ x ∧ x < 4294967296) (hp:0 ≤ p ∧ p < 4294967296):Gives prog G 175 [va,.int .u32 x,.int .u32 p] (scaleR [va,.int .u32 x,.int .u32 p]) := by
 have e:scaleR [va,.int .u32 x,.int .u32 p] = fun r => ∃ ds,IsMag r ds ∧ Norm ds ∧ val ds = val a * x + p := by funext r; simp only [scaleR,mg_eq ha]
 rw [e]; clear e
 refine gives (S := [(146,trimR)]) (by kernel_rfl) (by kernel_rfl) (callW_of ann175 func175 rfl (by kernel_rfl) ?_)
 have h1 := ha.len
 have w1:IntKind.i64.wrap ((a.length:Int)+1) = ((a.length+1:Nat):Int) := w_i64 (by omega)
 have cap:(a.length+1) * 4 ≤ 140737488355328 := by omega
 have cap2:a.length+1 < 9223372036854775808 := by omega
 have wp:IntKind.u64.wrap p = p := w_u64 (by omega)
 simp [run_draw,logOk,h1,w1,makeSliceOp,cap,cap2,U_rep,wp]
 refine loopK_of (scaleI va a x p) rfl rfl ?step a.length _ _ ?init
 case init => exact ⟨_,0,p,[],_,_,rfl,by omega,rfl,fun _ h => (by cases h),by omega,by omega,by simp [val,pw],rfl,rfl⟩
 case step =>
 rintro m vs s ⟨j,i,c,w,k,es,rfl,him,hw,dw,hc0,hc1,hv,hes,rfl⟩
 rcases Nat.eq_zero_or_pos m with h0 | h0
 ·have hi:i = a.length := by omega
  subst hi
  have hs:es.set a.length (.int .u32 (IntKind.u32.wrap c)) = U (w ++ [IntKind.u32.wrap c]) := by
   rw [hes,own_set hw (by omega)]; simp
  have hcw:IntKind.u32.wrap c = c := w_u32 (by omega)
  rw [hcw] at hs
  have g0 := own_at (n := a.length+1) hw (by omega)
  rw [← hes] at g0
  simp [run_draw,logOk,h1,hcw,hs,g0]
  have dwc:Dig (w ++ [c]) := dw.join (Dig.one (by omega))
  refine callK_own (R := trimR) (vs := [.slice (U (w ++ [c]))]) (fr := [j]) rfl ?_ (trim_g (IsMag.slice (w ++ [c])) (by simp; omega)) fun q z hq hz => ?_
  ·have := reify_ownU (hp := Go.Pi.look [(j,(⟨1,U (w ++ [c])⟩:Ent))]) (r := j) (lo := 0) (len := a.length+1) (ds := w ++ [c]) (look_one _ _) (by simp [hw])
   rw [List.drop_zero,take_all _ _ (by simp [hw])] at this
   show reifyL (Go.Pi.look [(j,(⟨1,U (w ++ [c])⟩:Ent))]) _ = _
   simp only [reifyL,mapR,this]; rfl
  simp only [trimR,mg_eq (IsMag.slice (w ++ [c]))] at hq
  simp [run_draw,logOk]
  refine outK_pure hq.pure ⟨_,hq,norm_trim dwc,?_⟩
  rw [val_trim,val_snoc,hw,hv,List.take_length]
 ·have hi:i < a.length := by omega
  have ea := ha.at (show 0 < a.length by omega)
  subst ea
  have hii:(i:Int) < a.length := by omega
  have ga := U_get hi
  have ra := da.get hi
  have wa:IntKind.u64.wrap a[i] = a[i] := w_u64 (by omega)
  have wx:IntKind.u64.wrap x = x := w_u64 (by omega)
  have wi:IntKind.i64.wrap ((i:Int)+1) = ((i+1:Nat):Int) := w_i64 (by omega)
  have gw := own_at (n := a.length+1) hw (by omega)
  rw [← hes] at gw
  have li:i < a.length+1 := by omega
  have hxy := mul_small ra hx
  obtain ⟨P,hP⟩:∃ z,z = a[i] * x := ⟨_,rfl⟩
  rw [← hP] at hxy
  have s1:IntKind.u64.wrap (a[i] * x) = P := by rw [← hP]; exact w_u64 (by omega)
  have s2:IntKind.u64.wrap (c + P) = c + P := w_u64 (by omega)
  obtain ⟨d,e,k1,k2,k3,k4,k5⟩ := halves (s := c + P) (by omega)
  have hset := own_set (n := a.length+1) hw (by omega) d
  obtain ⟨es2,hes2⟩:∃ e,e = U ((w ++ [d]) ++ List.replicate (a.length+1 - (i+1)) 0) := ⟨_,rfl⟩
  rw [← hes,← hes2] at hset
  simp [run_draw,logOk,h1,hii,ga,wa,wx,s1,s2,wi,k1,k2,gw,li,hset]
  refine ⟨a.length - (i+1),by omega,j,i+1,e,w ++ [d],_,_,rfl,by omega,by simp [hw],dw.join (Dig.one k4),k5,by omega,?_,hes2,rfl⟩
  rw [val_snoc,hw,val_take_succ hi,show pw (i+1) = 4294967296 * pw i from rfl]
  grind
def ba (l:List UInt8):ByteArray := ⟨l.toArray⟩
theorem ba_list (l:List UInt8):(ba l).data.toList = l := rfl
theorem ba_size (l:List UInt8):(ba l).size = l.length := rfl
theorem ba_of (s:ByteArray):s = ba s.data.toList := by cases s; rfl
theorem ba_append (a b:List UInt8):ba a ++ ba b = ba (a ++ b) := by
 apply ByteArray.ext
 apply Array.ext'
 simp [ba]
theorem sb_add (a b:List UInt8):strBin .add (ba a) (ba b) = bif Nat.ble (a.length + b.length) 9223372036854775807 then some (.str (ba (a ++ b))) else none := by
 simp only [strBin,ba_size,ba_append]
theorem sb_eql (a b:List UInt8):strBin .eql (ba a) (ba b) = some (.bool (decide (a = b))) := by
 simp only [strBin,ByteArray.toList_eq,ba_list]
 by_cases h:a = b <;> simp [h]
theorem sb_neq (a b:List UInt8):strBin .neq (ba a) (ba b) = some (.bool (!decide (a = b))) := by
 simp only [strBin,ByteArray.toList_eq,ba_list]
 by_cases h:a = b <;> simp [h]
theorem extract_ba (l:List UInt8) (a b:Nat):(ba l).extract a b = ba ((l.drop a).take (b - a)) := by
 have h:((ba l).extract a b).data.toList = (l.drop a).take (b - a) := by simp [ByteArray.data_extract,ba]
 rw [ba_of ((ba l).extract a b),h]
theorem c48:(⟨#[48]⟩:ByteArray) = ba [48] := rfl
theorem c45:(⟨#[45]⟩:ByteArray) = ba [45] := rfl
theorem c47:(⟨#[47]⟩:ByteArray) = ba [47] := rfl
theorem c0:(⟨#[]⟩:ByteArray) = ba [] := rfl
end Go.Proofs.Tryz
