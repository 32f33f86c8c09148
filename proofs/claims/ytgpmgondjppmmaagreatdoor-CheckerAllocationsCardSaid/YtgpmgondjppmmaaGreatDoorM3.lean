/- The machine on symbols: rational numbers. No condition. -/
import Derived.Test.YtgpmgondjppmmaaGreatDoorM2
import Derived.Test.YtgpmgondjppmmaaGreatDoorM1
import Derived.Test.YtgpmgondjppmmaaGreatDoorN1
set_option linter.unnecessarySimpa false
set_option linter.unusedSectionVars false
set_option linter.unusedSimpArgs false
set_option linter.unusedVariables false
set_option maxHeartbeats 4000000
set_option maxRecDepth 100000
namespace Go.Proofs.Tryz
open Go Go.Pi Go.Num Go.Lin
variable [Hole] {G:Nat → Option PV}
theorem fits_mono {z:Int} {k l:Nat} (h:Fits z k) (hk:k ≤ l):Fits z l := Int.lt_of_lt_of_le h (pw_mono hk)
theorem fits_mul {x y:Int} {k l:Nat} (hx:Fits x k) (hy:Fits y l):Fits (x * y) (k + l) := by
 unfold Fits at *
 rw [Int.natAbs_mul,pw_add,Int.natCast_mul]
 have h1:(x.natAbs:Int) * y.natAbs ≤ x.natAbs * pw l := Int.mul_le_mul_of_nonneg_left (Int.le_of_lt hy) (by omega)
 have h2:(x.natAbs:Int) * pw l < pw k * pw l := Int.mul_lt_mul_of_pos_right hx (pw_pos l)
 omega
theorem fits_add {x y:Int} {k:Nat} (hx:Fits x k) (hy:Fits y k):Fits (x + y) (k+1) := by
 unfold Fits at *
 have e:pw (k+1) = 4294967296 * pw k := rfl
 rw [e]
 omega
theorem fits_neg {x:Int} {k:Nat} (hx:Fits x k):Fits (-x) k := by unfold Fits at *; rw [Int.natAbs_neg]; exact hx
theorem fits_le {x y:Int} {k:Nat} (hy:Fits y k) (h:x.natAbs ≤ y.natAbs):Fits x k := by unfold Fits at *; omega
theorem fits_one {k:Nat} (h:1 ≤ k):Fits 1 k := fits_mono (k := 1) (by unfold Fits; decide) h
theorem fits_zero (k:Nat):Fits 0 k := pw_pos k
structure RFits (q:Rat) (k:Nat):Prop where
 num:Fits q.num k
 den:Fits q.den k
theorem RFits.mono {q:Rat} {k l:Nat} (h:RFits q k) (hk:k ≤ l):RFits q l := ⟨fits_mono h.num hk,fits_mono h.den hk⟩
theorem rfits_mk {n:Int} {d k:Nat} (hd:d ≠ 0) (hn:Fits n k) (hd':Fits (d:Int) k):RFits (mkRat n d) k := by
 have g0:0 < Nat.gcd n.natAbs d := Nat.gcd_pos_of_pos_right _ (by omega)
 refine ⟨?_,?_⟩
 ·rw [mk_num n d hd]
  refine fits_le hn ?_
  exact Int.natAbs_ediv_le_natAbs _ _
 ·rw [mk_den n d hd]
  refine fits_le hd' ?_
  simp only [Int.natAbs_natCast]
  exact Nat.div_le_self _ _
theorem RFits.mul {a b:Rat} {k l:Nat} (ha:RFits a k) (hb:RFits b l):RFits (a * b) (k + l) := by
 rw [mul_mk]
 refine rfits_mk (by have := a.den_nz; have := b.den_nz; exact Nat.mul_ne_zero a.den_nz b.den_nz) (fits_mul ha.num hb.num) ?_
 rw [Int.natCast_mul]
 exact fits_mul ha.den hb.den
theorem RFits.add {a b:Rat} {k l:Nat} (ha:RFits a k) (hb:RFits b l):RFits (a + b) (k + l+1) := by
 rw [add_mk]
 refine rfits_mk (Nat.mul_ne_zero a.den_nz b.den_nz) (fits_add (fits_mul ha.num hb.den) (fits_mono (fits_mul hb.num ha.den) (by omega))) ?_
 rw [Int.natCast_mul]
 exact fits_mono (fits_mul ha.den hb.den) (by omega)
theorem RFits.neg {a:Rat} {k:Nat} (ha:RFits a k):RFits (-a) k := ⟨by rw [Rat.neg_num]; exact fits_neg ha.num,by rw [Rat.neg_den]; exact ha.den⟩
theorem RFits.zero {k:Nat} (h:1 ≤ k):RFits 0 k := ⟨fits_zero k,fits_one h⟩
theorem RFits.one {k:Nat} (h:1 ≤ k):RFits 1 k := ⟨fits_one h,fits_one h⟩
theorem _root_.Go.Pi.IsInt.c {b:Bool} {m:PV} {z:Int} (h:IsInt (.agg [.bool b,m]) z):∃ ds,IntC b m z ds := by
 obtain ⟨b',m',ds,e,h⟩ := h
 simp only [PV.agg.injEq,List.cons.injEq,PV.bool.injEq,and_true] at e
 obtain ⟨rfl,rfl⟩ := e
 exact ⟨ds,h⟩
theorem _root_.Go.Pi.IsInt.cell {b:Bool} {m:PV} {z:Int} (h:IsInt (.agg [.bool b,m]) z):m.cellOk = true ∧ m.ids = [] ∧ m.cells = [m] ∧ m.isTop = false ∧ m.pureB = true := by
 obtain ⟨ds,h⟩ := h.c
 exact ⟨h.mag.cellOk,h.mag.ids,h.mag.cells,h.mag.isTop,h.mag.pure⟩
theorem _root_.Go.Pi.IsInt.shape {v:PV} {z:Int} (h:IsInt v z):∃ b m,v = .agg [.bool b,m] := by
 obtain ⟨b,m,ds,rfl,_⟩ := h
 exact ⟨b,m,rfl⟩
theorem _root_.Go.Pi.IsRat.cases {v:PV} {q:Rat} (h:IsRat v q):∃ b m c n d,v = .agg [.bool b,m,.bool c,n] ∧ IsInt (.agg [.bool b,m]) q.num ∧ IsInt (.agg [.bool c,n]) d ∧ (d = q.den ∨ (d = 0 ∧ q.den = 1)) := by
 obtain ⟨b,m,c,n,ds,es,rfl,h⟩ := h
 rcases h.den with k | ⟨k1,k⟩
 ·exact ⟨b,m,c,n,q.den,rfl,⟨b,m,ds,rfl,h.num⟩,⟨c,n,es,rfl,k⟩,.inl rfl⟩
 ·exact ⟨b,m,c,n,0,rfl,⟨b,m,ds,rfl,h.num⟩,⟨c,n,es,rfl,k⟩,.inr ⟨rfl,k1⟩⟩
theorem IsRat.mk {b c:Bool} {m n:PV} {x d:Int} {q:Rat} (h:IsInt (.agg [.bool b,m]) x) (h':IsInt (.agg [.bool c,n]) d) (hx:x = q.num) (hd:d = q.den ∨ (d = 0 ∧ q.den = 1)):IsRat (.agg [.bool b,m,.bool c,n]) q := by
 obtain ⟨ds,h⟩ := h.c
 obtain ⟨es,h'⟩ := h'.c
 subst hx
 refine ⟨b,m,c,n,ds,es,rfl,h,?_⟩
 rcases hd with rfl | ⟨rfl,hd⟩
 ·exact .inl h'
 ·exact .inr ⟨hd,h'⟩
theorem isInt_zero:IsInt (.agg [.bool false,.nil]) 0 := ⟨_,_,[],rfl,IsMag.nil,norm_nil,rfl,fun h => (by cases h)⟩
def quo (a b:Int):Rat := mkRat (b.sign * a) b.natAbs
def oneR:CRel | [],r => IsInt r 1 | _,_ => False
def wholeR:CRel | [v],r => r = .bool (decide ((ratv v).den = 1)) | _,_ => False
def denR:CRel | [v],r => IsInt r (ratv v).den | _,_ => False
def rsignR:CRel | [v],r => r = .int .i64 (ratv v).num.sign | _,_ => False
def reducedR:CRel | [a,b],r => IsRat r (quo (it a) (it b)) | _,_ => False
def raddR:CRel | [a,b],r => IsRat r (ratv a + ratv b) | _,_ => False
def rmulR:CRel | [a,b],r => IsRat r (ratv a * ratv b) | _,_ => False
def cmpR (x y:Rat):Int := if x < y then -1 else if x = y then 0 else 1
def rcompareR:CRel | [a,b],r => r = .int .i64 (cmpR (ratv a) (ratv b)) | _,_ => False
def rfromR:CRel | [.int _ n],r => IsRat r (n:Rat) | _,_ => False
theorem compare_ok (v w:PV) (x y:Int) (hv:IsInt v x) (hw:IsInt w y) (fx:Fits x 900000) (fy:Fits y 900000):Gives prog G 103 [v,w] (compareR [v,w]) := by
 have fin:∀ {c:Int} {s:St},c = cmpI x y → outK (compareR [v,w]) (.int .i64 c) s := fun h => outK_pure rfl (by simp only [compareR,it_eq hv,it_eq hw,h])
 have hv' := hv
 have hw' := hw
 obtain ⟨ba,va,a,rfl,ia⟩ := hv'
 obtain ⟨bb,vb,b,rfl,ib⟩ := hw'
 have la := ia.len fx
 have lb := ib.len fy
 have va0 := val_nonneg ia.norm.dig
 have vb0 := val_nonneg ib.norm.dig
 have hx := ia.val
 have hy := ib.val
 have na := ia.neg_iff
 have nb := ib.neg_iff
 refine gives (S := [(144,orderR)]) (by kernel_rfl) (by kernel_rfl) (callW_of ann103 func103 rfl (by kernel_rfl) ?_)
 cases ba with
 | false =>
  cases bb with
  | false =>
   simp [run_draw,logOk,eqPV,ia.mag.cellOk,ib.mag.cellOk]
   refine callK_pure (R := orderR) rfl (by simp [PV.pureL,ia.mag.pure,ib.mag.pure]) (order_ok va vb a b ia.mag ib.mag ia.norm ib.norm (by omega) (by omega)) fun r hr => ?_
   simp only [orderR,mg_eq ia.mag,mg_eq ib.mag] at hr
   subst hr
   simp [run_draw,logOk]
   exact fin (by simp at hx hy; rw [hx,hy])
  | true =>
   simp [run_draw,logOk,eqPV,ia.mag.cellOk,ib.mag.cellOk]
   simp at na nb
   exact fin (cmpI_gt (by omega)).symm
 | true =>
  cases bb with
  | false =>
   simp [run_draw,logOk,eqPV,ia.mag.cellOk,ib.mag.cellOk]
   simp at na nb
   exact fin (cmpI_lt (by omega)).symm
  | true =>
   simp [run_draw,logOk,eqPV,ia.mag.cellOk,ib.mag.cellOk]
   refine callK_pure (R := orderR) rfl (by simp [PV.pureL,ia.mag.pure,ib.mag.pure]) (order_ok vb va b a ib.mag ia.mag ib.norm ia.norm (by omega) (by omega)) fun r hr => ?_
   simp only [orderR,mg_eq ia.mag,mg_eq ib.mag] at hr
   subst hr
   simp [run_draw,logOk]
   refine fin ?_
   simp at hx hy
   rw [hx,hy]
   unfold cmpI
   by_cases h1:val b < val a
   ·rw [if_pos h1,if_pos (show -val a < -val b by omega)]
   ·rw [if_neg h1,if_neg (show ¬ -val a < -val b by omega)]
    by_cases h2:val b = val a
    ·rw [if_pos h2,if_pos (show -val a = -val b by omega)]
    ·rw [if_neg h2,if_neg (show ¬ -val a = -val b by omega)]
end Go.Proofs.Tryz
namespace Go.Proofs.Tryz
open Go Go.Pi Go.Num
variable [Hole] {G:Nat → Option PV}
noncomputable def cutpR:CRel | [.str s,_],r => r = .tuple [.str (ba (unsigned s.data.toList).1),.bool (unsigned s.data.toList).2] | _,_ => False
noncomputable def digfR:CRel | [.str s,_],r => r = .bool (!(s.data.toList.all digB)) | _,_ => False
noncomputable def puintR:CRel | [.str s,_,_],r => r = .tuple [.int .u64 (decVal s.data.toList),.nilIface] | _,_ => False
structure IntLib (G:Nat → Option PV):Prop where
 cutp:∀ l:List UInt8,l.length ≤ 100000 → Gives prog G 172 [.str (ba l),.str (ba [45])] (cutpR [.str (ba l),.str (ba [45])])
 digf:∀ l:List UInt8,l.length ≤ 100000 → l.all digB = true → Gives prog G 97 [.str (ba l),.func 173 []] (digfR [.str (ba l),.func 173 []])
 puint:∀ l:List UInt8,l ≠ [] → l.length ≤ 9 → l.all digB = true → Gives prog G 174 [.str (ba l),.int .i64 10,.int .i64 32] (puintR [.str (ba l),.int .i64 10,.int .i64 32])
def intZero:PV := .agg [.bool false,.nil]
def ParseP (l:List UInt8) (r:PV):Prop := (intB l = true ∧ ∃ q,r = .tuple [q,.int .i64 0] ∧ IsInt q (intV l)) ∨ (intB l = false ∧ r = .tuple [intZero,.int .i64 3])
noncomputable def parseR:CRel | [.str s],r => ParseP s.data.toList r | _,_ => False
theorem pw_ge_ten:∀ n:Nat,((10 ^ n:Nat):Int) ≤ pw n
 | 0 => by simp [pw]
 | n+1 => by
  have ih := pw_ge_ten n
  have e:pw (n+1) = 4294967296 * pw n := rfl
  have e2:10 ^ (n+1) = 10 ^ n * 10 := Nat.pow_succ ..
  obtain ⟨Y,hY⟩:∃ Y:Nat,Y = 10 ^ n := ⟨_,rfl⟩
  rw [e,e2,← hY]
  rw [← hY] at ih
  omega
theorem small_digits {ms:List Int} {pre:List UInt8} (hn:Norm ms) (hv:val ms = decVal pre) (hd:∀ b ∈ pre,isDigit b):ms.length ≤ pre.length := by
 refine norm_len hn ?_
 rw [hv]
 exact Int.lt_of_lt_of_le (Int.ofNat_lt.2 (decVal_lt hd)) (pw_ge_ten _)
def psI (D:List UInt8) (ng:Bool):Nat → List PV → St → Prop := fun w vs st => ∃ (mv:PV) (ms:List Int) (pre rest:List UInt8) (k:Nat),vs = [.str (ba rest),mv,.bool ng,.ptr 0 0 0] ∧ rest.length = w ∧ D = pre ++ rest ∧ IsMag mv ms ∧ Norm ms ∧ val ms = decVal pre ∧
 0 < k ∧ st = ⟨k,[(0,⟨2,[intZero]⟩)],[]⟩
def psJ (rest:List UInt8) (mv:PV) (n:Nat) (ng:Bool):Nat → List PV → St → Prop := fun w vs st => ∃ (i k:Nat),vs = [.int .i64 (i:Int),.int .i64 (n:Int),.int .u32 ((10 ^ i:Nat):Int),.str (ba rest),.int .i64 (n:Int),mv,.bool ng,.ptr 0 0 0] ∧ i + w = n ∧ 0 < k ∧ st = ⟨k,[(0,⟨2,[intZero]⟩)],[]⟩
theorem ten_le {i:Nat} (h:i ≤ 9):10 ^ i ≤ 1000000000 := Nat.pow_le_pow_right (n := 10) (by decide) h
theorem index_str0 (c:UInt8) (D:List UInt8):indexOp prog 9 (.str (ba (c :: D))) (.int .i64 0) = some (.int .u8 (c.toNat:Int)) := by
 simp [indexOp,ba,natOf_0]
theorem badB {c:UInt8} {D:List UInt8} {ng:Bool} (hd:(c :: D).all digB = true):(!(decide (c = 48) && (decide (1 < (D.length:Int)+1) || ng))) = (decB (c :: D) && !(ng && decide (c :: D = [48]))) := by
 unfold decB badZero
 rw [hd]
 rcases D with _ | ⟨d,D⟩
 ·by_cases hc:c = 48 <;> cases ng <;> simp [hc]
 ·have:(0:Int) < (D.length:Int)+1 := by omega
  by_cases hc:c = 48 <;> cases ng <;> simp [hc] <;> omega
theorem parse_ok (lib:IntLib G) (l:List UInt8) (hl:l.length ≤ 20000) (hne:(unsigned l).1 ≠ []) (hd:(unsigned l).1.all digB = true):Gives prog G 142 [.str (ba l)] (parseR [.str (ba l)]) := by
 have hfe:parseR [.str (ba l)] = ParseP l := by funext r; simp only [parseR,ba_list]
 rw [hfe]
 have ul:(unsigned l).1.length ≤ 20000 := by
  rcases l with _ | ⟨b,r⟩
  ·simp [unsigned]
  ·simp only [unsigned]
   split <;> simp at hl ⊢ <;> omega
 have hi1:intB l = (decB (unsigned l).1 && !((unsigned l).2 && decide ((unsigned l).1 = [48]))) := rfl
 have hv1:intV l = sg (unsigned l).2 (decVal (unsigned l).1) := by
  unfold intV sg; rfl
 refine gives (S := [(172,cutpR),(97,digfR),(174,puintR),(175,scaleR),(108,signedR)]) (by kernel_rfl) (by kernel_rfl) (callW_of ann142 func142 rfl (by kernel_rfl) ?_)
 have l1:¬ (65536:Int) < l.length := by omega
 simp [tb,lenPV,ba_size,l1,c45]
 refine callK_pure rfl (by rfl) (lib.cutp l (by omega)) fun r hr => ?_
 simp only [cutpR,ba_list] at hr
 subst hr
 obtain ⟨D,hD⟩:∃ D,D = (unsigned l).1 := ⟨_,rfl⟩
 obtain ⟨ng,hng⟩:∃ n,n = (unsigned l).2 := ⟨_,rfl⟩
 rw [← hD] at ul hne hd hi1 hv1 ⊢
 rw [← hng] at hi1 hv1 ⊢
 obtain ⟨c,D',rfl⟩:∃ c D',D = c :: D' := by
  rcases D with _ | ⟨c,D'⟩
  ·exact absurd rfl hne
  ·exact ⟨c,D',rfl⟩
 simp [tb,lenPV,ba_size,c0,sb_eql]
 refine callK_pure rfl (by rfl) (lib.digf (c :: D') (by omega) hd) fun r hr => ?_
 simp only [digfR,ba_list,hd,Bool.not_true] at hr
 subst hr
 have ix := index_str0 c D'
 have wr := (badB (c := c) (D := D') (ng := ng) hd).trans hi1.symm
 have fin3:∀ {s:St},intB l = false → outK (ParseP l) (.tuple [.agg [.bool false,.nil],.int .i64 3]) s := fun h => outK_pure rfl (.inr ⟨h,rfl⟩)
 by_cases hbad:(decide (c = 48) && (decide (1 < (D'.length:Int)+1) || ng)) = true
 ·have hi0:intB l = false := by rw [← wr,hbad]; rfl
  simp only [Bool.and_eq_true,decide_eq_true_eq,Bool.or_eq_true] at hbad
  obtain ⟨hc,hb⟩ := hbad
  have hcn:((c.toNat:Int) == 48) = true := by rw [hc]; rfl
  by_cases hb2:decide (1 < (D'.length:Int)+1) = true
  ·simp [tb,lenPV,ba_size,ix,hcn,hb2]
   exact fin3 hi0
  ·have hn1:ng = true := by
    rcases hb with h | h
    ·exact absurd (decide_eq_true h) hb2
    ·exact h
   simp [tb,lenPV,ba_size,ix,hcn,hb2,hn1]
   exact fin3 hi0
 have hi1':intB l = true := by rw [← wr,(Bool.not_eq_true _).mp hbad]; rfl
 by_cases hc:c = 48
 all_goals
  first
   |have hcn:((c.toNat:Int) == 48) = true := by rw [hc]; rfl
    have hb2:decide (1 < (D'.length:Int)+1) = false := by
     simp only [hc,decide_true,Bool.true_and,Bool.or_eq_true,not_or,Bool.not_eq_true] at hbad
     exact hbad.1
    have hn1:ng = false := by
     simp only [hc,decide_true,Bool.true_and,Bool.or_eq_true,not_or,Bool.not_eq_true] at hbad
     exact hbad.2
    simp [tb,lenPV,ba_size,ix,hcn,hb2,hn1]
    refine loopK_of (psI (c :: D') ng) rfl rfl ?step (c :: D').length _ _ ?init
   |have hcn:((c.toNat:Int) == 48) = false := by
     have:c.toNat ≠ 48 := fun e => hc (toNat48.1 e)
     simp only [beq_eq_false_iff_ne,ne_eq]; omega
    simp [tb,lenPV,ba_size,ix,hcn]
    refine loopK_of (psI (c :: D') ng) rfl rfl ?step (c :: D').length _ _ ?init
  case init => exact ⟨_,[],[],c :: D',_,by first | rfl | (rw [hn1]; rfl),rfl,rfl,.inl ⟨rfl,rfl⟩,norm_nil,rfl,by omega,rfl⟩
  case step =>
  rintro w vs st ⟨mv,ms,pre,rest,k,rfl,hw,hD,hm,hn,hv,hk,rfl⟩
  rcases Nat.eq_zero_or_pos w with h0 | h0
  ·have hr:rest = [] := List.eq_nil_of_length_eq_zero (by omega)
   subst hr
   rw [List.append_nil] at hD
   subst hD
   simp [tb,lenPV,ba_size]
   refine callK_pure rfl (by simp [PV.pureL,PV.pureB,hm.pure]) (signed_g hm hn.dig (by have := small_digits hn hv (all_digB.1 hd); omega)) fun r hr => ?_
   simp only [signedR,mg_eq hm] at hr
   rw [hv,← hv1] at hr
   have hr' := hr
   obtain ⟨rb,rm,rfl⟩ := hr'.shape
   obtain ⟨q1,q2,q3,q4,q5⟩ := hr.cell
   simp [tb,intZero,q1,q2]
   exact outK_pure (by simp [PV.pureB,PV.pureL,q5]) (.inl ⟨hi1',_,rfl,hr⟩)
  ·obtain ⟨n,hn1⟩:∃ n,n = (rest.length - 1) % 9+1 := ⟨_,rfl⟩
   have hlen:pre.length + rest.length ≤ 20000 := by
    have := congrArg List.length hD
    rw [List.length_append] at this
    omega
   have w1:IntKind.i64.wrap ((rest.length:Int) - 1) = ((rest.length - 1:Nat):Int) := by rw [w_i64 (by omega)]; omega
   have w2:Int.tmod ((rest.length - 1:Nat):Int) 9 = (((rest.length - 1) % 9:Nat):Int) := rfl
   have w3:IntKind.i64.wrap (((rest.length - 1:Nat):Int) % 9+1) = (n:Int) := by rw [w_i64 (by omega)]; omega
   have hr0:0 < rest.length := by omega
   simp [tb,lenPV,ba_size,w1,hr0,w2,w3]
   refine loopK_of (psJ rest mv n ng) rfl rfl ?step n _ _ ?init
   case init => exact ⟨0,_,rfl,by omega,by omega,rfl⟩
   case step =>
   rintro u vs st ⟨i,k,rfl,hiu,hk,rfl⟩
   rcases Nat.eq_zero_or_pos u with h1 | h1
   ·have hin:i = n := by omega
    subst hin
    have tl := ten_le (i := i) (by omega)
    have so1:sliceOp prog (fun x => bif decide (0 = x) then some (⟨2,[intZero]⟩:Ent) else none) 9 (.str (ba rest)) none (some (.int .i64 i)) = some { val := .str (ba (rest.take i)) } := by
     have h1:i ≤ rest.length := by omega
     simp [sliceOp,lowOf,highOf,natOf_int,ble_iff,ba_size,extract_ba,ble_lit,h1]
    have so2:sliceOp prog (fun x => bif decide (0 = x) then some (⟨2,[intZero]⟩:Ent) else none) 9 (.str (ba rest)) (some (.int .i64 i)) none = some { val := .str (ba (rest.drop i)) } := by
     have h1:i ≤ rest.length := by omega
     have h2:(rest.drop i).take (rest.length - i) = rest.drop i := List.take_of_length_le (by simp)
     simp [sliceOp,lowOf,highOf,natOf_int,ble_iff,ba_size,extract_ba,ble_lit,h1,h2]
    have tk:(rest.take i).length = i := by rw [List.length_take]; omega
    have rd:(rest.take i).all digB = true := by
     rw [hD,List.all_append,Bool.and_eq_true] at hd
     rw [List.all_eq_true] at hd ⊢
     exact fun b hb => (List.all_eq_true.1 hd.2) b (List.mem_of_mem_take hb)
    have pd:pre.all digB = true := by
     rw [hD,List.all_append,Bool.and_eq_true] at hd
     exact hd.1
    simp [tb,lenPV,ba_size,so1,-Int.natCast_pow]
    refine callK_pure rfl (by rfl) (lib.puint (rest.take i) (fun e => by rw [e] at tk; simp at tk; omega) (by omega) rd) fun r hr => ?_
    simp only [puintR,ba_list] at hr
    subst hr
    obtain ⟨d,hd'⟩:∃ d,d = decVal (rest.take i) := ⟨_,rfl⟩
    have dlt:d < 1000000000 := by
     have := decVal_lt (all_digB.1 rd)
     rw [tk,← hd'] at this
     omega
    rw [← hd']
    have wd:IntKind.u32.wrap (d:Int) = d := w_u32 (by omega)
    simp [tb,wd,-Int.natCast_pow]
    refine callK_pure rfl (by simp [PV.pureL,PV.pureB,hm.pure]) (scale_ok mv ms ((10 ^ i:Nat):Int) d hm hn.dig (by have := small_digits hn hv (all_digB.1 pd); omega) ⟨Int.natCast_nonneg _,Int.ofNat_lt.2 (show 10 ^ i < 4294967296 by omega)⟩ (by omega)) fun r hr => ?_
    simp only [scaleR,mg_eq hm] at hr
    obtain ⟨ms',hm',hn',hv'⟩ := hr
    simp [tb,so2,-Int.natCast_pow]
    refine ⟨(rest.drop i).length,by simp; omega,r,ms',pre ++ rest.take i,rest.drop i,_,rfl,rfl,by rw [List.append_assoc,List.take_append_drop]; exact hD,hm',hn',?_,by omega,rfl⟩
    rw [hv',hv,decVal_append,tk,← hd',Int.natCast_add,Int.natCast_mul]
   ·have hin:(i:Int) < n := by omega
    have wi:IntKind.i64.wrap ((i:Int)+1) = ((i+1:Nat):Int) := w_i64 (by omega)
    have tl := ten_le (i := i+1) (by omega)
    have wm:IntKind.u32.wrap (((10 ^ i:Nat):Int) * 10) = ((10 ^ (i+1):Nat):Int) := by
     rw [Nat.pow_succ] at tl ⊢
     rw [w_u32 (by omega)]; omega
    simp [tb,hin,wi,-Int.natCast_pow,wm]
    exact ⟨u - 1,by omega,i+1,_,rfl,by omega,by omega,rfl⟩
end Go.Proofs.Tryz
namespace Go.Proofs.Tryz
open Go Go.Pi Go.Num Go.Lin
variable [Hole] {G:Nat → Option PV}
theorem one_ok:Gives prog G 110 [] (oneR []) := by
 refine gives (S := [(74,fromR)]) (by kernel_rfl) (by kernel_rfl) (callW_of ann110 func110 rfl (by kernel_rfl) ?_)
 simp [run_draw,logOk]
 refine callK_pure (R := fromR) rfl rfl (from_ok 1 (by omega)) fun r hr => ?_
 simp only [fromR] at hr
 have hr' := hr
 obtain ⟨b,m,ds,rfl,i1⟩ := hr
 simp [run_draw,logOk,i1.mag.cellOk]
 exact outK_pure hr'.pure hr'
theorem rfrom_ok (n:Int) (hn : -9223372036854775808 ≤ n ∧ n ≤ 9223372036854775807):Gives prog G 35 [.int .i64 n] (rfromR [.int .i64 n]) := by
 refine gives (S := [(74,fromR)]) (by kernel_rfl) (by kernel_rfl) (callW_of ann35 func35 rfl (by kernel_rfl) ?_)
 simp [run_draw,logOk]
 refine callK_pure (R := fromR) rfl rfl (from_ok n hn) fun r hr => ?_
 simp only [fromR] at hr
 have hr' := hr
 obtain ⟨b,m,ds,rfl,i1⟩ := hr
 simp [run_draw,logOk,i1.mag.cellOk]
 have hq:IsRat (.agg [.bool b,m,.bool false,.nil]) (n:Rat) := IsRat.mk hr' isInt_zero (by simp) (.inr ⟨rfl,by simp⟩)
 exact outK_pure hq.pure hq
theorem rsign_ok (v:PV) (q:Rat) (hv:IsRat v q):Gives prog G 87 [v] (rsignR [v]) := by
 have hq := ratv_eq hv
 obtain ⟨b,m,c,n,d,rfl,h1,h2,h3⟩ := hv.cases
 obtain ⟨c1,c2,c3,c4,c5⟩ := h1.cell
 obtain ⟨e1,e2,e3,e4,e5⟩ := h2.cell
 refine gives (S := [(109,signR)]) (by kernel_rfl) (by kernel_rfl) (callW_of ann87 func87 rfl (by kernel_rfl) ?_)
 simp [run_draw,logOk,c1,e1]
 refine callK_pure (R := signR) rfl (by simp [PV.pureL,h1.pure]) (sign_ok _ _ h1) fun r hr => ?_
 simp only [signR,it_eq h1] at hr
 subst hr
 simp [run_draw,logOk]
 exact outK_pure rfl (by simp only [rsignR,hq])
theorem cmpI_zero {x y:Int}:cmpI x y = 0 ↔ x = y := by
 unfold cmpI
 by_cases h:x < y
 ·rw [if_pos h]; omega
 ·rw [if_neg h]
  by_cases h2:x = y
  ·rw [if_pos h2]; simp [h2]
  ·rw [if_neg h2]; omega
theorem whole_ok (v:PV) (q:Rat) (hv:IsRat v q) (hf:Fits q.den 900000):Gives prog G 75 [v] (wholeR [v]) := by
 have hq := ratv_eq hv
 obtain ⟨b,m,c,n,d,rfl,h1,h2,h3⟩ := hv.cases
 obtain ⟨c1,c2,c3,c4,c5⟩ := h1.cell
 obtain ⟨e1,e2,e3,e4,e5⟩ := h2.cell
 have hp := q.den_pos
 have fin:∀ {t:Bool} {s:St},t = decide (q.den = 1) → outK (wholeR [.agg [.bool b,m,.bool c,n]]) (.bool t) s := fun h => outK_pure rfl (by simp only [wholeR,hq,h])
 refine gives (S := [(109,signR),(110,oneR),(103,compareR)]) (by kernel_rfl) (by kernel_rfl) (callW_of ann75 func75 rfl (by kernel_rfl) ?_)
 simp [run_draw,logOk,c1,e1]
 refine dcallK_pure (R := signR) rfl (by simp [PV.pureL,h2.pure]) (sign_ok _ _ h2) fun r hr => ?_
 simp only [signR,it_eq h2] at hr
 by_cases hd:d = 0
 ·subst hd
  simp only [Int.sign_zero] at hr
  subst hr
  simp [run_draw,logOk,c1,e1]
  exact fin (by simp; omega)
 ·have hdd:d = q.den := by omega
  have hs:d.sign = 1 := Int.sign_eq_one_of_pos (by omega)
  rw [hs] at hr
  subst hr
  simp [run_draw,logOk,c1,e1]
  refine dcallK_pure (R := oneR) rfl rfl one_ok fun r hr => ?_
  simp only [oneR] at hr
  simp [run_draw,logOk,c1,e1]
  refine dcallK_pure (R := compareR) rfl (by simp [PV.pureL,h2.pure,hr.pure]) (compare_ok _ r d 1 h2 hr (by rw [hdd]; exact hf) (fits_one (by omega))) fun r2 hr2 => ?_
  simp only [compareR,it_eq h2,it_eq hr] at hr2
  have hr' := hr
  obtain ⟨b9,m9,rfl⟩ := hr.shape
  obtain ⟨g1,g2,g3,g4,g5⟩ := hr'.cell
  subst hr2
  simp [run_draw,logOk,c1,e1,c2,e2,g2]
  refine fin ?_
  rw [hdd]
  rw [Bool.eq_iff_iff]
  simp [cmpI_zero]
  omega
theorem den_ok (v:PV) (q:Rat) (hv:IsRat v q):Gives prog G 105 [v] (denR [v]) := by
 have hq := ratv_eq hv
 obtain ⟨b,m,c,n,d,rfl,h1,h2,h3⟩ := hv.cases
 obtain ⟨c1,c2,c3,c4,c5⟩ := h1.cell
 obtain ⟨e1,e2,e3,e4,e5⟩ := h2.cell
 have hp := q.den_pos
 have fin:∀ {r:PV} {s:St},IsInt r q.den → outK (denR [.agg [.bool b,m,.bool c,n]]) r s := fun h => outK_pure h.pure (by simp only [denR,hq]; exact h)
 refine gives (S := [(109,signR),(110,oneR)]) (by kernel_rfl) (by kernel_rfl) (callW_of ann105 func105 rfl (by kernel_rfl) ?_)
 simp [run_draw,logOk,c1,e1]
 refine callK_pure (R := signR) rfl (by simp [PV.pureL,h2.pure]) (sign_ok _ _ h2) fun r hr => ?_
 simp only [signR,it_eq h2] at hr
 by_cases hd:d = 0
 ·subst hd
  simp only [Int.sign_zero] at hr
  subst hr
  simp [run_draw,logOk,c1,e1]
  refine callK_pure (R := oneR) rfl rfl one_ok fun r hr => ?_
  simp only [oneR] at hr
  have hr' := hr
  obtain ⟨b9,m9,rfl⟩ := hr.shape
  obtain ⟨g1,g2,g3,g4,g5⟩ := hr'.cell
  simp [run_draw,logOk,c1,e1,g1]
  exact fin (by rw [show ((q.den:Nat):Int) = 1 by omega]; exact hr')
 ·have hdd:d = q.den := by omega
  have hs:d.sign = 1 := Int.sign_eq_one_of_pos (by omega)
  rw [hs] at hr
  subst hr
  simp [run_draw,logOk,c1,e1]
  exact fin (by rw [← hdd]; exact h2)
theorem quo_facts (x y:Int) (hy:y ≠ 0):(quo x y).num = (y.sign * x) / (Nat.gcd x.natAbs y.natAbs:Nat) ∧ ((quo x y).den:Int) = (y.sign * y) / (Nat.gcd x.natAbs y.natAbs:Nat) := by
 have h0:y.natAbs ≠ 0 := by omega
 have e1:(y.sign * x).natAbs = x.natAbs := by rw [Int.natAbs_mul,Int.natAbs_sign_of_ne_zero hy,Nat.one_mul]
 have e2:y.sign * y = (y.natAbs:Int) := by
  rcases Int.lt_or_le y 0 with h | h
  ·rw [Int.sign_eq_neg_one_of_neg h]; omega
  ·rw [Int.sign_eq_one_of_pos (by omega)]; omega
 unfold quo
 rw [mk_num _ _ h0,mk_den _ _ h0,e1,e2]
 exact ⟨rfl,by rw [Int.natCast_ediv]⟩
theorem reduced_ok (v w:PV) (x y:Int) (hv:IsInt v x) (hw:IsInt w y) (hy:y ≠ 0) (fx:Fits x 399999) (fy:Fits y 399999):Gives prog G 106 [v,w] (reducedR [v,w]) := by
 have fin:∀ {r:PV} {s:St},IsRat r (quo x y) → outK (reducedR [v,w]) r s := fun h => outK_pure h.pure (by simp only [reducedR,it_eq hv,it_eq hw]; exact h)
 obtain ⟨q1,q2⟩ := quo_facts x y hy
 obtain ⟨g,hg⟩:∃ g,g = Nat.gcd x.natAbs y.natAbs := ⟨_,rfl⟩
 have g0:0 < g := by rw [hg]; exact Nat.gcd_pos_of_pos_right _ (by omega)
 rw [← hg] at q1 q2
 have fg:Fits (g:Int) 399999 := fits_le fy (by rw [hg]; simp only [Int.natAbs_natCast]; exact Nat.gcd_le_right _ (by omega))
 have hv' := hv
 have hw' := hw
 obtain ⟨b,m,rfl⟩ := hv'.shape
 obtain ⟨c,n,rfl⟩ := hw'.shape
 obtain ⟨c1,c2,c3,c4,c5⟩ := hv.cell
 obtain ⟨e1,e2,e3,e4,e5⟩ := hw.cell
 refine gives (S := [(109,signR),(110,oneR),(103,compareR),(131,negR),(143,gcdR),(145,divModR)]) (by kernel_rfl) (by kernel_rfl) (callW_of ann106 func106 rfl (by kernel_rfl) ?_)
 simp [run_draw,logOk,c1,e1]
 refine callK_pure (R := signR) rfl (by simp [PV.pureL,hw.pure]) (sign_ok _ _ hw) fun r hr => ?_
 simp only [signR,it_eq hw] at hr
 subst hr
 rcases Int.lt_or_le y 0 with hn | hn
 ·have hs:y.sign = -1 := Int.sign_eq_neg_one_of_neg hn
  rw [hs] at q1 q2 ⊢
  simp [run_draw,logOk,c1,e1]
  refine dcallK_pure (R := negR) rfl (by simp [PV.pureL,hv.pure]) (neg_ok _ _ hv) fun r hr => ?_
  simp only [negR,it_eq hv] at hr
  simp [run_draw,logOk,c1,e1]
  refine dcallK_pure (R := negR) rfl (by simp [PV.pureL,hw.pure]) (neg_ok _ _ hw) fun r2 hr2 => ?_
  simp only [negR,it_eq hw] at hr2
  obtain ⟨b1,m1,rfl⟩ := hr.shape
  obtain ⟨b2,m2,rfl⟩ := hr2.shape
  obtain ⟨i1,i2,i3,i4,i5⟩ := hr.cell
  obtain ⟨j1,j2,j3,j4,j5⟩ := hr2.cell
  simp [run_draw,logOk,c1,e1,i1,j1,c2,e2,i2,j2]
  have hgz:Nat.gcd (-x).natAbs (-y).natAbs = g := by rw [hg]; simp
  refine ⟨by decide,callK_pure (R := gcdR) rfl (by simp [PV.pureL,hr.pure,hr2.pure]) (gcd_ok _ _ (-x) (-y) hr hr2 (fits_mono (fits_neg fx) (by omega)) (fits_mono (fits_neg fy) (by omega))) fun r3 hr3 => ?_⟩
  simp only [gcdR,it_eq hr,it_eq hr2,hgz] at hr3
  obtain ⟨b3,m3,rfl⟩ := hr3.shape
  obtain ⟨k1,k2,k3,k4,k5⟩ := hr3.cell
  simp [run_draw,logOk,c1,e1,i1,j1,c2,e2,i2,j2,k1]
  refine dcallK_pure (R := oneR) rfl rfl one_ok fun r4 hr4 => ?_
  simp only [oneR] at hr4
  obtain ⟨b4,m4,rfl⟩ := hr4.shape
  obtain ⟨l1,l2,l3,l4,l5⟩ := hr4.cell
  simp [run_draw,logOk,c1,e1,i1,j1,c2,e2,i2,j2,k1]
  refine dcallK_pure (R := compareR) rfl (by simp [PV.pureL,hr3.pure,hr4.pure]) (compare_ok _ _ (g:Int) 1 hr3 hr4 (fits_mono fg (by omega)) (fits_one (by omega))) fun r5 hr5 => ?_
  simp only [compareR,it_eq hr3,it_eq hr4] at hr5
  subst hr5
  by_cases hg1:(g:Int) = 1
  ·have hc:cmpI (g:Int) 1 = 0 := cmpI_zero.2 hg1
   rw [hg1,Int.ediv_one] at q1 q2
   rw [hc]
   simp [run_draw,logOk,c1,e1,i1,j1,c2,e2,i2,j2,k1,k2,l2]
   have hres:IsRat (.agg [.bool b1,m1,.bool b2,m2]) (quo x y) := IsRat.mk hr hr2 (by rw [q1]; try simp) (.inl (by rw [q2]; try simp))
   first | exact ⟨by decide,fin hres⟩ | exact fin hres
  ·have hc:(cmpI (g:Int) 1 != 0) = true := by simp only [bne_iff_ne,ne_eq,cmpI_zero]; exact hg1
   simp [run_draw,logOk,c1,e1,i1,j1,c2,e2,i2,j2,k1,k2,l2,hc]
   refine callK_pure (R := divModR) rfl (by simp [PV.pureL,hr.pure,hr3.pure]) (divMod_ok _ _ (-x) (g:Int) hr hr3 (fits_mono (fits_neg fx) (by omega)) fg (by omega)) fun r6 hr6 => ?_
   simp only [divModR,it_eq hr,it_eq hr3] at hr6
   obtain ⟨u,u',rfl,hu,hu'⟩ := hr6
   obtain ⟨b5,m5,rfl⟩ := hu.shape
   obtain ⟨b6,m6,rfl⟩ := hu'.shape
   obtain ⟨o1,o2,o3,o4,o5⟩ := hu.cell
   simp [run_draw,logOk,c1,e1,i1,j1,c2,e2,i2,j2,k1,o1]
   refine callK_pure (R := divModR) rfl (by simp [PV.pureL,hr2.pure,hr3.pure]) (divMod_ok _ _ (-y) (g:Int) hr2 hr3 (fits_mono (fits_neg fy) (by omega)) fg (by omega)) fun r7 hr7 => ?_
   simp only [divModR,it_eq hr2,it_eq hr3] at hr7
   obtain ⟨w,w',rfl,hw1,hw1'⟩ := hr7
   obtain ⟨b7,m7,rfl⟩ := hw1.shape
   obtain ⟨b8,m8,rfl⟩ := hw1'.shape
   obtain ⟨p1,p2,p3,p4,p5⟩ := hw1.cell
   simp [run_draw,logOk,c1,e1,i1,j1,c2,e2,i2,j2,k1,o1,p1]
   have hres:IsRat (.agg [.bool b5,m5,.bool b7,m7]) (quo x y) := IsRat.mk hu hw1 (by rw [q1]; try simp) (.inl (by rw [q2]; try simp))
   exact fin hres
 ·have hs:y.sign = 1 := Int.sign_eq_one_of_pos (by omega)
  rw [hs] at q1 q2 ⊢
  simp [run_draw,logOk,c1,e1]
  have hgz:Nat.gcd (x).natAbs (y).natAbs = g := hg.symm
  refine callK_pure (R := gcdR) rfl (by simp [PV.pureL,hv.pure,hw.pure]) (gcd_ok _ _ (x) (y) hv hw (fits_mono fx (by omega)) (fits_mono fy (by omega))) fun r3 hr3 => ?_
  simp only [gcdR,it_eq hv,it_eq hw,hgz] at hr3
  obtain ⟨b3,m3,rfl⟩ := hr3.shape
  obtain ⟨k1,k2,k3,k4,k5⟩ := hr3.cell
  simp [run_draw,logOk,c1,e1,c2,e2,k1]
  refine dcallK_pure (R := oneR) rfl rfl one_ok fun r4 hr4 => ?_
  simp only [oneR] at hr4
  obtain ⟨b4,m4,rfl⟩ := hr4.shape
  obtain ⟨l1,l2,l3,l4,l5⟩ := hr4.cell
  simp [run_draw,logOk,c1,e1,c2,e2,k1]
  refine dcallK_pure (R := compareR) rfl (by simp [PV.pureL,hr3.pure,hr4.pure]) (compare_ok _ _ (g:Int) 1 hr3 hr4 (fits_mono fg (by omega)) (fits_one (by omega))) fun r5 hr5 => ?_
  simp only [compareR,it_eq hr3,it_eq hr4] at hr5
  subst hr5
  by_cases hg1:(g:Int) = 1
  ·have hc:cmpI (g:Int) 1 = 0 := cmpI_zero.2 hg1
   rw [hg1,Int.ediv_one] at q1 q2
   rw [hc]
   simp [run_draw,logOk,c1,e1,c2,e2,k1,k2,l2]
   have hres:IsRat (.agg [.bool b,m,.bool c,n]) (quo x y) := IsRat.mk hv hw (by rw [q1]; try simp) (.inl (by rw [q2]; try simp))
   first | exact ⟨by decide,fin hres⟩ | exact fin hres
  ·have hc:(cmpI (g:Int) 1 != 0) = true := by simp only [bne_iff_ne,ne_eq,cmpI_zero]; exact hg1
   simp [run_draw,logOk,c1,e1,c2,e2,k1,k2,l2,hc]
   refine callK_pure (R := divModR) rfl (by simp [PV.pureL,hv.pure,hr3.pure]) (divMod_ok _ _ (x) (g:Int) hv hr3 (fits_mono fx (by omega)) fg (by omega)) fun r6 hr6 => ?_
   simp only [divModR,it_eq hv,it_eq hr3] at hr6
   obtain ⟨u,u',rfl,hu,hu'⟩ := hr6
   obtain ⟨b5,m5,rfl⟩ := hu.shape
   obtain ⟨b6,m6,rfl⟩ := hu'.shape
   obtain ⟨o1,o2,o3,o4,o5⟩ := hu.cell
   simp [run_draw,logOk,c1,e1,c2,e2,k1,o1]
   refine callK_pure (R := divModR) rfl (by simp [PV.pureL,hw.pure,hr3.pure]) (divMod_ok _ _ (y) (g:Int) hw hr3 (fits_mono fy (by omega)) fg (by omega)) fun r7 hr7 => ?_
   simp only [divModR,it_eq hw,it_eq hr3] at hr7
   obtain ⟨w,w',rfl,hw1,hw1'⟩ := hr7
   obtain ⟨b7,m7,rfl⟩ := hw1.shape
   obtain ⟨b8,m8,rfl⟩ := hw1'.shape
   obtain ⟨p1,p2,p3,p4,p5⟩ := hw1.cell
   simp [run_draw,logOk,c1,e1,c2,e2,k1,o1,p1]
   have hres:IsRat (.agg [.bool b5,m5,.bool b7,m7]) (quo x y) := IsRat.mk hu hw1 (by rw [q1]; try simp) (.inl (by rw [q2]; try simp))
   exact fin hres
theorem quo_nat (x:Int) (d:Nat) (hd:d ≠ 0):quo x d = mkRat x d := by
 unfold quo
 rw [Int.sign_eq_one_of_pos (by omega),Int.one_mul,Int.natAbs_natCast]
theorem radd_ok (v w:PV) (x y:Rat) (hv:IsRat v x) (hw:IsRat w y) (fx:RFits x 100000) (fy:RFits y 100000):Gives prog G 90 [v,w] (raddR [v,w]) := by
 have fin:∀ {r:PV} {s:St},IsRat r (x + y) → outK (raddR [v,w]) r s := fun h => outK_pure h.pure (by simp only [raddR,ratv_eq hv,ratv_eq hw]; exact h)
 have hv' := hv
 have hw' := hw
 obtain ⟨b,m,c,n,d,rfl,h1,h2,h3⟩ := hv'.cases
 obtain ⟨c1,c2,c3,c4,c5⟩ := h1.cell
 obtain ⟨e1,e2,e3,e4,e5⟩ := h2.cell
 obtain ⟨b',m',c',n',d',rfl,h1',h2',h3'⟩ := hw'.cases
 obtain ⟨c1',c2',c3',c4',c5'⟩ := h1'.cell
 obtain ⟨e1',e2',e3',e4',e5'⟩ := h2'.cell
 refine gives (S := [(75,wholeR),(128,addR),(105,denR),(104,mulR),(106,reducedR)]) (by kernel_rfl) (by kernel_rfl) (callW_of ann90 func90 rfl (by kernel_rfl) ?_)
 simp [run_draw,logOk,c1,e1,c1',e1']
 refine callK_pure (R := wholeR) rfl (by simp [PV.pureL,hv.pure]) (whole_ok _ x hv (fits_mono fx.den (by omega))) fun r hr => ?_
 simp only [wholeR,ratv_eq hv] at hr
 subst hr
 by_cases hx1:x.den = 1
 ·simp [run_draw,logOk,c1,e1,c1',e1',hx1]
  refine callK_pure (R := wholeR) rfl (by simp [PV.pureL,hw.pure]) (whole_ok _ y hw (fits_mono fy.den (by omega))) fun r hr => ?_
  simp only [wholeR,ratv_eq hw] at hr
  subst hr
  by_cases hy1:y.den = 1
  ·simp [run_draw,logOk,c1,e1,c1',e1',hx1,hy1]
   refine callK_pure (R := addR) rfl (by simp [PV.pureL,h1.pure,h1'.pure]) (add_ok _ _ _ _ h1 h1' (fits_mono fx.num (by omega)) (fits_mono fy.num (by omega))) fun r hr => ?_
   simp only [addR,it_eq h1,it_eq h1'] at hr
   obtain ⟨b3,m3,rfl⟩ := hr.shape
   obtain ⟨k1,k2,k3,k4,k5⟩ := hr.cell
   obtain ⟨w1,w2⟩ := whole_add x y hx1 hy1
   simp [run_draw,logOk,c1,e1,c1',e1',k1]
   exact fin (IsRat.mk hr isInt_zero w1.symm (.inr ⟨rfl,w2⟩))
  ·simp [run_draw,logOk,c1,e1,c1',e1',hx1,hy1]
   refine dcallK_pure (R := denR) rfl (by simp [PV.pureL,hw.pure]) (den_ok _ y hw) fun r1 hr1 => ?_
   simp only [denR,ratv_eq hw] at hr1
   simp [run_draw,logOk,c1,e1,c1',e1',c2,e2,c2',e2']
   refine dcallK_pure (R := mulR) rfl (by simp [PV.pureL,h1.pure,hr1.pure]) (mul_ok _ _ (x.num) ((y.den:Int)) h1 hr1 (fits_mono fx.num (by omega)) (fits_mono fy.den (by omega))) fun r2 hr2 => ?_
   simp only [mulR,it_eq h1,it_eq hr1] at hr2
   have hr1s := hr1
   obtain ⟨b1,m1,rfl⟩ := hr1.shape
   obtain ⟨i11,i12,i13,i14,i15⟩ := hr1.cell
   simp [run_draw,logOk,c1,e1,c1',e1',c2,e2,c2',e2',i11,i12]
   refine dcallK_pure (R := denR) rfl (by simp [PV.pureL,hv.pure]) (den_ok _ x hv) fun r3 hr3 => ?_
   simp only [denR,ratv_eq hv] at hr3
   simp [run_draw,logOk,c1,e1,c1',e1',c2,e2,c2',e2',i11,i12]
   refine dcallK_pure (R := mulR) rfl (by simp [PV.pureL,h1'.pure,hr3.pure]) (mul_ok _ _ (y.num) ((x.den:Int)) h1' hr3 (fits_mono fy.num (by omega)) (fits_mono fx.den (by omega))) fun r4 hr4 => ?_
   simp only [mulR,it_eq h1',it_eq hr3] at hr4
   have hr3s := hr3
   obtain ⟨b3,m3,rfl⟩ := hr3.shape
   obtain ⟨i31,i32,i33,i34,i35⟩ := hr3.cell
   simp [run_draw,logOk,c1,e1,c1',e1',c2,e2,c2',e2',i11,i12,i31,i32]
   have fA:Fits (x.num * y.den + y.num * x.den) (100000+100000+1) := fits_add (fits_mul fx.num fy.den) (fits_mono (fits_mul fy.num fx.den) (by omega))
   refine dcallK_pure (R := addR) rfl (by simp [PV.pureL,hr2.pure,hr4.pure]) (add_ok _ _ _ _ hr2 hr4 (fits_mono (fits_mul fx.num fy.den) (by omega)) (fits_mono (fits_mul fy.num fx.den) (by omega))) fun r5 hr5 => ?_
   simp only [addR,it_eq hr2,it_eq hr4] at hr5
   have hr2s := hr2
   obtain ⟨b2,m2,rfl⟩ := hr2.shape
   obtain ⟨i21,i22,i23,i24,i25⟩ := hr2.cell
   have hr4s := hr4
   obtain ⟨b4,m4,rfl⟩ := hr4.shape
   obtain ⟨i41,i42,i43,i44,i45⟩ := hr4.cell
   simp [run_draw,logOk,c1,e1,c1',e1',c2,e2,c2',e2',i11,i12,i31,i32,i21,i22,i41,i42]
   refine dcallK_pure (R := denR) rfl (by simp [PV.pureL,hv.pure]) (den_ok _ x hv) fun r6 hr6 => ?_
   simp only [denR,ratv_eq hv] at hr6
   simp [run_draw,logOk,c1,e1,c1',e1',c2,e2,c2',e2',i11,i12,i31,i32,i21,i22,i41,i42]
   refine dcallK_pure (R := denR) rfl (by simp [PV.pureL,hw.pure]) (den_ok _ y hw) fun r7 hr7 => ?_
   simp only [denR,ratv_eq hw] at hr7
   simp [run_draw,logOk,c1,e1,c1',e1',c2,e2,c2',e2',i11,i12,i31,i32,i21,i22,i41,i42]
   refine dcallK_pure (R := mulR) rfl (by simp [PV.pureL,hr6.pure,hr7.pure]) (mul_ok _ _ ((x.den:Int)) ((y.den:Int)) hr6 hr7 (fits_mono fx.den (by omega)) (fits_mono fy.den (by omega))) fun r8 hr8 => ?_
   simp only [mulR,it_eq hr6,it_eq hr7] at hr8
   have hr6s := hr6
   obtain ⟨b6,m6,rfl⟩ := hr6.shape
   obtain ⟨i61,i62,i63,i64,i65⟩ := hr6.cell
   have hr7s := hr7
   obtain ⟨b7,m7,rfl⟩ := hr7.shape
   obtain ⟨i71,i72,i73,i74,i75⟩ := hr7.cell
   simp [run_draw,logOk,c1,e1,c1',e1',c2,e2,c2',e2',i11,i12,i31,i32,i21,i22,i41,i42,i61,i62,i71,i72]
   have dd0:x.den * y.den ≠ 0 := Nat.mul_ne_zero x.den_nz y.den_nz
   have dd1:(x.den:Int) * y.den ≠ 0 := by rw [← Int.natCast_mul]; omega
   refine dcallK_pure (R := reducedR) rfl (by simp [PV.pureL,hr5.pure,hr8.pure]) (reduced_ok _ _ _ _ hr5 hr8 dd1 (fits_mono fA (by omega)) (fits_mono (fits_mul fx.den fy.den) (by omega))) fun r9 hr9 => ?_
   simp only [reducedR,it_eq hr5,it_eq hr8] at hr9
   rw [← Int.natCast_mul,quo_nat _ _ dd0,← add_mk] at hr9
   have hr5s := hr5
   obtain ⟨b5,m5,rfl⟩ := hr5.shape
   obtain ⟨i51,i52,i53,i54,i55⟩ := hr5.cell
   have hr8s := hr8
   obtain ⟨b8,m8,rfl⟩ := hr8.shape
   obtain ⟨i81,i82,i83,i84,i85⟩ := hr8.cell
   have hr9' := hr9
   obtain ⟨b9,m9,c9,n9,d9,rfl,g1,g2,g3⟩ := hr9'.cases
   obtain ⟨u1,u2,u3,u4,u5⟩ := g1.cell
   obtain ⟨v1,v2,v3,v4,v5⟩ := g2.cell
   simp [run_draw,logOk,c1,e1,c1',e1',c2,e2,c2',e2',i11,i12,i31,i32,i21,i22,i41,i42,i61,i62,i71,i72,i51,i52,i81,i82,u1,u2,v1,v2]
   first | exact fin hr9 | exact ⟨by decide,fin hr9⟩ | exact ⟨by decide,by decide,fin hr9⟩ | exact ⟨by decide,by decide,by decide,fin hr9⟩
 ·simp [run_draw,logOk,c1,e1,c1',e1',hx1]
  refine dcallK_pure (R := denR) rfl (by simp [PV.pureL,hw.pure]) (den_ok _ y hw) fun r1 hr1 => ?_
  simp only [denR,ratv_eq hw] at hr1
  simp [run_draw,logOk,c1,e1,c1',e1',c2,e2,c2',e2']
  refine dcallK_pure (R := mulR) rfl (by simp [PV.pureL,h1.pure,hr1.pure]) (mul_ok _ _ (x.num) ((y.den:Int)) h1 hr1 (fits_mono fx.num (by omega)) (fits_mono fy.den (by omega))) fun r2 hr2 => ?_
  simp only [mulR,it_eq h1,it_eq hr1] at hr2
  have hr1s := hr1
  obtain ⟨b1,m1,rfl⟩ := hr1.shape
  obtain ⟨i11,i12,i13,i14,i15⟩ := hr1.cell
  simp [run_draw,logOk,c1,e1,c1',e1',c2,e2,c2',e2',i11,i12]
  refine dcallK_pure (R := denR) rfl (by simp [PV.pureL,hv.pure]) (den_ok _ x hv) fun r3 hr3 => ?_
  simp only [denR,ratv_eq hv] at hr3
  simp [run_draw,logOk,c1,e1,c1',e1',c2,e2,c2',e2',i11,i12]
  refine dcallK_pure (R := mulR) rfl (by simp [PV.pureL,h1'.pure,hr3.pure]) (mul_ok _ _ (y.num) ((x.den:Int)) h1' hr3 (fits_mono fy.num (by omega)) (fits_mono fx.den (by omega))) fun r4 hr4 => ?_
  simp only [mulR,it_eq h1',it_eq hr3] at hr4
  have hr3s := hr3
  obtain ⟨b3,m3,rfl⟩ := hr3.shape
  obtain ⟨i31,i32,i33,i34,i35⟩ := hr3.cell
  simp [run_draw,logOk,c1,e1,c1',e1',c2,e2,c2',e2',i11,i12,i31,i32]
  have fA:Fits (x.num * y.den + y.num * x.den) (100000+100000+1) := fits_add (fits_mul fx.num fy.den) (fits_mono (fits_mul fy.num fx.den) (by omega))
  refine dcallK_pure (R := addR) rfl (by simp [PV.pureL,hr2.pure,hr4.pure]) (add_ok _ _ _ _ hr2 hr4 (fits_mono (fits_mul fx.num fy.den) (by omega)) (fits_mono (fits_mul fy.num fx.den) (by omega))) fun r5 hr5 => ?_
  simp only [addR,it_eq hr2,it_eq hr4] at hr5
  have hr2s := hr2
  obtain ⟨b2,m2,rfl⟩ := hr2.shape
  obtain ⟨i21,i22,i23,i24,i25⟩ := hr2.cell
  have hr4s := hr4
  obtain ⟨b4,m4,rfl⟩ := hr4.shape
  obtain ⟨i41,i42,i43,i44,i45⟩ := hr4.cell
  simp [run_draw,logOk,c1,e1,c1',e1',c2,e2,c2',e2',i11,i12,i31,i32,i21,i22,i41,i42]
  refine dcallK_pure (R := denR) rfl (by simp [PV.pureL,hv.pure]) (den_ok _ x hv) fun r6 hr6 => ?_
  simp only [denR,ratv_eq hv] at hr6
  simp [run_draw,logOk,c1,e1,c1',e1',c2,e2,c2',e2',i11,i12,i31,i32,i21,i22,i41,i42]
  refine dcallK_pure (R := denR) rfl (by simp [PV.pureL,hw.pure]) (den_ok _ y hw) fun r7 hr7 => ?_
  simp only [denR,ratv_eq hw] at hr7
  simp [run_draw,logOk,c1,e1,c1',e1',c2,e2,c2',e2',i11,i12,i31,i32,i21,i22,i41,i42]
  refine dcallK_pure (R := mulR) rfl (by simp [PV.pureL,hr6.pure,hr7.pure]) (mul_ok _ _ ((x.den:Int)) ((y.den:Int)) hr6 hr7 (fits_mono fx.den (by omega)) (fits_mono fy.den (by omega))) fun r8 hr8 => ?_
  simp only [mulR,it_eq hr6,it_eq hr7] at hr8
  have hr6s := hr6
  obtain ⟨b6,m6,rfl⟩ := hr6.shape
  obtain ⟨i61,i62,i63,i64,i65⟩ := hr6.cell
  have hr7s := hr7
  obtain ⟨b7,m7,rfl⟩ := hr7.shape
  obtain ⟨i71,i72,i73,i74,i75⟩ := hr7.cell
  simp [run_draw,logOk,c1,e1,c1',e1',c2,e2,c2',e2',i11,i12,i31,i32,i21,i22,i41,i42,i61,i62,i71,i72]
  have dd0:x.den * y.den ≠ 0 := Nat.mul_ne_zero x.den_nz y.den_nz
  have dd1:(x.den:Int) * y.den ≠ 0 := by rw [← Int.natCast_mul]; omega
  refine dcallK_pure (R := reducedR) rfl (by simp [PV.pureL,hr5.pure,hr8.pure]) (reduced_ok _ _ _ _ hr5 hr8 dd1 (fits_mono fA (by omega)) (fits_mono (fits_mul fx.den fy.den) (by omega))) fun r9 hr9 => ?_
  simp only [reducedR,it_eq hr5,it_eq hr8] at hr9
  rw [← Int.natCast_mul,quo_nat _ _ dd0,← add_mk] at hr9
  have hr5s := hr5
  obtain ⟨b5,m5,rfl⟩ := hr5.shape
  obtain ⟨i51,i52,i53,i54,i55⟩ := hr5.cell
  have hr8s := hr8
  obtain ⟨b8,m8,rfl⟩ := hr8.shape
  obtain ⟨i81,i82,i83,i84,i85⟩ := hr8.cell
  have hr9' := hr9
  obtain ⟨b9,m9,c9,n9,d9,rfl,g1,g2,g3⟩ := hr9'.cases
  obtain ⟨u1,u2,u3,u4,u5⟩ := g1.cell
  obtain ⟨v1,v2,v3,v4,v5⟩ := g2.cell
  simp [run_draw,logOk,c1,e1,c1',e1',c2,e2,c2',e2',i11,i12,i31,i32,i21,i22,i41,i42,i61,i62,i71,i72,i51,i52,i81,i82,u1,u2,v1,v2]
  first | exact fin hr9 | exact ⟨by decide,fin hr9⟩ | exact ⟨by decide,by decide,fin hr9⟩ | exact ⟨by decide,by decide,by decide,fin hr9⟩
theorem rmul_ok (v w:PV) (x y:Rat) (hv:IsRat v x) (hw:IsRat w y) (fx:RFits x 100000) (fy:RFits y 100000):Gives prog G 70 [v,w] (rmulR [v,w]) := by
 have fin:∀ {r:PV} {s:St},IsRat r (x * y) → outK (rmulR [v,w]) r s := fun h => outK_pure h.pure (by simp only [rmulR,ratv_eq hv,ratv_eq hw]; exact h)
 have hv' := hv
 have hw' := hw
 obtain ⟨b,m,c,n,d,rfl,h1,h2,h3⟩ := hv'.cases
 obtain ⟨c1,c2,c3,c4,c5⟩ := h1.cell
 obtain ⟨e1,e2,e3,e4,e5⟩ := h2.cell
 obtain ⟨b',m',c',n',d',rfl,h1',h2',h3'⟩ := hw'.cases
 obtain ⟨c1',c2',c3',c4',c5'⟩ := h1'.cell
 obtain ⟨e1',e2',e3',e4',e5'⟩ := h2'.cell
 refine gives (S := [(75,wholeR),(105,denR),(104,mulR),(106,reducedR)]) (by kernel_rfl) (by kernel_rfl) (callW_of ann70 func70 rfl (by kernel_rfl) ?_)
 simp [run_draw,logOk,c1,e1,c1',e1']
 refine callK_pure (R := wholeR) rfl (by simp [PV.pureL,hv.pure]) (whole_ok _ x hv (fits_mono fx.den (by omega))) fun r hr => ?_
 simp only [wholeR,ratv_eq hv] at hr
 subst hr
 by_cases hx1:x.den = 1
 ·simp [run_draw,logOk,c1,e1,c1',e1',hx1]
  refine callK_pure (R := wholeR) rfl (by simp [PV.pureL,hw.pure]) (whole_ok _ y hw (fits_mono fy.den (by omega))) fun r hr => ?_
  simp only [wholeR,ratv_eq hw] at hr
  subst hr
  by_cases hy1:y.den = 1
  ·simp [run_draw,logOk,c1,e1,c1',e1',hx1,hy1]
   refine callK_pure (R := mulR) rfl (by simp [PV.pureL,h1.pure,h1'.pure]) (mul_ok _ _ _ _ h1 h1' (fits_mono fx.num (by omega)) (fits_mono fy.num (by omega))) fun r hr => ?_
   simp only [mulR,it_eq h1,it_eq h1'] at hr
   obtain ⟨b3,m3,rfl⟩ := hr.shape
   obtain ⟨k1,k2,k3,k4,k5⟩ := hr.cell
   obtain ⟨w1,w2⟩ := whole_mul x y hx1 hy1
   simp [run_draw,logOk,c1,e1,c1',e1',k1]
   exact fin (IsRat.mk hr isInt_zero w1.symm (.inr ⟨rfl,w2⟩))
  ·simp [run_draw,logOk,c1,e1,c1',e1',hx1,hy1]
   refine dcallK_pure (R := mulR) rfl (by simp [PV.pureL,h1.pure,h1'.pure]) (mul_ok _ _ (x.num) (y.num) h1 h1' (fits_mono fx.num (by omega)) (fits_mono fy.num (by omega))) fun r2 hr2 => ?_
   simp only [mulR,it_eq h1,it_eq h1'] at hr2
   simp [run_draw,logOk,c1,e1,c1',e1',c2,e2,c2',e2']
   refine dcallK_pure (R := denR) rfl (by simp [PV.pureL,hv.pure]) (den_ok _ x hv) fun r6 hr6 => ?_
   simp only [denR,ratv_eq hv] at hr6
   simp [run_draw,logOk,c1,e1,c1',e1',c2,e2,c2',e2']
   refine dcallK_pure (R := denR) rfl (by simp [PV.pureL,hw.pure]) (den_ok _ y hw) fun r7 hr7 => ?_
   simp only [denR,ratv_eq hw] at hr7
   simp [run_draw,logOk,c1,e1,c1',e1',c2,e2,c2',e2']
   refine dcallK_pure (R := mulR) rfl (by simp [PV.pureL,hr6.pure,hr7.pure]) (mul_ok _ _ ((x.den:Int)) ((y.den:Int)) hr6 hr7 (fits_mono fx.den (by omega)) (fits_mono fy.den (by omega))) fun r8 hr8 => ?_
   simp only [mulR,it_eq hr6,it_eq hr7] at hr8
   have hr6s := hr6
   obtain ⟨b6,m6,rfl⟩ := hr6.shape
   obtain ⟨i61,i62,i63,i64,i65⟩ := hr6.cell
   have hr7s := hr7
   obtain ⟨b7,m7,rfl⟩ := hr7.shape
   obtain ⟨i71,i72,i73,i74,i75⟩ := hr7.cell
   simp [run_draw,logOk,c1,e1,c1',e1',c2,e2,c2',e2',i61,i62,i71,i72]
   have dd0:x.den * y.den ≠ 0 := Nat.mul_ne_zero x.den_nz y.den_nz
   have dd1:(x.den:Int) * y.den ≠ 0 := by rw [← Int.natCast_mul]; omega
   refine dcallK_pure (R := reducedR) rfl (by simp [PV.pureL,hr2.pure,hr8.pure]) (reduced_ok _ _ _ _ hr2 hr8 dd1 (fits_mono (fits_mul fx.num fy.num) (by omega)) (fits_mono (fits_mul fx.den fy.den) (by omega))) fun r9 hr9 => ?_
   simp only [reducedR,it_eq hr2,it_eq hr8] at hr9
   rw [← Int.natCast_mul,quo_nat _ _ dd0,← mul_mk] at hr9
   have hr2s := hr2
   obtain ⟨b2,m2,rfl⟩ := hr2.shape
   obtain ⟨i21,i22,i23,i24,i25⟩ := hr2.cell
   have hr8s := hr8
   obtain ⟨b8,m8,rfl⟩ := hr8.shape
   obtain ⟨i81,i82,i83,i84,i85⟩ := hr8.cell
   have hr9' := hr9
   obtain ⟨b9,m9,c9,n9,d9,rfl,g1,g2,g3⟩ := hr9'.cases
   obtain ⟨u1,u2,u3,u4,u5⟩ := g1.cell
   obtain ⟨v1,v2,v3,v4,v5⟩ := g2.cell
   simp [run_draw,logOk,c1,e1,c1',e1',c2,e2,c2',e2',i61,i62,i71,i72,i21,i22,i81,i82,u1,u2,v1,v2]
   first | exact fin hr9 | exact ⟨by decide,fin hr9⟩ | exact ⟨by decide,by decide,fin hr9⟩ | exact ⟨by decide,by decide,by decide,fin hr9⟩
 ·simp [run_draw,logOk,c1,e1,c1',e1',hx1]
  refine dcallK_pure (R := mulR) rfl (by simp [PV.pureL,h1.pure,h1'.pure]) (mul_ok _ _ (x.num) (y.num) h1 h1' (fits_mono fx.num (by omega)) (fits_mono fy.num (by omega))) fun r2 hr2 => ?_
  simp only [mulR,it_eq h1,it_eq h1'] at hr2
  simp [run_draw,logOk,c1,e1,c1',e1',c2,e2,c2',e2']
  refine dcallK_pure (R := denR) rfl (by simp [PV.pureL,hv.pure]) (den_ok _ x hv) fun r6 hr6 => ?_
  simp only [denR,ratv_eq hv] at hr6
  simp [run_draw,logOk,c1,e1,c1',e1',c2,e2,c2',e2']
  refine dcallK_pure (R := denR) rfl (by simp [PV.pureL,hw.pure]) (den_ok _ y hw) fun r7 hr7 => ?_
  simp only [denR,ratv_eq hw] at hr7
  simp [run_draw,logOk,c1,e1,c1',e1',c2,e2,c2',e2']
  refine dcallK_pure (R := mulR) rfl (by simp [PV.pureL,hr6.pure,hr7.pure]) (mul_ok _ _ ((x.den:Int)) ((y.den:Int)) hr6 hr7 (fits_mono fx.den (by omega)) (fits_mono fy.den (by omega))) fun r8 hr8 => ?_
  simp only [mulR,it_eq hr6,it_eq hr7] at hr8
  have hr6s := hr6
  obtain ⟨b6,m6,rfl⟩ := hr6.shape
  obtain ⟨i61,i62,i63,i64,i65⟩ := hr6.cell
  have hr7s := hr7
  obtain ⟨b7,m7,rfl⟩ := hr7.shape
  obtain ⟨i71,i72,i73,i74,i75⟩ := hr7.cell
  simp [run_draw,logOk,c1,e1,c1',e1',c2,e2,c2',e2',i61,i62,i71,i72]
  have dd0:x.den * y.den ≠ 0 := Nat.mul_ne_zero x.den_nz y.den_nz
  have dd1:(x.den:Int) * y.den ≠ 0 := by rw [← Int.natCast_mul]; omega
  refine dcallK_pure (R := reducedR) rfl (by simp [PV.pureL,hr2.pure,hr8.pure]) (reduced_ok _ _ _ _ hr2 hr8 dd1 (fits_mono (fits_mul fx.num fy.num) (by omega)) (fits_mono (fits_mul fx.den fy.den) (by omega))) fun r9 hr9 => ?_
  simp only [reducedR,it_eq hr2,it_eq hr8] at hr9
  rw [← Int.natCast_mul,quo_nat _ _ dd0,← mul_mk] at hr9
  have hr2s := hr2
  obtain ⟨b2,m2,rfl⟩ := hr2.shape
  obtain ⟨i21,i22,i23,i24,i25⟩ := hr2.cell
  have hr8s := hr8
  obtain ⟨b8,m8,rfl⟩ := hr8.shape
  obtain ⟨i81,i82,i83,i84,i85⟩ := hr8.cell
  have hr9' := hr9
  obtain ⟨b9,m9,c9,n9,d9,rfl,g1,g2,g3⟩ := hr9'.cases
  obtain ⟨u1,u2,u3,u4,u5⟩ := g1.cell
  obtain ⟨v1,v2,v3,v4,v5⟩ := g2.cell
  simp [run_draw,logOk,c1,e1,c1',e1',c2,e2,c2',e2',i61,i62,i71,i72,i21,i22,i81,i82,u1,u2,v1,v2]
  first | exact fin hr9 | exact ⟨by decide,fin hr9⟩ | exact ⟨by decide,by decide,fin hr9⟩ | exact ⟨by decide,by decide,by decide,fin hr9⟩
theorem cmp_cross (x y:Rat):cmpI (x.num * y.den) (y.num * x.den) = cmpR x y := by
 unfold cmpI cmpR
 by_cases h:x < y
 ·rw [if_pos h,if_pos ((cmp_lt x y).1 h)]
 ·rw [if_neg h,if_neg fun h' => h ((cmp_lt x y).2 h')]
  by_cases h2:x = y
  ·rw [if_pos h2,if_pos ((cmp_eq x y).1 h2)]
  ·rw [if_neg h2,if_neg fun h' => h2 ((cmp_eq x y).2 h')]
theorem rcompare_ok (v w:PV) (x y:Rat) (hv:IsRat v x) (hw:IsRat w y) (fx:RFits x 100000) (fy:RFits y 100000):Gives prog G 67 [v,w] (rcompareR [v,w]) := by
 have fin:∀ {c:Int} {s:St},c = cmpR x y → outK (rcompareR [v,w]) (.int .i64 c) s := fun h => outK_pure rfl (by simp only [rcompareR,ratv_eq hv,ratv_eq hw,h])
 have hv' := hv
 have hw' := hw
 obtain ⟨b,m,c,n,d,rfl,h1,h2,h3⟩ := hv'.cases
 obtain ⟨c1,c2,c3,c4,c5⟩ := h1.cell
 obtain ⟨e1,e2,e3,e4,e5⟩ := h2.cell
 obtain ⟨b',m',c',n',d',rfl,h1',h2',h3'⟩ := hw'.cases
 obtain ⟨c1',c2',c3',c4',c5'⟩ := h1'.cell
 obtain ⟨e1',e2',e3',e4',e5'⟩ := h2'.cell
 refine gives (S := [(75,wholeR),(105,denR),(104,mulR),(103,compareR)]) (by kernel_rfl) (by kernel_rfl) (callW_of ann67 func67 rfl (by kernel_rfl) ?_)
 simp [run_draw,logOk,c1,e1,c1',e1',c2,e2,c2',e2']
 refine callK_pure (R := wholeR) rfl (by simp [PV.pureL,hv.pure]) (whole_ok _ x hv (fits_mono fx.den (by omega))) fun r hr => ?_
 simp only [wholeR,ratv_eq hv] at hr
 subst hr
 by_cases hx1:x.den = 1
 ·simp [run_draw,logOk,c1,e1,c1',e1',c2,e2,c2',e2',hx1]
  refine callK_pure (R := wholeR) rfl (by simp [PV.pureL,hw.pure]) (whole_ok _ y hw (fits_mono fy.den (by omega))) fun r hr => ?_
  simp only [wholeR,ratv_eq hw] at hr
  subst hr
  by_cases hy1:y.den = 1
  ·simp [run_draw,logOk,c1,e1,c1',e1',c2,e2,c2',e2',hx1,hy1]
   refine callK_pure (R := compareR) rfl (by simp [PV.pureL,h1.pure,h1'.pure]) (compare_ok _ _ _ _ h1 h1' (fits_mono fx.num (by omega)) (fits_mono fy.num (by omega))) fun r hr => ?_
   simp only [compareR,it_eq h1,it_eq h1'] at hr
   subst hr
   simp [run_draw,logOk,c1,e1,c1',e1',c2,e2,c2',e2']
   refine fin ?_
   have := cmp_cross x y
   rw [hx1,hy1] at this
   simpa using this
  ·simp [run_draw,logOk,c1,e1,c1',e1',c2,e2,c2',e2',hx1,hy1]
   refine dcallK_pure (R := denR) rfl (by simp [PV.pureL,hw.pure]) (den_ok _ y hw) fun r1 hr1 => ?_
   simp only [denR,ratv_eq hw] at hr1
   simp [run_draw,logOk,c1,e1,c1',e1',c2,e2,c2',e2']
   refine dcallK_pure (R := mulR) rfl (by simp [PV.pureL,h1.pure,hr1.pure]) (mul_ok _ _ (x.num) ((y.den:Int)) h1 hr1 (fits_mono fx.num (by omega)) (fits_mono fy.den (by omega))) fun r2 hr2 => ?_
   simp only [mulR,it_eq h1,it_eq hr1] at hr2
   obtain ⟨b1,m1,rfl⟩ := hr1.shape
   obtain ⟨i11,i12,i13,i14,i15⟩ := hr1.cell
   simp [run_draw,logOk,c1,e1,c1',e1',c2,e2,c2',e2',i11,i12]
   refine dcallK_pure (R := denR) rfl (by simp [PV.pureL,hv.pure]) (den_ok _ x hv) fun r3 hr3 => ?_
   simp only [denR,ratv_eq hv] at hr3
   simp [run_draw,logOk,c1,e1,c1',e1',c2,e2,c2',e2',i11,i12]
   refine dcallK_pure (R := mulR) rfl (by simp [PV.pureL,h1'.pure,hr3.pure]) (mul_ok _ _ (y.num) ((x.den:Int)) h1' hr3 (fits_mono fy.num (by omega)) (fits_mono fx.den (by omega))) fun r4 hr4 => ?_
   simp only [mulR,it_eq h1',it_eq hr3] at hr4
   obtain ⟨b3,m3,rfl⟩ := hr3.shape
   obtain ⟨i31,i32,i33,i34,i35⟩ := hr3.cell
   simp [run_draw,logOk,c1,e1,c1',e1',c2,e2,c2',e2',i11,i12,i31,i32]
   refine dcallK_pure (R := compareR) rfl (by simp [PV.pureL,hr2.pure,hr4.pure]) (compare_ok _ _ _ _ hr2 hr4 (fits_mono (fits_mul fx.num fy.den) (by omega)) (fits_mono (fits_mul fy.num fx.den) (by omega))) fun r9 hr9 => ?_
   simp only [compareR,it_eq hr2,it_eq hr4] at hr9
   subst hr9
   obtain ⟨b2,m2,rfl⟩ := hr2.shape
   obtain ⟨i21,i22,i23,i24,i25⟩ := hr2.cell
   obtain ⟨b4,m4,rfl⟩ := hr4.shape
   obtain ⟨i41,i42,i43,i44,i45⟩ := hr4.cell
   simp [run_draw,logOk,c1,e1,c1',e1',c2,e2,c2',e2',i11,i12,i31,i32,i21,i22,i41,i42]
   first | exact fin (cmp_cross x y) | exact ⟨by decide,fin (cmp_cross x y)⟩ | exact ⟨by decide,by decide,fin (cmp_cross x y)⟩ | exact ⟨by decide,by decide,by decide,fin (cmp_cross x y)⟩ | exact ⟨by decide,by decide,by decide,by decide,fin (cmp_cross x y)⟩
 ·simp [run_draw,logOk,c1,e1,c1',e1',c2,e2,c2',e2',hx1]
  refine dcallK_pure (R := denR) rfl (by simp [PV.pureL,hw.pure]) (den_ok _ y hw) fun r1 hr1 => ?_
  simp only [denR,ratv_eq hw] at hr1
  simp [run_draw,logOk,c1,e1,c1',e1',c2,e2,c2',e2']
  refine dcallK_pure (R := mulR) rfl (by simp [PV.pureL,h1.pure,hr1.pure]) (mul_ok _ _ (x.num) ((y.den:Int)) h1 hr1 (fits_mono fx.num (by omega)) (fits_mono fy.den (by omega))) fun r2 hr2 => ?_
  simp only [mulR,it_eq h1,it_eq hr1] at hr2
  obtain ⟨b1,m1,rfl⟩ := hr1.shape
  obtain ⟨i11,i12,i13,i14,i15⟩ := hr1.cell
  simp [run_draw,logOk,c1,e1,c1',e1',c2,e2,c2',e2',i11,i12]
  refine dcallK_pure (R := denR) rfl (by simp [PV.pureL,hv.pure]) (den_ok _ x hv) fun r3 hr3 => ?_
  simp only [denR,ratv_eq hv] at hr3
  simp [run_draw,logOk,c1,e1,c1',e1',c2,e2,c2',e2',i11,i12]
  refine dcallK_pure (R := mulR) rfl (by simp [PV.pureL,h1'.pure,hr3.pure]) (mul_ok _ _ (y.num) ((x.den:Int)) h1' hr3 (fits_mono fy.num (by omega)) (fits_mono fx.den (by omega))) fun r4 hr4 => ?_
  simp only [mulR,it_eq h1',it_eq hr3] at hr4
  obtain ⟨b3,m3,rfl⟩ := hr3.shape
  obtain ⟨i31,i32,i33,i34,i35⟩ := hr3.cell
  simp [run_draw,logOk,c1,e1,c1',e1',c2,e2,c2',e2',i11,i12,i31,i32]
  refine dcallK_pure (R := compareR) rfl (by simp [PV.pureL,hr2.pure,hr4.pure]) (compare_ok _ _ _ _ hr2 hr4 (fits_mono (fits_mul fx.num fy.den) (by omega)) (fits_mono (fits_mul fy.num fx.den) (by omega))) fun r9 hr9 => ?_
  simp only [compareR,it_eq hr2,it_eq hr4] at hr9
  subst hr9
  obtain ⟨b2,m2,rfl⟩ := hr2.shape
  obtain ⟨i21,i22,i23,i24,i25⟩ := hr2.cell
  obtain ⟨b4,m4,rfl⟩ := hr4.shape
  obtain ⟨i41,i42,i43,i44,i45⟩ := hr4.cell
  simp [run_draw,logOk,c1,e1,c1',e1',c2,e2,c2',e2',i11,i12,i31,i32,i21,i22,i41,i42]
  first | exact fin (cmp_cross x y) | exact ⟨by decide,fin (cmp_cross x y)⟩ | exact ⟨by decide,by decide,fin (cmp_cross x y)⟩ | exact ⟨by decide,by decide,by decide,fin (cmp_cross x y)⟩ | exact ⟨by decide,by decide,by decide,by decide,fin (cmp_cross x y)⟩
structure RV (es:List PV) (n:Nat) (f:Nat → Rat):Prop where
 len:es.length = n
 at_:∀ k,k < n → ∃ v,es[k]? = some v ∧ IsRat v (f k)
theorem RV.get {es:List PV} {n:Nat} {f:Nat → Rat} (h:RV es n f) {k:Nat} (hk:k < n):∃ b m c u d,es[k]? = some (.agg [.bool b,m,.bool c,u]) ∧ IsRat (.agg [.bool b,m,.bool c,u]) (f k) ∧ IsInt (.agg [.bool b,m]) (f k).num ∧ IsInt (.agg [.bool c,u]) d := by
 obtain ⟨v,h1,h2⟩ := h.at_ k hk
 obtain ⟨b,m,c,u,d,rfl,h3,h4,_⟩ := h2.cases
 exact ⟨b,m,c,u,d,h1,h2,h3,h4⟩
theorem RV.set {es:List PV} {n:Nat} {f:Nat → Rat} (h:RV es n f) {k:Nat} {v:PV} {q:Rat} (hv:IsRat v q):RV (es.set k v) n (fun b => if b = k then q else f b) := by
 refine ⟨by rw [List.length_set,h.len],fun j hj => ?_⟩
 by_cases hjk:j = k
 ·subst hjk
  refine ⟨v,List.getElem?_set_self (by rw [h.len]; exact hj),?_⟩
  rw [if_pos rfl]; exact hv
 ·obtain ⟨w,h1,h2⟩ := h.at_ j hj
  refine ⟨w,by rw [List.getElem?_set_ne (Ne.symm hjk)]; exact h1,?_⟩
  rw [if_neg hjk]; exact h2
theorem RV.congr {es:List PV} {n:Nat} {f g:Nat → Rat} (h:RV es n f) (e:∀ k,k < n → f k = g k):RV es n g := ⟨h.len,fun k hk => by
 obtain ⟨v,h1,h2⟩ := h.at_ k hk
 exact ⟨v,h1,by rw [← e k hk]; exact h2⟩⟩
theorem getE {es:List PV} {k:Nat} {v:PV} (h:es[k]? = some v):∀ hh:k < es.length,es[k]'hh = v := fun hh => by
 rw [List.getElem?_eq_getElem hh] at h; exact Option.some.inj h
def ratZero:PV := .agg [.bool false,.nil,.bool false,.nil]
theorem isRat_zero:IsRat ratZero 0 := IsRat.mk isInt_zero isInt_zero (by simp) (.inr ⟨rfl,by simp⟩)
theorem RV.zero (n:Nat):RV (List.replicate n ratZero) n (fun _ => 0) := ⟨by simp,fun k hk => ⟨ratZero,by rw [List.getElem?_replicate,if_pos hk],isRat_zero⟩⟩
theorem rep_eq (v:PV):∀ n,repeatP v n = List.replicate n v
 | 0 => rfl
 | n+1 => by rw [repeatP,rep_eq v n]; rfl
end Go.Proofs.Tryz
