/- The machine on symbols: texts of numbers, read and printed. No condition. -/
import Derived.Test.YtgpmgondjppmmaaGreatDoorA5
import Derived.Test.YtgpmgondjppmmaaGreatDoorM3
import Derived.Test.YtgpmgondjppmmaaGreatDoorM1
import Derived.Test.YtgpmgondjppmmaaGreatDoorM2
set_option linter.unnecessarySimpa false
set_option linter.unusedSectionVars false
set_option linter.unusedSimpArgs false
set_option linter.unusedVariables false
set_option maxHeartbeats 4000000
set_option maxRecDepth 100000
namespace Go.Pi
section
variable [Hole] {P:Program} {env:Env} {G:Nat → Option PV} {A:FuncId → Option Ann} {cx:Cx}
theorem dcallK_run {f:FuncId} {args ws:List PV} {fr:List Nat} {ops rest:List Oper} {j:Nat} {T:Tm} {dst:Option Tmp} {s:St} {rd:List Nat} {l:List Lg} {m:List Nat} {k:Kont} {Q:PV → Prop} (he:env f = none) (hr:reifyL s.hp args = some (ws,fr)) (hok:fr.all (fun r => Nat.blt r s.next) = true)
  (hc:CallW P env G A f ws ⟨0,[],[]⟩ fun v s2 => (bif fr.isEmpty then ownRes s2 v else none) = none ∧ ∃ r fl,reify s2.hp v = some (r,fl) ∧ Q r)
  (h:∀ r,Q r → drawK P env G A cx (j+1) (putT T dst r) (s.apply { val := r,fr := fr }) ({ ix := j,rd := rd ++ fr,wr := [] } :: l) m ops rest k):dcallK P env G A cx f args j T s dst rd l m ops rest k := by
 obtain ⟨n,v,s2,h1,h0,r,fl,h2,h3⟩ := hc
 refine ⟨n,{ val := r,fr := fr },?_,?_,h r h3⟩
 ·simp only [envCall,he]
  unfold apartCall
  rw [hr]
  simp only [h1,h0,h2]
 ·simp only [okOut,hok,Bool.and_self,Option.isNone_none,Bool.true_or]
theorem dcallK_own {f:FuncId} {args:List PV} {ops rest:List Oper} {j:Nat} {T:Tm} {dst:Option Tmp} {s:St} {rd:List Nat} {l:List Lg} {m:List Nat} {k:Kont} {Q:Ent → Prop} (he:env f = none) (hp:PV.pureL args = true)
  (hc:CallW P env G A f args ⟨0,[],[]⟩ fun v s2 => ∃ e,ownRes s2 v = some e ∧ Q e)
  (h:∀ e,Q e → drawK P env G A cx (j+1) (putT T dst (.own s.next 0 e.es.length)) ⟨s.next+1,(s.next,e) :: s.heap,s.froz⟩ ({ ix := j,rd := rd,wr := [s.next] } :: l) m ops rest k):dcallK P env G A cx f args j T s dst rd l m ops rest k := by
 obtain ⟨n,v,s2,h1,e,h2,h3⟩ := hc
 have hr := reifyL_pure (hp := s.hp) hp
 refine ⟨n,{ val := .own s.next 0 e.es.length,new := some e },?_,?_,?_⟩
 ·simp only [envCall,he]
  unfold apartCall
  rw [hr]
  simp only [h1,List.isEmpty_nil,cond_true,h2]
 ·simp [okOut]
 ·have := h e h3
  simpa [St.apply,Out.wrote] using this
mutual
theorem reifyW_pure {hp:Nat → Option Ent} {sub:PV → Option (PV × List Nat)}:∀ v:PV,v.pureB = true → reifyW hp sub v = some (v,[])
 | .own ..,h => by simp [PV.pureB] at h
 | .ptr ..,h => by simp [PV.pureB] at h
 | .agg cs,h => by
  simp only [PV.pureB] at h
  simp only [reifyW,reifyWL_pure cs h]
 | .tuple cs,h => by
  simp only [PV.pureB] at h
  simp only [reifyW,reifyWL_pure cs h]
 | .func f cs,h => by
  simp only [PV.pureB] at h
  simp only [reifyW,reifyWL_pure cs h]
 | .iface t v,h => by
  simp only [PV.pureB] at h
  simp only [reifyW,reifyW_pure v h]
 | .top,h => by simp [reifyW,h]
 | .int ..,h => by simp [reifyW,h]
 | .bool _,h => by simp [reifyW,h]
 | .str _,h => by simp [reifyW,h]
 | .nil,h => by simp [reifyW,h]
 | .slice _,h => by simp [reifyW,h]
 | .eptr ..,h => by simp [reifyW,h]
 | .nilPtr,h => by simp [reifyW,h]
 | .nilFunc,h => by simp [reifyW,h]
 | .nilIface,h => by simp [reifyW,h]
 | .hole _,h => by simp [reifyW,h]
 | .any,h => by simp [reifyW,h]
theorem reifyWL_pure {hp:Nat → Option Ent} {sub:PV → Option (PV × List Nat)}:∀ vs:List PV,PV.pureL vs = true → reifyWL hp sub vs = some (vs,[])
 | [],_ => rfl
 | v :: vs,h => by
  simp only [PV.pureL,Bool.and_eq_true] at h
  simp only [reifyWL,reifyW_pure v h.1,reifyWL_pure vs h.2,List.append_nil]
end
theorem mapR_pure {hp:Nat → Option Ent} {d:Nat}:∀ {es:List PV},(∀ v ∈ es,v.pureB = true) → mapR (reifyN hp (d+1)) es = some (es,[])
 | [],_ => rfl
 | v :: vs,h => by
  have h1:reifyN hp (d+1) v = some (v,[]) := reifyW_pure v (h v (by simp))
  have h2:mapR (reifyN hp (d+1)) vs = some (vs,[]) := mapR_pure fun w hw => h w (List.mem_cons_of_mem _ hw)
  simp only [mapR,h1,h2,List.append_nil]
theorem reifyW_own {hp:Nat → Option Ent} {d r n sz:Nat} {es:List PV} (hp':hp r = some ⟨sz,es⟩) (hn:es.length = n) (hs:0 < sz) (h:∀ v ∈ es,v.pureB = true):reifyW hp (reifyN hp (d+1)) (.own r 0 n) = some (.slice es,[r]) := by
 simp only [reifyW,hp',List.drop_zero]
 rw [List.take_of_length_le (by omega),mapR_pure h]
 have h1:Nat.ble (0 + n) es.length = true := by rw [ble_iff]; omega
 have h2:Nat.blt 0 sz = true := by rw [blt_iff]; exact hs
 simp only [h1,h2,Bool.and_self,cond_true]
end
end Go.Pi
namespace Go.Proofs.Tryz
open Go Go.Pi Go.Num Go.Lin
variable [Hole] {G:Nat → Option PV}
theorem upd_lt {n j:Nat} {e:Ent}:∀ {H:List (Nat × Ent)},(∀ p ∈ H,p.1 < n) → ∀ p ∈ upd H j e,p.1 < n
 | [],_,p,hp => by cases hp
 | (i,x) :: H,h,p,hp => by
  simp only [upd,Bool.cond_eq_ite] at hp
  have h0 := h (i,x) (by simp)
  have ih := upd_lt (j := j) (e := e) (H := H) fun q hq => h q (List.mem_cons_of_mem _ hq)
  split at hp
  ·rename_i hh
   rcases List.mem_cons.1 hp with rfl | hp
   ·exact h0
   ·exact h p (List.mem_cons_of_mem _ hp)
  ·rcases List.mem_cons.1 hp with rfl | hp
   ·exact h0
   ·exact ih p hp
theorem cons_lt {n m j:Nat} {e:Ent} {H:List (Nat × Ent)} (h:∀ p ∈ H,p.1 < n) (hn:n ≤ m) (hj:j < m):∀ p ∈ (j,e) :: H,p.1 < m := fun p hp => by
 rcases List.mem_cons.1 hp with rfl | hp
 ·exact hj
 ·exact Nat.lt_of_lt_of_le (h p hp) hn
theorem lt_mono {n m:Nat} {H:List (Nat × Ent)} (h:∀ p ∈ H,p.1 < n) (hn:n ≤ m):∀ p ∈ H,p.1 < m := fun p hp => Nat.lt_of_lt_of_le (h p hp) hn
def okTri (m:List Nat) (l:List (Nat × Bool × Bool)):Bool := l.all fun x => x.2.2 || l.all fun y => Nat.beq x.1 y.1 || (y.2.1 && y.2.2) || inOrder m x.1 y.1
def tri (x:Lg):Nat × Bool × Bool := (x.ix,x.rd.isEmpty,x.wr.isEmpty)
theorem logOk_free {m:List Nat} {l:List Lg} (h:okTri m (l.map tri) = true):logOk m l = true := by
 unfold okTri at h
 unfold logOk
 refine List.all_eq_true.2 fun x hx => ?_
 have h1 := List.all_eq_true.1 h (tri x) (List.mem_map_of_mem hx)
 cases hw:x.wr.isEmpty with
 | true => rfl
 | false =>
  simp only [tri,hw,Bool.false_or] at h1
  simp only [cond_false]
  refine List.all_eq_true.2 fun y hy => ?_
  have h2 := List.all_eq_true.1 h1 (tri y) (List.mem_map_of_mem hy)
  simp only [tri,Bool.or_eq_true,Bool.and_eq_true,List.isEmpty_iff] at h2
  rcases h2 with (h2 | ⟨h2,h3⟩) | h2
  ·rw [h2]; rfl
  ·rw [h2,h3]
   have:share x.wr ([] ++ []) = false := by
    cases hs:share x.wr ([] ++ []) with
    | false => rfl
    | true =>
     obtain ⟨r,_,h4⟩ := (share_iff _ _).1 hs
     simp at h4
   rw [this]
   cases Nat.beq x.ix y.ix <;> rfl
  ·rw [h2]
   cases Nat.beq x.ix y.ix <;> cases share x.wr (y.rd ++ y.wr) <;> rfl
def code (φ:Nat → Nat) (x:Lg):Lg := ⟨x.ix,x.rd.map φ,x.wr.map φ⟩
theorem logOk_code {m:List Nat} {l:List Lg} (φ:Nat → Nat) (h:logOk m (l.map (code φ)) = true):logOk m l = true := by
 unfold logOk at h ⊢
 refine List.all_eq_true.2 fun x hx => ?_
 have h1 := List.all_eq_true.1 h (code φ x) (List.mem_map_of_mem hx)
 cases hw:x.wr.isEmpty with
 | true => rfl
 | false =>
  have hw2:(code φ x).wr.isEmpty = false := by simp [code]; simpa using hw
  rw [hw2] at h1
  simp only [cond_false] at h1 ⊢
  refine List.all_eq_true.2 fun y hy => ?_
  have h2 := List.all_eq_true.1 h1 (code φ y) (List.mem_map_of_mem hy)
  have e1:(code φ x).ix = x.ix := rfl
  have e2:(code φ y).ix = y.ix := rfl
  rw [e1,e2] at h2
  cases hb:Nat.beq x.ix y.ix with
  | true => rfl
  | false =>
   rw [hb] at h2
   simp only [cond_false] at h2 ⊢
   cases hs:share x.wr (y.rd ++ y.wr) with
   | false => rfl
   | true =>
    obtain ⟨r,k1,k2⟩ := (share_iff _ _).1 hs
    have:share (code φ x).wr ((code φ y).rd ++ (code φ y).wr) = true := (share_iff _ _).2 ⟨φ r,List.mem_map_of_mem k1,by
     rcases List.mem_append.1 k2 with k | k
     ·exact List.mem_append_left _ (List.mem_map_of_mem k)
     ·exact List.mem_append_right _ (List.mem_map_of_mem k)⟩
    rw [this] at h2
    exact h2
theorem look_one_cons (j:Nat) (e:Ent) (H:List (Nat × Ent)):Go.Pi.look ((j,e) :: H) j = some e := by simp [Go.Pi.look,beq_lit]
theorem look_cons_ne {j q:Nat} {e:Ent} {H:List (Nat × Ent)} (h:j ≠ q):Go.Pi.look ((j,e) :: H) q = Go.Pi.look H q := by simp [Go.Pi.look,beq_lit,h]
theorem look_del_ne {q r:Nat} {H:List (Nat × Ent)} (h:q ≠ r):Go.Pi.look (del H r) q = Go.Pi.look H q := by rw [look_del_eq,if_neg h]
theorem del_sub {r:Nat}:∀ {H:List (Nat × Ent)} {p:Nat × Ent},p ∈ del H r → p ∈ H
 | [],_,h => by cases h
 | (i,x) :: H,p,h => by
  simp only [del,Bool.cond_eq_ite] at h
  split at h
  ·first | exact List.mem_cons_of_mem _ h | exact List.mem_cons_of_mem _ (del_sub h)
  ·rcases List.mem_cons.1 h with rfl | h
   ·simp
   ·exact List.mem_cons_of_mem _ (del_sub h)
theorem del_lt {n r:Nat} {H:List (Nat × Ent)} (h:∀ p ∈ H,p.1 < n):∀ p ∈ del H r,p.1 < n := fun p hp => h p (del_sub hp)
end Go.Proofs.Tryz
namespace Go.Proofs.Tryz
open Go Go.Pi Go.Num
variable [Hole] {G:Nat → Option PV}
def ten:List UInt8 := [48,49,50,51,52,53,54,55,56,57]
noncomputable def cutR:CRel | [.str s,_],r => r = .tuple [.str (ba (cutAt 47 s.data.toList).1),.str (ba (cutAt 47 s.data.toList).2.1),.bool (cutAt 47 s.data.toList).2.2] | _,_ => False
noncomputable def trimpR:CRel | [.str s,_],r => r = .str (ba (unsigned s.data.toList).1) | _,_ => False
noncomputable def strimR:CRel | [.str s,.str t],r => r = .str (ba (trimU s.data.toList t.data.toList)) | _,_ => False
noncomputable def digitsR:CRel | [.str s],r => r = .bool (!s.data.toList.isEmpty && s.data.toList.all digB) | _,_ => False
structure ReadLib (G:Nat → Option PV):Prop extends IntLib G where
 cut:∀ l:List UInt8,l.length ≤ 100000 → Gives prog G 138 [.str (ba l),.str (ba [47])] (cutR [.str (ba l),.str (ba [47])])
 trimp:∀ l:List UInt8,l.length ≤ 100000 → Gives prog G 140 [.str (ba l),.str (ba [45])] (trimpR [.str (ba l),.str (ba [45])])
 trim:∀ l cs:List UInt8,l.length ≤ 100000 → (cs = ten ∨ cs = [48]) → Gives prog G 141 [.str (ba l),.str (ba cs)] (strimR [.str (ba l),.str (ba cs)])
theorem dropU_nil (cs:List UInt8):∀ l:List UInt8,dropU cs l = [] ↔ l.all (memU cs) = true
 | [] => by simp [dropU]
 | b :: l => by
  simp only [dropU,List.all_cons]
  cases h:memU cs b with
  | true => simp [dropU_nil cs l]
  | false => simp
theorem dropU_mem (cs:List UInt8):∀ l:List UInt8,∀ b ∈ dropU cs l,b ∈ l
 | [],b,h => h
 | a :: l,b,h => by
  simp only [dropU] at h
  cases hm:memU cs a with
  | true => rw [hm] at h; exact List.mem_cons_of_mem _ (dropU_mem cs l b h)
  | false => rw [hm] at h; exact h
theorem trimU_nil (l cs:List UInt8):trimU l cs = [] ↔ l.all (memU cs) = true := by
 unfold trimU
 rw [dropU_nil]
 constructor
 ·intro h
  have h2:(dropU cs l.reverse) = [] := by
   rcases hd:dropU cs l.reverse with _ | ⟨b,r⟩
   ·rfl
   ·exfalso
    have hb:memU cs b = true := by
     rw [List.all_eq_true] at h
     exact h b (by rw [hd]; simp)
    have:∀ (l:List UInt8),dropU cs l = b :: r → memU cs b = false := by
     intro l
     induction l with
     | nil => intro h; cases h
     | cons a l ih =>
      intro h
      simp only [dropU] at h
      cases hm:memU cs a with
      | true => rw [hm] at h; exact ih h
      | false => rw [hm] at h; cases h; exact hm
    rw [this _ hd] at hb
    cases hb
  rw [dropU_nil] at h2
  rw [List.all_eq_true] at h2 ⊢
  exact fun b hb => h2 b (by simpa using hb)
 ·intro h
  rw [List.all_eq_true] at h ⊢
  intro b hb
  exact h b (by have := dropU_mem cs l.reverse b (by simpa using hb); simpa using this)
theorem memU_ten (b:UInt8):memU ten b = digB b := by
 have h := b.toNat_lt
 rw [Bool.eq_iff_iff]
 simp [memU,ten,digB,nat_beq_eq,Nat.ble_eq]
 omega
theorem trim_ten (l:List UInt8):trimU l ten = [] ↔ l.all digB = true := by
 rw [trimU_nil]
 have:memU ten = digB := funext memU_ten
 rw [this]
theorem digits_ok (lib:ReadLib G) (l:List UInt8) (hl:l.length ≤ 100000):Gives prog G 139 [.str (ba l)] (digitsR [.str (ba l)]) := by
 have hfe:digitsR [.str (ba l)] = fun r => r = .bool (!l.isEmpty && l.all digB) := by funext r; simp only [digitsR,ba_list]
 rw [hfe]
 have t10:(⟨#[48,49,50,51,52,53,54,55,56,57]⟩:ByteArray) = ba ten := rfl
 refine gives (S := [(141,strimR)]) (by kernel_rfl) (by kernel_rfl) (callW_of ann139 func139 rfl (by kernel_rfl) ?_)
 rcases l with _ | ⟨b,l⟩
 ·simp [tb,c0,sb_neq]
  exact outK_pure rfl rfl
 ·simp [tb,c0,sb_neq,t10]
  refine callK_pure rfl (by rfl) (lib.trim (b :: l) ten hl (.inl rfl)) fun r hr => ?_
  simp only [strimR,ba_list] at hr
  subst hr
  have tt := trim_ten (b :: l)
  simp [tb,sb_eql]
  refine outK_pure rfl ?_
  rw [PV.bool.injEq,Bool.eq_iff_iff,decide_eq_true_eq,tt]
  simp
def ReadP (l:List UInt8) (r:PV):Prop := (∃ x q,RatText l x ∧ IsRat q x ∧ r = .tuple [q,.int .i64 0]) ∨ ((∀ x,¬ RatText l x) ∧ ∃ e,e ≠ 0 ∧ r = .tuple [ratZero,.int .i64 e])
noncomputable def readR:CRel | .str s :: _,r => ReadP s.data.toList r | _,_ => False
theorem noRat {l:List UInt8} (h:ratB l = false):∀ x,¬ RatText l x := fun x hx => by
 have := ratB_iff.2 ⟨x,hx⟩
 rw [h] at this; cases this
theorem decB_dig {l:List UInt8} (h:(!l.isEmpty && l.all digB) = false):decB l = false := by
 unfold decB; rw [h]; rfl
theorem intB_dig {l:List UInt8} (h:(!(unsigned l).1.isEmpty && (unsigned l).1.all digB) = false):intB l = false := by
 unfold intB; rw [decB_dig h]; rfl
theorem cutAt_len {l x y:List UInt8} {f:Bool} (h:cutAt 47 l = (x,y,f)):x.length ≤ l.length ∧ y.length ≤ l.length := by
 have hs := cutAt_spec (c := 47) (l := l)
 rw [h] at hs
 cases f with
 | false =>
  obtain ⟨h1,h2⟩ := hs.2 rfl
  simp only at h1 h2
  rw [h1,h2]; simp
 | true =>
  have h1 := hs.1 rfl
  simp only at h1
  rw [h1]; simp; omega
theorem unsigned_len (l:List UInt8):(unsigned l).1.length ≤ l.length := by
 rcases l with _ | ⟨b,r⟩
 ·simp [unsigned]
 ·simp only [unsigned]
  split <;> simp
theorem intV_fits {l:List UInt8} (h:intB l = true) {K:Nat} (hl:l.length ≤ K):Fits (intV l) K := by
 have := (intText_iff.2 ⟨h,rfl⟩:IntText l (intV l)).lt
 refine Int.lt_of_lt_of_le (Int.ofNat_lt.2 this) (Int.le_trans (pw_ge_ten _) (pw_mono hl))
theorem ratB_cut {l x y:List UInt8} {f:Bool} (hc:cutAt 47 l = (x,y,f)):ratB l = if f then (intB x && decB y && decide (1 < decVal y) && decide (Nat.gcd (intV x).natAbs (decVal y) = 1)) else intB x := by
 unfold ratB; rw [hc]; cases f <;> rfl
theorem zero_val:∀ {y:List UInt8},y.all (memU [48]) = true → decVal y = 0
 | [],_ => rfl
 | b :: y,h => by
  simp only [List.all_cons,Bool.and_eq_true] at h
  have ih := zero_val h.2
  have hb:b.toNat = 48 := by
   have := h.1
   simp [memU,nat_beq_eq] at this
   exact this.symm
  rw [decVal_cons,ih,hb]; simp
theorem intB_dec {y:List UInt8} (h:y.all digB = true):unsigned y = (y,false) := unsigned_pos fun hm => dig45 (digB_iff.1 ((List.all_eq_true.1 h) _ hm))
theorem intB_dec2 {y:List UInt8} (h:y.all digB = true):intB y = decB y ∧ intV y = decVal y := by
 unfold intB intV
 rw [intB_dec h]; simp
def specsRd:Specs := [(138,cutR),(140,trimpR),(141,strimR),(139,digitsR),(142,parseR),(110,oneR),(103,compareR),(143,gcdR)]
theorem readM_ok (lib:ReadLib G) (l:List UInt8) (hl:l.length ≤ 20000) (M:Int) (hM:(l.length:Int) ≤ M):Gives prog G 102 [.str (ba l),.int .i64 M] (readR [.str (ba l),.int .i64 M]) := by
 have hfe:readR [.str (ba l),.int .i64 M] = ReadP l := by funext r; simp only [readR,ba_list]
 rw [hfe]
 obtain ⟨⟨x,y,f⟩,hc⟩:∃ t:List UInt8 × List UInt8 × Bool,cutAt 47 l = t := ⟨_,rfl⟩
 obtain ⟨lx,ly⟩ := cutAt_len hc
 have lu := unsigned_len x
 have rb := ratB_cut hc
 have err:∀ {e:Int} {s:St},ratB l = false → e ≠ 0 → outK (ReadP l) (.tuple [ratZero,.int .i64 e]) s := fun h he => outK_pure rfl (.inr ⟨noRat h,_,he,rfl⟩)
 have l1:¬ M < (l.length:Int) := by omega
 refine gives (S := specsRd) (by kernel_rfl) (by kernel_rfl) (callW_of ann102 func102 rfl (by kernel_rfl) ?_)
 simp [tb,ba_size,c47]
 refine callK_pure rfl (by rfl) (lib.cut l (by omega)) fun r hr => ?_
 simp only [cutR,ba_list,hc] at hr
 subst hr
 simp [tb,ba_size,l1,c45]
 refine callK_pure rfl (by rfl) (lib.trimp x (by omega)) fun r hr => ?_
 simp only [trimpR,ba_list] at hr
 subst hr
 simp [tb]
 refine callK_pure rfl (by rfl) (digits_ok lib (unsigned x).1 (by omega)) fun r hr => ?_
 simp only [digitsR,ba_list] at hr
 subst hr
 obtain ⟨dx,hdx⟩:∃ d,d = (!(unsigned x).1.isEmpty && (unsigned x).1.all digB) := ⟨_,rfl⟩
 rw [← hdx]
 cases dx with
 | false =>
  have hi := intB_dig hdx.symm
  simp [tb]
  exact err (by rw [rb,hi]; cases f <;> simp) (by decide)
 | true =>
  have hdx2 := hdx.symm
  simp only [Bool.and_eq_true,Bool.not_eq_true',List.isEmpty_eq_false_iff] at hdx2
  cases f with
  | false =>
   simp only [Bool.false_eq_true,if_false] at rb
   simp [tb]
   refine callK_pure rfl (by rfl) (parse_ok lib.toIntLib x (by omega) hdx2.1 hdx2.2) fun r hr => ?_
   simp only [parseR,ba_list] at hr
   rcases hr with ⟨hi,q,rfl,hq⟩ | ⟨hi,rfl⟩
   ·obtain ⟨b,m,rfl⟩ := hq.shape
    obtain ⟨q1,q2,q3,q4,q5⟩ := hq.cell
    simp [tb,q1]
    have hr:IsRat (.agg [.bool b,m,.bool false,.nil]) ((intV x:Int):Rat) := IsRat.mk hq isInt_zero (by simp) (.inr ⟨rfl,by simp⟩)
    exact outK_pure (by simp [PV.pureB,PV.pureL,q5]) (.inl ⟨_,_,(ratText_iff hc).2 (.inl ⟨by simp,rfl,by simp; exact intText_iff.2 ⟨hi,rfl⟩⟩),hr,rfl⟩)
   ·simp [tb,intZero]
    exact err (by rw [rb,hi]) (by decide)
  | true =>
   simp only [if_true] at rb
   simp [tb]
   refine callK_pure rfl (by rfl) (digits_ok lib y (by omega)) fun r hr => ?_
   simp only [digitsR,ba_list] at hr
   subst hr
   obtain ⟨dy,hdy⟩:∃ d,d = (!y.isEmpty && y.all digB) := ⟨_,rfl⟩
   rw [← hdy]
   cases dy with
   | false =>
    have hi := decB_dig hdy.symm
    simp [tb]
    exact err (by rw [rb,hi]; simp) (by decide)
   | true =>
    have hdy2 := hdy.symm
    simp only [Bool.and_eq_true,Bool.not_eq_true',List.isEmpty_eq_false_iff] at hdy2
    obtain ⟨iy1,iy2⟩ := intB_dec2 hdy2.2
    have uy := intB_dec hdy2.2
    simp [tb,c48]
    refine callK_pure rfl (by rfl) (lib.trim y [48] (by omega) (.inr rfl)) fun r hr => ?_
    simp only [strimR,ba_list] at hr
    subst hr
    have tz := trimU_nil y [48]
    by_cases hz:trimU y [48] = []
    ·have v0 := zero_val (tz.1 hz)
     simp [tb,hz,c0,sb_eql]
     exact err (by rw [rb,v0]; simp) (by decide)
    ·simp [tb,hz,c0,sb_eql]
     refine callK_pure rfl (by rfl) (parse_ok lib.toIntLib x (by omega) hdx2.1 hdx2.2) fun r hr => ?_
     simp only [parseR,ba_list] at hr
     rcases hr with ⟨hi,q,rfl,hq⟩ | ⟨hi,rfl⟩
     ·obtain ⟨b,m,rfl⟩ := hq.shape
      obtain ⟨q1,q2,q3,q4,q5⟩ := hq.cell
      simp [tb,q1]
      refine callK_pure rfl (by rfl) (parse_ok lib.toIntLib y (by omega) (by rw [uy]; exact hdy2.1) (by rw [uy]; exact hdy2.2)) fun r hr => ?_
      simp only [parseR,ba_list] at hr
      rcases hr with ⟨hj,q',rfl,hq'⟩ | ⟨hj,rfl⟩
      ·rw [iy1] at hj
       rw [iy2] at hq'
       obtain ⟨c,n,rfl⟩ := hq'.shape
       obtain ⟨w1,w2,w3,w4,w5⟩ := hq'.cell
       have fy:Fits (decVal y:Int) 20000 := by
        rw [← iy2]
        exact intV_fits (by rw [iy1]; exact hj) (by omega)
       have fx:Fits (intV x) 20000 := intV_fits hi (by omega)
       have nd:decVal y ≠ 0 := fun e => hz (tz.2 (by
        have h48 := (decText_iff (l := y) (n := decVal y)).2 ⟨hj,rfl⟩
        have := decVal_pos hj
        by_cases hy48:y = [48]
        ·rw [hy48]; decide
        ·have := this hy48; omega))
       simp [run_draw,tb,q1,w1]
       refine dcallK_pure rfl rfl one_ok fun r1 hr1 => ?_
       simp only [oneR] at hr1
       obtain ⟨b1,m1,rfl⟩ := hr1.shape
       obtain ⟨u1,u2,u3,u4,u5⟩ := hr1.cell
       simp [run_draw,tb,q1,w1]
       refine dcallK_pure rfl (by simp [PV.pureL,hq'.pure,hr1.pure]) (compare_ok _ _ _ 1 hq' hr1 (fits_mono fy (by omega)) (fits_one (by omega))) fun r2 hr2 => ?_
       simp only [compareR,it_eq hq',it_eq hr1] at hr2
       subst hr2
       by_cases h1:decVal y = 1
       ·have hc1:(cmpI (decVal y:Int) 1 == 0) = true := by rw [h1]; rfl
        simp [run_draw,tb,q1,w1,hc1,q2,w2,u2]
        exact ⟨by decide +kernel,err (by rw [rb,h1]; simp) (by decide)⟩
       ·have hc1:(cmpI (decVal y:Int) 1 == 0) = false := by
         simp only [beq_eq_false_iff_ne,ne_eq,cmpI_zero]; omega
        simp [run_draw,tb,q1,w1,hc1]
        refine dcallK_pure rfl (by simp [PV.pureL,hq.pure,hq'.pure]) (gcd_ok _ _ (intV x) (decVal y) hq hq' (fits_mono fx (by omega)) (fits_mono fy (by omega))) fun r3 hr3 => ?_
        simp only [gcdR,it_eq hq,it_eq hq',Int.natAbs_natCast] at hr3
        obtain ⟨g,hg⟩:∃ g,g = Nat.gcd (intV x).natAbs (decVal y) := ⟨_,rfl⟩
        rw [← hg] at hr3
        have fg:Fits (g:Int) 20000 := fits_le fy (by rw [hg]; simp only [Int.natAbs_natCast]; exact Nat.gcd_le_right _ (by omega))
        obtain ⟨b3,m3,rfl⟩ := hr3.shape
        obtain ⟨k1,k2,k3,k4,k5⟩ := hr3.cell
        simp [run_draw,tb,q1,w1,k1]
        refine dcallK_pure rfl rfl one_ok fun r4 hr4 => ?_
        simp only [oneR] at hr4
        obtain ⟨b4,m4,rfl⟩ := hr4.shape
        obtain ⟨i1,i2,i3,i4,i5⟩ := hr4.cell
        simp [run_draw,tb,q1,w1,k1]
        refine dcallK_pure rfl (by simp [PV.pureL,hr3.pure,hr4.pure]) (compare_ok _ _ _ 1 hr3 hr4 (fits_mono fg (by omega)) (fits_one (by omega))) fun r5 hr5 => ?_
        simp only [compareR,it_eq hr3,it_eq hr4] at hr5
        subst hr5
        by_cases hg1:g = 1
        ·have hc2:(cmpI (g:Int) 1 != 0) = false := by rw [hg1]; rfl
         simp [run_draw,tb,q1,w1,k1,hc2,q2,w2,u2,k2,i2,q3,w3]
         have hq1:IsRat (.agg [.bool b,m,.bool c,n]) ⟨intV x,decVal y,nd,by show Nat.gcd _ _ = 1; omega⟩ := IsRat.mk hq hq' rfl (.inl rfl)
         refine ⟨by decide +kernel,outK_pure (by simp [PV.pureB,PV.pureL,q5,w5]) (.inl ⟨_,_,(ratText_iff hc).2 (.inr ⟨h1,rfl,intText_iff.2 ⟨hi,rfl⟩,decText_iff.2 ⟨hj,rfl⟩⟩),hq1,rfl⟩)⟩
        ·have hc2:(cmpI (g:Int) 1 != 0) = true := by
          simp only [bne_iff_ne,ne_eq,cmpI_zero]; omega
         simp [run_draw,tb,q1,w1,k1,hc2,q2,w2,u2,k2,i2]
         exact ⟨by decide +kernel,err (by rw [rb]; simp [← hg,hg1]) (by decide)⟩
      ·rw [iy1] at hj
       simp [run_draw,tb,q1,intZero]
       exact ⟨by decide +kernel,err (by rw [rb,hj]; simp) (by decide)⟩
     ·simp [tb,intZero]
      exact err (by rw [rb,hi]; simp) (by decide)
theorem read0_ok (lib:ReadLib G) (l:List UInt8) (hl:l.length ≤ 20000):Gives prog G 102 [.str (ba l),.int .i64 65536] (readR [.str (ba l),.int .i64 65536]) := readM_ok lib l hl 65536 (by omega)
def SS (L:List (List UInt8)):List PV := L.map fun l => .str (ba l)
theorem SS_len (L:List (List UInt8)):(SS L).length = L.length := by simp [SS]
theorem SS_get {L:List (List UInt8)} {i:Nat} (h:i < L.length):(SS L)[i]? = some (.str (ba L[i])) := by simp [SS,h]
theorem SS_set (L:List (List UInt8)) (i:Nat) (l:List UInt8):(SS L).set i (.str (ba l)) = SS (L.set i l) := by simp [SS,List.map_set]
def Half (L L':List (List UInt8)) (i:Nat):Prop := L'.length = L.length ∧ ∀ x,x < L.length → L'[x]? = if x < i ∨ L.length ≤ x + i then L[L.length - 1 - x]? else L[x]?
theorem Half.done {L L':List (List UInt8)} {i:Nat} (h:Half L L' i) (hi:L.length ≤ 2 * i+1):L' = L.reverse := by
 refine List.ext_getElem? fun x => ?_
 by_cases hx:x < L.length
 ·rw [h.2 x hx,List.getElem?_reverse hx]
  split
  ·rfl
  ·rename_i hn
   have:L.length - 1 - x = x := by omega
   rw [this]
 ·rw [List.getElem?_eq_none (by have := h.1; omega),List.getElem?_eq_none (by simp; omega)]
theorem Half.step {L L':List (List UInt8)} {i:Nat} (h:Half L L' i) (hi:2 * i+1 < L.length) (h1:i < L'.length) (h2:L.length - 1 - i < L'.length):Half L ((L'.set i L'[L.length - 1 - i]).set (L.length - 1 - i) L'[i]) (i+1) := by
 refine ⟨by simp [h.1],fun x hx => ?_⟩
 have g1:L'[L.length - 1 - i]? = L[L.length - 1 - i]? := by rw [h.2 _ (by omega),if_neg (by omega)]
 have g2:L'[i]? = L[i]? := by rw [h.2 _ (by omega),if_neg (by omega)]
 have e1:some L'[L.length - 1 - i] = L[L.length - 1 - i]? := by rw [← g1]; simp
 have e2:some L'[i] = L[i]? := by rw [← g2]; simp
 by_cases a:x = L.length - 1 - i
 ·rw [a,List.getElem?_set_self (by simp; omega),e2,if_pos (by omega)]
  congr 1; omega
 ·rw [List.getElem?_set_ne (fun e => a e.symm)]
  by_cases b:x = i
  ·rw [b,List.getElem?_set_self (by omega),e1,if_pos (by omega)]
  ·rw [List.getElem?_set_ne (fun e => b e.symm),h.2 x hx]
   by_cases c:x < i ∨ L.length ≤ x + i
   ·rw [if_pos c,if_pos (by omega)]
   ·rw [if_neg c,if_neg (by omega)]
def revI (L:List (List UInt8)) (j k0:Nat) (H:List (Nat × Ent)) (Z:List Nat):Nat → List PV → St → Prop := fun w vs st => ∃ (i:Nat) (k:Nat) (L':List (List UInt8)) (Hk:List (Nat × Ent)),vs = [.int .i64 (i:Int),.int .i64 ((L.length:Int) - 1 - i),.own j 0 L.length] ∧ i + w = L.length ∧ Half L L' i ∧
 k0 ≤ k ∧ Go.Pi.look Hk j = some ⟨1,SS L'⟩ ∧ (∀ e,upd Hk j e = upd H j e) ∧ st = ⟨k,Hk,Z⟩
theorem reverse_own {S:Specs} (L:List (List UInt8)) (j k0:Nat) (H:List (Nat × Ent)) (Z:List Nat) (hj:Go.Pi.look H j = some ⟨1,SS L⟩) (hZ:memB Z j = false) (hn:L.length < 1000000) :
  CallW prog (specEnv prog G S) G A1 114 [.own j 0 L.length] ⟨k0,H,Z⟩ (fun _ st => ∃ k,k0 ≤ k ∧ st = ⟨k,upd H j ⟨1,SS L.reverse⟩,Z⟩) := by
 refine callW_of ann114 func114 rfl (by kernel_rfl) ?_
 have w1:IntKind.i64.wrap ((L.length:Int) - 1) = (L.length:Int) - 1 := w_i64 (by omega)
 simp [run_draw,tb,lenPV,w1]
 refine loopK_of (revI L j k0 H Z) rfl rfl ?step L.length _ _ ?init
 case init => exact ⟨0,_,L,H,by simp [run_draw],by omega,⟨rfl,fun x hx => by rw [if_neg (by omega)]⟩,by omega,hj,fun _ => rfl,rfl⟩
 case step =>
 rintro w vs st ⟨i,k,L',Hk,rfl,hiw,hh,hk,hl,hu,rfl⟩
 by_cases hc:(i:Int) < (L.length:Int) - 1 - i
 ·have wi:IntKind.i64.wrap ((i:Int)+1) = ((i+1:Nat):Int) := w_i64 (by omega)
  have wl:IntKind.i64.wrap ((L.length:Int) - 1 - i - 1) = (L.length:Int) - 1 - ((i+1:Nat):Int) := by rw [show (L.length:Int) - 1 - i - 1 = (L.length:Int) - 1 - ((i+1:Nat):Int) by omega]; exact w_i64 (by omega)
  have el:(L.length:Int) - 1 - i = ((L.length - 1 - i:Nat):Int) := by omega
  obtain ⟨q,hq⟩:∃ q,q = L.length - 1 - i := ⟨_,rfl⟩
  rw [el,← hq] at wl hc ⊢
  have l1 := hh.1
  have g1:(SS L')[q]? = _ := SS_get (L := L') (i := q) (by omega)
  have g2:(SS L')[i]? = _ := SS_get (L := L') (i := i) (by omega)
  have hst := hh.step (by omega) (by omega) (by omega)
  have i1:i < L.length := by omega
  have q1:q < L.length := by omega
  have lus:∀ E,Go.Pi.look (Go.Pi.upd Hk j E) j = some E := fun E => look_upd_same hl
  have g1' := getE g1
  have g2' := getE g2
  have g3:(SS (L'.set i L'[q]))[q]? = _ := SS_get (L := L'.set i L'[q]) (i := q) (by simp; omega)
  have g3' := getE g3
  have n1:(SS L').length = L.length := by rw [SS_len,l1]
  simp [run_draw,tb,lenPV,hc,hl,hZ,g1,g2,g1',g2',g3',cells_str,i1,q1,lus,SS_set,wi,wl,n1,upd_upd,SS_len,l1]
  refine ⟨logOk_free (by simp only [List.map_cons,List.map_nil,tri,List.isEmpty_nil,List.isEmpty_cons]; decide +kernel),w - 1,by omega,i+1,_,_,_,by simp,by omega,?_,by omega,look_upd_same hl,fun e => by rw [upd_upd,hu],rfl⟩
  subst hq
  exact hst
 ·simp [run_draw,tb,lenPV,hc]
  refine ⟨_,by omega,rfl,?_⟩
  rw [← hh.done (by omega),← hu,upd_self hl]
def strR (l:List UInt8):PV → Prop := fun r => r = .str (ba l)
noncomputable def bytesOf:PV → List UInt8 | .str s => s.data.toList | _ => []
noncomputable def bytesOfL:PV → List (List UInt8) | .slice es => es.map bytesOf | _ => []
theorem bytesOf_SS (L:List (List UInt8)):bytesOfL (.slice (SS L)) = L := by
 simp only [bytesOfL,SS,List.map_map]
 induction L with
 | nil => rfl
 | cons a L ih => simp only [List.map_cons,ih]; rfl
noncomputable def itoaR:CRel | [.int _ n],r => strR (Lib.decDigits n.toNat) r | _,_ => False
noncomputable def repeatR:CRel | [.str s,.int _ n],r => strR (Lib.repeatL s.data.toList n.toNat) r | _,_ => False
noncomputable def joinR:CRel | [v,.str s],r => strR (Lib.join (bytesOfL v) s.data.toList) r | _,_ => False
structure TextLib (G:Nat → Option PV):Prop where
 itoa:∀ n:Int,0 ≤ n → n < 4294967296 → Gives prog G 112 [.int .i64 n] (itoaR [.int .i64 n])
 rep:∀ n:Nat,n ≤ 9 → Gives prog G 113 [.str (ba [48]),.int .i64 n] (repeatR [.str (ba [48]),.int .i64 n])
 join:∀ L:List (List UInt8),L.length ≤ 100000 → (∀ l ∈ L,l.length ≤ 9) → Gives prog G 115 [.slice (SS L),.str (ba [])] (joinR [.slice (SS L),.str (ba [])])
def textR:CRel | [v],r => ∃ l,r = .str (ba l) ∧ IntText l (it v) | _,_ => False
def IsGs (gv:PV) (H:List (Nat × Ent)) (j n0:Nat) (gs:List (List UInt8)):Prop := (gv = .nil ∧ gs = []) ∨ (gv = .own j 0 gs.length ∧ gs ≠ [] ∧ n0 ≤ j ∧ Go.Pi.look H j = some ⟨1,SS gs.reverse⟩)
def textI (b:Bool) (m:PV) (V W:Nat):Nat → List PV → St → Prop := fun w vs st => ∃ (mv gv:PV) (ds:List Int) (gs:List (List UInt8)) (k j:Nat) (H:List (Nat × Ent)),vs = [mv,gv,.ptr 0 0 0] ∧ IsMag mv ds ∧ Norm ds ∧ ds.length < 100000 ∧
 TextInv V (val ds).toNat gs ∧ (val ds).toNat < 1000000000 ^ w ∧ gs.length + w = W ∧ IsGs gv H j 1 gs ∧ Go.Pi.look H 0 = some ⟨2,[.agg [.bool b,m]]⟩ ∧ (∀ q ∈ H,q.1 < k) ∧ 0 < k ∧ j < k ∧ st = ⟨k,H,[]⟩
theorem pw_ten:∀ n:Nat,pw n ≤ ((1000000000 ^ (2 * n):Nat):Int)
 | 0 => by simp [pw]
 | n+1 => by
  have ih := pw_ten n
  have e:pw (n+1) = 4294967296 * pw n := rfl
  have e2:1000000000 ^ (2 * (n+1)) = 1000000000 ^ (2 * n) * 1000000000000000000 := by
   rw [show 2 * (n+1) = 2 * n + 2 by omega,Nat.pow_add]
  obtain ⟨Y,hY⟩:∃ Y:Nat,Y = 1000000000 ^ (2 * n) := ⟨_,rfl⟩
  rw [e,e2,← hY]
  rw [← hY] at ih
  omega
theorem div_lt_pow {v w:Nat} (h:v < 1000000000 ^ (w+1)):v / 1000000000 < 1000000000 ^ w := by
 rw [Nat.pow_succ] at h
 exact (Nat.div_lt_iff_lt_mul (by decide)).2 h
theorem SS_snoc (L:List (List UInt8)) (l:List UInt8):SS L ++ [.str (ba l)] = SS (L ++ [l]) := by simp [SS]
theorem reify_SS {hp:Nat → Option Ent} {r n:Nat} {L:List (List UInt8)} (h:hp r = some ⟨1,SS L⟩) (hn:L.length = n):reify hp (.own r 0 n) = some (.slice (SS L),[r]) := by
 unfold reify
 rw [show (PV.own r 0 n).pureB = false from rfl]
 exact reifyW_own h (by rw [SS_len,hn]) (by decide) fun v hv => by
  simp only [SS,List.mem_map] at hv
  obtain ⟨l,_,rfl⟩ := hv
  rfl
theorem reifyL_SS {hp:Nat → Option Ent} {r n:Nat} {L:List (List UInt8)} {s:ByteArray} (h:hp r = some ⟨1,SS L⟩) (hn:L.length = n):reifyL hp [.own r 0 n,.str s] = some ([.slice (SS L),.str s],[r]) := by
 simp only [reifyL,mapR,reify_SS h hn,reify_pure (show (PV.str s).pureB = true from rfl)]
 rfl
theorem flat_len:∀ {gs:List (List UInt8)},(∀ g ∈ gs,g.length ≤ 9) → gs.flatten.length ≤ 9 * gs.length
 | [],_ => by simp
 | g :: gs,h => by
  have := flat_len (gs := gs) fun x hx => h x (List.mem_cons_of_mem _ hx)
  have := h g (List.mem_cons_self ..)
  rw [List.flatten_cons,List.length_append,List.length_cons]; omega
theorem text_ok (lib:TextLib G) (v:PV) (z:Int) (hv:IsInt v z) (fz:Fits z 2000):Gives prog G 76 [v] (textR [v]) := by
 have hfe:textR [v] = fun r => ∃ l,r = .str (ba l) ∧ IntText l z := by funext r; simp only [textR,it_eq hv]
 rw [hfe]
 obtain ⟨b,m,ds,rfl,hc⟩ := hv
 have h1 := hc.mag.len
 have hl := hc.len fz
 obtain ⟨W,hW,hlt0⟩:∃ W:Nat,W ≤ 4000 ∧ z.natAbs < 1000000000 ^ W := ⟨2 * 2000,by omega,Int.ofNat_lt.1 (Int.lt_of_lt_of_le fz (pw_ten 2000))⟩
 refine gives (S := [(111,shortR),(112,itoaR),(113,repeatR),(115,joinR)]) (by kernel_rfl) (by kernel_rfl) (callW_of ann76 func76 rfl (by kernel_rfl) ?_)
 by_cases h0:ds = []
 ·have hz0 := hc.zero_iff.2 h0
  have hl0:((ds.length:Int) == 0) = true := by rw [h0]; rfl
  simp [run_draw,tb,h1,hl0,hc.mag.cellOk,c48]
  exact outK_pure rfl ⟨_,rfl,.inl ⟨by omega,by rw [hz0]; exact DecText.zero⟩⟩
 ·have hp:0 < ds.length := List.length_pos_iff.2 h0
  have hl0:((ds.length:Int) == 0) = false := by simp only [beq_eq_false_iff_ne,ne_eq]; omega
  have vz:(val ds).toNat = z.natAbs := by
   have := val_nonneg hc.norm.dig
   have hz := hc.val
   cases b <;> simp at hz <;> omega
  have vp:0 < z.natAbs := by
   have:z ≠ 0 := fun e => h0 (hc.zero_iff.1 e)
   omega
  simp [run_draw,tb,h1,hl0,hc.mag.cellOk]
  refine loopK_of (textI b m z.natAbs W) rfl rfl ?step W _ _ ?init
  case init => exact ⟨_,_,ds,[],_,0,_,rfl,hc.mag,hc.norm,by omega,by rw [vz]; exact TextInv.start _,by rw [vz]; exact hlt0,by simp,.inl ⟨rfl,rfl⟩,rfl,by simp,by omega,by omega,rfl⟩
  case step =>
  rintro w vs st ⟨mv,gv,es,gs,k,j,H,rfl,hm,hn,hk1,inv,hlt,hw,hg,l0,hlk,hk,hj,rfl⟩
  have hml := hm.len
  rcases Nat.eq_zero_or_pos es.length with e0 | e0
  ·have e1:((es.length:Int) > 0) = False := by simp [e0]
   have ez:es = [] := List.eq_nil_of_length_eq_zero e0
   subst ez
   simp [tb,hml,e0]
   have hd:DecText gs.flatten z.natAbs := by
    rcases inv.fin rfl with h | h
    ·omega
    ·exact h
   rcases hg with ⟨_,rfl⟩ | ⟨rfl,hne,hj0,lj⟩
   ·exact absurd rfl hd.ne
   have jn:¬ j = 0 := by omega
   have n0j:¬ 0 = j := by omega
   have rv := reverse_own (G := G) (S := [(111,shortR),(112,itoaR),(113,repeatR),(115,joinR)]) gs.reverse j (k+1+1+1+1) H [] lj rfl (by simp; omega)
   rw [List.length_reverse,List.reverse_reverse] at rv
   refine callK_run (by rfl) (rv.mono fun v st h => ?_)
   obtain ⟨k2,hk2,rfl⟩ := h
   have lj2:Go.Pi.look (Go.Pi.upd H j ⟨1,SS gs⟩) j = some ⟨1,SS gs⟩ := look_upd_same lj
   have l02:Go.Pi.look (Go.Pi.upd H j ⟨1,SS gs⟩) 0 = some ⟨2,[.agg [.bool b,m]]⟩ := by rw [look_upd_ne jn]; exact l0
   simp [tb]
   refine callK_own (fr := [j]) rfl ?_ (lib.join gs (by omega) inv.len) fun r z hr hz => ?_
   ·exact reifyL_SS lj2 rfl
   simp only [joinR,strR,bytesOf_SS,ba_list,join_nil] at hr
   subst hr
   have fl := flat_len inv.len
   obtain ⟨F,hF⟩:∃ F,F = gs.flatten := ⟨_,rfl⟩
   rw [← hF] at fl hd ⊢
   have z0:memB z 0 = false := hz 0 rfl (by simp [memB,beq_lit,n0j,jn])
   cases b with
   | false =>
    simp [tb,l02]
    have hz1 := hc.neg_iff
    simp at hz1
    exact outK_pure rfl ⟨_,rfl,.inl ⟨hz1,hd⟩⟩
   | true =>
    have hz1 := hc.neg_iff
    simp at hz1
    have f1:1 + F.length ≤ 9223372036854775807 := by omega
    have ad:strBin .add (ba [45]) (ba F) = some (.str (ba (45 :: F))) := by
     rw [sb_add]
     simp [f1,ble_lit]
    simp [tb,l02,c45,ad]
    exact outK_pure rfl ⟨_,rfl,.inr ⟨hz1,F,rfl,hd⟩⟩
  ·have e1:(0:Int) < es.length := by omega
   have hd0 := val_nonneg hn.dig
   obtain ⟨V,hV⟩:∃ V:Nat,(V:Int) = val es := ⟨(val es).toNat,by omega⟩
   have hVn:(val es).toNat = V := by omega
   have hVp:0 < V := by
    have := norm_pos hn (fun e => by rw [e] at e0; simp at e0)
    omega
   rw [hVn] at inv hlt
   simp [tb,hml,e0,e1]
   refine callK_pure rfl (by simp [PV.pureL,PV.pureB,hm.pure]) (short_ok mv es 1000000000 hm hn.dig (by omega) (by omega)) fun r hr => ?_
   simp only [shortR,mg_eq hm] at hr
   obtain ⟨qv,qs,rfl,hq,hqn,hqv⟩ := hr
   obtain ⟨t,ht,htv⟩:∃ t:Nat,val es % 1000000000 = (t:Int) ∧ t = V % 1000000000 := ⟨V % 1000000000,by omega,rfl⟩
   have hqV:(val qs).toNat = V / 1000000000 := by omega
   have wt:IntKind.i64.wrap (t:Int) = t := w_i64 (by omega)
   have dt:DecText (Lib.decDigits t) t := decText_digits t
   rw [ht]
   simp [tb,wt]
   refine callK_pure rfl (by rfl) (lib.itoa t (by omega) (by omega)) fun r hr => ?_
   simp only [itoaR,strR,Int.toNat_natCast] at hr
   subst hr
   obtain ⟨s,hs⟩:∃ s,s = Lib.decDigits t := ⟨_,rfl⟩
   rw [← hs] at dt ⊢
   rw [htv] at dt
   have sl := dt.len (show V % 1000000000 < 10 ^ 9 by omega) (by omega)
   have hql := hq.len
   have ws:IntKind.i64.wrap (9 - (s.length:Int)) = ((9 - s.length:Nat):Int) := by rw [w_i64 (by omega)]; omega
   have lsum:9 - s.length + s.length ≤ 9223372036854775807 := by omega
   obtain ⟨s2,hs2,inv2⟩:∃ s2,s2 = (if qs.length = 0 then s else padTo s) ∧ TextInv z.natAbs (V / 1000000000) (s2 :: gs) := by
    refine ⟨_,rfl,?_⟩
    by_cases q0:qs.length = 0
    ·rw [if_pos q0]
     have qz:qs = [] := List.eq_nil_of_length_eq_zero q0
     subst qz
     have:V / 1000000000 = 0 := by rw [← hqV]; rfl
     rw [this]
     exact inv.last dt hVp this
    ·rw [if_neg q0]
     refine inv.more dt ?_
     have := norm_pos hqn (fun e => q0 (by rw [e]; rfl))
     omega
   have cont:∀ (gv2:PV) (k2 j2:Nat) (H2:List (Nat × Ent)),IsGs gv2 H2 j2 1 (s2 :: gs) → Go.Pi.look H2 0 = some ⟨2,[.agg [.bool b,m]]⟩ → (∀ q ∈ H2,q.1 < k2) → 0 < k2 → j2 < k2 → ∃ m',m' < w ∧ textI b m z.natAbs W m' [qv,gv2,.ptr 0 0 0] ⟨k2,H2,[]⟩ := fun gv2 k2 j2 H2 h1 h2 h3 h4 h5 => by
    rcases Nat.eq_zero_or_pos w with w0 | w0
    ·rw [w0] at hlt
     omega
    ·refine ⟨w - 1,by omega,qv,gv2,qs,s2 :: gs,k2,j2,H2,rfl,hq,hqn,?_,by rw [hqV]; exact inv2,?_,by simp; omega,h1,h2,h3,h4,h5,rfl⟩
     ·have:qs.length ≤ es.length := by
       refine norm_len hqn ?_
       have h1 := val_lt hn.dig
       have:val qs ≤ val es := by omega
       omega
      omega
     ·rw [hqV]
      refine div_lt_pow ?_
      rw [show w - 1+1 = w by omega]
      exact hlt
   by_cases q0:qs.length = 0
   ·rw [if_pos q0] at hs2
    rw [← hs2]
    rcases hg with ⟨rfl,rfl⟩ | ⟨rfl,hne,hj0,lj⟩
    ·skip
     simp [tb,hql,q0,buildSliceOp,putParts,repeatP,uniform,PV.pureL,PV.pureB,appendOp,appended,elems,PV.cells]
     exact cont _ _ _ _ (.inr ⟨rfl,by simp,by omega,by rw [look_one_cons]; rfl⟩) (by rw [look_cons_ne (by omega)]; exact l0) (cons_lt hlk (by omega) (by omega)) (by omega) (by omega)
    ·have n0j:¬ 0 = j := by omega
     have m1:(2 * (gs.length+1)+1000) * 16 ≤ 140737488355328 := by omega
     have m2:¬ gs.length+1 ≤ gs.length := by omega
     simp [tb,hql,q0,buildSliceOp,putParts,repeatP,uniform,PV.pureL,PV.pureB,appendOp,appended,elems,PV.cells,lj,SS_len,m1,m2]
     exact cont _ _ _ _ (.inr ⟨rfl,by simp,by omega,by rw [look_one_cons,SS_snoc,List.reverse_cons]⟩) (by rw [look_cons_ne (by omega),look_del_ne n0j]; exact l0) (cons_lt (del_lt hlk) (by omega) (by omega)) (by omega) (by omega)
   ·have q1:0 < qs.length := by omega
    rw [if_neg q0] at hs2
    simp [tb,hql,ba_size,q1,ws]
    refine callK_pure rfl (by rfl) (lib.rep (9 - s.length) (by omega)) fun r hr => ?_
    simp only [repeatR,strR,ba_list,Int.toNat_natCast,repeat_zeros] at hr
    subst hr
    have ad:strBin .add (ba (zeros (9 - s.length))) (ba s) = some (.str (ba s2)) := by
     rw [sb_add,hs2]
     simp [zeros,padTo,lsum,ble_lit]
    rcases hg with ⟨rfl,rfl⟩ | ⟨rfl,hne,hj0,lj⟩
    ·skip
     simp [tb,ad,buildSliceOp,putParts,repeatP,uniform,PV.pureL,PV.pureB,appendOp,appended,elems,PV.cells]
     exact cont _ _ _ _ (.inr ⟨rfl,by simp,by omega,by rw [look_one_cons]; rfl⟩) (by rw [look_cons_ne (by omega)]; exact l0) (cons_lt hlk (by omega) (by omega)) (by omega) (by omega)
    ·have n0j:¬ 0 = j := by omega
     have m1:(2 * (gs.length+1)+1000) * 16 ≤ 140737488355328 := by omega
     have m2:¬ gs.length+1 ≤ gs.length := by omega
     simp [tb,ad,buildSliceOp,putParts,repeatP,uniform,PV.pureL,PV.pureB,appendOp,appended,elems,PV.cells,lj,SS_len,m1,m2]
     exact cont _ _ _ _ (.inr ⟨rfl,by simp,by omega,by rw [look_one_cons,SS_snoc,List.reverse_cons]⟩) (by rw [look_cons_ne (by omega),look_del_ne n0j]; exact l0) (cons_lt (del_lt hlk) (by omega) (by omega)) (by omega) (by omega)
end Go.Proofs.Tryz
namespace Go.Proofs.Tryz
open Go Go.Pi Go.Num Go.Lin
variable [Hole] {G:Nat → Option PV}
noncomputable def numberR:CRel | [v],r => ∃ l,r = .str (ba l) ∧ RatText l (ratv v) | _,_ => False
theorem fits_ten {z:Int} {K:Nat} (h:Fits z K):z.natAbs < 10 ^ (18 * K) := by
 have h1 := Int.ofNat_lt.1 (Int.lt_of_lt_of_le h (pw_ten K))
 have e:10 ^ (18 * K) = 1000000000 ^ (2 * K) := by
  rw [show 18 * K = 9 * (2 * K) by omega,Nat.pow_mul]
 rw [e]; exact h1
theorem number_ok (lib:TextLib G) (v:PV) (q:Rat) (hv:IsRat v q) (f:RFits q 2000):Gives prog G 36 [v] (numberR [v]) := by
 have hfe:numberR [v] = fun r => ∃ l,r = .str (ba l) ∧ RatText l q := by funext r; simp only [numberR,ratv_eq hv]
 rw [hfe]
 have hv0 := hv
 obtain ⟨b,m,c,n,d,rfl,h1,h2,h3⟩ := hv.cases
 obtain ⟨c1,c2,c3,c4,c5⟩ := h1.cell
 obtain ⟨e1,e2,e3,e4,e5⟩ := h2.cell
 refine gives (S := [(75,wholeR),(76,textR)]) (by kernel_rfl) (by kernel_rfl) (callW_of ann36 func36 rfl (by kernel_rfl) ?_)
 simp [tb,c1,e1]
 refine callK_pure rfl (by simp [PV.pureL,hv0.pure]) (whole_ok _ _ hv0 (fits_mono f.den (by omega))) fun r hr => ?_
 simp only [wholeR,ratv_eq hv0] at hr
 subst hr
 by_cases hd:q.den = 1
 ·simp [tb,c1,e1,hd]
  refine callK_pure rfl (by simp [PV.pureL,h1.pure]) (text_ok lib _ _ h1 f.num) fun r hr => ?_
  simp only [textR,it_eq h1] at hr
  obtain ⟨l,rfl,hl⟩ := hr
  simp [tb]
  exact outK_pure rfl ⟨_,rfl,.inl ⟨hd,hl⟩⟩
 ·have hdd:d = q.den := by rcases h3 with h | h; exact h; exact absurd h.2 hd
  subst hdd
  simp [run_draw,tb,c1,e1,hd]
  refine dcallK_pure rfl (by simp [PV.pureL,h1.pure]) (text_ok lib _ _ h1 f.num) fun r hr => ?_
  simp only [textR,it_eq h1] at hr
  obtain ⟨l,rfl,hl⟩ := hr
  have ll := hl.len (k := 18 * 2000) (fits_ten f.num) (by omega)
  have a1:strBin .add (ba l) (ba [47]) = some (.str (ba (l ++ [47]))) := by
   have:l.length+1 ≤ 9223372036854775807 := by omega
   rw [sb_add]
   simp [ble_lit,this]
  simp [run_draw,tb,c1,e1,c47,a1]
  refine dcallK_pure rfl (by simp [PV.pureL,h2.pure]) (text_ok lib _ _ h2 f.den) fun r hr => ?_
  simp only [textR,it_eq h2] at hr
  obtain ⟨l2,rfl,hl2⟩ := hr
  have hl3:DecText l2 q.den := by
   rcases hl2 with ⟨_,h⟩ | ⟨h,_⟩
   ·simpa using h
   ·omega
  have ll2 := hl2.len (k := 18 * 2000) (fits_ten f.den) (by omega)
  have a2:strBin .add (ba (l ++ [47])) (ba l2) = some (.str (ba (l ++ 47 :: l2))) := by
   have:l.length+1 + l2.length ≤ 9223372036854775807 := by omega
   rw [sb_add]
   simp [ble_lit,this]
  simp [run_draw,tb,a2,c2,e2]
  refine ⟨by decide +kernel,?_⟩
  exact outK_pure rfl ⟨_,rfl,.inr ⟨hd,l,l2,rfl,hl,hl3⟩⟩
def gt (l:List (List UInt8)) (i:Nat):List UInt8 := l.getD i []
theorem ReadP.cases {l:List UInt8} {r:PV} (h:ReadP l r):∃ b m c u e x,r = .tuple [.agg [.bool b,m,.bool c,u],.int .i64 e] ∧ IsRat (.agg [.bool b,m,.bool c,u]) x ∧ ((e = 0 ∧ RatText l x) ∨ (e ≠ 0 ∧ ∀ y,¬ RatText l y)) := by
 rcases h with ⟨x,q,h1,h2,rfl⟩ | ⟨h1,e,he,rfl⟩
 ·have h2' := h2
  obtain ⟨b,m,c,u,d,rfl,_,_,_⟩ := h2.cases
  exact ⟨b,m,c,u,0,x,rfl,h2',.inl ⟨rfl,h1⟩⟩
 ·exact ⟨false,.nil,false,.nil,e,0,rfl,isRat_zero,.inr ⟨he,h1⟩⟩
theorem Read_ok (lib:ReadLib G) (l:List UInt8) (hl:l.length ≤ 20000):Gives prog G 77 [.str (ba l)] (readR [.str (ba l)]) := by
 have hfe:readR [.str (ba l)] = ReadP l := by funext r; simp only [readR,ba_list]
 rw [hfe]
 refine gives (S := [(102,readR)]) (by kernel_rfl) (by kernel_rfl) (callW_of ann77 func77 rfl (by kernel_rfl) ?_)
 simp [run_draw,tb]
 refine callK_pure rfl rfl (read0_ok lib l hl) fun r hr => ?_
 simp only [readR,ba_list] at hr
 have hr0 := hr
 obtain ⟨b,m,c,u,e,x,rfl,h1,h2⟩ := hr.cases
 obtain ⟨b',m',c',u',d,ee,i1,i2,_⟩ := h1.cases
 simp only [PV.agg.injEq,List.cons.injEq,PV.bool.injEq,and_true] at ee
 obtain ⟨rfl,rfl,rfl,rfl⟩ := ee
 obtain ⟨a1,a2,a3,a4,a5⟩ := i1.cell
 obtain ⟨b1,b2,b3,b4,b5⟩ := i2.cell
 simp [run_draw,tb,a1,b1]
 exact outK_pure (by simp [PV.pureB,PV.pureL,a5,b5]) hr0
end Go.Proofs.Tryz
