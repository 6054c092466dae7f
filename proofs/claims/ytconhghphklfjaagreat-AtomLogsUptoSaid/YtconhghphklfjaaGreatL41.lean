/- After a crash the log has the records of the groups that are there and no others, with their numbers and data; the conditions are those of the given statement, for arguments that a machine can hold. Part 41 of 54. -/
import Derived.Test.YtconhghphklfjaaGreatL40
namespace Go.Proofs.YtconhghphklfjaaGreat.Am
open Go
theorem B3 : ∀(k n:Nat),n<128^(k+1)→digits (k+1) n=digits k n:=by
 intro k
 induction k with
 | zero=>intro n I; rw [fY (by simpa using I),fY (by simpa using I)]
 | succ k J =>
  intro n I
  by_cases h:n<128
  ·rw [fY h,fY h]
  ·have U:n/128<128^(k+1):=by
    rw [Nat.div_lt_iff_lt_mul (by omega)]
    rw [Nat.pow_succ] at I
    exact I
   rw [digits,if_neg h,J _ U,digits,if_neg h]
set_option maxRecDepth 10000 in
theorem NU {n:Nat}(h:n<256): Nat.land n 127=n%128:=by
 have:∀m:Fin 256,Nat.land m.1 127=m.1%128:=by decide
 exact this ⟨n,h⟩
theorem B4 {n:Nat}(h:n<256): intV .and .u8 (n:Int) 127=some (.int .u8 ((n%128:Nat):Int)):=by
 have I:((n:Int)%(2^(IntKind.u8).bits:Int)).toNat=n:=by simp only [IntKind.bits]; omega
 have J:((127:Int)%(2^(IntKind.u8).bits:Int)).toNat=127:=by simp [IntKind.bits]
 simp only [intV,bitsV,I,J,NU h,wrap_u8]
 congr 2
 omega
theorem B5 {h:H}{n:Nat}(I:n<18446744073709551616): convV Tryz.prog h 5 35 (.int .u8 (n:Int))=some (.int .u64 (n:Int),h):=by
 simp only [convV,Tryz.underlying5,Tryz.underlying35,wrap_u64 I]
theorem B6 {h:H}{n:Nat}(I:n<9223372036854775808): convV Tryz.prog h 5 3 (.int .u8 (n:Int))=some (.int .i64 (n:Int),h):=by
 simp only [convV,Tryz.underlying5,Tryz.underlying3,wrap_i64 I]
theorem AV {h:H}{n:Nat}(I:n<9223372036854775808): convV Tryz.prog h 35 3 (.int .u64 (n:Int))=some (.int .i64 (n:Int),h):=by
 simp only [convV,Tryz.underlying35,Tryz.underlying3,wrap_i64 I]
theorem AW (i:Nat): (128:Nat)^i=2^(7*i):=by rw [Nat.pow_mul]
theorem R6 {d i:Nat}(U:d<128)(hi:i≤8): shiftV .shl .u64 (d:Int) ((7*i:Nat):Int)=some (.int .u64 ((d*128^i:Nat):Int)):=by
 have J:(128:Nat)^i≤128^8:=Nat.pow_le_pow_right (by omega) hi
 have I:d*128^i<18446744073709551616:=by
  have:d*128^i≤127*128^8:=Nat.mul_le_mul (by omega) J
  omega
 simp only [shiftV,IntKind.bits,Int.toNat_natCast]
 rw [show min (7*i) 64=7*i by omega,show decide (((7*i:Nat):Int)<0)=false by simp; omega,cond_false]
 have:(d:Int)*2^(7*i)=((d*128^i:Nat):Int):=by rw [AW]; push_cast; rfl
 simp only [this,wrap_u64 I]
theorem LU {a d i:Nat}(I:a<128^i)(hd:d<128)(hi:i≤8): intV .or .u64 (a:Int) ((d*128^i:Nat):Int)=some (.int .u64 ((a+d*128^i:Nat):Int)):=by
 have J:(128:Nat)^i≤128^8:=Nat.pow_le_pow_right (by omega) hi
 have hm:d*128^i≤127*128^8:=Nat.mul_le_mul (by omega) J
 have U:((a:Int)%(2^(IntKind.u64).bits:Int)).toNat=a:=by simp only [IntKind.bits]; omega
 have h2:((d*128^i:Nat):Int)%(2^(IntKind.u64).bits:Int)=((d*128^i:Nat):Int):=by simp only [IntKind.bits]; omega
 have h3:Nat.lor a (d*128^i)=a+d*128^i:=by
  have e:d*128^i=2^(7*i)*d:=by rw [←AW,Nat.mul_comm]
  have:=Nat.two_pow_add_eq_or_of_lt (i:=7*i) (b:=a) (by rw [←AW]; exact I) d
  rw [←e] at this
  rw [Nat.add_comm a,this]
  exact Nat.or_comm _ _
 simp only [intV,bitsV,U,h2,Int.toNat_natCast,h3]
 rw [wrap_u64 (by omega)]
section
variable {told:Nat→Option (List V→H→Option (V×H))} {h:H} {S:List ah} {X:ah} {c:Nat} {v w:V} {l m:List Nat}
theorem jN (I:W told): Call ⟨Tryz.prog,told⟩ 153 [.bool true] h fun v h'=>v=.aW []∧h'=h:=by
 refine Call.of_wp (I.free _ rfl) Tryz.func153 rfl rfl (zg rfl (zm rfl (ae.aE rfl rfl rfl (dA rfl rfl) (rfl) (zv (zj rfl (WP.skip ?_))))))
 exact ⟨trivial,_,rfl,rfl,rfl⟩
theorem I4 (U:W told){x:Nat}(s:Sat h (pt c (.cells 1 [v] false)::X::S))(hX:bU X (bZ v (x::l))):
  Call ⟨Tryz.prog,told⟩ 149 [.ptr c 0] h fun r h'=>r=.int .u8 (x:Int)∧∃u,bU X (bZ u l)∧Sat h' (pt c (.cells 1 [u] false)::X::S):=by
 have J:=s.ax (k:=1) rfl hX
 obtain ⟨id,off,e1,e2⟩:=eS J (i:=0) (b:=x) rfl
 have I:=cT J (a:=1) (by simp)
 have hu:=I.2.1.cells
 refine Call.of_wp (U.free _ rfl) Tryz.func149 rfl rfl (zg rfl (za rfl (zv (zg rfl (zm rfl (zn rfl (zf rfl (iG _ _) (zl rfl (by exact s.ld (k:=0) rfl bg rfl) ?_))))))))
 refine zo rfl (aL rfl rfl rfl (aG Tryz.underlying32 J)) (ae.aR rfl rfl rfl (af rfl rfl dS) (by simp) ?_)
 refine ae.call rfl rfl rfl rfl rfl rfl rfl (jN U) ?_
 rintro r h' ⟨rfl,rfl⟩
 refine zv (zg rfl (zm rfl (zn rfl (zf rfl (iG _ _) (zl rfl (by exact s.ld (k:=0) rfl bg rfl) ?_)))))
 refine zo rfl (cH (r:=.ptr id off) rfl rfl e1) (zl rfl e2 (za rfl (zv (zg rfl (zm rfl (zm rfl (zn rfl (zf rfl (iG _ _) (zl rfl (by exact s.ld (k:=0) rfl bg rfl) ?_)))))))))
 refine zo rfl (bM (p:=some (.int .i64 1)) (q:=none) (m:=none) (p':=some 1) (q':=none) (m':=none) rfl rfl rfl rfl rfl rfl rfl I.1) (zn rfl (zf rfl (iG _ _) (ae.bn rfl rfl rfl rfl rfl (s.cZ (k:=0) rfl ig rfl (by decide) hu.1 hu.2) ?_)))
 rintro h s
 dsimp only [Nat.reduceAdd,List.length_cons,List.set,setA] at s
 refine zv (zg rfl (zm rfl (za rfl (zv ?_))))
 refine WP.ret ⟨trivial,_,rfl,?_⟩
 exact ⟨rfl,_,lU hX (by simp),s⟩
def Cu (h:H)(c:Nat)(X:ah)(S:List ah)(l:List Nat): Prop:=∃v,bU X (bZ v l)∧Sat h (pt c (.cells 1 [v] false)::X::S)
theorem w8 (I:W told){x:Nat}(J:Cu h c X S (x::l)): Call ⟨Tryz.prog,told⟩ 149 [.ptr c 0] h fun r h'=>r=.int .u8 (x:Int)∧Cu h' c X S l:=by
 obtain ⟨v,U,s⟩:=J
 exact (I4 I s U).mono fun r h' ⟨e,u,hU,s'⟩=>⟨e,u,hU,s'⟩
noncomputable def NV : Code:=cn [1,1,0,0] ((Tryz.f150.body).getD .skip)
noncomputable def Kq : Code:=unblk (leftC NV)
noncomputable def T7 : Code:=bH (bH (bH Kq))
theorem tX (hT:W told){x i acc:Nat}{E:List (Nat×V)}{Q:Ex→List (Nat×V)→H→Prop}(hx:x<256)(hi:i≤8)(ha:acc<128^i)
 (hc:Cu h c X S (x::l))(h0:look E 0=some (.ptr c 0))(h2:look E 2=some (.int .u64 (acc:Int)))(J:look E 3=some (.int .i64 (i:Int)))
 (hq:∀I h',look I 0=some (.ptr c 0)→look I 2=some (.int .u64 ((acc+x%128*128^i:Nat):Int))→look I 3=some (.int .i64 (i:Int))→look I 4=some (.int .u8 (x:Int))→Cu h' c X S l→WP ⟨Tryz.prog,told⟩ 38 T7 I h' Q):
  WP ⟨Tryz.prog,told⟩ 38 Kq E h Q:=by
 refine WP.seq (WP.region rfl ?_)
 refine zo rfl (aV h0) ?_
 refine ae.call rfl rfl rfl rfl rfl rfl rfl (w8 hT hc) (fun v h₁ ⟨e1,c1⟩ => ?_)
 subst e1
 refine ae.op rfl rfl rfl (c_ rfl) (ae.nil ?_)
 refine WP.seq (WP.region rfl ?_)
 refine zo rfl (aV J) (zo rfl (af (v:=.int .i64 (i:Int)) (u:=.int .i64 9) (r:=.bool true) rfl rfl (by simp only [binV,ikBeq,cond_true,intV]; congr 2 <;> simp <;> omega)) ?_)
 refine zm rfl (zx rfl (zx rfl (zx rfl (zx rfl (zx rfl (zx rfl (zq rfl ?_)))))))
 refine ae.call rfl rfl rfl rfl rfl rfl rfl (jN hT) (fun v U ⟨e2,pE⟩=>ae.nil ?_)
 subst e2; subst pE
 refine WP.seq (WP.region rfl ?_)
 refine zo rfl (aV h2) (zm rfl (zo rfl (af (v:=.int .u8 (x:Int)) (u:=.int .u8 127) rfl rfl (by simp only [binV,ikBeq,cond_true]; exact B4 hx)) ?_))
 refine zo rfl (bz (v:=.int .u8 ((x%128:Nat):Int)) rfl (B5 (by omega))) ?_
 refine zo rfl (aV J) ?_
 refine ae.op rfl rfl rfl (af (v:=.int .i64 7) (u:=.int .i64 (i:Int)) (r:=.int .i64 ((7*i:Nat):Int)) rfl rfl (by
  simp only [binV,ikBeq,cond_true,intV]
  rw [show (7:Int)*(i:Int)=((7*i:Nat):Int) by push_cast; rfl,wrap_i64 (by omega)])) ?_
 refine zo rfl (af (v:=.int .u64 ((x%128:Nat):Int)) (u:=.int .i64 ((7*i:Nat):Int)) rfl rfl (by simp only [binV]; exact R6 (by omega) hi)) ?_
 refine zo rfl (af (v:=.int .u64 (acc:Int)) rfl rfl (by simp only [binV,ikBeq,cond_true]; exact LU ha (by omega) hi)) ?_
 refine ae.op rfl rfl rfl (c_ rfl) (ae.nil ?_)
 exact hq _ _ h0 rfl J rfl c1
set_option maxRecDepth 4000 in
theorem vU (hT:W told){m i acc:Nat}{E:List (Nat×V)}{Q:Ex→List (Nat×V)→H→Prop}(hi:i≤8)(hm:m<128)(hz:i=0∨0<m)(ha:acc<128^i)
 (hc:Cu h c X S (m::l))(h0:look E 0=some (.ptr c 0))(h2:look E 2=some (.int .u64 (acc:Int)))(h3:look E 3=some (.int .i64 (i:Int)))
 (hq:∀E' h',look E' 2=some (.int .u64 ((acc+m*128^i:Nat):Int))→Cu h' c X S l→Q .ret E' h'): WP ⟨Tryz.prog,told⟩ 38 (.loop NV) E h Q:=by
 refine WP.loop (WP.seq (WP.block ?_))
 refine tX hT (x:=m) (by omega) hi ha hc h0 h2 h3 (fun E1 h₁ q0 q2 q3 q4 c1 => ?_)
 rw [Nat.mod_eq_of_lt hm] at q2
 refine WP.seq (WP.region rfl ?_)
 refine zo rfl (aV q4) ?_
 refine ae.op rfl rfl rfl (af (v:=.int .u8 (m:Int)) (u:=.int .u8 128) (r:=.bool true) rfl rfl (by simp only [binV,ikBeq,cond_true,intV]; congr 2 <;> simp <;> omega)) (ae.nil ?_)
 refine WP.cond (t:=true) rfl (WP.seq (WP.region rfl ?_))
 refine zo rfl (aV q4) ?_
 by_cases xB:0<m
 ·refine ae.op rfl rfl rfl (af (v:=.int .u8 (m:Int)) (u:=.int .u8 0) (r:=.bool true) rfl rfl (by simp only [binV,ikBeq,cond_true,intV]; congr 2 <;> simp <;> omega)) ?_
  refine zm rfl (zx rfl (zx rfl (zq rfl ?_)))
  refine ae.call rfl rfl rfl rfl rfl rfl rfl (jN hT) (fun v I ⟨e2,J⟩=>ae.nil ?_)
  subst e2; subst J
  refine WP.seq (WP.region rfl ?_)
  refine zo rfl (aV q2) ?_
  exact ae.op rfl rfl rfl (c_ rfl) (ae.nil (WP.ret (hq _ _ rfl c1)))
 ·have T8:i=0:=by omega
  have U:m=0:=by omega
  subst T8; subst U
  refine zo rfl (af (v:=.int .u8 0) (u:=.int .u8 0) (r:=.bool false) rfl rfl rfl) (zm rfl (zo rfl (aV q3) (zo rfl (af (v:=.int .i64 0) (u:=.int .i64 0) (r:=.bool true) rfl rfl rfl) (zp rfl ?_))))
  refine ae.call rfl rfl rfl rfl rfl rfl rfl (jN hT) (fun v I ⟨e2,J⟩=>ae.nil ?_)
  subst e2; subst J
  refine WP.seq (WP.region rfl ?_)
  refine zo rfl (aV q2) ?_
  exact ae.op rfl rfl rfl (c_ rfl) (ae.nil (WP.ret (hq _ _ rfl c1)))
set_option maxRecDepth 4000 in
theorem B7 (hT:W told): ∀(k m i acc:Nat) (h:H) (E:List (Nat×V)) (Q:Ex→List (Nat×V)→H→Prop),i+k≤8→m<128^(k+1)→(i=0∨0<m)→acc<128^i →
  Cu h c X S (digits k m++l)→look E 0=some (.ptr c 0)→look E 2=some (.int .u64 (acc:Int))→look E 3=some (.int .i64 (i:Int)) →
  (∀E' h',look E' 2=some (.int .u64 ((acc+m*128^i:Nat):Int))→Cu h' c X S l→Q .ret E' h')→WP ⟨Tryz.prog,told⟩ 38 (.loop NV) E h Q:=by
 intro k
 induction k with
 | zero =>
  intro m i acc h E Q hi hm hz ha U h0 h2 h3 hq
  have I:m<128:=by simpa using hm
  rw [fY I] at U
  exact vU hT (by omega) I hz ha U h0 h2 h3 hq
 | succ k ih =>
  intro m i acc h E Q hi hm hz ha U h0 h2 h3 hq
  by_cases I:m<128
  ·rw [fY I] at U
   exact vU hT (by omega) I hz ha U h0 h2 h3 hq
  ·have hd:m/128<128^(k+1):=by
    rw [Nat.div_lt_iff_lt_mul (by omega)]
    rw [Nat.pow_succ] at hm
    exact hm
   rw [digits,if_neg I] at U
   refine WP.loop (WP.seq (WP.block ?_))
   refine tX hT (x:=m%128+128) (by omega) (by omega) ha U h0 h2 h3 (fun E1 h₁ q0 q2 q3 q4 c1 => ?_)
   refine WP.seq (WP.region rfl ?_)
   refine zo rfl (aV q4) ?_
   refine ae.op rfl rfl rfl (af (v:=.int .u8 ((m%128+128:Nat):Int)) (u:=.int .u8 128) (r:=.bool false) rfl rfl (by simp only [binV,ikBeq,cond_true,intV]; congr 2 <;> simp <;> omega)) (ae.nil ?_)
   refine WP.cond (t:=false) rfl (WP.skip ?_)
   refine zr rfl (zo rfl (aV q3) (zo rfl (af (v:=.int .i64 (i:Int)) (u:=.int .i64 1) (r:=.int .i64 ((i+1:Nat):Int)) rfl rfl (by exact bl (aF (by omega) (by omega)))) ?_))
   refine ae.op rfl rfl rfl (c_ rfl) (ae.nil ?_)
   have e1:(m%128+128)%128=m%128:=by omega
   rw [e1] at q2
   have J:128^(i+1)=128^i*128:=Nat.pow_succ 128 i
   refine ih (m/128) (i+1) (acc+m%128*128^i) h₁ _ Q (by omega) hd (.inr (by omega)) ?_ c1 q0 q2 rfl (fun E' h' p1 p3=>hq E' h' ?_ p3)
   ·have:m%128*128^i≤127*128^i:=Nat.mul_le_mul_right _ (by omega)
    rw [J]; omega
   ·rw [p1]
    have:acc+m%128*128^i+m/128*128^(i+1)=acc+m*128^i:=by
     rw [J,Nat.mul_comm (128^i) 128,←Nat.mul_assoc,Nat.add_assoc,←Nat.add_mul]
     congr 2
     omega
    rw [this]
theorem oG (I:W told){n:Nat}(J:n<9223372036854775808)(U:Cu h c X S (digits 9 n++l)):
  Call ⟨Tryz.prog,told⟩ 150 [.ptr c 0] h fun v h'=>v=.int .u64 (n:Int)∧Cu h' c X S l:=by
 rw [B3 8 n (by simpa using J)] at U
 refine Call.of_wp (I.free _ rfl) Tryz.func150 rfl rfl (zg rfl (za rfl (zv (zg rfl (za rfl (zv (WP.block ?_)))))))
 refine B7 I 8 n 0 0 h _ _ (by omega) (by simpa using J) (.inl rfl) (by simp) U rfl rfl rfl (fun E' h' q1 q2=>⟨trivial,_,?_,rfl,q2⟩)
 have:0+n*128^0=n:=by simp
 rw [this] at q1
 show gw _ E' h' [.tmp 2]=_
 simp only [gw,mapO,resE,q1]
theorem qu (I:W told){n:Nat}(U:n≤1048576)(J:Cu h c X S (digits 9 n++l)):
  Call ⟨Tryz.prog,told⟩ 152 [.ptr c 0] h fun v h'=>v=.int .i64 (n:Int)∧Cu h' c X S l:=by
 refine Call.of_wp (I.free _ rfl) Tryz.func152 rfl rfl (zg rfl (za rfl (zv (zg rfl (zm rfl (ae.call rfl rfl rfl rfl rfl rfl rfl (oG I (by omega) J) ?_))))))
 rintro v h' ⟨rfl,J⟩
 refine za rfl (zv (zg rfl (zm rfl (ae.aR rfl rfl rfl (af rfl rfl wK) (by simp; omega) ?_))))
 refine ae.call rfl rfl rfl rfl rfl rfl rfl (jN I) ?_
 rintro v h' ⟨rfl,rfl⟩
 refine zv (zg rfl (zm rfl (zo rfl (bz rfl (AV (by omega))) ?_)))
 refine za rfl (zv ?_)
 refine WP.ret ⟨trivial,_,rfl,?_⟩
 exact ⟨rfl,J⟩
theorem AX (hT:W told)(hm:m.length≤1048576)(hc:Cu h c X S (digits 9 m.length++m++l)):
  Call ⟨Tryz.prog,told⟩ 151 [.ptr c 0] h fun v h'=>Cu h' c X (a_ v m::S) l:=by
 rw [List.append_assoc] at hc
 refine Call.of_wp (hT.free _ rfl) Tryz.func151 rfl rfl (zg rfl (za rfl (zv (zg rfl (zm rfl (ae.call rfl rfl rfl rfl rfl rfl rfl (qu hT hm hc) ?_))))))
 rintro v h ⟨rfl,v,I,s⟩
 have hv:=s.ax (k:=1) rfl I
 have J:=cg hv
 refine za rfl (zv (zg rfl (zm rfl (zm rfl (zn rfl (zf rfl (iG _ _) (zl rfl (by exact s.ld (k:=0) rfl bg rfl) ?_)))))))
 refine zo rfl (aL rfl rfl rfl (aG Tryz.underlying32 hv)) (ae.aR rfl rfl rfl (af rfl rfl wK) (by simp <;> omega) ?_)
 refine ae.call rfl rfl rfl rfl rfl rfl rfl (jN hT) ?_
 rintro r h' ⟨rfl,rfl⟩
 refine zv (zw ?_)
 have s0:=s
 have U:=eV hv (b:=m.length) (by simp)
 have zR:=cg U.2.1
 refine WP.drawn [none,none,some (0,2),some (0,2),some (0,2),some (0,2),some (0,2),some (0,2),none,none] rfl (by kernel_rfl) (by kernel_rfl) ?_
 refine zM rfl (au.any rfl rfl rfl rfl (OpR.o_ rfl s rfl rfl rfl rfl (by omega)) ?_)
 intro v2 h s
 have s:=s.aa [1,1,0]
 dsimp only [bringA,getA,ai] at s
 have vA:=cg (s.buf (k:=2) rfl).view
 have s1:=s
 have U:=eV (s.ax (k:=1) rfl I) (b:=m.length) (by simp)
 refine zM rfl (zN rfl (zF rfl (iG _ _) (zL rfl (by exact s.ld (k:=0) rfl bg rfl) ?_)))
 refine zM rfl (zO rfl (bM (p:=none) (q:=some (.int .i64 (m.length:Int))) (m:=none) (p':=none) (q':=some m.length) (m':=none) rfl rfl rfl rfl rfl (by rw [dN (by omega)]; rfl) rfl (eV (s.ax (k:=1) rfl I) (b:=m.length) (by simp)).1) ?_)
 refine au.any rfl rfl rfl rfl (OpR.mI rfl (s.aa [2,1]) (p9 I (b:=m.length) (by simp)) rfl rfl rfl rfl (by rw [List.take_left' rfl]; simp only [List.length_nil]; omega)) ?_
 intro v3 h s
 have s:=s.aa [2,1,0]
 dsimp only [List.nil_append,ai,bringA,getA] at s
 rw [List.take_left' rfl] at s
 have NY:=cg (s.buf (k:=2) rfl).view
 refine zA rfl ?_
 refine au.nil ⟨⟨trivial,trivial,fun _ _=>.inr ⟨rfl,⟨_,aV rfl⟩,aU _ rfl⟩,fun _ _=>.inr ⟨rfl,⟨_,kX rfl⟩,aU _ rfl⟩,fun _ _=>.inr ⟨rfl,⟨_,iO rfl (iG _ _)⟩,aU _ rfl⟩,cR (.inr ⟨rfl,⟨_,aI rfl (by exact s0.ld (k:=0) rfl bg rfl)⟩,J⟩) (.inr ⟨rfl,⟨_,aI rfl (by exact s1.ld (k:=0) rfl bg rfl)⟩,J⟩),fun _ _=>.inr ⟨rfl,⟨_,aV rfl⟩,aU _ rfl⟩,cR (.inr ⟨rfl,⟨_,bM (p:=none) (q:=some (.int .i64 (m.length:Int))) (m:=none) (p':=none) (q':=some m.length) (m':=none) rfl rfl rfl rfl rfl (by rw [dN (by omega)]; rfl) rfl (eV (s0.ax (k:=1) rfl I) (b:=m.length) (by simp)).1⟩,zR⟩) (.inr ⟨rfl,⟨_,bM (p:=none) (q:=some (.int .i64 (m.length:Int))) (m:=none) (p':=none) (q':=some m.length) (m':=none) rfl rfl rfl rfl rfl (by rw [dN (by omega)]; rfl) rfl (eV (s1.ax (k:=1) rfl I) (b:=m.length) (by simp)).1⟩,zR⟩),trivial,trivial,trivial⟩,?_⟩
 have iU:=cT (s.ax (k:=1) rfl I) (a:=m.length) (by simp)
 have hu:=iU.2.1.cells
 refine zg rfl (zm rfl (zm rfl (zn rfl (zf rfl (iG _ _) (zl rfl (by exact s.ld (k:=0) rfl bg rfl) ?_)))))
 refine zm rfl (zo rfl (bM (p:=some (.int .i64 (m.length:Int))) (q:=none) (m:=none) (p':=some m.length) (q':=none) (m':=none) rfl rfl rfl rfl (by rw [dN (by omega)]; rfl) rfl rfl iU.1) ?_)
 refine zn rfl (zf rfl (iG _ _) (ae.bn rfl rfl rfl rfl rfl (s.cZ (k:=0) rfl ig rfl (by decide) hu.1 hu.2) ?_))
 rintro h s
 dsimp only [Nat.reduceAdd,List.set,setA] at s
 refine zv (zg rfl (zm rfl (za rfl (zv ?_))))
 refine WP.ret ⟨trivial,_,rfl,?_⟩
 have hr:=lU I (a:=m.length) (by simp)
 rw [List.drop_left' rfl] at hr
 exact ⟨_,hr,s⟩
end
end Go.Proofs.YtconhghphklfjaaGreat.Am
namespace Go.Proofs.YtconhghphklfjaaGreat.Am
open Go
theorem Kr {P:Program}{E:List (Nat×V)}{h:H}{a t:Nat}{p v:V}(I:look E a=some p)(J:loadV P h t p=some v): gw P E h [.cell a t]=some v:=by simp only [gw,mapO,resE,I,J]
section
variable {told:Nat→Option (List V→H→Option (V×H))} {h:H} {S:List ah} {X:ah} {c:Nat} {v w:V} {l m:List Nat}
theorem Ej (J:W told){x:bV}(hx:x.Ok)(hc:Cu h c X S (jd x++l)):
  Call ⟨Tryz.prog,told⟩ 154 [.ptr c 0] h fun r h'=>∃u,r=.agg [.int .i64 x.aO,.int .i64 x.pos,.bool x.whole,u]∧Cu h' c X (a_ u x.b::S) l:=by
 obtain ⟨x1,x2,x3,x4,x5,x6⟩:=hx
 obtain ⟨pg,ps,wh,b⟩:=x
 dsimp only at x1 x2 x3 x4 x5 x6 hc
 obtain ⟨pg,rfl⟩:=Int.eq_ofNat_of_zero_le x1
 obtain ⟨ps,rfl⟩:=Int.eq_ofNat_of_zero_le x3
 simp only [jd,Int.toNat_natCast,List.append_assoc,List.cons_append,List.nil_append] at hc
 generalize U:(if wh=true then 1 else 0)=wb at hc
 have Fb:wb≤1:=by rw [←U]; cases wh <;> decide
 have QT:decide ((wb:Int)=1)=wh:=by rw [←U]; cases wh <;> rfl
 obtain ⟨v,I,s⟩:=hc
 refine Call.of_wp (J.free _ rfl) Tryz.func154 rfl rfl (zg rfl ?_)
 refine ae.bO s rfl rfl rfl (bK lS) (fun p2 h s => ?_)
 dsimp only [V.cells,List.length_cons,List.length_nil,Nat.reduceAdd] at s
 refine zv (zg rfl (zm rfl (ae.call rfl rfl rfl rfl rfl rfl rfl (qu J (by omega) ⟨v,I,s.aa [1,1,0]⟩) ?_)))
 rintro v h ⟨rfl,v,I,s⟩
 dsimp only [ai,bringA,getA] at s
 refine zm rfl (ae.call rfl rfl rfl rfl rfl rfl rfl (qu J (by omega) ⟨v,I,s⟩) ?_)
 rintro v h ⟨rfl,v,I,s⟩
 refine zf rfl (k_ _ _) ?_
 refine ae.bn rfl rfl rfl rfl rfl (by exact s.cZ (k:=2) rfl jh rfl (by decide) rfl rfl) (fun h s => ?_)
 dsimp only [Nat.reduceAdd,List.set,setA] at s
 refine zf rfl (mu _ _) ?_
 refine ae.bn rfl rfl rfl rfl rfl (by exact s.cZ (k:=2) rfl jh rfl (by decide) rfl rfl) (fun h s => ?_)
 dsimp only [Nat.reduceAdd,List.set,setA] at s
 refine zv (zg rfl (zm rfl (ae.call rfl rfl rfl rfl rfl rfl rfl (w8 J ⟨v,I,s⟩) ?_)))
 rintro v h ⟨rfl,v,I,s⟩
 refine za rfl (zv (zg rfl (zm rfl (ae.aR rfl rfl rfl (af rfl rfl wK) (by simp; omega) ?_))))
 refine ae.call rfl rfl rfl rfl rfl rfl rfl (jN J) ?_
 rintro r h' ⟨rfl,rfl⟩
 refine zv (zg rfl (zm rfl (zo rfl (af (r:=.bool wh) rfl rfl (by rw [←QT]; exact cS)) ?_)))
 refine zf rfl (rK _ _) ?_
 refine ae.bn rfl rfl rfl rfl rfl (by exact s.cZ (k:=2) rfl qK rfl (by decide) rfl rfl) (fun h s => ?_)
 dsimp only [Nat.reduceAdd,List.set,setA] at s
 refine zv (zg rfl (zm rfl ?_))
 rw [←List.append_assoc] at I
 refine ae.call rfl rfl rfl rfl rfl rfl rfl (AX J (by omega) ⟨v,I,s⟩) ?_
 rintro u h ⟨v,I,s⟩
 have hu:=(s.buf (k:=2) rfl).view.cells
 refine zf rfl (jY _ _) (ae.bn rfl rfl rfl rfl rfl (s.cZ (k:=3) rfl ig rfl (by decide) hu.1 hu.2) ?_)
 rintro h s
 dsimp only [Nat.reduceAdd,List.set,setA] at s
 refine zv (zg rfl (zl rfl (by exact s.dF (k:=3) rfl DQ mH) ?_))
 refine ae.bn rfl rfl rfl rfl rfl (s.eN (j:=3) rfl mH rfl (by simp only [List.all_cons,List.all_nil,hu.2]; rfl)) ?_
 rintro h s
 dsimp only [setA] at s
 refine zv ?_
 refine WP.ret ⟨trivial,_,Kr rfl (s.dF (k:=3) rfl DQ mH),?_⟩
 exact ⟨u,rfl,v,I,s.del 3⟩
structure qv (tx pv nx:Nat)(data:List Nat)(aA:List bV): Prop where
 tx:tx<9223372036854775808
 pv:pv<9223372036854775808
 nx:nx<9223372036854775808
 data:data.length≤1048576
 many:aA.length≤1048576
theorem I5 (x:bV): 1≤(jd x).length:=by simp only [jd,List.length_append,List.length_cons]; omega
theorem AY : ∀l:List bV,l.length≤(l.flatMap jd).length:=by
 intro l
 induction l with
 | nil=>simp
 | cons x l I=>have:=I5 x; simp only [List.flatMap_cons,List.length_append,List.length_cons]; omega
noncomputable def T9 : Code:=cn [1,1,1,1,1,1,1,1,0,1,0,0] ((Tryz.f132.body).getD .skip)
theorem LV (hT:W told){kd tx pv nx:Nat}{p2:Nat}{dt:V}{aA:List bV}(mM:∀x∈aA,x.Ok)(hn:aA.length≤1048576): ∀(j i:Nat) (I:V) (cs:List V) (h:H) (E:List (Nat×V)) (Q:Ex→List (Nat×V)→H→Prop),
  i+j=aA.length→Cu h c X (pt p2 (.cells 6 (eC kd tx pv nx dt I) false)::.arr 4 I cs::bP cs (aA.take i)::S) ((aA.drop i).flatMap jd)→Has E [(0,.ptr c 0),(2,.ptr p2 0),(41,.int .i64 aA.length),(42,.int .i64 i)] →
  (∀E' h' I cs,Has E' [(0,.ptr c 0),(2,.ptr p2 0)]→Cu h' c X (pt p2 (.cells 6 (eC kd tx pv nx dt I) false)::.arr 4 I cs::bP cs aA::S) []→Q (.exit 2) E' h')→WP ⟨Tryz.prog,told⟩ 64 (.loop T9) E h Q:=by
 intro j
 induction j with
 | zero =>
  intro i I cs h E Q hi hc hE hq
  refine WP.loop (WP.has hE (zg rfl (ae.aE rfl rfl rfl (af rfl rfl aX) (by simp; omega) ?_)))
  refine zv (zw (zj rfl (WP.exit ?_)))
  rw [List.take_of_length_le (by omega),List.drop_of_length_le (by omega)] at hc
  exact hq _ _ _ _ ⟨rfl,rfl,trivial⟩ hc
 | succ j ih =>
  intro i I cs h E Q hi hc hE hq
  have hx:aA[i]?=some (aA[i]'(by omega)):=List.getElem?_eq_getElem _
  generalize (aA[i]'(by omega))=x at hx
  have T_:=mM x (List.mem_of_getElem? hx)
  have J:aA.drop i=x::aA.drop (i+1):=by
   obtain ⟨h1,rfl⟩:=List.getElem?_eq_some_iff.1 hx
   exact List.drop_eq_getElem_cons h1
  have U:aA.take (i+1)=aA.take i++[x]:=by rw [List.take_add_one,hx]; rfl
  rw [J,List.flatMap_cons] at hc
  obtain ⟨v,hX,s⟩:=hc
  refine WP.loop (WP.has hE (zg rfl (ae.aR rfl rfl rfl (af rfl rfl aX) (by simp; omega) ?_)))
  refine zv (zw (zi rfl (WP.skip (zw (WP.block ?_)))))
  have s0:=s
  have xQ:=(s.gx (j:=3) rfl).2.2
  refine WP.drawn [some (0,3),some (0,3),none,none,none,none,none,none] rfl (by kernel_rfl) (by kernel_rfl) ?_
  refine zF rfl (iX _ _) (zL rfl (by exact s.ld (k:=2) rfl nN rfl) ?_)
  refine zM rfl (au.any rfl rfl rfl rfl (OpR.call rfl rfl rfl rfl (Ej hT T_ ⟨v,hX,s⟩)) ?_)
  rintro w h ⟨u,rfl,v,hX,s⟩
  dsimp only [eC] at s
  have hu:=(s.buf (k:=2) rfl).view.cells
  have xN:=cg (s.buf (k:=2) rfl).view
  have s1:=s
  have s:=(s.aa [2]).eF
  dsimp only [bringA,getA,ai] at s
  obtain ⟨rv,h1,AL,s2⟩:=jG (P:=Tryz.prog) (k:=4) (x:=.agg [.int .i64 x.aO,.int .i64 x.pos,.bool x.whole,u]) s Tryz.underlying38 lS mH rfl (by decide) (by decide) rfl (by simp only [V.cells,List.all_cons,List.all_nil,hu.2]; rfl)
  dsimp only [V.cells] at s2
  refine au.any rfl rfl rfl rfl (OpR.of (R:=fun v h'=>v=rv∧h'=h1) (mD rfl AL) ⟨rfl,rfl⟩) ?_
  rintro v' h' ⟨rfl,rfl⟩
  obtain ⟨i1,js,iI,pq⟩:=oa
  have IX:cs.length=(aA.take i).length*4:=by
   obtain ⟨a,b,q1,q2,q3⟩:=s2.at (k:=6) rfl
   exact kn q3
  rw [List.length_take] at IX
  obtain ⟨vO,h2,pE,s3⟩:=fP (s2.aa [5,0]) Tryz.underlying38 js lS iI (by omega) rfl (by decide) (by simp only [List.length_cons,List.length_nil]; omega)
  dsimp only [bringA,getA,ai] at s3
  refine au.any rfl rfl rfl rfl (OpR.of (R:=fun v h'=>v=vO∧h'=h2) (j_ rfl rfl pE) ⟨rfl,rfl⟩) ?_
  rintro v' h' ⟨rfl,rfl⟩
  have s:=s3
  have vP:=s.gx (j:=0) rfl
  refine zF rfl (iX _ _) (au.fI rfl rfl rfl (OpR.bn rfl rfl rfl (s.cZ (k:=5) rfl DP rfl (by decide) vP.1 vP.2.1)) ?_)
  rintro v' h ⟨rfl,s⟩
  dsimp only [Nat.reduceAdd,List.set,setA] at s
  refine au.nil ⟨⟨fun _ _=>.inr ⟨rfl,⟨_,iO rfl (iX _ _)⟩,aU _ rfl⟩,rD (.inr ⟨rfl,⟨_,aI rfl (by exact s0.ld (k:=2) rfl nN rfl)⟩,xQ⟩) (.inr ⟨rfl,⟨_,aI rfl (by exact s1.ld (k:=3) rfl nN rfl)⟩,xQ⟩) (.inr ⟨rfl,⟨_,aI rfl (by exact s2.ld (k:=4) rfl nN rfl)⟩,xQ⟩),trivial,trivial,trivial,trivial,trivial,trivial,trivial⟩,?_⟩
  refine zr rfl (zb rfl (by exact bl (aF (by omega) (by omega))) ?_)
  refine zm rfl (zv ?_)
  have s4:Sat _ (bP cs (aA.take i)::.bp u x.b::_):=s.aa [6,2]
  have s5:=s4.two (C:=bP (cs++[.int .i64 x.aO,.int .i64 x.pos,.bool x.whole,u]) (aA.take i++[x])) (aq.lK _ _) (aq.bp _ _) fun a b q1 q2=>qh q1 ⟨⟨⟨rfl,rfl,rfl⟩,q2⟩,trivial⟩
  dsimp only [bringA,getA,ai] at s5
  rw [←U] at s5
  have s6:=(s5.aa [3,3,3,1,0]).del 5
  dsimp only [bringA,getA,ai] at s6
  exact ih (i+1) _ _ h _ Q (by omega) ⟨v,hX,s6⟩ ⟨rfl,rfl,rfl,rfl,trivial⟩ hq
theorem LW (J:W told){kd tx pv nx:Nat}{data:List Nat}{aA:List bV}(hg:cx kd aA=true)(hk:kd<256)(hr:qv tx pv nx data aA)(hc:Cu h c X S (cy kd tx pv nx data aA)):
  Call ⟨Tryz.prog,told⟩ 132 [.ptr c 0] h fun r h'=>∃dt ch cs,r=.agg (eC kd tx pv nx dt ch)∧Sat h' (X::a_ dt data::.arr 4 ch cs::bP cs aA::S):=by
 simp only [cy,Int.toNat_natCast,List.append_assoc,List.cons_append,List.nil_append] at hc
 obtain ⟨v,I,s⟩:=hc
 refine Call.of_wp (J.free _ rfl) Tryz.func132 rfl rfl (zg rfl ?_)
 refine ae.bO s rfl rfl rfl (bK jP) (fun p2 h s => ?_)
 dsimp only [V.cells,List.length_cons,List.length_nil,Nat.reduceAdd] at s
 refine zv (zg rfl (zm rfl (ae.call rfl rfl rfl rfl rfl rfl rfl (w8 J ⟨v,I,s.aa [1,1,0]⟩) ?_)))
 rintro v h ⟨rfl,v,I,s⟩
 dsimp only [ai,bringA,getA] at s
 refine zo rfl (bz rfl (B6 (by omega))) ?_
 refine zf rfl (jX _ _) ?_
 refine ae.bn rfl rfl rfl rfl rfl (by exact s.cZ (k:=2) rfl jh rfl (by decide) rfl rfl) (fun h s => ?_)
 dsimp only [Nat.reduceAdd,List.set,setA] at s
 refine zv (zg rfl (zm rfl (zo rfl (yJ rfl rfl) (za rfl (zv (zw (zg rfl (zf rfl (vq _ _) (zf rfl (FU _ _) (zf rfl (FW _ _) (zo rfl (bW rfl (by rw [O6]; rfl)) ?_)))))))))))
 refine zm rfl (zv (WP.block (WP.loop (zg rfl (ae.aR rfl rfl rfl (af rfl rfl aX) (rfl) (zv (zw (zi rfl (WP.skip (zw (WP.block (zg rfl (zo rfl (wJ rfl rfl (r:=.ptr p2 (0+1)) (by simp only [indexV,Tryz.underlying220,DR,j9,DS]; rfl)) ?_)))))))))))))
 refine za rfl (zv (zr rfl (zm rfl (zm rfl (ae.call rfl rfl rfl rfl rfl rfl rfl (oG J hr.tx ⟨v,I,s⟩) ?_)))))
 rintro v h ⟨rfl,v,I,s⟩
 refine zn rfl ?_
 refine ae.bn rfl rfl rfl rfl rfl (by exact s.cZ (k:=2) rfl mG rfl (by decide) rfl rfl) (fun h s => ?_)
 dsimp only [Nat.reduceAdd,List.set,setA] at s
 refine zv (zr rfl (zb rfl (by exact bl (aF (by omega) (by omega))) ?_))
 refine zm rfl (zv (WP.loop (zg rfl (ae.aR rfl rfl rfl (af rfl rfl aX) (rfl) (zv (zw (zi rfl (WP.skip (zw (WP.block (zg rfl (zo rfl (wJ rfl rfl (r:=.ptr p2 (0+2)) (by simp only [indexV,Tryz.underlying220,DR,j9,DS]; rfl)) ?_))))))))))))
 refine za rfl (zv (zr rfl (zm rfl (zm rfl (ae.call rfl rfl rfl rfl rfl rfl rfl (oG J hr.pv ⟨v,I,s⟩) ?_)))))
 rintro v h ⟨rfl,v,I,s⟩
 refine zn rfl ?_
 refine ae.bn rfl rfl rfl rfl rfl (by exact s.cZ (k:=2) rfl mG rfl (by decide) rfl rfl) (fun h s => ?_)
 dsimp only [Nat.reduceAdd,List.set,setA] at s
 refine zv (zr rfl (zb rfl (by exact bl (aF (by omega) (by omega))) ?_))
 refine zm rfl (zv (WP.loop (zg rfl (ae.aR rfl rfl rfl (af rfl rfl aX) (rfl) (zv (zw (zi rfl (WP.skip (zw (WP.block (zg rfl (zo rfl (wJ rfl rfl (r:=.ptr p2 (0+3)) (by simp only [indexV,Tryz.underlying220,DR,j9,DS]; rfl)) ?_))))))))))))
 refine za rfl (zv (zr rfl (zm rfl (zm rfl (ae.call rfl rfl rfl rfl rfl rfl rfl (oG J hr.nx ⟨v,I,s⟩) ?_)))))
 rintro v h ⟨rfl,v,I,s⟩
 refine zn rfl ?_
 refine ae.bn rfl rfl rfl rfl rfl (by exact s.cZ (k:=2) rfl mG rfl (by decide) rfl rfl) (fun h s => ?_)
 dsimp only [Nat.reduceAdd,List.set,setA] at s
 refine zv (zr rfl (zb rfl (by exact bl (aF (by omega) (by omega))) ?_))
 refine zm rfl (zv (WP.loop (zg rfl (ae.aE rfl rfl rfl (af rfl rfl aX) (rfl) (zv (zw (zj rfl (WP.exit (zg rfl (zm rfl ?_))))))))))
 rw [←List.append_assoc] at I
 refine ae.call rfl rfl rfl rfl rfl rfl rfl (AX J hr.data ⟨v,I,s⟩) ?_
 rintro dt h ⟨v,I,s⟩
 have U:=(s.buf (k:=2) rfl).view.cells
 refine zf rfl (nO _ _) (ae.bn rfl rfl rfl rfl rfl (s.cZ (k:=3) rfl ig rfl (by decide) U.1 U.2) ?_)
 rintro h s
 dsimp only [Nat.reduceAdd,List.set,setA] at s
 refine zv (zg rfl (zm rfl (ae.call rfl rfl rfl rfl rfl rfl rfl (qu J hr.many ⟨v,I,s⟩) ?_)))
 rintro v h ⟨rfl,v,I,s⟩
 have hv:=s.ax (k:=1) rfl I
 refine za rfl (zv (zg rfl (zm rfl (zm rfl (zn rfl (zf rfl (iG _ _) (zl rfl (by exact s.ld (k:=0) rfl bg rfl) ?_)))))))
 refine zo rfl (aL rfl rfl rfl (aG Tryz.underlying32 hv)) (ae.aR rfl rfl rfl (af rfl rfl wK) (by have:=AY aA; simp only [decide_eq_true_eq]; omega) ?_)
 refine ae.call rfl rfl rfl rfl rfl rfl rfl (jN J) ?_
 rintro r h' ⟨rfl,rfl⟩
 refine zv (zg rfl (zm rfl ?_))
 obtain ⟨i1,js,iI,pq⟩:=oa
 have D7:=hr.many
 obtain ⟨nv,NZ,e1,s1⟩:=xG (P:=Tryz.prog) s Tryz.underlying38 js lS iI (by omega) rfl (by decide) (by decide) (n:=0) (c:=aA.length) (by omega) (by omega)
 dsimp only [repeatL] at s1
 refine ae.any rfl rfl rfl (OpR.of (R:=fun v h'=>v=nv∧h'=NZ) (ow rfl rfl e1) ⟨rfl,rfl⟩) ?_
 rintro v h' ⟨rfl,rfl⟩
 have s:=s1.aa [1,1,2,0]
 dsimp only [bringA,getA,ai] at s
 have QU:=s.gx (j:=3) rfl
 refine zf rfl (iX _ _) (ae.bn rfl rfl rfl rfl rfl (s.cZ (k:=2) rfl DP rfl (by decide) QU.1 QU.2.1) ?_)
 rintro h s
 dsimp only [Nat.reduceAdd,List.set,setA] at s
 have mM:∀x∈aA,x.Ok:=fun x hx=>by
  simp only [cx,Bool.and_eq_true,List.all_eq_true,decide_eq_true_eq] at hg
  exact hg.2 x hx
 have s2:=((s.eu (φ:=True) trivial).dY (B:=bP [] []) fun _ _ h=>h).aa [1,1,1,1,0]
 dsimp only [bringA,getA,ai] at s2
 refine zv (zw (zg rfl (zm rfl (zm rfl (zv (WP.block ?_))))))
 refine LV J mM hr.many aA.length 0 _ [] h _ _ (by omega) ⟨_,I,s2⟩ ⟨rfl,rfl,rfl,rfl,trivial⟩ (fun E h av cs hE hc => ?_)
 obtain ⟨v,I,s⟩:=hc
 refine WP.has hE ?_
 have hv:=s.ax (k:=1) rfl I
 have U:=(s.buf (k:=5) rfl).view.cells
 have vP:=s.gx (j:=3) rfl
 have fK:[V.int .i64 (kd:Int),V.int .u64 (tx:Int),V.int .u64 (pv:Int),V.int .u64 (nx:Int),dt,av].all storable=true:=h_ U.2 vP.2.1
 have gV:rV aA:=⟨by omega,fun x hx=>by have:=mM x hx; unfold bV.Ok at this; omega,fun x hx=>by have:=mM x hx; unfold bV.Ok at this; omega⟩
 refine zg rfl (zm rfl (zn rfl (zf rfl (iG _ _) (zl rfl (by exact s.ld (k:=0) rfl bg rfl) ?_))))
 refine zo rfl (aL rfl rfl rfl (aG Tryz.underlying32 hv)) (ae.aR rfl rfl rfl (af rfl rfl cS) (rfl) (zm rfl (zl rfl (by exact s.dF (k:=2) rfl jr dK) ?_)))
 refine ae.call rfl rfl rfl rfl rfl rfl rfl (Au J (s.aa [3,3]) U.2 gV) ?_
 rintro r h ⟨rfl,s⟩
 dsimp only [bringA,getA,ai] at s
 rw [hg]
 refine zq rfl (ae.call rfl rfl rfl rfl rfl rfl rfl (jN J) ?_)
 rintro r h' ⟨rfl,rfl⟩
 refine zv (zg rfl (zl rfl (by exact s.dF (k:=4) rfl jr dK) ?_))
 refine ae.bn rfl rfl rfl rfl rfl (s.eN (j:=4) rfl dK rfl fK) ?_
 rintro h s
 dsimp only [eC,setA] at s
 refine zv ?_
 refine WP.ret ⟨trivial,_,Kr rfl (s.dF (k:=4) rfl jr dK),?_⟩
 exact ⟨dt,av,cs,rfl,((s.aa [3,4,0,0]).del 4).del 4⟩
end
end Go.Proofs.YtconhghphklfjaaGreat.Am
