/- AtomSame: a part of its proof; conditions: its statement's. -/
import Derived.Test.YtconhghphklfjaaGreatS29
set_option linter.defProp false
namespace Go.Proofs.YtconhghphklfjaaGreat.Am
open Go
def HF:=@Tryz.underlying220
theorem LL : ∀ {l:List Nat},(∀b∈l,b<256)→bytesOf (ofBytes l)=some l:=by
 intro l
 induction l with
 | nil=>intro _; rfl
 | cons b l J =>
  intro h
  have I:=J fun x U=>h x (bl _ U)
  have h2:=h b bp
  rw [ofBytes] at I
  simp only [ofBytes,bH,bytesOf,I,au,vy,td]
  omega
theorem xQ {h:H}{v:V}{l:List Nat}(I:View h v l): convV Tryz.prog h 32 9 v=some (.str l,h):=by
 obtain ⟨J,(⟨rfl | ⟨ea,rfl⟩,rfl⟩ | ⟨id,off,cap,n,cs,st,rfl,U,hl,ho,hc,_⟩)⟩:=I
 ·simp only [convV,aS,jA,Tryz.underlying5]
 ·simp only [convV,aS,jA,Tryz.underlying5]
 ·have e:rdN h id off l.length=some (ofBytes l):=by rw [Cn U hl ho,hc]
  simp only [convV,aS,jA,Tryz.underlying5,e,LL J]
theorem V1 (l:List Nat): (V.str l).beq (.str l)=true:=by simp only [V.beq,u9,Ac]
def jO (l:List Nat): List Nat:=if l.length≠512∨l=List.replicate 512 0 then [] else l.drop 12
def m7 (e:Int)(b w:List Nat): Bool:=decide (e=0)&&(decide (jO b=w)&&decide (dI b≠4))
section
variable {told:dF} {h:H} {S:List ax} {X:ax} {r k q p a g aD:Nat} {op v x:V} {l data:List Nat} {now:List (Int×List Nat)} {b_:Bool} {ε:aM}
theorem Kk (hT:W told)(s:Sat h (X::S))(I:cR X (cV v l)): Call ⟨Tryz.prog,told⟩ 24 [v] h fun r h'=>r=.str (jO l)∧Sat h' (X::S):=by
 have hv:=s.aG (k:=0) rfl I
 have Ob:=cY hv
 have J:=V1 l
 refine Call.of_wp (hT.free _ rfl) Tryz.func24 rfl rfl (zK 6 rfl ?_)
 have s0:=s
 by_cases hl:l.length=512
 ·have fin:∀h,Sat h (X::S)→l≠List.replicate 512 0→(V.str (l.drop 12)=.str (jO l)∧Sat h (X::S)):=fun h s U=>⟨by rw [jO,af (by rintro (h | h); exact h hl; exact U h)],s⟩
  by_cases U:l=List.replicate 512 0
  ·skip
   refine WP.drawn [ai,ai,ai,ai,some (0,2),some (0,2),ai,ai,ai,ai] rfl (by kernel_rfl) (by kernel_rfl) ?_
   refine zM rfl (zO rfl (a_ rfl rfl rfl (bh aS (s.aG (k:=0) rfl I))) (aA.nh rfl rfl rfl rfl (ag rfl rfl aX) (by simp; omega) ?_))
   refine zM rfl (zM rfl (aA.op rfl rfl rfl (by simp only [isEff,jA]) (b8 rfl (xQ (s.aG (k:=0) rfl I))) ?_))
   refine aA.any rfl rfl rfl rfl (OpR.FN rfl s rfl rfl rfl rfl (by decide)) ?_
   intro z h s
   refine aA.op rfl rfl rfl (by simp only [isEff,jA]) (b8 rfl (xQ (s.aG (k:=0) rfl (bI _ _)))) ?_
   refine aA.qb rfl rfl rfl rfl (ag rfl rfl wJ) (decide_eq_true U) (zO rfl (kr rfl rfl) ?_)
   refine aA.nil ⟨⟨aa,aa,aa,aa,fun _ _=>.inr ⟨rfl,⟨_,bk rfl⟩,Ob⟩,dP (.inr ⟨rfl,⟨_,b8 rfl (xQ (s0.aG (k:=0) rfl I))⟩,J⟩) (.inr ⟨rfl,⟨_,b8 rfl (xQ (s.aG (k:=1) rfl I))⟩,J⟩),aa,aa,aa,aa,aa⟩,?_⟩
   exact zK 5 rfl (WP.ret ⟨aa,_,rfl,by rw [jO,aj (.inr U)]; rfl,s.drop⟩)
  ·skip
   refine WP.drawn [ai,ai,ai,ai,some (0,2),some (0,2),ai,ai,ai,ai] rfl (by kernel_rfl) (by kernel_rfl) ?_
   refine zM rfl (zO rfl (a_ rfl rfl rfl (bh aS (s.aG (k:=0) rfl I))) (aA.nh rfl rfl rfl rfl (ag rfl rfl aX) (by simp; omega) ?_))
   refine zM rfl (zM rfl (aA.op rfl rfl rfl (by simp only [isEff,jA]) (b8 rfl (xQ (s.aG (k:=0) rfl I))) ?_))
   refine aA.any rfl rfl rfl rfl (OpR.FN rfl s rfl rfl rfl rfl (by decide)) ?_
   intro z h s
   refine aA.op rfl rfl rfl (by simp only [isEff,jA]) (b8 rfl (xQ (s.aG (k:=0) rfl (bI _ _)))) ?_
   refine aA.nh rfl rfl rfl rfl (ag rfl rfl wJ) (decide_eq_false U) (zO rfl (kr rfl rfl) ?_)
   refine aA.nil ⟨⟨aa,aa,aa,aa,fun _ _=>.inr ⟨rfl,⟨_,bk rfl⟩,Ob⟩,dP (.inr ⟨rfl,⟨_,b8 rfl (xQ (s0.aG (k:=0) rfl I))⟩,J⟩) (.inr ⟨rfl,⟨_,b8 rfl (xQ (s.aG (k:=1) rfl I))⟩,J⟩),aa,aa,aa,aa,aa⟩,?_⟩
   have lJ:=ej (s.aG (k:=1) rfl I) (a:=12) (by omega)
   exact zK 5 rfl (zo rfl (cC (p:=some (.int .i64 12)) (q:=none) (m:=none) (p':=some 12) (q':=none) (m':=none) rfl rfl rfl rfl rfl rfl rfl lJ.1) (zo rfl (b8 rfl (xQ lJ.2.1)) (zk 2 rfl (WP.ret ⟨aa,_,rfl,fin _ s.drop U⟩))))
 ·skip
  refine WP.drawn [ai,ai,ai,ai,some (0,2),some (0,2),ai,ai,ai,ai] rfl (by kernel_rfl) (by kernel_rfl) ?_
  refine zM rfl (zO rfl (a_ rfl rfl rfl (bh aS (s.aG (k:=0) rfl I))) (aA.qb rfl rfl rfl rfl (ag rfl rfl aX) (by simp; omega) ?_))
  refine zM rfl (aA.no (e:=false) rfl rfl rfl rfl (aA.no (e:=false) rfl rfl rfl (by simp only [isEff,jA]) ?_))
  refine aA.no (e:=true) rfl rfl rfl rfl (aA.no (e:=false) rfl rfl rfl (by simp only [isEff,jA]) ?_)
  refine aA.no (e:=false) rfl rfl rfl rfl (zO rfl (kP rfl rfl) ?_)
  refine aA.nil ⟨⟨aa,aa,aa,aa,fun _ _=>.inl rfl,fun _ _=>.inl rfl,aa,aa,aa,aa,aa⟩,?_⟩
  exact zK 5 rfl (WP.ret ⟨aa,_,rfl,by rw [jO,aj (.inl hl)]; rfl,s⟩)
theorem TD (U:W told){n:Int}{w:List Nat}(s:Sat h (cx a p q r op data aD::bZ r p q ε.1::bf q p ε.2.1::aC p ε.2.2::S))(I:gZ ε)(hw:ε.2.2.waiting.length≤268435456):
  Call ⟨Tryz.prog,told⟩ 16 [.iface 24 (.ptr a 0),.int .i64 n,.str w] h fun v h'=>∃e b ε',mD ε n e b ε'∧v=.bool (m7 e b w) ∧
   Sat h' (cx a p q r op data aD::bZ r p q ε'.1::bf q p ε'.2.1::aC p ε'.2.2::S):=by
 refine Call.of_wp (U.free _ rfl) Tryz.func16 rfl rfl (zK 8 rfl (aB.any rfl rfl rfl (OpR.invoke rfl rfl rfl Tp rfl (By U (n:=n) s I.ok I.pins hw)) ?_))
 rintro v h ⟨e,b,ε',J,(⟨he,rfl,s⟩ | ⟨rfl,u,rfl,s⟩)⟩
 ·refine aB.op rfl rfl rfl (bk rfl) ?_
  refine zk 8 rfl (zh rfl (ag rfl rfl bR) (by simp; exact he) ?_)
  exact zk 13 rfl (WP.ret ⟨aa,_,rfl,e,b,ε',J,by rw [m7,eB he,eW],s⟩)
 ·have hlen:=(J.len I)
  refine zk 9 rfl (zt rfl (ag rfl rfl bR) (rfl) (zk 2 rfl (zc rfl (Kk U s (bI _ _)) ?_)))
  rintro r h ⟨rfl,s⟩
  refine zm rfl ?_
  by_cases hb:jO b=w
  ·skip
   refine zt rfl (ag rfl rfl wJ) (decide_eq_true hb) (zk 3 rfl (zc rfl (wW U s (bI _ _) (by omega)) ?_))
   rintro r h ⟨rfl,s⟩
   by_cases hc:dI b=4
   ·skip
    refine zh rfl (ag rfl rfl aX) (by simp; exact hc) ?_
    exact zk 3 rfl (WP.ret ⟨aa,_,rfl,0,b,ε',J,by rw [m7,show decide (dI b≠4)=false from eB (not_not_intro hc),lV,lV],s.drop⟩)
   ·skip
    refine zt rfl (ag rfl rfl aX) (by simp; exact hc) ?_
    exact zk 3 rfl (WP.ret ⟨aa,_,rfl,0,b,ε',J,by rw [m7,dN hc,dN hb]; rfl,s.drop⟩)
  ·skip
   exact zh rfl (ag rfl rfl wJ) (decide_eq_false hb) (zk 8 rfl (WP.ret ⟨aa,_,rfl,0,b,ε',J,by rw [m7,eB hb,eW,lV],s.drop⟩))
theorem TE (hT:W told){n:Int}{w:List Nat}(s:Sat h (gK g a now b_::cx a p q r op data aD::bZ r p q ε.1::bf q p ε.2.1::aC p ε.2.2::S))(U:gZ ε)(hw:ε.2.2.waiting.length≤268435456)(I:∀e∈now,e.2.length=512):
  Call ⟨Tryz.prog,told⟩ 16 [.iface 27 (.ptr g 0),.int .i64 n,.str w] h fun v h'=>∃e b ε',ow ε now b_ n e b ε'∧v=.bool (m7 e b w) ∧
   Sat h' (gK g a now b_::cx a p q r op data aD::bZ r p q ε'.1::bf q p ε'.2.1::aC p ε'.2.2::S):=by
 refine Call.of_wp (hT.free _ rfl) Tryz.func16 rfl rfl (zK 8 rfl (aB.any rfl rfl rfl (OpR.invoke rfl rfl rfl Ka rfl (Hp hT (n:=n) s U hw I)) ?_))
 rintro v h ⟨e,b,ε',J,(⟨he,rfl,s⟩ | ⟨rfl,u,rfl,s⟩)⟩
 ·refine aB.op rfl rfl rfl (bk rfl) ?_
  refine zk 8 rfl (zh rfl (ag rfl rfl bR) (by simp; exact he) ?_)
  exact zk 13 rfl (WP.ret ⟨aa,_,rfl,e,b,ε',J,by rw [m7,eB he,eW],s⟩)
 ·have hlen:b.length=512:=by
   cases J with
   | own b h1 h2 h hl=>exact I _ (fe hl)
   | read e b ε' h1 h2 h hl J=>exact J.len U
  refine zk 9 rfl (zt rfl (ag rfl rfl bR) (rfl) (zk 2 rfl (zc rfl (Kk hT s (bI _ _)) ?_)))
  rintro r h ⟨rfl,s⟩
  refine zm rfl ?_
  by_cases hb:jO b=w
  ·skip
   refine zt rfl (ag rfl rfl wJ) (decide_eq_true hb) (zk 3 rfl (zc rfl (wW hT s (bI _ _) (by omega)) ?_))
   rintro r h ⟨rfl,s⟩
   by_cases hc:dI b=4
   ·skip
    refine zh rfl (ag rfl rfl aX) (by simp; exact hc) ?_
    exact zk 3 rfl (WP.ret ⟨aa,_,rfl,0,b,ε',J,by rw [m7,show decide (dI b≠4)=false from eB (not_not_intro hc),lV,lV],s.drop⟩)
   ·skip
    refine zt rfl (ag rfl rfl aX) (by simp; exact hc) ?_
    exact zk 3 rfl (WP.ret ⟨aa,_,rfl,0,b,ε',J,by rw [m7,dN hc,dN hb]; rfl,s.drop⟩)
  ·skip
   exact zh rfl (ag rfl rfl wJ) (decide_eq_false hb) (zk 8 rfl (WP.ret ⟨aa,_,rfl,0,b,ε',J,by rw [m7,eB hb,eW,lV],s.drop⟩))
end
theorem Jb : ∀(k n:Nat),n<128^(k+1)→digits (k+1) n=digits k n:=by
 intro k
 induction k with
 | zero=>intro n I; rw [jB (by simpa using I),jB (by simpa using I)]
 | succ k J =>
  intro n I
  by_cases h:n<128
  ·rw [jB h,jB h]
  ·have U:n/128<128^(k+1):=by
    rw [Dd (by omega)]
    rw [o_] at I
    exact I
   rw [digits,af h,J _ U,digits,af h]
set_option maxRecDepth 10000 in
theorem V2 {n:Nat}(h:n<256): Nat.land n 127=n%128:=by
 have:∀m:Fin 256,Nat.land m.1 127=m.1%128:=by decide
 exact this ⟨n,h⟩
theorem Jc {n:Nat}(h:n<256): intV .and .u8 (n:Int) 127=some (.int .u8 ((n%128:Nat):Int)):=by
 have I:((n:Int)%(2^(IntKind.u8).bits:Int)).toNat=n:=by simp only [IntKind.bits]; omega
 have J:((127:Int)%(2^(IntKind.u8).bits:Int)).toNat=127:=by simp [IntKind.bits]
 simp only [intV,bitsV,I,J,V2 h,wrap_u8]
 congr 2
 omega
theorem Jd {h:H}{n:Nat}(I:n<18446744073709551616): convV Tryz.prog h 5 35 (.int .u8 (n:Int))=some (.int .u64 (n:Int),h):=by
 simp only [convV,Tryz.underlying5,cq,wrap_u64 I]
theorem Je {h:H}{n:Nat}(I:n<9223372036854775808): convV Tryz.prog h 5 3 (.int .u8 (n:Int))=some (.int .i64 (n:Int),h):=by
 simp only [convV,Tryz.underlying5,bE,wrap_i64 I]
theorem HG {h:H}{n:Nat}(I:n<9223372036854775808): convV Tryz.prog h 35 3 (.int .u64 (n:Int))=some (.int .i64 (n:Int),h):=by
 simp only [convV,cq,bE,wrap_i64 I]
theorem HH (i:Nat): (128:Nat)^i=2^(7*i):=by rw [Nat.pow_mul]
theorem Z2 {d i:Nat}(U:d<128)(hi:i≤8): shiftV .shl .u64 (d:Int) ((7*i:Nat):Int)=some (.int .u64 ((d*128^i:Nat):Int)):=by
 have J:(128:Nat)^i≤128^8:=oT (by omega) hi
 have I:d*128^i<18446744073709551616:=by
  have:d*128^i≤127*128^8:=sX (by omega) J
  omega
 simp only [shiftV,IntKind.bits,cQ]
 rw [show min (7*i) 64=7*i by omega,show decide (((7*i:Nat):Int)<0)=false by simp; omega,az]
 have:(d:Int)*2^(7*i)=((d*128^i:Nat):Int):=by rw [HH]; push_cast; rfl
 simp only [this,wrap_u64 I]
theorem TF {a d i:Nat}(I:a<128^i)(hd:d<128)(hi:i≤8): intV .or .u64 (a:Int) ((d*128^i:Nat):Int)=some (.int .u64 ((a+d*128^i:Nat):Int)):=by
 have J:(128:Nat)^i≤128^8:=oT (by omega) hi
 have hm:d*128^i≤127*128^8:=sX (by omega) J
 have U:((a:Int)%(2^(IntKind.u64).bits:Int)).toNat=a:=by simp only [IntKind.bits]; omega
 have h2:((d*128^i:Nat):Int)%(2^(IntKind.u64).bits:Int)=((d*128^i:Nat):Int):=by simp only [IntKind.bits]; omega
 have h3:Nat.lor a (d*128^i)=a+d*128^i:=by
  have e:d*128^i=2^(7*i)*d:=by rw [←HH,qM]
  have:=C9 (i:=7*i) (b:=a) (by rw [←HH]; exact I) d
  rw [←e] at this
  rw [s_ a,this]
  exact Nat.or_comm _ _
 simp only [intV,bitsV,U,h2,cQ,h3]
 rw [wrap_u64 (by omega)]
section
variable {told:dF} {h:H} {S:List ax} {X:ax} {c:Nat} {v w:V} {l m:List Nat}
theorem nW (I:W told): Call ⟨Tryz.prog,told⟩ 153 [.bool true] h fun v h'=>v=.bD []∧h'=h:=by
 refine Call.of_wp (I.free _ rfl) Tryz.func153 rfl rfl (zg rfl (zm rfl (zh rfl (dA rfl rfl) (rfl) (zv (zj rfl (WP.skip ?_))))))
 exact ⟨aa,_,rfl,rfl,rfl⟩
theorem Qv (U:W told){x:Nat}(s:Sat h (pt c (.cells 1 [v] false)::X::S))(hX:cR X (cV v (x::l))):
  Call ⟨Tryz.prog,told⟩ 149 [.ptr c 0] h fun r h'=>r=.int .u8 (x:Int)∧∃u,cR X (cV u l)∧Sat h' (pt c (.cells 1 [u] false)::X::S):=by
 have J:=s.aG (k:=1) rfl hX
 obtain ⟨id,off,e1,e2⟩:=g_ J (i:=0) (b:=x) rfl
 have I:=ej J (a:=1) (by simp)
 have hu:=I.2.1.cells
 refine Call.of_wp (U.free _ rfl) Tryz.func149 rfl rfl (zK 8 rfl (zf rfl (mc _ _) (zl rfl (s.ld (k:=0) rfl bL rfl) (zo rfl (a_ rfl rfl rfl (bh aS J)) (zt rfl (ag rfl rfl dR) (by simp) ?_)))))
 refine zc rfl (nW U) ?_
 rintro r h' ⟨rfl,rfl⟩
 refine zk 5 rfl (zf rfl (mc _ _) (zl rfl (s.ld (k:=0) rfl bL rfl) (zo rfl (dG (r:=.ptr id off) rfl rfl e1) (zl rfl e2 (zk 7 rfl (zf rfl (mc _ _) (zl rfl (s.ld (k:=0) rfl bL rfl) (zo rfl (cC (p:=some (.int .i64 1)) (q:=none) (m:=none) (p':=some 1) (q':=none) (m':=none) rfl rfl rfl rfl rfl rfl rfl I.1) (zn rfl (zf rfl (mc _ _) (zS rfl (s.dZ (k:=0) rfl jy rfl (by decide) hu.1 hu.2) ?_)))))))))))
 rintro h s
 exact zk 6 rfl (WP.ret ⟨aa,_,rfl,rfl,_,nO hX (by simp),s⟩)
def Cu (h:H)(c:Nat)(X:ax)(S:List ax)(l:List Nat): Prop:=∃v,cR X (cV v l)∧Sat h (pt c (.cells 1 [v] false)::X::S)
theorem Ec (I:W told){x:Nat}(J:Cu h c X S (x::l)): Call ⟨Tryz.prog,told⟩ 149 [.ptr c 0] h fun r h'=>r=.int .u8 (x:Int)∧Cu h' c X S l:=by
 obtain ⟨v,U,s⟩:=J
 exact (Qv I s U).mono fun r h' ⟨e,u,hU,s'⟩=>⟨e,u,hU,s'⟩
noncomputable def V3 : Code:=cJ [1,1,0,0] ((Tryz.f150.body).getD .skip)
noncomputable def R9 : Code:=unblk (leftC V3)
noncomputable def nbC : Code:=cF (cF (cF R9))
theorem Ba (hT:W told){x i acc:Nat}{E:List (Nat×V)}{Q:Ex→List (Nat×V)→H→Prop}(hx:x<256)(hi:i≤8)(ha:acc<128^i)
 (hc:Cu h c X S (x::l))(h0:look E 0=some (.ptr c 0))(h2:look E 2=some (.int .u64 (acc:Int)))(I:look E 3=some (.int .i64 (i:Int)))
 (hq:∀E' h',look E' 0=some (.ptr c 0)→look E' 2=some (.int .u64 ((acc+x%128*128^i:Nat):Int))→look E' 3=some (.int .i64 (i:Int))→look E' 4=some (.int .u8 (x:Int))→Cu h' c X S l→WP ⟨Tryz.prog,told⟩ 38 nbC E' h' Q):
  WP ⟨Tryz.prog,told⟩ 38 R9 E h Q:=by
 refine WP.seq (WP.region rfl ?_)
 refine zo rfl (bk h0) ?_
 refine zc rfl (Ec hT hc) (fun v h₁ ⟨e1,c1⟩ => ?_)
 subst e1
 refine aB.op rfl rfl rfl (eV rfl) (aB.nil ?_)
 refine WP.seq (WP.region rfl ?_)
 refine zo rfl (bk I) (zo rfl (ag (v:=.int .i64 (i:Int)) (u:=.int .i64 9) (r:=.bool true) rfl rfl (by simp only [binV,ikBeq,ah,intV]; congr 2 <;> simp <;> omega)) ?_)
 refine zk 8 rfl ?_
 refine zc rfl (nW hT) (fun v J ⟨e2,U⟩=>aB.nil ?_)
 subst e2; subst U
 refine WP.seq (WP.region rfl ?_)
 refine zo rfl (bk h2) (zm rfl (zo rfl (ag (v:=.int .u8 (x:Int)) (u:=.int .u8 127) rfl rfl (by simp only [binV,ikBeq,ah]; exact Jc hx)) ?_))
 refine zo rfl (b8 (v:=.int .u8 ((x%128:Nat):Int)) rfl (Jd (by omega))) ?_
 refine zo rfl (bk I) ?_
 refine aB.op rfl rfl rfl (ag (v:=.int .i64 7) (u:=.int .i64 (i:Int)) (r:=.int .i64 ((7*i:Nat):Int)) rfl rfl (by
  simp only [binV,ikBeq,ah,intV]
  rw [show (7:Int)*(i:Int)=((7*i:Nat):Int) by push_cast; rfl,wrap_i64 (by omega)])) ?_
 refine zo rfl (ag (v:=.int .u64 ((x%128:Nat):Int)) (u:=.int .i64 ((7*i:Nat):Int)) rfl rfl (by simp only [binV]; exact Z2 (by omega) hi)) ?_
 refine zo rfl (ag (v:=.int .u64 (acc:Int)) rfl rfl (by simp only [binV,ikBeq,ah]; exact TF ha (by omega) hi)) ?_
 refine aB.op rfl rfl rfl (eV rfl) (aB.nil ?_)
 exact hq _ _ h0 rfl I rfl c1
set_option maxRecDepth 4000 in
theorem CT (hT:W told){m i acc:Nat}{E:List (Nat×V)}{Q:Ex→List (Nat×V)→H→Prop}(hi:i≤8)(hm:m<128)(hz:i=0∨0<m)(ha:acc<128^i)
 (hc:Cu h c X S (m::l))(h0:look E 0=some (.ptr c 0))(h2:look E 2=some (.int .u64 (acc:Int)))(h3:look E 3=some (.int .i64 (i:Int)))
 (hq:∀E' h',look E' 2=some (.int .u64 ((acc+m*128^i:Nat):Int))→Cu h' c X S l→Q .ret E' h'): WP ⟨Tryz.prog,told⟩ 38 (.loop V3) E h Q:=by
 refine WP.loop (WP.seq (WP.block ?_))
 refine Ba hT (x:=m) (by omega) hi ha hc h0 h2 h3 (fun E1 h₁ q0 q2 q3 q4 c1 => ?_)
 rw [ik hm] at q2
 refine WP.seq (WP.region rfl ?_)
 refine zo rfl (bk q4) ?_
 refine aB.op rfl rfl rfl (ag (v:=.int .u8 (m:Int)) (u:=.int .u8 128) (r:=.bool true) rfl rfl (by simp only [binV,ikBeq,ah,intV]; congr 2 <;> simp <;> omega)) (aB.nil ?_)
 refine WP.cond (t:=true) rfl (WP.seq (WP.region rfl ?_))
 refine zo rfl (bk q4) ?_
 by_cases EB:0<m
 ·refine aB.op rfl rfl rfl (ag (v:=.int .u8 (m:Int)) (u:=.int .u8 0) (r:=.bool true) rfl rfl (by simp only [binV,ikBeq,ah,intV]; congr 2 <;> simp <;> omega)) ?_
  refine zk 4 rfl ?_
  refine zc rfl (nW hT) (fun v I ⟨e2,J⟩=>aB.nil ?_)
  subst e2; subst J
  refine WP.seq (WP.region rfl ?_)
  exact zo rfl (bk q2) (aB.op rfl rfl rfl (eV rfl) (aB.nil (WP.ret (hq _ _ rfl c1))))
 ·have Vp:i=0:=by omega
  have U:m=0:=by omega
  subst Vp; subst U
  refine zo rfl (ag (v:=.int .u8 0) (u:=.int .u8 0) (r:=.bool false) rfl rfl rfl) (zm rfl (zo rfl (bk q3) (zo rfl (ag (v:=.int .i64 0) (u:=.int .i64 0) (r:=.bool true) rfl rfl rfl) (zp rfl ?_))))
  refine zc rfl (nW hT) (fun v I ⟨e2,J⟩=>aB.nil ?_)
  subst e2; subst J
  refine WP.seq (WP.region rfl ?_)
  exact zo rfl (bk q2) (aB.op rfl rfl rfl (eV rfl) (aB.nil (WP.ret (hq _ _ rfl c1))))
set_option maxRecDepth 4000 in
theorem Jf (hT:W told): ∀(k m i acc:Nat) (h:H) (E:List (Nat×V)) (Q:Ex→List (Nat×V)→H→Prop),i+k≤8→m<128^(k+1)→(i=0∨0<m)→acc<128^i →
  Cu h c X S (digits k m++l)→look E 0=some (.ptr c 0)→look E 2=some (.int .u64 (acc:Int))→look E 3=some (.int .i64 (i:Int)) →
  (∀E' h',look E' 2=some (.int .u64 ((acc+m*128^i:Nat):Int))→Cu h' c X S l→Q .ret E' h')→WP ⟨Tryz.prog,told⟩ 38 (.loop V3) E h Q:=by
 intro k
 induction k with
 | zero =>
  intro m i acc h E Q hi hm hz ha U h0 h2 h3 hq
  have I:m<128:=by simpa using hm
  rw [jB I] at U
  exact CT hT (by omega) I hz ha U h0 h2 h3 hq
 | succ k ih =>
  intro m i acc h E Q hi hm hz ha U h0 h2 h3 hq
  by_cases I:m<128
  ·rw [jB I] at U
   exact CT hT (by omega) I hz ha U h0 h2 h3 hq
  ·have hd:m/128<128^(k+1):=by
    rw [Dd (by omega)]
    rw [o_] at hm
    exact hm
   rw [digits,af I] at U
   refine WP.loop (WP.seq (WP.block ?_))
   refine Ba hT (x:=m%128+128) (by omega) (by omega) ha U h0 h2 h3 (fun E1 h₁ q0 q2 q3 q4 c1 => ?_)
   refine WP.seq (WP.region rfl ?_)
   refine zo rfl (bk q4) ?_
   refine aB.op rfl rfl rfl (ag (v:=.int .u8 ((m%128+128:Nat):Int)) (u:=.int .u8 128) (r:=.bool false) rfl rfl (by simp only [binV,ikBeq,ah,intV]; congr 2 <;> simp <;> omega)) (aB.nil ?_)
   refine WP.cond (t:=false) rfl (WP.skip ?_)
   refine zr rfl (zo rfl (bk q3) (zo rfl (ag (v:=.int .i64 (i:Int)) (u:=.int .i64 1) (r:=.int .i64 ((i+1:Nat):Int)) rfl rfl (by exact bO (aT (by omega) (by omega)))) ?_))
   refine aB.op rfl rfl rfl (eV rfl) (aB.nil ?_)
   have e1:(m%128+128)%128=m%128:=by omega
   rw [e1] at q2
   have J:128^(i+1)=128^i*128:=o_ 128 i
   refine ih (m/128) (i+1) (acc+m%128*128^i) h₁ _ Q (by omega) hd (.inr (by omega)) ?_ c1 q0 q2 rfl (fun E' h' p1 p3=>hq E' h' ?_ p3)
   ·have:m%128*128^i≤127*128^i:=qD _ (by omega)
    rw [J]; omega
   ·rw [p1]
    have:acc+m%128*128^i+m/128*128^(i+1)=acc+m*128^i:=by
     rw [J,qM (128^i) 128,←Nat.mul_assoc,gv,←ir]
     congr 2
     omega
    rw [this]
theorem uV (I:W told){n:Nat}(J:n<9223372036854775808)(U:Cu h c X S (digits 9 n++l)):
  Call ⟨Tryz.prog,told⟩ 150 [.ptr c 0] h fun v h'=>v=.int .u64 (n:Int)∧Cu h' c X S l:=by
 rw [Jb 8 n (by simpa using J)] at U
 refine Call.of_wp (I.free _ rfl) Tryz.func150 rfl rfl (zK 8 rfl (WP.block ?_))
 refine Jf I 8 n 0 0 h _ _ (by omega) (by simpa using J) (.inl rfl) (by simp) U rfl rfl rfl (fun E' h' q1 q2=>⟨aa,_,?_,rfl,q2⟩)
 have:0+n*128^0=n:=by simp
 rw [this] at q1
 show jl _ E' h' [.tmp 2]=_
 simp only [jl,mapO,resE,q1]
theorem xj (I:W told){n:Nat}(U:n≤1048576)(J:Cu h c X S (digits 9 n++l)):
  Call ⟨Tryz.prog,told⟩ 152 [.ptr c 0] h fun v h'=>v=.int .i64 (n:Int)∧Cu h' c X S l:=by
 refine Call.of_wp (I.free _ rfl) Tryz.func152 rfl rfl (zK 7 rfl (zc rfl (uV I (by omega) J) ?_))
 rintro v h' ⟨rfl,J⟩
 refine zk 5 rfl (zt rfl (ag rfl rfl Bl) (by simp; omega) ?_)
 refine zc rfl (nW I) ?_
 rintro v h' ⟨rfl,rfl⟩
 refine zk 4 rfl (zo rfl (b8 rfl (HG (by omega))) ?_)
 exact zk 2 rfl (WP.ret ⟨aa,_,rfl,rfl,J⟩)
theorem HI (hT:W told)(hm:m.length≤1048576)(hc:Cu h c X S (digits 9 m.length++m++l)):
  Call ⟨Tryz.prog,told⟩ 151 [.ptr c 0] h fun v h'=>Cu h' c X (bG v m::S) l:=by
 rw [bP] at hc
 refine Call.of_wp (hT.free _ rfl) Tryz.func151 rfl rfl (zK 7 rfl (zc rfl (xj hT hm hc) ?_))
 rintro v h ⟨rfl,v,I,s⟩
 have hv:=s.aG (k:=1) rfl I
 have J:=cY hv
 refine zk 7 rfl (zf rfl (mc _ _) (zl rfl (s.ld (k:=0) rfl bL rfl) (zo rfl (a_ rfl rfl rfl (bh aS hv)) (zt rfl (ag rfl rfl Bl) (by simp <;> omega) ?_))))
 refine zc rfl (nW hT) ?_
 rintro r h' ⟨rfl,rfl⟩
 refine zk 2 rfl ?_
 have s0:=s
 have U:=ia hv (b:=m.length) (by simp)
 have Gr:=cY U.2.1
 refine WP.drawn [none,none,some (0,2),some (0,2),some (0,2),some (0,2),some (0,2),some (0,2),none,none] rfl (by kernel_rfl) (by kernel_rfl) ?_
 refine zM rfl (aA.any rfl rfl rfl rfl (OpR.vR rfl s rfl rfl rfl rfl (by omega)) ?_)
 intro v2 h s
 have s:=s.ae [1,1,0]
 have ot:=cY (s.buf (k:=2) rfl).view
 have s1:=s
 have U:=ia (s.aG (k:=1) rfl I) (b:=m.length) (by simp)
 refine zM rfl (zN rfl (zF rfl (mc _ _) (zL rfl (s.ld (k:=0) rfl bL rfl) (zM rfl (zO rfl (cC (p:=none) (q:=some (.int .i64 (m.length:Int))) (m:=none) (p':=none) (q':=some m.length) (m':=none) rfl rfl rfl rfl rfl (by rw [fG (by omega)]; rfl) rfl (ia (s.aG (k:=1) rfl I) (b:=m.length) (by simp)).1) ?_)))))
 refine aA.any rfl rfl rfl rfl (OpR.oG rfl (s.ae [2,1]) (wN I (b:=m.length) (by simp)) rfl rfl rfl rfl (by rw [kN rfl]; simp only [bY]; omega)) ?_
 intro v3 h s
 have s:=s.ae [2,1,0]
 rw [kN rfl] at s
 have Oh:=cY (s.buf (k:=2) rfl).view
 refine zA rfl ?_
 refine aA.nil ⟨⟨aa,aa,fun _ _=>.inr ⟨rfl,⟨_,bk rfl⟩,aW _ rfl⟩,fun _ _=>.inr ⟨rfl,⟨_,jZ rfl⟩,aW _ rfl⟩,fun _ _=>.inr ⟨rfl,⟨_,jv rfl (mc _ _)⟩,aW _ rfl⟩,dP (.inr ⟨rfl,⟨_,aV rfl (s0.ld (k:=0) rfl bL rfl)⟩,J⟩) (.inr ⟨rfl,⟨_,aV rfl (s1.ld (k:=0) rfl bL rfl)⟩,J⟩),fun _ _=>.inr ⟨rfl,⟨_,bk rfl⟩,aW _ rfl⟩,dP (.inr ⟨rfl,⟨_,cC (p:=none) (q:=some (.int .i64 (m.length:Int))) (m:=none) (p':=none) (q':=some m.length) (m':=none) rfl rfl rfl rfl rfl (by rw [fG (by omega)]; rfl) rfl (ia (s0.aG (k:=1) rfl I) (b:=m.length) (by simp)).1⟩,Gr⟩) (.inr ⟨rfl,⟨_,cC (p:=none) (q:=some (.int .i64 (m.length:Int))) (m:=none) (p':=none) (q':=some m.length) (m':=none) rfl rfl rfl rfl rfl (by rw [fG (by omega)]; rfl) rfl (ia (s1.aG (k:=1) rfl I) (b:=m.length) (by simp)).1⟩,Gr⟩),aa,aa,aa⟩,?_⟩
 have lJ:=ej (s.aG (k:=1) rfl I) (a:=m.length) (by simp)
 have hu:=lJ.2.1.cells
 refine zK 5 rfl (zf rfl (mc _ _) (zl rfl (s.ld (k:=0) rfl bL rfl) (zm rfl (zo rfl (cC (p:=some (.int .i64 (m.length:Int))) (q:=none) (m:=none) (p':=some m.length) (q':=none) (m':=none) rfl rfl rfl rfl (by rw [fG (by omega)]; rfl) rfl rfl lJ.1) ?_))))
 refine zn rfl (zf rfl (mc _ _) (zS rfl (s.dZ (k:=0) rfl jy rfl (by decide) hu.1 hu.2) ?_))
 rintro h s
 refine zk 6 rfl (WP.ret ⟨aa,_,rfl,?_⟩)
 have hr:=nO I (a:=m.length) (by simp)
 rw [sU rfl] at hr
 exact ⟨_,hr,s⟩
end
theorem R_ {P:Program}{E:List (Nat×V)}{h:H}{a t:Nat}{p v:V}(I:look E a=some p)(J:loadV P h t p=some v): jl P E h [.cell a t]=some v:=by simp only [jl,mapO,resE,I,J]
section
variable {told:dF} {h:H} {S:List ax} {X:ax} {c:Nat} {v w:V} {l m:List Nat}
theorem LM (J:W told){x:cm}(hx:x.Ok)(hc:Cu h c X S (kG x++l)):
  Call ⟨Tryz.prog,told⟩ 154 [.ptr c 0] h fun r h'=>∃u,r=.agg [.int .i64 x.aK,.int .i64 x.pos,.bool x.whole,u]∧Cu h' c X (bG u x.b::S) l:=by
 obtain ⟨x1,x2,x3,x4,x5,x6⟩:=hx
 obtain ⟨pg,ps,wh,b⟩:=x
 dsimp only at x1 x2 x3 x4 x5 x6 hc
 obtain ⟨pg,rfl⟩:=Int.eq_ofNat_of_zero_le x1
 obtain ⟨ps,rfl⟩:=Int.eq_ofNat_of_zero_le x3
 simp only [kG,cQ,bP,fg,cU] at hc
 generalize U:(if wh=true then 1 else 0)=wb at hc
 have Rh:wb≤1:=by rw [←U]; cases wh <;> decide
 have Bb:decide ((wb:Int)=1)=wh:=by rw [←U]; cases wh <;> rfl
 obtain ⟨v,I,s⟩:=hc
 refine Call.of_wp (J.free _ rfl) Tryz.func154 rfl rfl (zg rfl ?_)
 refine aB.cO s rfl rfl rfl (cH qV) (fun p2 h s => ?_)
 refine zk 4 rfl (zc rfl (xj J (by omega) ⟨v,I,s.ae [1,1,0]⟩) ?_)
 rintro v h ⟨rfl,v,I,s⟩
 refine zm rfl (zc rfl (xj J (by omega) ⟨v,I,s⟩) ?_)
 rintro v h ⟨rfl,v,I,s⟩
 refine zf rfl (qd _ _) ?_
 refine zS rfl (by exact s.dZ (k:=2) rfl jK rfl (by decide) rfl rfl) (fun h s => ?_)
 refine zf rfl (rN _ _) ?_
 refine zS rfl (by exact s.dZ (k:=2) rfl jK rfl (by decide) rfl rfl) (fun h s => ?_)
 refine zk 4 rfl (zc rfl (Ec J ⟨v,I,s⟩) ?_)
 rintro v h ⟨rfl,v,I,s⟩
 refine zk 5 rfl (zt rfl (ag rfl rfl Bl) (by simp; omega) ?_)
 refine zc rfl (nW J) ?_
 rintro r h' ⟨rfl,rfl⟩
 refine zk 4 rfl (zo rfl (ag (r:=.bool wh) rfl rfl (by rw [←Bb]; exact bR)) ?_)
 refine zf rfl (yy _ _) ?_
 refine zS rfl (by exact s.dZ (k:=2) rfl xN rfl (by decide) rfl rfl) (fun h s => ?_)
 refine zk 4 rfl ?_
 rw [←bP] at I
 refine zc rfl (HI J (by omega) ⟨v,I,s⟩) ?_
 rintro u h ⟨v,I,s⟩
 have hu:=(s.buf (k:=2) rfl).view.cells
 refine zf rfl (om _ _) (zS rfl (s.dZ (k:=3) rfl jy rfl (by decide) hu.1 hu.2) ?_)
 rintro h s
 dsimp only [V.cells,List.length_cons,List.length_nil,Nat.reduceAdd,aU,bringA,getA,List.set,setA] at s
 refine zk 3 rfl (zl rfl (s.fE (k:=3) rfl Lc r9) (zS rfl (s.gX (j:=3) rfl r9 rfl (by simp only [iZ,jH,hu.2]; rfl)) ?_))
 rintro h s
 refine zv ?_
 refine WP.ret ⟨aa,_,R_ rfl (s.fE (k:=3) rfl Lc r9),?_⟩
 exact ⟨u,rfl,v,I,s.del 3⟩
structure xk (tx pv nx:Nat)(data:List Nat)(aP:List cm): Prop where
 tx:tx<9223372036854775808
 pv:pv<9223372036854775808
 nx:nx<9223372036854775808
 data:data.length≤1048576
 many:aP.length≤1048576
theorem Qw (x:cm): 1≤(kG x).length:=by simp only [kG,bC,bj]; omega
theorem HJ : ∀l:List cm,l.length≤(l.flatMap kG).length:=by
 intro l
 induction l with
 | nil=>simp
 | cons x l I=>have:=Qw x; simp only [qF,bC,bj]; omega
noncomputable def rdL : Code:=cJ [1,1,1,1,1,1,1,1,0,1,0,0] ((Tryz.f132.body).getD .skip)
theorem TG (hT:W told){kd tx pv nx:Nat}{p2:Nat}{dt:V}{aP:List cm}(mQ:∀x∈aP,x.Ok)(hn:aP.length≤1048576): ∀(j i:Nat) (I:V) (cs:List V) (h:H) (E:List (Nat×V)) (Q:Ex→List (Nat×V)→H→Prop),
  i+j=aP.length→Cu h c X (pt p2 (.cells 6 (iy kd tx pv nx dt I) false)::.arr 4 I cs::cT cs (aP.take i)::S) ((aP.drop i).flatMap kG)→Has E [(0,.ptr c 0),(2,.ptr p2 0),(41,.int .i64 aP.length),(42,.int .i64 i)] →
  (∀E' h' I cs,Has E' [(0,.ptr c 0),(2,.ptr p2 0)]→Cu h' c X (pt p2 (.cells 6 (iy kd tx pv nx dt I) false)::.arr 4 I cs::cT cs aP::S) []→Q (.exit 2) E' h')→WP ⟨Tryz.prog,told⟩ 64 (.loop rdL) E h Q:=by
 intro j
 induction j with
 | zero =>
  intro i I cs h E Q hi hc hE hq
  refine WP.loop (WP.has hE (zg rfl (zh rfl (ag rfl rfl bx) (by simp; omega) ?_)))
  refine zk 3 rfl (WP.exit ?_)
  rw [fI (by omega),sK (by omega)] at hc
  exact hq _ _ _ _ ⟨rfl,rfl,aa⟩ hc
 | succ j ih =>
  intro i I cs h E Q hi hc hE hq
  have hx:aP[i]?=some (aP[i]'(by omega)):=bg _
  generalize (aP[i]'(by omega))=x at hx
  have hxo:=mQ x (bq hx)
  have J:aP.drop i=x::aP.drop (i+1):=by
   obtain ⟨h1,rfl⟩:=List.getElem?_eq_some_iff.1 hx
   exact kM h1
  have U:aP.take (i+1)=aP.take i++[x]:=by rw [zT,hx]; rfl
  rw [J,qF] at hc
  obtain ⟨v,hX,s⟩:=hc
  refine WP.loop (WP.has hE (zg rfl (zt rfl (ag rfl rfl bx) (by simp; omega) ?_)))
  refine zk 5 rfl (WP.block ?_)
  have s0:=s
  have ET:=(s.kF (j:=3) rfl).2.2
  refine WP.drawn [some (0,3),some (0,3),ai,ai,ai,ai,ai,ai] rfl (by kernel_rfl) (by kernel_rfl) ?_
  refine zF rfl (mO _ _) (zL rfl (s.ld (k:=2) rfl tW rfl) (zM rfl (aA.any rfl rfl rfl rfl (OpR.call rfl rfl rfl rfl (LM hT hxo ⟨v,hX,s⟩)) ?_)))
  rintro w h ⟨u,rfl,v,hX,s⟩
  dsimp only [iy] at s
  have hu:=(s.buf (k:=2) rfl).view.cells
  have EO:=cY (s.buf (k:=2) rfl).view
  have s1:=s
  have s:=(s.ae [2]).fF
  dsimp only [bringA,getA,aU] at s
  obtain ⟨rv,h1,yT,s2⟩:=nN (P:=Tryz.prog) (k:=4) (x:=.agg [.int .i64 x.aK,.int .i64 x.pos,.bool x.whole,u]) s iJ qV r9 rfl (by decide) (by decide) rfl (by simp only [V.cells,iZ,jH,hu.2]; rfl)
  dsimp only [V.cells] at s2
  refine aA.any rfl rfl rfl rfl (OpR.of (R:=fun v h'=>v=rv∧h'=h1) (p_ rfl yT) ⟨rfl,rfl⟩) ?_
  rintro v' h' ⟨rfl,rfl⟩
  obtain ⟨i1,lp,jL,sn⟩:=ux
  have Qm:cs.length=(aP.take i).length*4:=by
   obtain ⟨a,b,q1,q2,q3⟩:=s2.at (k:=6) rfl
   exact oJ q3
  rw [dJ] at Qm
  obtain ⟨J7,h2,um,s3⟩:=jo (s2.ae [5,0]) iJ lp qV jL (by omega) rfl (by decide) (by simp only [bj,bY]; omega)
  dsimp only [bringA,getA,aU] at s3
  refine aA.any rfl rfl rfl rfl (OpR.of (R:=fun v h'=>v=J7∧h'=h2) (oB rfl rfl um) ⟨rfl,rfl⟩) ?_
  rintro v' h' ⟨rfl,rfl⟩
  have s:=s3
  have CK:=s.kF (j:=0) rfl
  refine zF rfl (mO _ _) (aA.gV rfl rfl rfl (OpR.eU rfl rfl rfl (s.dZ (k:=5) rfl Lb rfl (by decide) CK.1 CK.2.1)) ?_)
  rintro v' h ⟨rfl,s⟩
  dsimp only [Nat.reduceAdd,List.set,setA] at s
  refine aA.nil ⟨⟨fun _ _=>.inr ⟨rfl,⟨_,jv rfl (mO _ _)⟩,aW _ rfl⟩,vN (.inr ⟨rfl,⟨_,aV rfl (s0.ld (k:=2) rfl tW rfl)⟩,ET⟩) (.inr ⟨rfl,⟨_,aV rfl (s1.ld (k:=3) rfl tW rfl)⟩,ET⟩) (.inr ⟨rfl,⟨_,aV rfl (s2.ld (k:=4) rfl tW rfl)⟩,ET⟩),aa,aa,aa,aa,aa,aa,aa⟩,?_⟩
  refine zr rfl (zb rfl (by exact bO (aT (by omega) (by omega))) ?_)
  refine zm rfl (zv ?_)
  have s4:Sat _ (cT cs (aP.take i)::.ct u x.b::_):=s.ae [6,2]
  have s5:=s4.two (C:=cT (cs++[.int .i64 x.aK,.int .i64 x.pos,.bool x.whole,u]) (aP.take i++[x])) (aE.mB _ _) (aE.ct _ _) fun a b q1 q2=>w5 q1 ⟨⟨⟨rfl,rfl,rfl⟩,q2⟩,aa⟩
  rw [←U] at s5
  have s6:=(s5.ae [3,3,3,1,0]).del 5
  exact ih (i+1) _ _ h _ Q (by omega) ⟨v,hX,s6⟩ ⟨rfl,rfl,rfl,rfl,aa⟩ hq
theorem TH (J:W told){kd tx pv nx:Nat}{data:List Nat}{aP:List cm}(hg:dM kd aP=true)(hk:kd<256)(hr:xk tx pv nx data aP)(hc:Cu h c X S (dm kd tx pv nx data aP)):
  Call ⟨Tryz.prog,told⟩ 132 [.ptr c 0] h fun r h'=>∃dt ch cs,r=.agg (iy kd tx pv nx dt ch)∧Sat h' (X::bG dt data::.arr 4 ch cs::cT cs aP::S):=by
 simp only [dm,cQ,bP,fg,cU] at hc
 obtain ⟨v,I,s⟩:=hc
 refine Call.of_wp (J.free _ rfl) Tryz.func132 rfl rfl (zg rfl ?_)
 refine aB.cO s rfl rfl rfl (cH qU) (fun p2 h s => ?_)
 dsimp only [V.cells,List.length_cons,List.length_nil,Nat.reduceAdd] at s
 refine zk 4 rfl (zc rfl (Ec J ⟨v,I,s.ae [1,1,0]⟩) ?_)
 rintro v h ⟨rfl,v,I,s⟩
 dsimp only [aU,bringA,getA] at s
 refine zo rfl (b8 rfl (Je (by omega))) ?_
 refine zf rfl (tX _ _) ?_
 refine zS rfl (by exact s.dZ (k:=2) rfl jK rfl (by decide) rfl rfl) (fun h s => ?_)
 dsimp only [Nat.reduceAdd,List.set,setA] at s
 refine zk 4 rfl (zo rfl (Al rfl rfl) (zk 5 rfl (zf rfl (M9 _ _) (zf rfl (M_ _ _) (zf rfl (Na _ _) (zo rfl (cX rfl (by rw [W_]; rfl)) ?_))))))
 refine zk 2 rfl (WP.block (WP.loop (zg rfl (zt rfl (ag rfl rfl bx) (rfl) (zk 5 rfl (WP.block (zg rfl (zo rfl (DP rfl rfl (r:=.ptr p2 (0+1)) (by simp only [indexV,HF,Lf,oA,Lh]; rfl)) ?_))))))))
 refine zk 5 rfl (zc rfl (uV J hr.tx ⟨v,I,s⟩) ?_)
 rintro v h ⟨rfl,v,I,s⟩
 refine zn rfl ?_
 refine zS rfl (by exact s.dZ (k:=2) rfl qT rfl (by decide) rfl rfl) (fun h s => ?_)
 dsimp only [Nat.reduceAdd,List.set,setA] at s
 refine zv (zr rfl (zb rfl (by exact bO (aT (by omega) (by omega))) ?_))
 refine zm rfl (zv (WP.loop (zg rfl (zt rfl (ag rfl rfl bx) (rfl) (zv (zw (zi rfl (WP.skip (zw (WP.block (zg rfl (zo rfl (DP rfl rfl (r:=.ptr p2 (0+2)) (by simp only [indexV,HF,Lf,oA,Lh]; rfl)) ?_))))))))))))
 refine zk 5 rfl (zc rfl (uV J hr.pv ⟨v,I,s⟩) ?_)
 rintro v h ⟨rfl,v,I,s⟩
 refine zn rfl ?_
 refine zS rfl (by exact s.dZ (k:=2) rfl qT rfl (by decide) rfl rfl) (fun h s => ?_)
 dsimp only [Nat.reduceAdd,List.set,setA] at s
 refine zv (zr rfl (zb rfl (by exact bO (aT (by omega) (by omega))) ?_))
 refine zk 2 rfl (WP.loop (zg rfl (zt rfl (ag rfl rfl bx) (rfl) (zk 5 rfl (WP.block (zg rfl (zo rfl (DP rfl rfl (r:=.ptr p2 (0+3)) (by simp only [indexV,HF,Lf,oA,Lh]; rfl)) ?_)))))))
 refine zk 5 rfl (zc rfl (uV J hr.nx ⟨v,I,s⟩) ?_)
 rintro v h ⟨rfl,v,I,s⟩
 refine zn rfl ?_
 refine zS rfl (by exact s.dZ (k:=2) rfl qT rfl (by decide) rfl rfl) (fun h s => ?_)
 dsimp only [Nat.reduceAdd,List.set,setA] at s
 refine zv (zr rfl (zb rfl (by exact bO (aT (by omega) (by omega))) ?_))
 refine zm rfl (zv (WP.loop (zg rfl (zh rfl (ag rfl rfl bx) (rfl) (zv (zw (zj rfl (WP.exit (zg rfl (zm rfl ?_))))))))))
 rw [←bP] at I
 refine zc rfl (HI J hr.data ⟨v,I,s⟩) ?_
 rintro dt h ⟨v,I,s⟩
 have U:=(s.buf (k:=2) rfl).view.cells
 refine zf rfl (yx _ _) (zS rfl (s.dZ (k:=3) rfl jy rfl (by decide) U.1 U.2) ?_)
 rintro h s
 refine zk 4 rfl (zc rfl (xj J hr.many ⟨v,I,s⟩) ?_)
 rintro v h ⟨rfl,v,I,s⟩
 have hv:=s.aG (k:=1) rfl I
 refine zk 7 rfl (zf rfl (mc _ _) (zl rfl (s.ld (k:=0) rfl bL rfl) (zo rfl (a_ rfl rfl rfl (bh aS hv)) (zt rfl (ag rfl rfl Bl) (by have:=HJ aP; simp only [eA]; omega) ?_))))
 refine zc rfl (nW J) ?_
 rintro r h' ⟨rfl,rfl⟩
 refine zk 4 rfl ?_
 obtain ⟨i1,lp,jL,sn⟩:=ux
 have wY:=hr.many
 obtain ⟨nv,VO,e1,s1⟩:=rP (P:=Tryz.prog) s iJ lp qV jL (by omega) rfl (by decide) (by decide) (n:=0) (c:=aP.length) (by omega) (by omega)
 dsimp only [repeatL] at s1
 refine aB.any rfl rfl rfl (OpR.of (R:=fun v h'=>v=nv∧h'=VO) (pZ rfl rfl e1) ⟨rfl,rfl⟩) ?_
 rintro v h' ⟨rfl,rfl⟩
 have s:=s1.ae [1,1,2,0]
 have Kg:=s.kF (j:=3) rfl
 refine zf rfl (mO _ _) (zS rfl (s.dZ (k:=2) rfl Lb rfl (by decide) Kg.1 Kg.2.1) ?_)
 rintro h s
 have mQ:∀x∈aP,x.Ok:=fun x hx=>by
  simp only [dM,aY,oY,eA] at hg
  exact hg.2 x hx
 have s2:=((s.gx (φ:=True) aa).ga (B:=cT [] []) fun _ _ h=>h).ae [1,1,1,1,0]
 refine zk 7 rfl (WP.block ?_)
 refine TG J mQ hr.many aP.length 0 _ [] h _ _ (by omega) ⟨_,I,s2⟩ ⟨rfl,rfl,rfl,rfl,aa⟩ (fun E h av cs hE hc => ?_)
 obtain ⟨v,I,s⟩:=hc
 refine WP.has hE ?_
 have hv:=s.aG (k:=1) rfl I
 have U:=(s.buf (k:=5) rfl).view.cells
 have CK:=s.kF (j:=3) rfl
 have gn:[V.int .i64 (kd:Int),V.int .u64 (tx:Int),V.int .u64 (pv:Int),V.int .u64 (nx:Int),dt,av].all storable=true:=mP U.2 CK.2.1
 have iE:vX aP:=⟨by omega,fun x hx=>by have:=mQ x hx; unfold cm.Ok at this; omega,fun x hx=>by have:=mQ x hx; unfold cm.Ok at this; omega⟩
 refine zK 4 rfl (zf rfl (mc _ _) (zl rfl (s.ld (k:=0) rfl bL rfl) (zo rfl (a_ rfl rfl rfl (bh aS hv)) (zt rfl (ag rfl rfl bR) (rfl) (zm rfl (zl rfl (s.fE (k:=2) rfl ni gy) (zc rfl (G3 J (s.ae [3,3]) U.2 iE) ?_)))))))
 rintro r h ⟨rfl,s⟩
 rw [hg]
 refine zq rfl (zc rfl (nW J) ?_)
 rintro r h' ⟨rfl,rfl⟩
 refine zk 3 rfl (zl rfl (s.fE (k:=4) rfl ni gy) (zS rfl (s.gX (j:=4) rfl gy rfl gn) ?_))
 rintro h s
 refine zv ?_
 refine WP.ret ⟨aa,_,R_ rfl (s.fE (k:=4) rfl ni gy),?_⟩
 exact ⟨dt,av,cs,rfl,((s.ae [3,4,0,0]).del 4).del 4⟩
end
end Go.Proofs.YtconhghphklfjaaGreat.Am
