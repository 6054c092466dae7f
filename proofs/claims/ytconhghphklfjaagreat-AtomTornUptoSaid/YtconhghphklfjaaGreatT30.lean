/- AtomTorn: a part of its proof; conditions: its statement's. -/
import Derived.Test.YtconhghphklfjaaGreatT29
set_option linter.defProp false
namespace Go.Proofs.YtconhghphklfjaaGreat.Am
open Go
def Il:=@Tryz.underlying220
theorem Mm : ∀ {l:List Nat},(∀b∈l,b<256)→bytesOf (ofBytes l)=some l:=by
 intro l
 induction l with
 | nil=>intro _; rfl
 | cons b l J =>
  intro h
  have I:=J fun x U=>h x (bp _ U)
  have h2:=h b br
  rw [ofBytes] at I
  simp only [ofBytes,bI,bytesOf,I,au,v7,tQ]
  omega
theorem yz {h:H}{v:V}{l:List Nat}(I:View h v l): convV Tryz.prog h 32 9 v=some (.str l,h):=by
 obtain ⟨J,(⟨rfl | ⟨ea,rfl⟩,rfl⟩ | ⟨id,off,cap,n,cs,st,rfl,U,hl,ho,hc,_⟩)⟩:=I
 ·simp only [convV,aS,jO,Tryz.underlying5]
 ·simp only [convV,aS,jO,Tryz.underlying5]
 ·have e:rdN h id off l.length=some (ofBytes l):=by rw [C6 U hl ho,hc]
  simp only [convV,aS,jO,Tryz.underlying5,e,Mm J]
theorem W7 (l:List Nat): (V.str l).beq (.str l)=true:=by simp only [V.beq,vE,AR]
def j6 (l:List Nat): List Nat:=if l.length≠512∨l=List.replicate 512 0 then [] else l.drop 12
def nr (e:Int)(b w:List Nat): Bool:=decide (e=0)&&(decide (j6 b=w)&&decide (dN b≠4))
section
variable {told:dM} {h:H} {S:List ax} {X:ax} {r k q p a g aC:Nat} {op v x:V} {l data:List Nat} {now:List (Int×List Nat)} {b9:Bool} {ε:aO}
theorem KQ (hT:W told)(s:Sat h (X::S))(I:cU X (cY v l)): Call ⟨Tryz.prog,told⟩ 24 [v] h fun r h'=>r=.str (j6 l)∧Sat h' (X::S):=by
 have hv:=s.aL (k:=0) rfl I
 have OW:=dc hv
 have J:=W7 l
 refine Call.of_wp (hT.free _ rfl) Tryz.func24 rfl rfl (zK 6 rfl ?_)
 have s0:=s
 by_cases hl:l.length=512
 ·have fin:∀h,Sat h (X::S)→l≠List.replicate 512 0→(V.str (l.drop 12)=.str (j6 l)∧Sat h (X::S)):=fun h s U=>⟨by rw [j6,af (by rintro (h | h); exact h hl; exact U h)],s⟩
  by_cases U:l=List.replicate 512 0
  ·skip
   refine WP.drawn [ai,ai,ai,ai,some (0,2),some (0,2),ai,ai,ai,ai] rfl (by kernel_rfl) (by kernel_rfl) ?_
   refine zM rfl (zO rfl (bf rfl rfl rfl (bj aS (s.aL (k:=0) rfl I))) (aA.nD rfl rfl rfl rfl (ah rfl rfl aV) (by simp; omega) ?_))
   refine zM rfl (zM rfl (aA.op rfl rfl rfl (by simp only [isEff,jO]) (bZ rfl (yz (s.aL (k:=0) rfl I))) ?_))
   refine aA.any rfl rfl rfl rfl (OpR.Gn rfl s rfl rfl rfl rfl (by decide)) ?_
   intro z h s
   refine aA.op rfl rfl rfl (by simp only [isEff,jO]) (bZ rfl (yz (s.aL (k:=0) rfl (bM _ _)))) ?_
   refine aA.qx rfl rfl rfl rfl (ah rfl rfl xp) (decide_eq_true U) (zO rfl (kL rfl rfl) ?_)
   refine aA.nil ⟨⟨aa,aa,aa,aa,fun _ _=>.inr ⟨rfl,⟨_,bn rfl⟩,OW⟩,dX (.inr ⟨rfl,⟨_,bZ rfl (yz (s0.aL (k:=0) rfl I))⟩,J⟩) (.inr ⟨rfl,⟨_,bZ rfl (yz (s.aL (k:=1) rfl I))⟩,J⟩),aa,aa,aa,aa,aa⟩,?_⟩
   exact zK 5 rfl (WP.ret ⟨aa,_,rfl,by rw [j6,aj (.inr U)]; rfl,s.drop⟩)
  ·skip
   refine WP.drawn [ai,ai,ai,ai,some (0,2),some (0,2),ai,ai,ai,ai] rfl (by kernel_rfl) (by kernel_rfl) ?_
   refine zM rfl (zO rfl (bf rfl rfl rfl (bj aS (s.aL (k:=0) rfl I))) (aA.nD rfl rfl rfl rfl (ah rfl rfl aV) (by simp; omega) ?_))
   refine zM rfl (zM rfl (aA.op rfl rfl rfl (by simp only [isEff,jO]) (bZ rfl (yz (s.aL (k:=0) rfl I))) ?_))
   refine aA.any rfl rfl rfl rfl (OpR.Gn rfl s rfl rfl rfl rfl (by decide)) ?_
   intro z h s
   refine aA.op rfl rfl rfl (by simp only [isEff,jO]) (bZ rfl (yz (s.aL (k:=0) rfl (bM _ _)))) ?_
   refine aA.nD rfl rfl rfl rfl (ah rfl rfl xp) (decide_eq_false U) (zO rfl (kL rfl rfl) ?_)
   refine aA.nil ⟨⟨aa,aa,aa,aa,fun _ _=>.inr ⟨rfl,⟨_,bn rfl⟩,OW⟩,dX (.inr ⟨rfl,⟨_,bZ rfl (yz (s0.aL (k:=0) rfl I))⟩,J⟩) (.inr ⟨rfl,⟨_,bZ rfl (yz (s.aL (k:=1) rfl I))⟩,J⟩),aa,aa,aa,aa,aa⟩,?_⟩
   have lK:=eC (s.aL (k:=1) rfl I) (a:=12) (by omega)
   exact zK 5 rfl (zo rfl (cF (p:=some (.int .i64 12)) (q:=none) (m:=none) (p':=some 12) (q':=none) (m':=none) rfl rfl rfl rfl rfl rfl rfl lK.1) (zo rfl (bZ rfl (yz lK.2.1)) (zk 2 rfl (WP.ret ⟨aa,_,rfl,fin _ s.drop U⟩))))
 ·skip
  refine WP.drawn [ai,ai,ai,ai,some (0,2),some (0,2),ai,ai,ai,ai] rfl (by kernel_rfl) (by kernel_rfl) ?_
  refine zM rfl (zO rfl (bf rfl rfl rfl (bj aS (s.aL (k:=0) rfl I))) (aA.qx rfl rfl rfl rfl (ah rfl rfl aV) (by simp; omega) ?_))
  refine zM rfl (aA.no (e:=false) rfl rfl rfl rfl (aA.no (e:=false) rfl rfl rfl (by simp only [isEff,jO]) ?_))
  refine aA.no (e:=true) rfl rfl rfl rfl (aA.no (e:=false) rfl rfl rfl (by simp only [isEff,jO]) ?_)
  refine aA.no (e:=false) rfl rfl rfl rfl (zO rfl (lz rfl rfl) ?_)
  refine aA.nil ⟨⟨aa,aa,aa,aa,fun _ _=>.inl rfl,fun _ _=>.inl rfl,aa,aa,aa,aa,aa⟩,?_⟩
  exact zK 5 rfl (WP.ret ⟨aa,_,rfl,by rw [j6,aj (.inl hl)]; rfl,s⟩)
theorem Uz (U:W told){n:Int}{w:List Nat}(s:Sat h (cC a p q r op data aC::cj r p q ε.1::bh q p ε.2.1::aG p ε.2.2::S))(I:gW ε)(hw:ε.2.2.waiting.length≤268435456):
  Call ⟨Tryz.prog,told⟩ 16 [.iface 24 (.ptr a 0),.int .i64 n,.str w] h fun v h'=>∃e b ε',mP ε n e b ε'∧v=.bool (nr e b w) ∧
   Sat h' (cC a p q r op data aC::cj r p q ε'.1::bh q p ε'.2.1::aG p ε'.2.2::S):=by
 refine Call.of_wp (U.free _ rfl) Tryz.func16 rfl rfl (zK 8 rfl (aB.any rfl rfl rfl (OpR.invoke rfl rfl rfl Um rfl (Ca U (n:=n) s I.ok I.pins hw)) ?_))
 rintro v h ⟨e,b,ε',J,(⟨he,rfl,s⟩ | ⟨rfl,u,rfl,s⟩)⟩
 ·refine aB.op rfl rfl rfl (bn rfl) ?_
  refine zk 8 rfl (zh rfl (ah rfl rfl cB) (by simp; exact he) ?_)
  exact zk 13 rfl (WP.ret ⟨aa,_,rfl,e,b,ε',J,by rw [nr,ew he,fh],s⟩)
 ·have hlen:=(J.len I)
  refine zk 9 rfl (zt rfl (ah rfl rfl cB) (rfl) (zk 2 rfl (zc rfl (KQ U s (bM _ _)) ?_)))
  rintro r h ⟨rfl,s⟩
  refine zm rfl ?_
  by_cases hb:j6 b=w
  ·skip
   refine zt rfl (ah rfl rfl xp) (decide_eq_true hb) (zk 3 rfl (zc rfl (xE U s (bM _ _) (by omega)) ?_))
   rintro r h ⟨rfl,s⟩
   by_cases hc:dN b=4
   ·skip
    refine zh rfl (ah rfl rfl aV) (by simp; exact hc) ?_
    exact zk 3 rfl (WP.ret ⟨aa,_,rfl,0,b,ε',J,by rw [nr,show decide (dN b≠4)=false from ew (not_not_intro hc),mu,mu],s.drop⟩)
   ·skip
    refine zt rfl (ah rfl rfl aV) (by simp; exact hc) ?_
    exact zk 3 rfl (WP.ret ⟨aa,_,rfl,0,b,ε',J,by rw [nr,dQ hc,dQ hb]; rfl,s.drop⟩)
  ·skip
   exact zh rfl (ah rfl rfl xp) (decide_eq_false hb) (zk 8 rfl (WP.ret ⟨aa,_,rfl,0,b,ε',J,by rw [nr,ew hb,fh,mu],s.drop⟩))
theorem UA (hT:W told){n:Int}{w:List Nat}(s:Sat h (gV g a now b9::cC a p q r op data aC::cj r p q ε.1::bh q p ε.2.1::aG p ε.2.2::S))(U:gW ε)(hw:ε.2.2.waiting.length≤268435456)(I:∀e∈now,e.2.length=512):
  Call ⟨Tryz.prog,told⟩ 16 [.iface 27 (.ptr g 0),.int .i64 n,.str w] h fun v h'=>∃e b ε',oQ ε now b9 n e b ε'∧v=.bool (nr e b w) ∧
   Sat h' (gV g a now b9::cC a p q r op data aC::cj r p q ε'.1::bh q p ε'.2.1::aG p ε'.2.2::S):=by
 refine Call.of_wp (hT.free _ rfl) Tryz.func16 rfl rfl (zK 8 rfl (aB.any rfl rfl rfl (OpR.invoke rfl rfl rfl KH rfl (HZ hT (n:=n) s U hw I)) ?_))
 rintro v h ⟨e,b,ε',J,(⟨he,rfl,s⟩ | ⟨rfl,u,rfl,s⟩)⟩
 ·refine aB.op rfl rfl rfl (bn rfl) ?_
  refine zk 8 rfl (zh rfl (ah rfl rfl cB) (by simp; exact he) ?_)
  exact zk 13 rfl (WP.ret ⟨aa,_,rfl,e,b,ε',J,by rw [nr,ew he,fh],s⟩)
 ·have hlen:b.length=512:=by
   cases J with
   | own b h1 h2 h hl=>exact I _ (fC hl)
   | read e b ε' h1 h2 h hl J=>exact J.len U
  refine zk 9 rfl (zt rfl (ah rfl rfl cB) (rfl) (zk 2 rfl (zc rfl (KQ hT s (bM _ _)) ?_)))
  rintro r h ⟨rfl,s⟩
  refine zm rfl ?_
  by_cases hb:j6 b=w
  ·skip
   refine zt rfl (ah rfl rfl xp) (decide_eq_true hb) (zk 3 rfl (zc rfl (xE hT s (bM _ _) (by omega)) ?_))
   rintro r h ⟨rfl,s⟩
   by_cases hc:dN b=4
   ·skip
    refine zh rfl (ah rfl rfl aV) (by simp; exact hc) ?_
    exact zk 3 rfl (WP.ret ⟨aa,_,rfl,0,b,ε',J,by rw [nr,show decide (dN b≠4)=false from ew (not_not_intro hc),mu,mu],s.drop⟩)
   ·skip
    refine zt rfl (ah rfl rfl aV) (by simp; exact hc) ?_
    exact zk 3 rfl (WP.ret ⟨aa,_,rfl,0,b,ε',J,by rw [nr,dQ hc,dQ hb]; rfl,s.drop⟩)
  ·skip
   exact zh rfl (ah rfl rfl xp) (decide_eq_false hb) (zk 8 rfl (WP.ret ⟨aa,_,rfl,0,b,ε',J,by rw [nr,ew hb,fh,mu],s.drop⟩))
end
theorem JE : ∀(k n:Nat),n<128^(k+1)→digits (k+1) n=digits k n:=by
 intro k
 induction k with
 | zero=>intro n I; rw [jP (by simpa using I),jP (by simpa using I)]
 | succ k J =>
  intro n I
  by_cases h:n<128
  ·rw [jP h,jP h]
  ·have U:n/128<128^(k+1):=by
    rw [DS (by omega)]
    rw [pO] at I
    exact I
   rw [digits,af h,J _ U,digits,af h]
set_option maxRecDepth 10000 in
theorem W8 {n:Nat}(h:n<256): Nat.land n 127=n%128:=by
 have:∀m:Fin 256,Nat.land m.1 127=m.1%128:=by decide
 exact this ⟨n,h⟩
theorem JF {n:Nat}(h:n<256): intV .and .u8 (n:Int) 127=some (.int .u8 ((n%128:Nat):Int)):=by
 have I:((n:Int)%(2^(IntKind.u8).bits:Int)).toNat=n:=by simp only [IntKind.bits]; omega
 have J:((127:Int)%(2^(IntKind.u8).bits:Int)).toNat=127:=by simp [IntKind.bits]
 simp only [intV,bitsV,I,J,W8 h,wrap_u8]
 congr 2
 omega
theorem JG {h:H}{n:Nat}(I:n<18446744073709551616): convV Tryz.prog h 5 35 (.int .u8 (n:Int))=some (.int .u64 (n:Int),h):=by
 simp only [convV,Tryz.underlying5,cx,wrap_u64 I]
theorem JH {h:H}{n:Nat}(I:n<9223372036854775808): convV Tryz.prog h 5 3 (.int .u8 (n:Int))=some (.int .i64 (n:Int),h):=by
 simp only [convV,Tryz.underlying5,bG,wrap_i64 I]
theorem Im {h:H}{n:Nat}(I:n<9223372036854775808): convV Tryz.prog h 35 3 (.int .u64 (n:Int))=some (.int .i64 (n:Int),h):=by
 simp only [convV,cx,bG,wrap_i64 I]
theorem Io (i:Nat): (128:Nat)^i=2^(7*i):=by rw [Nat.pow_mul]
theorem aa4 {d i:Nat}(U:d<128)(hi:i≤8): shiftV .shl .u64 (d:Int) ((7*i:Nat):Int)=some (.int .u64 ((d*128^i:Nat):Int)):=by
 have J:(128:Nat)^i≤128^8:=pF (by omega) hi
 have I:d*128^i<18446744073709551616:=by
  have:d*128^i≤127*128^8:=tL (by omega) J
  omega
 simp only [shiftV,IntKind.bits,cQ]
 rw [show min (7*i) 64=7*i by omega,show decide (((7*i:Nat):Int)<0)=false by simp; omega,ay]
 have:(d:Int)*2^(7*i)=((d*128^i:Nat):Int):=by rw [Io]; push_cast; rfl
 simp only [this,wrap_u64 I]
theorem UB {a d i:Nat}(I:a<128^i)(hd:d<128)(hi:i≤8): intV .or .u64 (a:Int) ((d*128^i:Nat):Int)=some (.int .u64 ((a+d*128^i:Nat):Int)):=by
 have J:(128:Nat)^i≤128^8:=pF (by omega) hi
 have hm:d*128^i≤127*128^8:=tL (by omega) J
 have U:((a:Int)%(2^(IntKind.u64).bits:Int)).toNat=a:=by simp only [IntKind.bits]; omega
 have h2:((d*128^i:Nat):Int)%(2^(IntKind.u64).bits:Int)=((d*128^i:Nat):Int):=by simp only [IntKind.bits]; omega
 have h3:Nat.lor a (d*128^i)=a+d*128^i:=by
  have e:d*128^i=2^(7*i)*d:=by rw [←Io,rB]
  have:=DN (i:=7*i) (b:=a) (by rw [←Io]; exact I) d
  rw [←e] at this
  rw [tO a,this]
  exact Nat.or_comm _ _
 simp only [intV,bitsV,U,h2,cQ,h3]
 rw [wrap_u64 (by omega)]
section
variable {told:dM} {h:H} {S:List ax} {X:ax} {c:Nat} {v w:V} {l m:List Nat}
theorem ov (I:W told): Call ⟨Tryz.prog,told⟩ 153 [.bool true] h fun v h'=>v=.bE []∧h'=h:=by
 refine Call.of_wp (I.free _ rfl) Tryz.func153 rfl rfl (zg rfl (zm rfl (zh rfl (dS rfl rfl) (rfl) (zv (zj rfl (WP.skip ?_))))))
 exact ⟨aa,_,rfl,rfl,rfl⟩
theorem Rk (U:W told){x:Nat}(s:Sat h (pt c (.cells 1 [v] false)::X::S))(hX:cU X (cY v (x::l))):
  Call ⟨Tryz.prog,told⟩ 149 [.ptr c 0] h fun r h'=>r=.int .u8 (x:Int)∧∃u,cU X (cY u l)∧Sat h' (pt c (.cells 1 [u] false)::X::S):=by
 have J:=s.aL (k:=1) rfl hX
 obtain ⟨id,off,e1,e2⟩:=iq J (i:=0) (b:=x) rfl
 have I:=eC J (a:=1) (by simp)
 have hu:=I.2.1.cells
 refine Call.of_wp (U.free _ rfl) Tryz.func149 rfl rfl (zK 8 rfl (zf rfl (mC _ _) (zl rfl (s.ld (k:=0) rfl bO rfl) (zo rfl (bf rfl rfl rfl (bj aS J)) (zt rfl (ah rfl rfl ep) (by simp) ?_)))))
 refine zc rfl (ov U) ?_
 rintro r h' ⟨rfl,rfl⟩
 refine zk 5 rfl (zf rfl (mC _ _) (zl rfl (s.ld (k:=0) rfl bO rfl) (zo rfl (ej (r:=.ptr id off) rfl rfl e1) (zl rfl e2 (zk 7 rfl (zf rfl (mC _ _) (zl rfl (s.ld (k:=0) rfl bO rfl) (zo rfl (cF (p:=some (.int .i64 1)) (q:=none) (m:=none) (p':=some 1) (q':=none) (m':=none) rfl rfl rfl rfl rfl rfl rfl I.1) (zn rfl (zf rfl (mC _ _) (zS rfl (s.ee (k:=0) rfl jM rfl (by decide) hu.1 hu.2) ?_)))))))))))
 rintro h s
 exact zk 6 rfl (WP.ret ⟨aa,_,rfl,rfl,_,od hX (by simp),s⟩)
def Cu (h:H)(c:Nat)(X:ax)(S:List ax)(l:List Nat): Prop:=∃v,cU X (cY v l)∧Sat h (pt c (.cells 1 [v] false)::X::S)
theorem ET (I:W told){x:Nat}(J:Cu h c X S (x::l)): Call ⟨Tryz.prog,told⟩ 149 [.ptr c 0] h fun r h'=>r=.int .u8 (x:Int)∧Cu h' c X S l:=by
 obtain ⟨v,U,s⟩:=J
 exact (Rk I s U).mono fun r h' ⟨e,u,hU,s'⟩=>⟨e,u,hU,s'⟩
noncomputable def W9 : Code:=cM [1,1,0,0] ((Tryz.f150.body).getD .skip)
noncomputable def S1 : Code:=unblk (leftC W9)
noncomputable def nbC : Code:=cG (cG (cG S1))
theorem BJ (hT:W told){x i acc:Nat}{E:List (Nat×V)}{Q:Ex→List (Nat×V)→H→Prop}(hx:x<256)(hi:i≤8)(ha:acc<128^i)
 (hc:Cu h c X S (x::l))(h0:look E 0=some (.ptr c 0))(h2:look E 2=some (.int .u64 (acc:Int)))(I:look E 3=some (.int .i64 (i:Int)))
 (hq:∀E' h',look E' 0=some (.ptr c 0)→look E' 2=some (.int .u64 ((acc+x%128*128^i:Nat):Int))→look E' 3=some (.int .i64 (i:Int))→look E' 4=some (.int .u8 (x:Int))→Cu h' c X S l→WP ⟨Tryz.prog,told⟩ 38 nbC E' h' Q):
  WP ⟨Tryz.prog,told⟩ 38 S1 E h Q:=by
 refine WP.seq (WP.region rfl ?_)
 refine zo rfl (bn h0) ?_
 refine zc rfl (ET hT hc) (fun v h₁ ⟨e1,c1⟩ => ?_)
 subst e1
 refine aB.op rfl rfl rfl (fg rfl) (aB.nil ?_)
 refine WP.seq (WP.region rfl ?_)
 refine zo rfl (bn I) (zo rfl (ah (v:=.int .i64 (i:Int)) (u:=.int .i64 9) (r:=.bool true) rfl rfl (by simp only [binV,ikBeq,ag,intV]; congr 2 <;> simp <;> omega)) ?_)
 refine zk 8 rfl ?_
 refine zc rfl (ov hT) (fun v J ⟨e2,U⟩=>aB.nil ?_)
 subst e2; subst U
 refine WP.seq (WP.region rfl ?_)
 refine zo rfl (bn h2) (zm rfl (zo rfl (ah (v:=.int .u8 (x:Int)) (u:=.int .u8 127) rfl rfl (by simp only [binV,ikBeq,ag]; exact JF hx)) ?_))
 refine zo rfl (bZ (v:=.int .u8 ((x%128:Nat):Int)) rfl (JG (by omega))) ?_
 refine zo rfl (bn I) ?_
 refine aB.op rfl rfl rfl (ah (v:=.int .i64 7) (u:=.int .i64 (i:Int)) (r:=.int .i64 ((7*i:Nat):Int)) rfl rfl (by
  simp only [binV,ikBeq,ag,intV]
  rw [show (7:Int)*(i:Int)=((7*i:Nat):Int) by push_cast; rfl,wrap_i64 (by omega)])) ?_
 refine zo rfl (ah (v:=.int .u64 ((x%128:Nat):Int)) (u:=.int .i64 ((7*i:Nat):Int)) rfl rfl (by simp only [binV]; exact aa4 (by omega) hi)) ?_
 refine zo rfl (ah (v:=.int .u64 (acc:Int)) rfl rfl (by simp only [binV,ikBeq,ag]; exact UB ha (by omega) hi)) ?_
 refine aB.op rfl rfl rfl (fg rfl) (aB.nil ?_)
 exact hq _ _ h0 rfl I rfl c1
set_option maxRecDepth 4000 in
theorem Dv (hT:W told){m i acc:Nat}{E:List (Nat×V)}{Q:Ex→List (Nat×V)→H→Prop}(hi:i≤8)(hm:m<128)(hz:i=0∨0<m)(ha:acc<128^i)
 (hc:Cu h c X S (m::l))(h0:look E 0=some (.ptr c 0))(h2:look E 2=some (.int .u64 (acc:Int)))(h3:look E 3=some (.int .i64 (i:Int)))
 (hq:∀E' h',look E' 2=some (.int .u64 ((acc+m*128^i:Nat):Int))→Cu h' c X S l→Q .ret E' h'): WP ⟨Tryz.prog,told⟩ 38 (.loop W9) E h Q:=by
 refine WP.loop (WP.seq (WP.block ?_))
 refine BJ hT (x:=m) (by omega) hi ha hc h0 h2 h3 (fun E1 h₁ q0 q2 q3 q4 c1 => ?_)
 rw [gJ hm] at q2
 refine WP.seq (WP.region rfl ?_)
 refine zo rfl (bn q4) ?_
 refine aB.op rfl rfl rfl (ah (v:=.int .u8 (m:Int)) (u:=.int .u8 128) (r:=.bool true) rfl rfl (by simp only [binV,ikBeq,ag,intV]; congr 2 <;> simp <;> omega)) (aB.nil ?_)
 refine WP.cond (t:=true) rfl (WP.seq (WP.region rfl ?_))
 refine zo rfl (bn q4) ?_
 by_cases Fk:0<m
 ·refine aB.op rfl rfl rfl (ah (v:=.int .u8 (m:Int)) (u:=.int .u8 0) (r:=.bool true) rfl rfl (by simp only [binV,ikBeq,ag,intV]; congr 2 <;> simp <;> omega)) ?_
  refine zk 4 rfl ?_
  refine zc rfl (ov hT) (fun v I ⟨e2,J⟩=>aB.nil ?_)
  subst e2; subst J
  refine WP.seq (WP.region rfl ?_)
  exact zo rfl (bn q2) (aB.op rfl rfl rfl (fg rfl) (aB.nil (WP.ret (hq _ _ rfl c1))))
 ·have Wn:i=0:=by omega
  have U:m=0:=by omega
  subst Wn; subst U
  refine zo rfl (ah (v:=.int .u8 0) (u:=.int .u8 0) (r:=.bool false) rfl rfl rfl) (zm rfl (zo rfl (bn q3) (zo rfl (ah (v:=.int .i64 0) (u:=.int .i64 0) (r:=.bool true) rfl rfl rfl) (zp rfl ?_))))
  refine zc rfl (ov hT) (fun v I ⟨e2,J⟩=>aB.nil ?_)
  subst e2; subst J
  refine WP.seq (WP.region rfl ?_)
  exact zo rfl (bn q2) (aB.op rfl rfl rfl (fg rfl) (aB.nil (WP.ret (hq _ _ rfl c1))))
set_option maxRecDepth 4000 in
theorem JI (hT:W told): ∀(k m i acc:Nat) (h:H) (E:List (Nat×V)) (Q:Ex→List (Nat×V)→H→Prop),i+k≤8→m<128^(k+1)→(i=0∨0<m)→acc<128^i →
  Cu h c X S (digits k m++l)→look E 0=some (.ptr c 0)→look E 2=some (.int .u64 (acc:Int))→look E 3=some (.int .i64 (i:Int)) →
  (∀E' h',look E' 2=some (.int .u64 ((acc+m*128^i:Nat):Int))→Cu h' c X S l→Q .ret E' h')→WP ⟨Tryz.prog,told⟩ 38 (.loop W9) E h Q:=by
 intro k
 induction k with
 | zero =>
  intro m i acc h E Q hi hm hz ha U h0 h2 h3 hq
  have I:m<128:=by simpa using hm
  rw [jP I] at U
  exact Dv hT (by omega) I hz ha U h0 h2 h3 hq
 | succ k ih =>
  intro m i acc h E Q hi hm hz ha U h0 h2 h3 hq
  by_cases I:m<128
  ·rw [jP I] at U
   exact Dv hT (by omega) I hz ha U h0 h2 h3 hq
  ·have hd:m/128<128^(k+1):=by
    rw [DS (by omega)]
    rw [pO] at hm
    exact hm
   rw [digits,af I] at U
   refine WP.loop (WP.seq (WP.block ?_))
   refine BJ hT (x:=m%128+128) (by omega) (by omega) ha U h0 h2 h3 (fun E1 h₁ q0 q2 q3 q4 c1 => ?_)
   refine WP.seq (WP.region rfl ?_)
   refine zo rfl (bn q4) ?_
   refine aB.op rfl rfl rfl (ah (v:=.int .u8 ((m%128+128:Nat):Int)) (u:=.int .u8 128) (r:=.bool false) rfl rfl (by simp only [binV,ikBeq,ag,intV]; congr 2 <;> simp <;> omega)) (aB.nil ?_)
   refine WP.cond (t:=false) rfl (WP.skip ?_)
   refine zr rfl (zo rfl (bn q3) (zo rfl (ah (v:=.int .i64 (i:Int)) (u:=.int .i64 1) (r:=.int .i64 ((i+1:Nat):Int)) rfl rfl (by exact bU (aY (by omega) (by omega)))) ?_))
   refine aB.op rfl rfl rfl (fg rfl) (aB.nil ?_)
   have e1:(m%128+128)%128=m%128:=by omega
   rw [e1] at q2
   have J:128^(i+1)=128^i*128:=pO 128 i
   refine ih (m/128) (i+1) (acc+m%128*128^i) h₁ _ Q (by omega) hd (.inr (by omega)) ?_ c1 q0 q2 rfl (fun E' h' p1 p3=>hq E' h' ?_ p3)
   ·have:m%128*128^i≤127*128^i:=qY _ (by omega)
    rw [J]; omega
   ·rw [p1]
    have:acc+m%128*128^i+m/128*128^(i+1)=acc+m*128^i:=by
     rw [J,rB (128^i) 128,←Nat.mul_assoc,gK,←iE]
     congr 2
     omega
    rw [this]
theorem vr (I:W told){n:Nat}(J:n<9223372036854775808)(U:Cu h c X S (digits 9 n++l)):
  Call ⟨Tryz.prog,told⟩ 150 [.ptr c 0] h fun v h'=>v=.int .u64 (n:Int)∧Cu h' c X S l:=by
 rw [JE 8 n (by simpa using J)] at U
 refine Call.of_wp (I.free _ rfl) Tryz.func150 rfl rfl (zK 8 rfl (WP.block ?_))
 refine JI I 8 n 0 0 h _ _ (by omega) (by simpa using J) (.inl rfl) (by simp) U rfl rfl rfl (fun E' h' q1 q2=>⟨aa,_,?_,rfl,q2⟩)
 have:0+n*128^0=n:=by simp
 rw [this] at q1
 show jz _ E' h' [.tmp 2]=_
 simp only [jz,mapO,resE,q1]
theorem xR (I:W told){n:Nat}(U:n≤1048576)(J:Cu h c X S (digits 9 n++l)):
  Call ⟨Tryz.prog,told⟩ 152 [.ptr c 0] h fun v h'=>v=.int .i64 (n:Int)∧Cu h' c X S l:=by
 refine Call.of_wp (I.free _ rfl) Tryz.func152 rfl rfl (zK 7 rfl (zc rfl (vr I (by omega) J) ?_))
 rintro v h' ⟨rfl,J⟩
 refine zk 5 rfl (zt rfl (ah rfl rfl LM) (by simp; omega) ?_)
 refine zc rfl (ov I) ?_
 rintro v h' ⟨rfl,rfl⟩
 refine zk 4 rfl (zo rfl (bZ rfl (Im (by omega))) ?_)
 exact zk 2 rfl (WP.ret ⟨aa,_,rfl,rfl,J⟩)
theorem Ip (hT:W told)(hm:m.length≤1048576)(hc:Cu h c X S (digits 9 m.length++m++l)):
  Call ⟨Tryz.prog,told⟩ 151 [.ptr c 0] h fun v h'=>Cu h' c X (bK v m::S) l:=by
 rw [bH] at hc
 refine Call.of_wp (hT.free _ rfl) Tryz.func151 rfl rfl (zK 7 rfl (zc rfl (xR hT hm hc) ?_))
 rintro v h ⟨rfl,v,I,s⟩
 have hv:=s.aL (k:=1) rfl I
 have J:=dc hv
 refine zk 7 rfl (zf rfl (mC _ _) (zl rfl (s.ld (k:=0) rfl bO rfl) (zo rfl (bf rfl rfl rfl (bj aS hv)) (zt rfl (ah rfl rfl LM) (by simp <;> omega) ?_))))
 refine zc rfl (ov hT) ?_
 rintro r h' ⟨rfl,rfl⟩
 refine zk 2 rfl ?_
 have s0:=s
 have U:=iz hv (b:=m.length) (by simp)
 have G1:=dc U.2.1
 refine WP.drawn [none,none,some (0,2),some (0,2),some (0,2),some (0,2),some (0,2),some (0,2),none,none] rfl (by kernel_rfl) (by kernel_rfl) ?_
 refine zM rfl (aA.any rfl rfl rfl rfl (OpR.wI rfl s rfl rfl rfl rfl (by omega)) ?_)
 intro v2 h s
 have s:=s.ae [1,1,0]
 have oz:=dc (s.buf (k:=2) rfl).view
 have s1:=s
 have U:=iz (s.aL (k:=1) rfl I) (b:=m.length) (by simp)
 refine zM rfl (zN rfl (zF rfl (mC _ _) (zL rfl (s.ld (k:=0) rfl bO rfl) (zM rfl (zO rfl (cF (p:=none) (q:=some (.int .i64 (m.length:Int))) (m:=none) (p':=none) (q':=some m.length) (m':=none) rfl rfl rfl rfl rfl (by rw [fO (by omega)]; rfl) rfl (iz (s.aL (k:=1) rfl I) (b:=m.length) (by simp)).1) ?_)))))
 refine aA.any rfl rfl rfl rfl (OpR.oX rfl (s.ae [2,1]) (xx I (b:=m.length) (by simp)) rfl rfl rfl rfl (by rw [jX rfl]; simp only [bY]; omega)) ?_
 intro v3 h s
 have s:=s.ae [2,1,0]
 rw [jX rfl] at s
 have O1:=dc (s.buf (k:=2) rfl).view
 refine zA rfl ?_
 refine aA.nil ⟨⟨aa,aa,fun _ _=>.inr ⟨rfl,⟨_,bn rfl⟩,aX _ rfl⟩,fun _ _=>.inr ⟨rfl,⟨_,kq rfl⟩,aX _ rfl⟩,fun _ _=>.inr ⟨rfl,⟨_,jI rfl (mC _ _)⟩,aX _ rfl⟩,dX (.inr ⟨rfl,⟨_,aW rfl (s0.ld (k:=0) rfl bO rfl)⟩,J⟩) (.inr ⟨rfl,⟨_,aW rfl (s1.ld (k:=0) rfl bO rfl)⟩,J⟩),fun _ _=>.inr ⟨rfl,⟨_,bn rfl⟩,aX _ rfl⟩,dX (.inr ⟨rfl,⟨_,cF (p:=none) (q:=some (.int .i64 (m.length:Int))) (m:=none) (p':=none) (q':=some m.length) (m':=none) rfl rfl rfl rfl rfl (by rw [fO (by omega)]; rfl) rfl (iz (s0.aL (k:=1) rfl I) (b:=m.length) (by simp)).1⟩,G1⟩) (.inr ⟨rfl,⟨_,cF (p:=none) (q:=some (.int .i64 (m.length:Int))) (m:=none) (p':=none) (q':=some m.length) (m':=none) rfl rfl rfl rfl rfl (by rw [fO (by omega)]; rfl) rfl (iz (s1.aL (k:=1) rfl I) (b:=m.length) (by simp)).1⟩,G1⟩),aa,aa,aa⟩,?_⟩
 have lK:=eC (s.aL (k:=1) rfl I) (a:=m.length) (by simp)
 have hu:=lK.2.1.cells
 refine zK 5 rfl (zf rfl (mC _ _) (zl rfl (s.ld (k:=0) rfl bO rfl) (zm rfl (zo rfl (cF (p:=some (.int .i64 (m.length:Int))) (q:=none) (m:=none) (p':=some m.length) (q':=none) (m':=none) rfl rfl rfl rfl (by rw [fO (by omega)]; rfl) rfl rfl lK.1) ?_))))
 refine zn rfl (zf rfl (mC _ _) (zS rfl (s.ee (k:=0) rfl jM rfl (by decide) hu.1 hu.2) ?_))
 rintro h s
 refine zk 6 rfl (WP.ret ⟨aa,_,rfl,?_⟩)
 have hr:=od I (a:=m.length) (by simp)
 rw [nX rfl] at hr
 exact ⟨_,hr,s⟩
end
theorem S2 {P:Program}{E:List (Nat×V)}{h:H}{a t:Nat}{p v:V}(I:look E a=some p)(J:loadV P h t p=some v): jz P E h [.cell a t]=some v:=by simp only [jz,mapO,resE,I,J]
section
variable {told:dM} {h:H} {S:List ax} {X:ax} {c:Nat} {v w:V} {l m:List Nat}
theorem Mn (J:W told){x:cn}(hx:x.Ok)(hc:Cu h c X S (kW x++l)):
  Call ⟨Tryz.prog,told⟩ 154 [.ptr c 0] h fun r h'=>∃u,r=.agg [.int .i64 x.aM,.int .i64 x.pos,.bool x.whole,u]∧Cu h' c X (bK u x.b::S) l:=by
 obtain ⟨x1,x2,x3,x4,x5,x6⟩:=hx
 obtain ⟨pg,ps,wh,b⟩:=x
 dsimp only at x1 x2 x3 x4 x5 x6 hc
 obtain ⟨pg,rfl⟩:=Int.eq_ofNat_of_zero_le x1
 obtain ⟨ps,rfl⟩:=Int.eq_ofNat_of_zero_le x3
 simp only [kW,cQ,bH,fF,cW] at hc
 generalize U:(if wh=true then 1 else 0)=wb at hc
 have yS:wb≤1:=by rw [←U]; cases wh <;> decide
 have sE:decide ((wb:Int)=1)=wh:=by rw [←U]; cases wh <;> rfl
 obtain ⟨v,I,s⟩:=hc
 refine Call.of_wp (J.free _ rfl) Tryz.func154 rfl rfl (zg rfl ?_)
 refine aB.cT s rfl rfl rfl (cI rJ) (fun p2 h s => ?_)
 refine zk 4 rfl (zc rfl (xR J (by omega) ⟨v,I,s.ae [1,1,0]⟩) ?_)
 rintro v h ⟨rfl,v,I,s⟩
 refine zm rfl (zc rfl (xR J (by omega) ⟨v,I,s⟩) ?_)
 rintro v h ⟨rfl,v,I,s⟩
 refine zf rfl (qz _ _) ?_
 refine zS rfl (by exact s.ee (k:=2) rfl jK rfl (by decide) rfl rfl) (fun h s => ?_)
 refine zf rfl (su _ _) ?_
 refine zS rfl (by exact s.ee (k:=2) rfl jK rfl (by decide) rfl rfl) (fun h s => ?_)
 refine zk 4 rfl (zc rfl (ET J ⟨v,I,s⟩) ?_)
 rintro v h ⟨rfl,v,I,s⟩
 refine zk 5 rfl (zt rfl (ah rfl rfl LM) (by simp; omega) ?_)
 refine zc rfl (ov J) ?_
 rintro r h' ⟨rfl,rfl⟩
 refine zk 4 rfl (zo rfl (ah (r:=.bool wh) rfl rfl (by rw [←sE]; exact cB)) ?_)
 refine zf rfl (zE _ _) ?_
 refine zS rfl (by exact s.ee (k:=2) rfl yq rfl (by decide) rfl rfl) (fun h s => ?_)
 refine zk 4 rfl ?_
 rw [←bH] at I
 refine zc rfl (Ip J (by omega) ⟨v,I,s⟩) ?_
 rintro u h ⟨v,I,s⟩
 have hu:=(s.buf (k:=2) rfl).view.cells
 refine zf rfl (oM _ _) (zS rfl (s.ee (k:=3) rfl jM rfl (by decide) hu.1 hu.2) ?_)
 rintro h s
 dsimp only [V.cells,List.length_cons,List.length_nil,Nat.reduceAdd,aU,bringA,getA,List.set,setA] at s
 refine zk 3 rfl (zl rfl (s.fM (k:=3) rfl LO sM) (zS rfl (s.ia (j:=3) rfl sM rfl (by simp only [jl,jY,hu.2]; rfl)) ?_))
 rintro h s
 refine zv ?_
 refine WP.ret ⟨aa,_,S2 rfl (s.fM (k:=3) rfl LO sM),?_⟩
 exact ⟨u,rfl,v,I,s.del 3⟩
structure xS (tx pv nx:Nat)(data:List Nat)(aR:List cn): Prop where
 tx:tx<9223372036854775808
 pv:pv<9223372036854775808
 nx:nx<9223372036854775808
 data:data.length≤1048576
 many:aR.length≤1048576
theorem Rl (x:cn): 1≤(kW x).length:=by simp only [kW,bC,bl]; omega
theorem Iq : ∀l:List cn,l.length≤(l.flatMap kW).length:=by
 intro l
 induction l with
 | nil=>simp
 | cons x l I=>have:=Rl x; simp only [q_,bC,bl]; omega
noncomputable def rdL : Code:=cM [1,1,1,1,1,1,1,1,0,1,0,0] ((Tryz.f132.body).getD .skip)
theorem UC (hT:W told){kd tx pv nx:Nat}{p2:Nat}{dt:V}{aR:List cn}(kV:∀x∈aR,x.Ok)(hn:aR.length≤1048576): ∀(j i:Nat) (I:V) (cs:List V) (h:H) (E:List (Nat×V)) (Q:Ex→List (Nat×V)→H→Prop),
  i+j=aR.length→Cu h c X (pt p2 (.cells 6 (iI kd tx pv nx dt I) false)::.arr 4 I cs::cZ cs (aR.take i)::S) ((aR.drop i).flatMap kW)→Has E [(0,.ptr c 0),(2,.ptr p2 0),(41,.int .i64 aR.length),(42,.int .i64 i)] →
  (∀E' h' I cs,Has E' [(0,.ptr c 0),(2,.ptr p2 0)]→Cu h' c X (pt p2 (.cells 6 (iI kd tx pv nx dt I) false)::.arr 4 I cs::cZ cs aR::S) []→Q (.exit 2) E' h')→WP ⟨Tryz.prog,told⟩ 64 (.loop rdL) E h Q:=by
 intro j
 induction j with
 | zero =>
  intro i I cs h E Q hi hc hE hq
  refine WP.loop (WP.has hE (zg rfl (zh rfl (ah rfl rfl bB) (by simp; omega) ?_)))
  refine zk 3 rfl (WP.exit ?_)
  rw [fR (by omega),tA (by omega)] at hc
  exact hq _ _ _ _ ⟨rfl,rfl,aa⟩ hc
 | succ j ih =>
  intro i I cs h E Q hi hc hE hq
  have hx:aR[i]?=some (aR[i]'(by omega)):=bg _
  generalize (aR[i]'(by omega))=x at hx
  have hxo:=kV x (bw hx)
  have J:aR.drop i=x::aR.drop (i+1):=by
   obtain ⟨h1,rfl⟩:=List.getElem?_eq_some_iff.1 hx
   exact lq h1
  have U:aR.take (i+1)=aR.take i++[x]:=by rw [AG,hx]; rfl
  rw [J,q_] at hc
  obtain ⟨v,hX,s⟩:=hc
  refine WP.loop (WP.has hE (zg rfl (zt rfl (ah rfl rfl bB) (by simp; omega) ?_)))
  refine zk 5 rfl (WP.block ?_)
  have s0:=s
  have FA:=(s.kU (j:=3) rfl).2.2
  refine WP.drawn [some (0,3),some (0,3),ai,ai,ai,ai,ai,ai] rfl (by kernel_rfl) (by kernel_rfl) ?_
  refine zF rfl (mY _ _) (zL rfl (s.ld (k:=2) rfl uB rfl) (zM rfl (aA.any rfl rfl rfl rfl (OpR.call rfl rfl rfl rfl (Mn hT hxo ⟨v,hX,s⟩)) ?_)))
  rintro w h ⟨u,rfl,v,hX,s⟩
  dsimp only [iI] at s
  have hu:=(s.buf (k:=2) rfl).view.cells
  have Fx:=dc (s.buf (k:=2) rfl).view
  have s1:=s
  have s:=(s.ae [2]).fN
  dsimp only [bringA,getA,aU] at s
  obtain ⟨rv,h1,Ae,s2⟩:=oc (P:=Tryz.prog) (k:=4) (x:=.agg [.int .i64 x.aM,.int .i64 x.pos,.bool x.whole,u]) s iR rJ sM rfl (by decide) (by decide) rfl (by simp only [V.cells,jl,jY,hu.2]; rfl)
  dsimp only [V.cells] at s2
  refine aA.any rfl rfl rfl rfl (OpR.of (R:=fun v h'=>v=rv∧h'=h1) (qu rfl Ae) ⟨rfl,rfl⟩) ?_
  rintro v' h' ⟨rfl,rfl⟩
  obtain ⟨i1,lZ,kf,sR⟩:=uV
  have Q_:cs.length=(aR.take i).length*4:=by
   obtain ⟨a,b,q1,q2,q3⟩:=s2.at (k:=6) rfl
   exact o9 q3
  rw [dP] at Q_
  obtain ⟨KD,h2,uO,s3⟩:=jB (s2.ae [5,0]) iR lZ rJ kf (by omega) rfl (by decide) (by simp only [bl,bY]; omega)
  dsimp only [bringA,getA,aU] at s3
  refine aA.any rfl rfl rfl rfl (OpR.of (R:=fun v h'=>v=KD∧h'=h2) (oT rfl rfl uO) ⟨rfl,rfl⟩) ?_
  rintro v' h' ⟨rfl,rfl⟩
  have s:=s3
  have Dp:=s.kU (j:=0) rfl
  refine zF rfl (mY _ _) (aA.h_ rfl rfl rfl (OpR.eA rfl rfl rfl (s.ee (k:=5) rfl LN rfl (by decide) Dp.1 Dp.2.1)) ?_)
  rintro v' h ⟨rfl,s⟩
  dsimp only [Nat.reduceAdd,List.set,setA] at s
  refine aA.nil ⟨⟨fun _ _=>.inr ⟨rfl,⟨_,jI rfl (mY _ _)⟩,aX _ rfl⟩,wE (.inr ⟨rfl,⟨_,aW rfl (s0.ld (k:=2) rfl uB rfl)⟩,FA⟩) (.inr ⟨rfl,⟨_,aW rfl (s1.ld (k:=3) rfl uB rfl)⟩,FA⟩) (.inr ⟨rfl,⟨_,aW rfl (s2.ld (k:=4) rfl uB rfl)⟩,FA⟩),aa,aa,aa,aa,aa,aa,aa⟩,?_⟩
  refine zr rfl (zb rfl (by exact bU (aY (by omega) (by omega))) ?_)
  refine zm rfl (zv ?_)
  have s4:Sat _ (cZ cs (aR.take i)::.ct u x.b::_):=s.ae [6,2]
  have s5:=s4.two (C:=cZ (cs++[.int .i64 x.aM,.int .i64 x.pos,.bool x.whole,u]) (aR.take i++[x])) (aH.mD _ _) (aH.ct _ _) fun a b q1 q2=>xI q1 ⟨⟨⟨rfl,rfl,rfl⟩,q2⟩,aa⟩
  rw [←U] at s5
  have s6:=(s5.ae [3,3,3,1,0]).del 5
  exact ih (i+1) _ _ h _ Q (by omega) ⟨v,hX,s6⟩ ⟨rfl,rfl,rfl,rfl,aa⟩ hq
theorem UD (J:W told){kd tx pv nx:Nat}{data:List Nat}{aR:List cn}(hg:dU kd aR=true)(hk:kd<256)(hr:xS tx pv nx data aR)(hc:Cu h c X S (dB kd tx pv nx data aR)):
  Call ⟨Tryz.prog,told⟩ 132 [.ptr c 0] h fun r h'=>∃dt ch cs,r=.agg (iI kd tx pv nx dt ch)∧Sat h' (X::bK dt data::.arr 4 ch cs::cZ cs aR::S):=by
 simp only [dB,cQ,bH,fF,cW] at hc
 obtain ⟨v,I,s⟩:=hc
 refine Call.of_wp (J.free _ rfl) Tryz.func132 rfl rfl (zg rfl ?_)
 refine aB.cT s rfl rfl rfl (cI rI) (fun p2 h s => ?_)
 dsimp only [V.cells,List.length_cons,List.length_nil,Nat.reduceAdd] at s
 refine zk 4 rfl (zc rfl (ET J ⟨v,I,s.ae [1,1,0]⟩) ?_)
 rintro v h ⟨rfl,v,I,s⟩
 dsimp only [aU,bringA,getA] at s
 refine zo rfl (bZ rfl (JH (by omega))) ?_
 refine zf rfl (uC _ _) ?_
 refine zS rfl (by exact s.ee (k:=2) rfl jK rfl (by decide) rfl rfl) (fun h s => ?_)
 dsimp only [Nat.reduceAdd,List.set,setA] at s
 refine zk 4 rfl (zo rfl (A2 rfl rfl) (zk 5 rfl (zf rfl (NQ _ _) (zf rfl (NR _ _) (zf rfl (NS _ _) (zo rfl (c8 rfl (by rw [Yr]; rfl)) ?_))))))
 refine zk 2 rfl (WP.block (WP.loop (zg rfl (zt rfl (ah rfl rfl bB) (rfl) (zk 5 rfl (WP.block (zg rfl (zo rfl (Ep rfl rfl (r:=.ptr p2 (0+1)) (by simp only [indexV,Il,LS,oS,LU]; rfl)) ?_))))))))
 refine zk 5 rfl (zc rfl (vr J hr.tx ⟨v,I,s⟩) ?_)
 rintro v h ⟨rfl,v,I,s⟩
 refine zn rfl ?_
 refine zS rfl (by exact s.ee (k:=2) rfl rH rfl (by decide) rfl rfl) (fun h s => ?_)
 dsimp only [Nat.reduceAdd,List.set,setA] at s
 refine zv (zr rfl (zb rfl (by exact bU (aY (by omega) (by omega))) ?_))
 refine zm rfl (zv (WP.loop (zg rfl (zt rfl (ah rfl rfl bB) (rfl) (zv (zw (zi rfl (WP.skip (zw (WP.block (zg rfl (zo rfl (Ep rfl rfl (r:=.ptr p2 (0+2)) (by simp only [indexV,Il,LS,oS,LU]; rfl)) ?_))))))))))))
 refine zk 5 rfl (zc rfl (vr J hr.pv ⟨v,I,s⟩) ?_)
 rintro v h ⟨rfl,v,I,s⟩
 refine zn rfl ?_
 refine zS rfl (by exact s.ee (k:=2) rfl rH rfl (by decide) rfl rfl) (fun h s => ?_)
 dsimp only [Nat.reduceAdd,List.set,setA] at s
 refine zv (zr rfl (zb rfl (by exact bU (aY (by omega) (by omega))) ?_))
 refine zk 2 rfl (WP.loop (zg rfl (zt rfl (ah rfl rfl bB) (rfl) (zk 5 rfl (WP.block (zg rfl (zo rfl (Ep rfl rfl (r:=.ptr p2 (0+3)) (by simp only [indexV,Il,LS,oS,LU]; rfl)) ?_)))))))
 refine zk 5 rfl (zc rfl (vr J hr.nx ⟨v,I,s⟩) ?_)
 rintro v h ⟨rfl,v,I,s⟩
 refine zn rfl ?_
 refine zS rfl (by exact s.ee (k:=2) rfl rH rfl (by decide) rfl rfl) (fun h s => ?_)
 dsimp only [Nat.reduceAdd,List.set,setA] at s
 refine zv (zr rfl (zb rfl (by exact bU (aY (by omega) (by omega))) ?_))
 refine zm rfl (zv (WP.loop (zg rfl (zh rfl (ah rfl rfl bB) (rfl) (zv (zw (zj rfl (WP.exit (zg rfl (zm rfl ?_))))))))))
 rw [←bH] at I
 refine zc rfl (Ip J hr.data ⟨v,I,s⟩) ?_
 rintro dt h ⟨v,I,s⟩
 have U:=(s.buf (k:=2) rfl).view.cells
 refine zf rfl (zD _ _) (zS rfl (s.ee (k:=3) rfl jM rfl (by decide) U.1 U.2) ?_)
 rintro h s
 refine zk 4 rfl (zc rfl (xR J hr.many ⟨v,I,s⟩) ?_)
 rintro v h ⟨rfl,v,I,s⟩
 have hv:=s.aL (k:=1) rfl I
 refine zk 7 rfl (zf rfl (mC _ _) (zl rfl (s.ld (k:=0) rfl bO rfl) (zo rfl (bf rfl rfl rfl (bj aS hv)) (zt rfl (ah rfl rfl LM) (by have:=Iq aR; simp only [dZ]; omega) ?_))))
 refine zc rfl (ov J) ?_
 rintro r h' ⟨rfl,rfl⟩
 refine zk 4 rfl ?_
 obtain ⟨i1,lZ,kf,sR⟩:=uV
 have xG:=hr.many
 obtain ⟨nv,OV,e1,s1⟩:=vk (P:=Tryz.prog) s iR lZ rJ kf (by omega) rfl (by decide) (by decide) (n:=0) (c:=aR.length) (by omega) (by omega)
 dsimp only [repeatL] at s1
 refine aB.any rfl rfl rfl (OpR.of (R:=fun v h'=>v=nv∧h'=OV) (rY rfl rfl e1) ⟨rfl,rfl⟩) ?_
 rintro v h' ⟨rfl,rfl⟩
 have s:=s1.ae [1,1,2,0]
 have KM:=s.kU (j:=3) rfl
 refine zf rfl (mY _ _) (zS rfl (s.ee (k:=2) rfl LN rfl (by decide) KM.1 KM.2.1) ?_)
 rintro h s
 have kV:∀x∈aR,x.Ok:=fun x hx=>by
  simp only [dU,aZ,pK,dZ] at hg
  exact hg.2 x hx
 have s2:=((s.gB (φ:=True) aa).fY (B:=cZ [] []) fun _ _ h=>h).ae [1,1,1,1,0]
 refine zk 7 rfl (WP.block ?_)
 refine UC J kV hr.many aR.length 0 _ [] h _ _ (by omega) ⟨_,I,s2⟩ ⟨rfl,rfl,rfl,rfl,aa⟩ (fun E h av cs hE hc => ?_)
 obtain ⟨v,I,s⟩:=hc
 refine WP.has hE ?_
 have hv:=s.aL (k:=1) rfl I
 have U:=(s.buf (k:=5) rfl).view.cells
 have Dp:=s.kU (j:=3) rfl
 have gF:[V.int .i64 (kd:Int),V.int .u64 (tx:Int),V.int .u64 (pv:Int),V.int .u64 (nx:Int),dt,av].all storable=true:=mZ U.2 Dp.2.1
 have jq:wN aR:=⟨by omega,fun x hx=>by have:=kV x hx; unfold cn.Ok at this; omega,fun x hx=>by have:=kV x hx; unfold cn.Ok at this; omega⟩
 refine zK 4 rfl (zf rfl (mC _ _) (zl rfl (s.ld (k:=0) rfl bO rfl) (zo rfl (bf rfl rfl rfl (bj aS hv)) (zt rfl (ah rfl rfl cB) (rfl) (zm rfl (zl rfl (s.fM (k:=2) rfl nE gM) (zc rfl (HJ J (s.ae [3,3]) U.2 jq) ?_)))))))
 rintro r h ⟨rfl,s⟩
 rw [hg]
 refine zq rfl (zc rfl (ov J) ?_)
 rintro r h' ⟨rfl,rfl⟩
 refine zk 3 rfl (zl rfl (s.fM (k:=4) rfl nE gM) (zS rfl (s.ia (j:=4) rfl gM rfl gF) ?_))
 rintro h s
 refine zv ?_
 refine WP.ret ⟨aa,_,S2 rfl (s.fM (k:=4) rfl nE gM),?_⟩
 exact ⟨dt,av,cs,rfl,((s.ae [3,4,0,0]).del 4).del 4⟩
end
end Go.Proofs.YtconhghphklfjaaGreat.Am
