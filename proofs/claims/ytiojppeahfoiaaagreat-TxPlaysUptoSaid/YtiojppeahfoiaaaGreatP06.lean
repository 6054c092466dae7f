/- TxPlays: a part of its proof; conditions: its statement's. -/
import Derived.Test.YtiojppeahfoiaaaGreatP05
import Derived.Test.YtiojppeahfoiaaaGreatP02
set_option linter.defProp false
namespace Go.Proofs.YtiojppeahfoiaaaGreat.Am
open Go Proofs.Tryz
def Hf:=@underlying26
def Mm:=@func79
def Mn:=@underlying345
variable {X aw:aH} {code:Code} {d:u6} {ε aj:bn} {A:bn->aH} {pg:bn->Int->List Nat} {lv dd:bn->Prop} {a8:Ex->List (Nat×V)->H->Prop} {fn:Func} {h:H} {e z:Int} {P':Int->List Nat} {now:List (Int×List Nat)} {cs:List (List Nat)} {E:List (Nat×V)} {S:List aH} {ao:List Bool} {bw:List cU} {M b c L l R data gv:List Nat} {args Rt:List V} {i j a k N B n link extra vK g q r aF f tx K aL acc pv nx:Nat} {P:Program} {t:TypeId} {x y rv uv:V}
def bt (M:List Nat)(i:Nat): Bool:=(M.getD (i/8) 0).testBit (i%8)
def Hg (M:List Nat)(i:Nat): List Nat:=M.set (i/8) (Nat.lor (M.getD (i/8) 0) (2^(i%8)))
def Um (M:List Nat)(i:Nat): List Nat:=M.set (i/8) (Nat.land (M.getD (i/8) 0) (255-2^(i%8)))
theorem Mp {b:Nat}(hi:i<M.length): (M.set i b).getD j 0=if i=j then b else M.getD j 0:=by
 grind
theorem afD (hi:i/8<M.length): bt (Hg M i) j=if j=i then true else bt M j:=by
 unfold bt Hg;rw[Mp hi];by_cases h:i/8=j/8
 .rw[bk h,show Nat.lor (M.getD (i/8) 0) (2^(i%8))=(M.getD (i/8) 0) ||| (2^(i%8)) from rfl,Nat.testBit_or,Nat.testBit_two_pow,h];grind
 .grind
theorem afE (hi:i/8<M.length): bt (Um M i) j=if j=i then false else bt M j:=by
 unfold bt Um;rw[Mp hi];by_cases h:i/8=j/8
 .have e:255-2^(i%8)=2^8-(2^(i%8)+1):=Y;have I:2^(i%8)<2^8:=zQ O Y;rw[bk h,show Nat.land (M.getD (i/8) 0) (255-2^(i%8))=(M.getD (i/8) 0) &&& (255-2^(i%8)) from U,Nat.testBit_and,e,Nat.testBit_two_pow_sub_succ I,Nat.testBit_two_pow,h];grind
 .grind
theorem PI : (Hg M i).length=M.length:=ff
theorem PJ : (Um M i).length=M.length:=ff
theorem Un (I:a<256)(J:k<8): Nat.lor a (2^k)<256:=Nat.or_lt_two_pow (n:=8) I (zQ O J)
theorem PK {c:Nat}(I:a<256): Nat.land a c<256:=Nat.lt_of_le_of_lt Nat.and_le_left I
def qF (x:Nat): Nat:=((List.range 8).filter λi => !x.testBit i).headD 8
theorem abz : ∀x,x<255->qF x<8/\x.testBit (qF x)=false/\∀j,j<qF x->x.testBit j=true:=by
 have:∀x,x<255->(decide (qF x<8)&&(!x.testBit (qF x)&&(List.range (qF x)).all λj=>x.testBit j))=true:=by decide +kernel
 grind
theorem agT : ∀x,x<256->(∀j,j<8->x.testBit j=true)->x=255:=by
 have:∀x,x<256->((List.range 8).all λj=>x.testBit j)=true->x=255:=by decide +kernel
 grind
theorem KJ (I:j<8): bt M (8*k+j)=(M.getD k 0).testBit j:=by
 grind[bt]
section
variable {x y:Operand} {b:Nat}
theorem adR (I:k<8): binV P h .shl t x y (.int .u8 1) (.int .i64 (k:Int))=some (.int .u8 ((2^k:Nat):Int)):=by
 have J:2^k<256:=zQ (a:=2) (n:=8) O I;simp only[binV,shiftV,IntKind.bits,cN];grind[An]
theorem IV {op:BinOp}{f:Nat->Nat->Nat}(I:a<256)(J:b<256)(hf:f a b<256)(he:bitsV op .u8 (a:Int) (b:Int)=some (.int .u8 (IntKind.u8.wrap (f ((a:Int)%(2^(IntKind.u8).bits:Int)).toNat ((b:Int)%(2^(IntKind.u8).bits:Int)).toNat:Nat)))):
  bitsV op .u8 (a:Int) (b:Int)=some (.int .u8 ((f a b:Nat):Int)):=by
 grind[IntKind.bits,An]
theorem afF (I:a<256)(J:k<8): binV P h .or t x y (.int .u8 (a:Int)) (.int .u8 ((2^k:Nat):Int))=some (.int .u8 ((Nat.lor a (2^k):Nat):Int)):=by
 simp only[binV,ikBeq,ak,intV];exact IV (f:=Nat.lor) I (zQ (a:=2) (n:=8) O J) (Un I J) U
theorem Uo (I:a<256)(J:b<256): binV P h .andNot t x y (.int .u8 (a:Int)) (.int .u8 (b:Int))=some (.int .u8 ((Nat.land a (255-b):Nat):Int)):=by
 simp only[binV,ikBeq,ak,intV];exact IV (f:=λa b=>Nat.land a (255-b)) I J (PK I) U
theorem Up (I:a<256): unV .xor (.int .u8 (a:Int))=some (.int .u8 ((255-a:Nat):Int)):=by
 have:∀a,a<256->Nat.xor 255 a=255-a:=by decide +kernel
 have e:bitsV .xor .u8 ((255:Nat):Int) (a:Int)=some (.int .u8 ((Nat.xor 255 a:Nat):Int)):=IV (f:=Nat.xor) O I Q U;rw[this a I] at e;exact e
theorem Uq {f:Nat->Nat}(hu:P.underlying t=some .string)(I:∀x,x<256->nth L x=some (f x))(J:a<256): indexV P t (.str L) (.int .u8 (a:Int))=some (.int .u8 ((f a:Nat):Int)):=by
 simp_all[indexV]
end
section
variable {told:bU} {v:V} {kd:Nat}
theorem Ur (I:W told)(J:a<256): Call ⟨prog,told⟩ 223 [.int .u8 ((255-a:Nat):Int)] h λr h'=>r=.int .i64 (qF a:Nat)/\h'=h:=by
 have hle:∀a,a<256->qF a<=8:=by decide +kernel
 have hle:=hle a J;have he:qF (255-(255-a))=qF a:=Q;refine Call.of_wp (I.free _ U) func223 U U (zK 7 U (zo U (Cc U U (Uq (f:=λx=>qF (255-x)) Lz (by decide +kernel) Y)) ?_));rw[he];exact zo U (bQ U (by exact ie underlying5 bB ay))<|zk 2 U (zR U ⟨U,U⟩)
noncomputable def lwL : Code:=aV [1,1,1,0,1,0,0,1,1,0,0,1,1,1,1,0,0] ((f205.body).getD .skip)
theorem XS (hT:W told){u:V}{lo:Nat}(hv:View h u M)(hM:M.length=375)(hn:n<=3000)(tw:lo<n)(h0:bt M lo=false)(h1:∀j,j<lo->bt M j=true): ∀(m k:Nat) (E:List (Nat×V)) (a8:Ex->List (Nat×V)->H->Prop),k+m=lo/8 ->
  Has E [(5,.int .i64 (n:Int)),(7,.int .i64 0),(39,u),(40,.int .i64 375),(41,.int .i64 (k:Int))] ->
  (∀E',look E' 2=some (.int .i64 (lo:Int))->look E' 3=some (.int .i64 0)->a8 .ret E' h)->WP ⟨prog,told⟩ 65 (.loop lwL) E h a8:=by
 intro m;induction m with
 |zero =>
  intro k E a8 hk hE hq;have J:M[k]?=some (M[k]' Y):=aI _;have I:M.getD k 0=M[k]' Y:=Q;generalize (M[k]' Y)=x at J I;have hx:x<256:=hv.1 x (bz J);obtain⟨id,off,e1,e2⟩:=gG hv J;have Le:x≠255:=λe=>by
   have:=KJ (M:=M) (k:=k) (j:=lo%8) Y;rw[show 8*k+lo%8=lo by omega,h0,I,e] at this;have q:∀j,j<8->(255:Nat).testBit j=true:=O;rw[q _ Y] at this;cases this
  obtain⟨w1,w2,w3⟩:=abz x Y;have hl:8*k+qF x=lo:=by
   have a1:=KJ (M:=M) (k:=k) (j:=qF x) w1;rw[I,w2] at a1;rcases tX (8*k+qF x) lo with q|q
   .grind
   .by_cases q2:lo%8<qF x
    .have:=w3 _ q2;have a2:=KJ (M:=M) (k:=k) (j:=lo%8) Y;rw[show 8*k+lo%8=lo by omega,h0,I,this] at a2;cases a2
    .omega
  refine WP.loop (WP.has hE (zg U (zB U aG Q<|zk 5 U (WP.block (zK 3 U (zo U (aJ (.ptr id off) U U e1) (zl U e2 (zk 6 U (zb U (by exact jM ay)<|zm U (zb U (by exact jM ay)<|zb U (by exact aT ay)<|zm U (zo U (cI U (Up hx)) (zc U (Ur hT hx) ?_))))))))))));rintro v h' ⟨rfl,rfl⟩;exact zo U (ag (r:=.int .i64 (lo:Int)) U U (by grind[aT,ay]))<|zk 5 U (zB U aE Q<|zk 3 U (zB U aG Q<|zk 9 U (WP.ret (hq _ U U))))
 |succ m ih =>
  intro k E a8 hk hE hq;have J:M[k]?=some (M[k]' Y):=aI _;have I:M.getD k 0=M[k]' Y:=Q;generalize (M[k]' Y)=x at J I;have hx:x<256:=hv.1 x (bz J);obtain⟨id,off,e1,e2⟩:=gG hv J;have Le:x=255:=agT x hx λj hj=>by rw[<-I,<-KJ hj];exact h1 _ Y
  have hl8:∀a,a<256->qF a<=8:=by decide +kernel
  have hl8:=hl8 x hx;refine WP.loop (WP.has hE (zg U (zB U aG Q<|zk 5 U (WP.block (zK 3 U (zo U (aJ (.ptr id off) U U e1) (zl U e2 (zk 6 U (zb U (by exact jM ay)<|zm U (zb U (by exact jM ay)<|zb U (by exact aT ay)<|zm U (zo U (cI U (Up hx)) (zc U (Ur hT hx) ?_))))))))))));rintro v h' ⟨rfl,rfl⟩;exact zb U (by exact aT ay)<|zk 5 U (zC U aE Q<|zk 5 U (zv (zj U (WP.skip (zr U (zb U (by exact aT ay)<|zm U (zv<|ih (k+1) _ a8 Y ⟨U,U,U,U,U,aa⟩ hq)))))))
end
section
variable {x y:Operand}
theorem XT (I:n<3000): binV P h .quo t x y (.int .i64 (n:Int)) (.int .i64 3000)=some (.int .i64 0):=by
 have:=He (P:=P) (h:=h) (t:=t) (x:=x) (y:=y) (a:=n) (b:=3000) O Y;rw[show n/3000=0 by omega] at this;exact this
theorem adS (I:n<3000): binV P h .rem t x y (.int .i64 (n:Int)) (.int .i64 3000)=some (.int .i64 (n:Int)):=by
 have:=W5 (P:=P) (h:=h) (t:=t) (x:=x) (y:=y) (a:=n) (b:=3000) O;rw[show n%3000=n by omega] at this;exact this
end
section
variable {told:bU} {v:V} {kd:Nat} {sm:bn->bn->Prop}
structure mj (n:Nat)(R M:List Nat)(p:Int->List Nat): Prop where
 head:∃ex,PgD (p 0) 201 n ex [gI,R]
 rl:R.length=64
 marks:∃kd lk ex,PgD (p 1) kd lk ex [M]
 ml:M.length=375
 n1:2<=n
 n2:n<=2999
 own:∀j,j<2->bt M j=true
 hi:∀j,n<=j->bt M j=false
theorem XU (hT:W told)(hR:PE told N lv dd sm rv A pg)(kQ:lv ε)(hN:2<=N)(hp:mj n R M (pg ε)){lo:Nat}(tw:lo<n)(h0:bt M lo=false)(h1:∀j,j<lo->bt M j=true)(s:Sat h (A ε::S)):
  Call ⟨prog,told⟩ 205 [rv] h λv h'=>(∃aj,v=.aR [.int .i64 0,.int .i64 9]/\Sat h' (A aj::S)/\dd aj)\/∃aj,v=.aR [.int .i64 (lo:Int),.int .i64 0]/\lv aj/\sm ε aj/\Sat h' (A aj::S):=by
 obtain⟨ex,x_⟩:=hp.head;obtain⟨kd,lk,vK,I⟩:=hp.marks;have hM:=hp.ml;have xz:=hp.n2;refine Call.of_wp (hT.free _ U) func205 U U (zK 8 U (zc U (Ml hT hR kQ Y x_ hp.rl s) ?_));rintro v h (⟨J,rfl,s,hd⟩|⟨u,J,rfl,sk,gC,s⟩)
 .skip;exact zk 12 U (zB U aE O<|zk 8 U (WP.ret ⟨aa,_,U,.inl ⟨J,U,s,hd⟩⟩))
 refine zk 12 U (zC U aE U (zk 7 U (zc U (Uk hT Y Y) ?_)));rintro v h' ⟨rfl,rfl⟩;refine zb U (by exact gz ay)<|zk 2 U (WP.block (WP.loop (zg U (zB U aG O ?_))));have I:PgD (pg J 1) kd lk vK [M]:=by rw[hR.same gC];exact I
 refine zk 5 U (WP.block (zK 9 U (zc U (PF hT hR sk hN I hM (s.ae [1])) ?_)));rintro v h (⟨xJ,rfl,s,hd⟩|⟨w2,u2,xJ,rfl,vm,qV,s⟩)
 .skip;exact zk 12 U (zB U aE O<|zk 8 U (WP.ret ⟨aa,_,U,.inl ⟨xJ,U,s.del 1,hd⟩⟩))
 refine zk 12 U (zC U aE U (zk 6 U (zo U (aO U U U (bC aZ (s.aQ 0 U (bh _ _)))) ?_)));rw[hM];exact zk 2 U (WP.block<|XS hT (s.buf (k:=0) U).view hM Y tw h0 h1 (lo/8) 0 _ _ Y ⟨U,U,U,U,U,aa⟩ (λE' l2 l3=>⟨aa,_,IM l2 l3,.inr ⟨xJ,U,vm,hR.tr gC qV,((s.ae [2]).del 3 |>.del 2).del 1⟩⟩))
end
def SA (a p q r:Nat)(op:V)(data:List Nat)(aF:Nat)(ε:bn): aH:=star [dJ a p q r op data aF,dx r p q ε.1,bD q p ε.2.1,aS p ε.2.2]
def GA (g a p q r:Nat)(data:List Nat)(aF:Nat)(now:List (Int×List Nat))(ε:bn): aH:=star [fh g a now false,dJ a p q r (.ptr g 0) data aF,dx r p q ε.1,bD q p ε.2.1,aS p ε.2.2]
def pgG (now:List (Int×List Nat))(ε:bn)(n:Int): List Nat:=match lookL n now with
 |some b=>b
 |none=>pgA ε n
theorem Hh (h:Sm N ε aj): pgG now aj=pgG now ε:=by
 funext n;unfold pgG;rw[h.1]
theorem jP {i n:Int}: pgG (dM i b now) ε n=if i=n then b else pgG now ε n:=by
 grind[pgG,mN]
section
variable {told:bU} {p:Nat} {v op:V} {kd:Nat} {sm:bn->bn->Prop}
theorem Ru (hT:W told)(hB:B<=2000): G_ told N B (.iface 26 (.ptr a 0)) (SA a p q r op data aF) pgA:=by
 refine⟨⟨_,_,_,U,abi,λ{h S ε n} I h0 h1 s=>?_⟩,λhs=>hs.1⟩;have CL:=I.cC;have JF:=uB (ε:=ε);have s:=aX.1 s;refine(FB hT (n:=n) s I.ok.ok I.ok.pins Y).mono ?_;rintro v h ⟨e,b,aj,J,hs⟩;obtain⟨k1,k2,k3,k4⟩:=J.ec I.ec I.ok.pins;obtain⟨rfl,rfl⟩:=k3 h0 h1;rcases hs with⟨he,_⟩|⟨_,u,rfl,s⟩
 .omega
 .have s2:Sat h (SA a p q r op data aF aj::bu u (pgA ε n)::S):=aX.2 (s.ae [1,1,1,1,0]);exact⟨u,aj,U,I.rd J,⟨k2,λP hP hv=>hP.rd J I.ec hv,J.cC⟩,s2.ae [1]⟩
theorem adT (hT:W told)(hB:B<=2000)(hw:NW N now): G_ told N B (.iface 78 (.ptr g 0)) (GA g a p q r data aF now) (pgG now):=by
 refine⟨⟨_,_,_,U,IL,λ{h S ε n} I h0 h1 s=>?_⟩,λhs m=>by rw[Hh hs]⟩;have CL:=I.cC;have JF:=uB (ε:=ε);have s:=aX.1 s;refine(L2 hT (n:=n) s I.ok Y (λe he=>iU (hw.good e he).1)).mono ?_;rintro v h ⟨e,b,aj,J,hs⟩;obtain⟨k1,k2,k3,k4⟩:=J.ec I.ec I.ok.pins;obtain⟨rfl,hb⟩:=k3 h0 h1;have hb:b=pgG now ε n:=hb;subst hb;rcases hs with⟨he,_⟩|⟨_,u,rfl,s⟩
 .omega
 .have s2:Sat h (GA g a p q r data aF now aj::bu u (pgG now ε n)::S):=aX.2 (s.ae [1,1,1,1,1,0]);exact⟨u,aj,U,I.CN J,⟨k2,λP hP hv=>hP.CN J I.ec hv,J.cC⟩,s2.ae [1]⟩
theorem Hi (hT:W told)(hB:B<=2000)(I:EI N B ε)(hw:NW N now)(hi:i<N)(s:Sat h (GA g a p q r data aF now ε::X::S))(hX:cQ X (cT x b))(hp:PgD b kd link extra cs):
  Call ⟨prog,told⟩ 40 [.ptr g 0,.int .i64 (i:Int),x] h λv h'=>∃aj,v=.int .i64 0/\EI N B aj/\Sm N ε aj/\NW N (dM (i:Int) b now)/\Sat h' (GA g a p q r data aF (dM (i:Int) b now) aj::X::S):=by
 have CL:=I.cC;have JF:=uB (ε:=ε);have hlen:=hp.len;have hb:=(s.aQ 1 U hX).1;have s:=aX.1 s;refine(TV hT (n:=(i:Int)) s hX Y I.ok Y (λe he=>iU (hw.good e he).1)).mono ?_;rintro v h ⟨e,dR,aj,J,rfl,s⟩;obtain⟨k1,k2,k3,k4,k5⟩:=J.ec I.ec I.ok.pins;obtain⟨rfl,rfl⟩:=k5 Y Y hp.good;exact⟨aj,U,I.T3 J,⟨k2,λP hP hv=>hP.T3 J I.ec hv,J.cC⟩,hw.put Y Y hp.good hb,aX.2 s⟩
structure Mo (told:bU)(N:Nat)(lv dd:bn->Prop)(sm:bn->bn->Prop): Prop where
 rf:∀a:bn,sm a a
 tr:∀ {a b c:bn},sm a b->sm b c->sm a c
 pg:∀ {a b:bn},sm a b->∀m,pgA b m=pgA a m
 gr:∀ {g a p q r aF:Nat} {data:List Nat} {now:List (Int×List Nat)},NW N now->PE told N lv dd sm (.iface 78 (.ptr g 0)) (GA g a p q r data aF now) (pgG now)
 gw:∀ {h:H} {S:List aH} {X:aH} {g a p q r aF i kd link extra:Nat} {data b:List Nat} {now:List (Int×List Nat)} {x:V} {cs:List (List Nat)} {ε:bn},lv ε->NW N now->i<N->Sat h (GA g a p q r data aF now ε::X::S)->cQ X (cT x b)->PgD b kd link extra cs ->
  Call ⟨prog,told⟩ 40 [.ptr g 0,.int .i64 (i:Int),x] h λv h'=>(∃aj,v=.int .i64 9/\Sat h' (GA g a p q r data aF now aj::X::S)/\dd aj)\/∃aj,v=.int .i64 0/\lv aj/\sm ε aj/\NW N (dM (i:Int) b now)/\Sat h' (GA g a p q r data aF (dM (i:Int) b now) aj::X::S)
 dr:∀ {h:H} {S:List aH} {g a p q r aF:Nat} {data:List Nat} {now:List (Int×List Nat)} {ε:bn} {n:Int},dd ε->NW N now->Sat h (GA g a p q r data aF now ε::S) ->
  Call ⟨prog,told⟩ 207 [.ptr g 0,.int .i64 n] h λv h'=>∃(w:V) (e:Int) (aj:bn),v=.aR [w,.int .i64 e]/\dd aj/\Sat h' (GA g a p q r data aF now aj::S)
theorem Mo.live (J:W told)(hB:B<=2000): Mo told N (EI N B) noD (Sm N) :=
 ⟨Sm.refl N,Sm.trans,λh=>h.1,λhw=>(adT J hB hw).m,λI hw hi s hX hp=>(Hi J hB I hw hi s hX hp).mono λ_ _ k=>.inr k,λhd=>hd.elim⟩
theorem Mo.pgG (I:Mo told N lv dd sm)(h:sm ε aj): Am.pgG now aj=Am.pgG now ε:=by
 funext n;unfold Am.pgG;rw[I.pg h]
def DdG (N g a p q r:Nat)(data:List Nat)(aF:Nat)(dd:bn->Prop)(S:List aH)(h:H): Prop:=∃(ε:bn) (now:List (Int×List Nat)),NW N now/\Sat h (GA g a p q r data aF now ε::S)/\dd ε
theorem mj.put {P:Int->List Nat}(h:mj N R M P){I:List Nat}(J:P' 0=P 0)(h1:∃kd lk ex,PgD (P' 1) kd lk ex [I])(hl:I.length=375)(ho:∀j,j<2->bt I j=true)(hh:∀j,N<=j->bt I j=false): mj N R I P' :=
 ⟨by rw[J];exact h.head,h.rl,h1,hl,h.n1,h.n2,ho,hh⟩
theorem rF {i:Int}: ∀ {now:List (Int×List Nat)},(dM i b now).length<=now.length+1:=by
 intro now;induction now<;>grind[dM]
theorem adU (hT:W told)(hM:Mo told N lv dd sm)(kQ:lv ε)(hw:NW N now)(hp:mj N R M (pgG now ε))(hi:i<N)(fH:2<=i){bl:Bool}(s:Sat h (GA g a p q r data aF now ε::S)):
  Call ⟨prog,told⟩ 206 [.ptr g 0,.int .i64 (i:Int),.bool bl] h λv h'=>(v=.int .i64 9/\DdG N g a p q r data aF dd S h')\/∃aj dR,v=.int .i64 0/\lv aj/\sm ε aj/\NW N dR/\dR.length<=now.length+1/\mj N R (if bl then Hg M i else Um M i) (pgG dR aj)/\(∀m,m≠1->pgG dR aj m=pgG now ε m) /\
   Sat h' (GA g a p q r data aF dR aj::S):=by
 obtain⟨kd,lk,vK,CW⟩:=hp.marks;have hMl:=hp.ml;have xz:=hp.n2;have hi8:i/8<M.length:=Y;have hb:M[i/8]?=some (M[i/8]' Y):=aI _;have LL:M.getD (i/8) 0=M[i/8]' Y:=Q;generalize (M[i/8]' Y)=z at hb LL
 -- what is so behind it
 have fin:∀ {aj:bn} {b':List Nat} {M':List Nat},sm ε aj->PgD b' kd lk vK [M']->M'.length=375->(∀j,bt M' j=if j=i then bl else bt M j)->mj N R M' (pgG (dM 1 b' now) aj)/\(∀m,m≠1->pgG (dM 1 b' now) aj m=pgG now ε m):=λ{aj b' M'} hs I hl JO =>
  ⟨hp.put (by rw[jP,ax O,hM.pgG hs]) ⟨_,_,_,by rw[jP,bk U];exact I⟩ hl (λj hj=>by rw[JO,ax Y];exact hp.own j hj) (λj hj=>by rw[JO,ax Y];exact hp.hi j hj),
   λm hm=>by rw[jP,ax Y,hM.pgG hs]⟩
 refine Call.of_wp (hT.free _ U) func206 U U (zK 7 U (zo U (uJ U (mki_of qU U)) (zm U (zo U (ag (r:=.int .i64 0) U U (XT Y))<|zc U (PF hT (hM.gr hw) kQ Y CW hMl s) ?_))));rintro v h (⟨xJ,rfl,s,hd⟩|⟨w2,u2,xJ,rfl,vm,qV,s⟩)
 .skip;exact zk 12 U (zB U aE O<|zk 7 U (WP.ret ⟨aa,_,U,.inl ⟨U,xJ,now,hw,s,hd⟩⟩))
 have hv:=(s.buf (k:=0) U).view;have hz:z<256:=hv.1 z (bz hb);have h2k:2^(i%8)<256:=zQ (a:=2) (n:=8) O Y;obtain⟨id,off,e1,e2⟩:=gG hv hb;refine zk 12 U (zC U aE U (zk 6 U (zb U (adS Y)<|zb U (W5 (a:=i) (b:=8) O)<|zb U (adR (k:=i%8) Y)<|zk 6 U (zb U (adS Y)<|zb U (He (a:=i) (b:=8) O Y)<|zk 6 U ?_))));cases bl with
 |true =>
  obtain⟨Mq,Mr,e3,h4,e4,s2⟩:=qN s (i:=i/8) (b:=Nat.lor z (2^(i%8))) Y (Un hz Y);have ee:V.ptr id off=V.ptr Mq Mr:=Q;rw[<-ee] at e4;refine zK 4 U (zo U (aJ (.ptr id off) U U e1) (zl U e2 (zm U (zb U (afF hz Y)<|zo U (aJ (.ptr id off) U U e1) (zS U (⟨h4,e4,s2⟩) ?_)))));rintro h s;rw[<-LL] at s;have s:Sat h (bu u2 (Hg M i)::_):=s;refine zk 6 U (zc U (Ed (i:=0) (c:=M) hT (s.ae [1,0]) (bh _ _) (bh _ _) CW U PI) ?_);rintro v h ⟨w3,b',rfl,I,s⟩;refine zk 9 U (zC U aE U (zk 7 U (zo U (ag (r:=.int .i64 0) U U (XT Y))<|zb U (by exact aT ay)<|zm U (zc U (hM.gw (i:=1) vm hw Y (s.ae [3,0]) (bh _ _) I) ?_))));rintro v h (⟨J,rfl,s,hd⟩|⟨J,rfl,vL,nD,m6,s⟩)
  .skip;exact zk 2 U (zR U (.inl ⟨U,J,now,hw,((s.ae [0]).del 3 |>.del 2).del 1,hd⟩))
  refine zk 2 U (zR U ?_);obtain⟨f1,f2⟩:=fin (hM.tr qV nD) I (by rw[PI];exact hMl) (λj=>afD hi8);exact .inr ⟨J,_,U,vL,hM.tr qV nD,m6,rF,f1,f2,((s.ae [0]).del 3 |>.del 2).del 1⟩
 |false =>
  obtain⟨Mq,Mr,e3,h4,e4,s2⟩:=qN s (i:=i/8) (b:=Nat.land z (255-2^(i%8))) Y (PK hz);have ee:V.ptr id off=V.ptr Mq Mr:=Q;rw[<-ee] at e4;refine zK 4 U (zo U (aJ (.ptr id off) U U e1) (zl U e2 (zm U (zb U (Uo hz h2k) (zo U (aJ (.ptr id off) U U e1) (zS U (⟨h4,e4,s2⟩) ?_))))));rintro h s;rw[<-LL] at s;have s:Sat h (bu u2 (Um M i)::_):=s;refine zk 6 U (zc U (Ed (i:=0) (c:=M) hT (s.ae [1,0]) (bh _ _) (bh _ _) CW U PJ) ?_);rintro v h ⟨w3,b',rfl,I,s⟩;refine zk 9 U (zC U aE U (zk 7 U (zo U (ag (r:=.int .i64 0) U U (XT Y))<|zb U (by exact aT ay)<|zm U (zc U (hM.gw (i:=1) vm hw Y (s.ae [3,0]) (bh _ _) I) ?_))));rintro v h (⟨J,rfl,s,hd⟩|⟨J,rfl,vL,nD,m6,s⟩)
  .skip;exact zk 2 U (zR U (.inl ⟨U,J,now,hw,((s.ae [0]).del 3 |>.del 2).del 1,hd⟩))
  refine zk 2 U (zR U ?_);obtain⟨f1,f2⟩:=fin (hM.tr qV nD) I (by rw[PJ];exact hMl) (λj=>afE hi8);exact .inr ⟨J,_,U,vL,hM.tr qV nD,m6,rF,f1,f2,((s.ae [0]).del 3 |>.del 2).del 1⟩
theorem abA (hT:W told)(J:Mo told N lv dd sm)(kQ:lv ε)(hw:NW N now)(hp:mj N R M (pgG now ε)){lo:Nat}(tw:lo<N)(h0:bt M lo=false)(h1:∀j,j<lo->bt M j=true)(s:Sat h (GA g a p q r data aF now ε::S)):
  Call ⟨prog,told⟩ 150 [.ptr g 0] h λv h'=>(v=.aR [.int .i64 0,.int .i64 9]/\DdG N g a p q r data aF dd S h')\/∃aj dR,v=.aR [.int .i64 (lo:Int),.int .i64 0]/\lv aj/\sm ε aj/\NW N dR/\dR.length<=now.length+2/\mj N R (Hg M lo) (pgG dR aj)/\(∀m,m≠1->m≠(lo:Int)->pgG dR aj m=pgG now ε m)/\PgD (pgG dR aj lo) 0 0 0 []/\pgG dR aj lo=yX 0 /\
   Sat h' (GA g a p q r data aF dR aj::S):=by
 have tM:=hp.n1;have h2:2<=lo:=by
  rcases tX lo 2 with hq|hq
  .rw[hp.own lo hq] at h0;cases h0
  .exact hq
 refine Call.of_wp (hT.free _ U) func150 U U (zK 8 U (zo U (uJ U (mki_of qU U)) (zc U (XU hT (J.gr hw) kQ Y hp tw h0 h1 s) ?_)));rintro v h (⟨yZ,rfl,s,hd⟩|⟨yZ,rfl,sk,gC,s⟩)
 .skip;exact zk 7 U (WP.block (zK 3 U (zB U aE O<|zk 9 U (WP.ret ⟨aa,_,U,.inl ⟨U,yZ,now,hw,s,hd⟩⟩))))
 have CW:mj N R M (pgG now yZ):=by rw[J.pgG gC];exact hp
 refine zk 7 U (WP.block (zK 3 U (zC U aE U (zk 6 U (zC U aG cb<|za U (zv (zj U (WP.skip (zw (zg U (zk 2 U (zc U (adU (bl:=true) hT J sk hw CW tw h2 s) ?_))))))))))));rintro v h (⟨rfl,hd⟩|⟨xJ,IW,rfl,vm,qV,ov,ir,I,JD,s⟩)
 .skip;exact zk 5 U (zB U aE O<|zk 8 U (WP.ret ⟨aa,_,U,.inl ⟨U,hd⟩⟩))
 refine za U (zv (zg U (zm U (zh U (ag U U aE) U (zv (zj U (WP.skip (zg U (zc U (JN (kd:=0) hT s O) ?_)))))))));rintro v h ⟨u,rfl,s⟩;have nM:PgD (yX 0) 0 0 0 []:=PgD.new (k:=0);generalize hbn:yX 0=b' at s nM;refine zk 12 U (zc U (J.gw (i:=lo) vm ov tw (s.ae [1,0]) (bh _ _) nM) ?_);rintro v h (⟨Hj,rfl,s,hd⟩|⟨Hj,rfl,vL,nD,m6,s⟩)
 .skip;exact zk 5 U (zB U aE O<|zk 8 U (WP.ret ⟨aa,_,U,.inl ⟨U,Hj,IW,ov,s.del 1,hd⟩⟩))
 refine zk 5 U (zC U aE U (zk 9 U (zR U ?_)));have I:mj N R (Hg M lo) (pgG IW xJ):=I;refine .inr ⟨Hj,_,U,vL,J.tr (J.tr gC qV) nD,m6,b7 rF Y,I.put (by rw[jP,ax Y,J.pgG nD]) ?_ I.ml I.own I.hi,λm EH Bz=>by rw[jP,ax Y,J.pgG nD,JD m EH,J.pgG gC],by grind[jP],by rw[jP,bk U],s.del 1⟩;rw[jP,ax Y,J.pgG nD];exact I.marks
theorem Us (hT:W told)(hB:B<=2000)(I:EI N B ε)(hw:NW N now)(hp:mj N R M (pgG now ε)){lo:Nat}(J:lo<N)(h0:bt M lo=false)(h1:∀j,j<lo->bt M j=true)(s:Sat h (GA g a p q r data aF now ε::S)):
  Call ⟨prog,told⟩ 150 [.ptr g 0] h λv h'=>∃aj dR,v=.aR [.int .i64 (lo:Int),.int .i64 0]/\EI N B aj/\Sm N ε aj/\NW N dR/\dR.length<=now.length+2/\mj N R (Hg M lo) (pgG dR aj)/\(∀m,m≠1->m≠(lo:Int)->pgG dR aj m=pgG now ε m)/\PgD (pgG dR aj lo) 0 0 0 []/\pgG dR aj lo=yX 0 /\
   Sat h' (GA g a p q r data aF dR aj::S) :=
 (abA hT (Mo.live hT hB) I hw hp J h0 h1 s).mono λ_ _ k=>k.resolve_left λ⟨_,_,_,_,_,q⟩=>q
end
theorem Rv : jt (List.replicate 512 0)=0:=by rw[jt,bk U]
def fresh (n m f:Nat): bn:=(Pl.fresh f,(Lg.fresh,Dk.fresh n m))
theorem Ms {m:Nat}(k:Int): (Dk.fresh n m).at k=List.replicate 512 0:=by
 grind[Dk.at,lookL,Dk.fresh]
theorem Ut {m:Nat}(k:Int): pgA (fresh n m f) k=List.replicate 512 0:=by
 exact Ms k
theorem Mt {x:Fm}(h:(Pl.fresh f).ai[i]?=some x): x=fD:=Dj (bz h)
theorem EI.fresh {m:Nat}(hn:n<=65536)(hm:m<=16777216)(hf:1<=f)(hf2:f<=1024): EI n 1 (fresh n m f):=by
 have J:∀x∈(Pl.fresh f).ai,x=fD:=λx I=>Dj I;have hlen:(Pl.fresh f).ai.length=f:=lF;refine⟨⟨⟨⟨(show 0<(Pl.fresh f).ai.length by omega),(show(Pl.fresh f).ai.length<=1024 by omega),λe he=>(by cases he),λx I=>by rw[J x I];decide,λx I=>by rw[J x I];decide⟩,Lg.L9,?_⟩,λx I=>by rw[J x I];rfl,⟨tW,λk i hk=>(by cases hk)⟩⟩,⟨?_,tW,λk i hk=>(by cases hk),λi x I=>.inl (by rw[Mt I];decide),λk hk=>(by cases hk),tW⟩,⟨U,az _,(show(1:Nat)+0<=1*1048600 by decide)⟩,?_⟩
 .exact⟨(show(-1:Int)<4294967296 by decide),dz _,hm,λe he=>(by cases he),λi b hb=>(by have h1:some b=none:=Dj (bz hb);cases h1),az _,(show(List.replicate n (none:Option (List Nat))).length<=65536 by grind)⟩
 .exact⟨U,(show(-1:Int)<0 by decide),lF,λk hk=>(by cases hk),tW,λk h0 h1=>by show jt ((Dk.fresh n m).at k)=0;rw[Ms];exact Rv⟩
 .have e:iA (Pl.fresh f).ai=0:=by
   rw[iA,List.count_eq_zero];intro hh;obtain⟨x,I,hc⟩:=List.mem_map.1 hh;rw[J x I] at hc;cases hc
  show([]:List Wr).length+iA (Pl.fresh f).ai<=_;rw[e];decide
theorem IX (h:n<128): (digits 9 n).length=1:=by
 grind[digits]
theorem PL (h:n<16384): (digits 9 n).length<=2:=by
 grind[digits]
theorem FG {c:cU}(h1:c.bA.toNat<16384)(h2:c.pos.toNat<16384)(I:c.b.length<16384): (kZ c).length<=7+c.b.length:=by
 grind[PL,kZ]
theorem abB {pg:Int}{now:List Nat}{l:List cU}(I:BF pg gv now i l)(hn:now.length=512)(hp:pg.toNat<16384): ∀j,(∀k,i<=k->k<j->gv[k]?=now[k]?)->j<=520->(l.flatMap kZ).length<=520-max i j:=by
 induction I with
 |done i h=>simp
 |skip i l h he I ih =>
  grind
 |take i e l h1 h2 h3 h4 I ih =>
  intro j hj ET;have vJ:j<=i:=zV λJ=>h3 (hj i (az _) J);have h5:=ih (e+8) h4 Y;have hl:((now.take e).drop i).length=e-i:=Q;have h6:=FG (c:=⟨pg,i,false,(now.take e).drop i⟩) hp Q Q;rw[Ds,fL];simp only[hl] at h6;omega
theorem abC {pg:Int}{now:List Nat}{c:List cU}(I:TW pg gv now c)(J:now.length=512)(hp:pg.toNat<16384): (c.flatMap kZ).length<=520:=by
 obtain⟨l,hl,rfl⟩:=I;have:=abB hl J hp 0 (λk _ h=>absurd h Y) Y;grind[FG]
theorem kD.few {l:List Int}{cs:List cU}(J:kD now l ε e cs aj)(hn:NW N now): (∀n∈l,n.toNat<16384)->(cs.flatMap kZ).length<=520*l.length:=by
 induction J with
 |nil ε=>simp
 |err n l ε e b aj J he=>simp
 |part n l ε gv b aj c e cs I J hb kO hc jE ht ih =>
  intro hl;have h1:=abC hc (iU (hn.look hb).1) (hl n iu);grind
 |whole n l ε gv b aj e cs I J hb kO ht ih =>
  have nM:=iU (hn.look hb).1;grind[FG]
theorem Mu {L:Nat}{cs:List cU}{kd:Int}(hr:kD now (bj now) ε e cs aj)(I:NW N now)(hL:now.length<=L)(hN:N<=16384)(ht:tx<16384): (cV kd tx 0 0 [] cs).length<=520*L+20:=by
 have h2:=PL ht;have h4:=IX (n:=([]:List Nat).length) O;have h5:=yW cs.length;have h6:=hr.few I λn hm=>by have:=I.keys n (jF.1 hm);omega
 have J:(bj now).length<=L:=by
  rw[bj,(fB _).length_eq,cL];exact hL
 have J:=wu 520 J;simp only[cV,fL,cK,eN] at h4 ⊢;omega
theorem og (K M:Nat): nF λx=>x.2.log.length=K/\x.2.room=M:=by
 refine⟨λx n h=>?_,λx n b h=>?_⟩
 .unfold bL Dk.gR;split
  .exact h
  .split
   .exact h
   .split
    .exact h
    .split<;>first|exact h|exact h
 .unfold Dk.dY;split
  .exact h
  .split
   .exact h
   .split<;>exact h
def EU (K M:Nat)(ε:bn): Prop:=ε.2.2.log.length<=K/\ε.2.2.room=M
theorem EU.sm {M:Nat}(h:EU K M ε)(hs:Sm N ε aj): EU K M aj:=by
 have:=hs.2.1 _ ((og ε.2.2.log.length ε.2.2.room).A_ N) ⟨U,U⟩;exact⟨by rw[this.1];exact h.1,by rw[this.2];exact h.2⟩
theorem DnR.fits {M L kd:Nat}{cl:Bool}(hr:DnR ε now kd tx 0 0 [] 0 aL e cl aj)(J:EI N B ε)(hB:B<=4000)(hw:NW N now)(hL:now.length<=L)(hN:N<=2999)(hL2:L<=2000)(h1:1<=kd)(h2:kd<=7)(va:tx<16384)(hd:EU K M ε)(hf:K+520*L+28<=M):
  cl=true/\e=0/\EU (K+520*L+28) M aj:=by
 have vX:∀n∈bj now,0<=n/\n<N:=λn hq=>hw.keys n (jF.1 hq);obtain⟨hK,hM⟩:=hd;have Rw:=J.done hB hw Y Y hr;cases hr with
 |arg hh=>omega
 |dead _ _ _ hd=>omega
 |qz e c aj _ _ _ _ hc BG=>exact absurd (hc.ec J.ec J.ok vX).2.2 BG
 |app c I _ _ _ _ hc BG =>
  have yy:=Mu (kd:=kd) hc hw hL Y va;have hP:=(og ε.2.2.log.length ε.2.2.room).ch hc ⟨U,U⟩;grind[jh,dZ,lV]
 |put c I e Hj _ _ _ _ hc ha hp =>
  rcases Rw with⟨jE,_⟩|⟨_,he,_⟩
  .grind
  .refine⟨U,he,?_⟩;have yy:=Mu (kd:=kd) hc hw hL Y va;have hP:=(og ε.2.2.log.length ε.2.2.room).ch hc ⟨U,U⟩;rcases jh I.2 kd tx 0 0 [] c with⟨e,he,sH,hq⟩|⟨_,hfu,hq⟩|⟨_,hb,Ja,fJ,hfu,hq⟩
   .grind
   .grind
   .rw[hq] at hp;have iM:=(og (ε.2.2.log.length+(dZ I.2.1 kd tx 0 0 [] c).length) ε.2.2.room).pt hp ⟨Q,hP.2⟩;have h3:(dZ I.2.1 kd tx 0 0 [] c).length<=520*L+28:=by rw[dZ,lV];omega
    exact⟨Y,Y⟩
def sdep : Code->Nat
 |.seq a b=>1+max (sdep a) (sdep b)
 |_=>1
def WPd (C:eP)(au:Nat)(code:Code)(E:List (Nat×V))(h:H)(d:u6)(a8:Ex->List (Nat×V)->H->u6->Prop): Prop :=
 ∀env,jl env E->∃N0 ex I h' E' J,(∀N m,N0<=N->sdep code<=m->evTop C N m code ⟨env,au,h⟩ d=some (ex,⟨I,au,h'⟩,J))/\jl I E'/\a8 ex E' h' J
section
variable {C:eP} {au:Nat} {a8:Ex->List (Nat×V)->H->u6->Prop}
def noDef : List Oper->Bool
 |[]=>true
 |o::l=>(match o.op with
  |.defer _=>false
  |_=>true)&&noDef l
def noDefC : Code->Bool
 |.seq a b=>noDefC a&&noDefC b
 |.region _ ops false=>noDef ops.toList
 |_=>true
theorem Uu {self:Self}{L:List Oper}: ∀ {l:List Oper} {s s':St},noDef l=true->evOps C self L l s=some s'->evOpsD C self L l s d=some (s',d):=by
 intro l;induction l<;>grind[evOps,noDef,evOpsD]
theorem evTop_of : ∀ {code:Code} {n:Nat} {s:St} {ex:Ex} {s':St} {d:u6},noDefC code=true->ev C n code s=some (ex,s')->∀N m,n<=N->sdep code<=m->evTop C N m code s d=some (ex,s',d):=by
 have leaf:∀ {code:Code} {n:Nat} {s:St} {ex:Ex} {s':St} {d:u6} {N m:Nat},(∀m,evTop C N (m+1) code s d=match ev C N code s with
   |some (ex,s')=>some (ex,s',d)
   |none=>none)->ev C n code s=some (ex,s')->n<=N->1<=m->evTop C N m code s d=some (ex,s',d):=λ{code n s ex s' d N m} he I J hm=>by
  obtain⟨k,rfl⟩:∃k,m=k+1:=⟨m-1,Y⟩;rw[he,fy J _ _ _ I]
 intro code;induction code with
 |seq a b iha ihb =>
  intro n s ex s' d hn I N m J hm;simp only[noDefC,b9] at hn;simp only[sdep] at hm;obtain⟨k,rfl⟩:∃k,m=k+1:=⟨m-1,Y⟩;cases n with
  |zero=>cases I
  |succ n =>
   rw[jz] at I;simp only[evStep] at I;cases ha:ev C n a s with
   |none=>grind
   |some r =>
    obtain⟨e1,s1⟩:=r;have h1:=iha (d:=d) hn.1 ha N k Y Y;simp only[evTop,h1];rw[ha] at I;cases e1 with
    |normal=>exact ihb hn.2 I N k Y Y
    |exit i=>grind
    |ret=>grind
 |region id ops draw =>
  intro n s ex s' d hn I N m J hm;cases draw with
  |true=>exact leaf (λm=>U) I J hm
  |false =>
   obtain⟨k,rfl⟩:∃k,m=k+1:=⟨m-1,by have:1<=m:=hm;omega⟩;cases n with
   |zero=>cases I
   |succ n =>
    rw[jz] at I;simp only[evStep,bq] at I;cases ho:evOps C (ev C n) ops.toList ops.toList s with
    |none=>grind
    |some s1 =>
     rw[ho] at I;obtain⟨rfl,rfl⟩:=I;have h2:=sK (fy (C:=C) (show n<=N by omega)) _ _ _ ho;simp only[evTop,Uu (d:=d) hn h2]
 |_=>intro n s ex s' d hn I N m J hm;exact leaf (λm=>U) I J hm
theorem WPd.of_wp (J:noDefC code=true)(hw:WP C au code E h λex E' h'=>a8 ex E' h' d): WPd C au code E h d a8:=by
 intro env hE;obtain⟨N,ex,I,h',E',h1,h2,h3⟩:=hw env hE;exact⟨N,ex,I,h',E',d,λM m hM hm=>evTop_of J h1 M m hM hm,h2,h3⟩
theorem WPd.seq {a b:Code}(hw:WPd C au a E h d λex E' h' J=>match ex with
  |.normal=>WPd C au b E' h' J a8
  |ex=>a8 ex E' h' J): WPd C au (.seq a b) E h d a8:=by
 intro env hE;obtain⟨N,ex,I,h',E',J,h1,h2,h3⟩:=hw env hE;have one:∀M m,N<=M->sdep (.seq a b)<=m+1->evTop C M m a ⟨env,au,h⟩ d=some (ex,⟨I,au,h'⟩,J):=λM m hM hm=>h1 M m hM (by simp only[sdep] at hm;omega);have out:(match ex with|.normal=>False|_=>True)->a8 ex E' h' J->∃N0 ex I h' E' J,(∀N m,N0<=N->sdep (.seq a b)<=m->evTop C N m (.seq a b) ⟨env,au,h⟩ d=some (ex,⟨I,au,h'⟩,J))/\jl I E'/\a8 ex E' h' J:=λhx hq=>by
  refine⟨N,ex,I,h',E',J,λM m hM hm=>?_,h2,hq⟩;obtain⟨k,rfl⟩:∃k,m=k+1:=⟨m-1,by simp only[sdep] at hm;omega⟩<;>grind[evTop]
 cases ex with
 |normal =>
  obtain⟨K,vK,y6,OX,E2,d2,g1,g2,g3⟩:=h3 I h2;refine⟨max N K,vK,y6,OX,E2,d2,λM m hM hm=>?_,g2,g3⟩;obtain⟨k,rfl⟩:∃k,m=k+1:=⟨m-1,by simp only[sdep] at hm;omega⟩<;>grind[sdep,evTop]
 |exit i=>simp_all
 |ret=>simp_all
theorem WPd.defer {id:Nat}{ops:Array Oper}{I J:Oper}{x1 y:Operand}{cl:Go.Call}{v:V}{first cap:List V}(hL:ops.toList=[I,J])(g1:I.guard=none)(d1:I.dst=some k)(p1:I.op=.move x1)(hk:Nat.blt k au=true)(hx:bp E x1=some v)
 (g2:J.guard=none)(d2:J.dst=none)(p2:J.op=.defer cl)(hc:cl.callee=.value y)(hy:bp ((k,v)::E) y=some (.fn (.func g) first cap))(ha:lookArgs ((k,v)::E) cl.args.toList=some args)
 (hq:a8 .normal ((k,v)::E) h ((g,first++args,cap)::d)): WPd C au (.region id ops false) E h d a8:=by
 intro env hE;have JP:jl (env.set k (some v)) ((k,v)::E):=hE.set _ _;refine⟨0,.normal,env.set k (some v),h,(k,v)::E,(g,first++args,cap)::d,λM m _ hm=>?_,JP,hq⟩
 obtain⟨j,rfl⟩:∃j,m=j+1:=⟨m-1,by have:1<=m:=hm;omega⟩;have e1:evOpsD C (ev C M) [I,J] [I,J] ⟨env,au,h⟩ d=some (⟨env.set k (some v),au,h⟩,(g,first++args,cap)::d):=by
  have yc:wantedV [I,J] env I=true:=by simp[wantedV,g1]
  have he1:evOp C (ev C M) env h I=some (v,h):=by simp only[evOp,p1,bX hE hx];rfl
  have adE:St.put ⟨env,au,h⟩ I.dst v h=some ⟨env.set k (some v),au,h⟩:=by grind[St.put]
  rw[evOpsD];grind[evOpsD,lz,bX]
 simp only[evTop,hL,e1]
theorem toldDefer_do {f:FuncId}{R:V->H->Prop}(hf:C.P.funcs[f]?=some fn)(hb:fn.body=some code)(hl:Nat.blt fn.ntmps args.length=false)(hdp:sdep code<=1000)
 (hw:WPd C fn.ntmps code (argE args 0) h [] λex E' h' d'=>(match ex with|.exit _=>False|_=>True)/\∃h2 v,(∃J,∀N,J<=N->runDefs C N d' h'=some h2)/\resLE C.P E' h2 fn.results.toList=some v/\R v h2):
  ∃v h2,(∃J,∀N,J<=N->toldDefer C N f args h=some (v,h2))/\R v h2:=by
 obtain⟨J,ex,I,h',E',d',h1,h2,hx,h3,v,⟨N1,hr⟩,sN,hR⟩:=hw _ (uc args);refine⟨v,h3,⟨max J N1,λN hN=>?_⟩,hR⟩;have e1:=h1 N 1000 Y hdp;have e3:resOf C.P ⟨I,fn.ntmps,h3⟩ fn.results.toList=some v:=by
  unfold resLE at sN;cases hm:mapO (resE C.P E' h3) fn.results.toList with
  |none=>grind
  |some vs =>
   have yn:=wN (P:=C.P) (s:=⟨I,fn.ntmps,h3⟩) h2 hm;grind[resOf]
 grind[toldDefer]
theorem oL {g:FuncId}{v:V}{h2:H}(ht:C.told g=none)(hf:C.P.funcs[g]?=some fn)(hb:fn.body=some code)(hq:quietParts code=none)(J:eY C g args h v h2): ∃I,∀N,I<=N->runDefs C N [(g,args,[])] h=some h2:=by
 obtain⟨I,h0⟩:=J;refine⟨I,λN hN=>?_⟩;have e:=sJ (fy (C:=C) hN) h0;grind[runDefs,defCall]
end
def y7 (f:FuncId)(args:List V)(h:H)(r:V×H): Prop:=∃I,∀N,I<=N->toldDefer CB N f args h=some r
theorem Call.defer {told:bU}{f:FuncId}{R:V->H->Prop}(ht:told f=some (iE prog f (y7 f)))(hf:prog.funcs[f]?=some fn)(hb:fn.body.isSome=true)
 (hd:∃v h2,(∃I,∀N,I<=N->toldDefer CB N f args h=some (v,h2))/\R v h2): Call ⟨prog,told⟩ f args h R:=by
 obtain⟨v,h2,⟨I,h0⟩,hR⟩:=hd;obtain⟨r,e1,N1,h1⟩:=mP (P:=prog) (f:=f) (kP:=y7 f) (args:=args) (h:=h) (r:=(v,h2)) ⟨I,h0⟩ (λc w J hw=>Ca (C:=CB) cm bM (h0 I (az _)) J hw);have:r=(v,h2):=by
  have a:=h0 (max I N1) Y;grind
 subst this;exact⟨v,h2,eY.told ht hf hb e1,hR⟩
section
variable {α:Type}
theorem abD (s:Sat h S){e:TypeId}{z:V}(hu:P.underlying t=some (.slice e))(hz:zeroT P e=some z)(hk:bf P e=some 1)(hl:z.cells.length=1)(hx:x.cells=[x])(hy:y.cells=[y])(I:storable x=true)(J:storable y=true):
  ∃v h',buildSliceV P h t 2 [(0,x),(1,y)]=some (v,h')/\Sat h' (.arr 1 v [x,y]::S):=by
 refine⟨.sl h.next 0 2 (.exact 2),newRow h [x,y],?_,?_⟩
 .obtain⟨z0,F2⟩:∃z0,z.cells=[z0]:=by
   match hq:z.cells with
   |[]=>grind
   |[z0]=>simp
   |_::_::_=>grind
  simp only[buildSliceV,hu,hk,hz,F2];have e1:repeatL [z0] 2=[z0,z0]:=by rfl
  simp only[fillV,e1,hx,hy,cK,eN];show cond ([x,y].all storable) (some (V.sl h.next 0 2 (Cap.exact 2),newRow h [x,y])) none=_
  simp only[mF,m_,I,J];rfl
 .refine(s.new _).iX λm r hm=>⟨Q,.inr ⟨h.next,2,.exact 2,2,[],U,?_,U,U,U,U,az _⟩⟩
  rw[hm];rfl
theorem abE {S:Prop}: cQ (pu S) (cT .aP []):=λ_ _ _=>.inl ⟨λ_ h=>(by cases h),.inl ⟨.inl U,U⟩⟩
end
theorem Hl {kd:Nat}: buildV prog 104 [(0,.int .i64 (kd:Int))]=some (.agg (ep (kd:Int) 0 0 0 .aP .aP)):=by rw[vY];rfl
section
variable {told:bU} {M p:Nat} {v op cv:V} {us:List V} {kd lk:Nat}
theorem PgD.done (hw:NW N now)(hd:∀m,pgA aj m=match lookL m now with|some b=>dW b aL|none=>pgA ε m){i:Int}(I:PgD (pgG now ε i) kd link extra cs): PgD (pgA aj i) kd link extra cs:=by
 rw[hd];unfold pgG at I;cases J:lookL i now with
 |none=>grind
 |some b =>
  rw[J] at I;obtain⟨k1,k2,_⟩:=JM (n:=aL) I.len;exact I.tail k2 k1
theorem mj.done {M:List Nat}(hw:NW N now)(hd:∀m,pgA aj m=match lookL m now with|some b=>dW b aL|none=>pgA ε m)(I:mj n R M (pgG now ε)): mj n R M (pgA aj):=by
 obtain⟨ex,J⟩:=I.head;obtain⟨kd,lk,vK,h1⟩:=I.marks;exact⟨⟨ex,J.done hw hd⟩,I.rl,⟨kd,lk,vK,h1.done hw hd⟩,I.ml,I.n1,I.n2,I.own,I.hi⟩
theorem Uv (hT:W told)(kB:ja ε)(I:cC ε+65536<=268435456)(J:ε.2.1.b=ε.2.2.log)(eR:ε.2.1.base+ε.2.1.b.length+1048584<=1099511627776)(hNm:N<=65536)(hw:NW N now)(s:Sat h (GA g a p q r data aF now ε::S)):
  Call ⟨prog,told⟩ 50 [.ptr g 0,.agg (ep (kd:Int) 0 0 0 .aP .aP)] h λv h'=>∃(aL:Nat) (e:Int) (cl:Bool) (aj:bn),DnR ε now kd 0 0 0 [] 0 aL e cl aj/\v=.aR [.int .u64 (aL:Int),.int .i64 e] /\
   Sat h' (fh g a now cl::SA a p q r (cond cl .aW (.ptr g 0)) data aF aj::S):=by
 have s:=aX.1 s;have s:=(s.eF (φ:=True) aa).jr (k:=4);refine(Ps (tv:=0) (data:=[]) hT (s.ae [2,2,2,2,2,1,0]) abE U kB I (λe he=>iU (hw.good e he).1) (by have:=hw.len;omega) (λn hn=>by have:=hw.keys n hn;omega) O O O (dz _) J eR).mono ?_;rintro v h ⟨aL,e,cl,aj,hr,rfl,s⟩;have s:Sat h (fh g a now cl::dJ a p q r (cond cl .aW (.ptr g 0)) data aF::dx r p q aj.1::bD q p aj.2.1::aS p aj.2.2::pu True::S):=s;have s2:Sat h (SA a p q r (cond cl .aW (.ptr g 0)) data aF aj::fh g a now cl::pu True::S):=aX.2 (s.ae [1,1,1,1,0]);exact⟨aL,e,cl,aj,hr,U,(s2.ae [1]).del 2⟩
theorem Uw (hT:W told)(hB:B<=4000)(I:EI N B ε)(hw:NW N now)(s:Sat h (GA g a p q r data aF now ε::S)):
  Call ⟨prog,told⟩ 50 [.ptr g 0,.agg (ep (kd:Int) 0 0 0 .aP .aP)] h λv h'=>∃(aL:Nat) (e:Int) (cl:Bool) (aj:bn),DnR ε now kd 0 0 0 [] 0 aL e cl aj/\v=.aR [.int .u64 (aL:Int),.int .i64 e] /\
   Sat h' (fh g a now cl::SA a p q r (cond cl .aW (.ptr g 0)) data aF aj::S):=by
 have J:=I.cC;have eR:=I.el.size;exact Uv hT I.ok Y I.el.log Y I.many hw s
theorem Ux (hT:W told)(hB:B<=4000)(I:EI N B ε)(hw:NW N now){L:Nat}(hL:now.length<=L)(hN:N<=2999)(J:L<=2000)(h1:1<=kd)(h2:kd<=7)(hd:EU K M ε)(hf:K+520*L+28<=M)(s:Sat h (GA g a p q r data aF now ε::S)):
  Call ⟨prog,told⟩ 50 [.ptr g 0,.agg (ep (kd:Int) 0 0 0 .aP .aP)] h λv h'=>∃(aL:Nat) (aj:bn),v=.aR [.int .u64 (aL:Int),.int .i64 0]/\EI N (B+2) aj/\(∀m,pgA aj m=match lookL m now with|some b=>dW b aL|none=>pgA ε m)/\EU (K+520*L+28) M aj /\
   Sat h' (fh g a now true::SA a p q r .aW data aF aj::S)/\DnR ε now kd 0 0 0 [] 0 aL 0 true aj:=by
 refine(Uw hT hB I hw s).mono ?_;rintro v h ⟨aL,e,cl,aj,hr,rfl,s⟩;obtain⟨rfl,rfl,aiR⟩:=hr.fits I Y hw hL hN J h1 h2 O hd hf;rcases I.done Y hw Y Y hr with⟨jE,_⟩|⟨_,_,T0,ig⟩
 .omega
 .grind
noncomputable def mdL : Code:=aV [1,1,1,0,1,0,0] ((f147.body).getD .skip)
theorem Uy (hT:W told)(fJ:26+4*cs.length+tot cs<=512)(hul:us.length=cs.length): ∀(m i:Nat) (v:V) (b:List Nat) (h:H) (E:List (Nat×V)) (a8:Ex->List (Nat×V)->H->Prop),i+m=cs.length->PgD b kd link extra (cs.take i) ->
  Sat h (bu v b::each (λv c=>.dL v c) us cs::.arr 1 cv us::S)->Has E [(7,v),(22,cv),(23,.int .i64 (cs.length:Int)),(24,.int .i64 (i:Int))] ->
  (∀v' b' E' h',PgD b' kd link extra cs->Has E' [(7,v')]->Sat h' (bu v' b'::each (λv c=>.dL v c) us cs::.arr 1 cv us::S)->a8 (.exit 0) E' h')->WP ⟨prog,told⟩ 38 (.loop mdL) E h a8:=by
 intro m;induction m with
 |zero =>
  exact λi v b h E a8 hi hp s hE hq=>WP.loop (WP.has hE (zg U (zC U aG Q<|zk 3 U (WP.exit (hq v b _ _ Q ⟨U,aa⟩ s)))))
 |succ m ih =>
  intro i v b h E a8 hi hp s hE hq;have J:cs[i]?=some (cs[i]' Y):=aI _;generalize (cs[i]' Y)=c at J;obtain⟨u,hu,s⟩:=aaQ (λ_ _=>bg.dL _ _) (s.ae [1]) J;dsimp only[aB,bringA] at s;obtain⟨id,off,e1,e2⟩:=dB (P:=prog) s (k:=3) (i:=i) (c:=u) U hu jg jN;have Ug:=pQ J;have LU:=tB (cs:=cs) (i:=i+1);have hlen:(cs.take i).length=i:=Q;have htk:cs.take (i+1)=cs.take i++[c]:=by grind[List.take_add_one]
  refine WP.loop (WP.has hE (zg U (zB U aG Q<|zk 5 U (WP.block (zK 3 U (zo U (aJ (.ptr id off) U U e1) (zl U (e2 _ cF) (zk 7 U ?_))))))));have I:=PD (told:=told) hT (s.ae [2,0]) (bh _ _) (fX _ _) hp Y;rw[hlen] at I;refine zc U (I) ?_;rintro r h ⟨u',b',rfl,nM,s⟩;rw[<-htk] at nM;exact zk 4 U (zv (zr U (zb U (by exact aT ay)<|zm U (zv<|ih (i+1) u' b' _ _ a8 Y nM (((s.ae [0,2,2]).del 4).del 3) ⟨U,U,U,U,aa⟩ hq))))
theorem PN (J:W told)(hkd:kd<=255)(BE:lk<4294967296)(I:26+4*cs.length+tot cs<=512)(hul:us.length=cs.length)(s:Sat h (each (λv c=>.dL v c) us cs::.arr 1 cv us::S)):
  Call ⟨prog,told⟩ 147 [.int .i64 (kd:Int),.int .i64 (lk:Int),cv] h λr h'=>∃b',PgD b' kd lk 0 cs/\Sat h' (bu r b'::S):=by
 refine Call.of_wp (J.free _ U) func147 U U (zK 7 U (zc U (Mh (kd:=kd) J s hkd) ?_));rintro r h ⟨u,b,rfl,hb,s⟩;refine zk 10 U (zc U (PC (lk:=lk) (ex:=0) J s (bh _ _) hb BE O) ?_);rintro r h ⟨u2,b2,rfl,qy,s⟩;refine zk 9 U (zo U (aO U U U (s.fo cs.length (j:=3) U Y O jg))<|zk 2 U (WP.block<|Uy J I hul cs.length 0 u2 b2 _ _ _ Y qy (s.ae [0,1,1]) ⟨U,U,U,U,aa⟩ (λv' b' E' h' Mv hE s'=>?_)));have s:=s';exact WP.has hE (zK 5 U (zR U ⟨b',Mv,((s.del 3).del 2).del 1⟩))
theorem Rx (J:W told)(s:Sat h (X::S))(hX:cQ X (cT v b))(hl:b.length=512)(hg:cH b=false): Call ⟨prog,told⟩ 203 [v] h λr h'=>r=.aR [.aP,.int .i64 4]/\Sat h' (X::S):=by
 refine Call.of_wp (J.free _ U) func203 U U (zK 8 U (zc U (xB J s hX Y) ?_));rintro r h' ⟨s,(⟨I,rfl⟩|⟨_,rfl⟩)⟩
 .rw[hg] at I;cases I
 exact zk 3 U<|aq.bG s U U U (bK kW) (λp4 h s=>(zS U (s.dS (j:=0) U bN U U) (λh s=>(zk 6 U (zB U aE O<|zk 8 U (WP.ret ⟨aa,_,U,U,s.drop⟩))))))
theorem Uz (hT:W told)(hR:G_ told N B rv A pg)(J:EI N B ε)(hN:1<=N)(hl:(pg ε 0).length=512)(hg:cH (pg ε 0)=false)(s:Sat h (A ε::S)):
  Call ⟨prog,told⟩ 144 [rv] h λv h'=>∃aj,v=.aR [.aP,.int .i64 0,.bool false,.int .i64 0]/\EI N B aj/\Sm N ε aj/\Sat h' (A aj::S):=by
 obtain⟨ty,u,f,rfl,hm,mZ⟩:=hR.iface;refine Call.of_wp (hT.free _ U) func144 U U (zK 10 U (aq.any U U U (OpR.invoke U U U hm U (mZ J O Y s)) ?_));rintro v h ⟨u,aj,rfl,I,hs,s⟩;refine zk 10 U (zC U aE U (zk 6 U (zc U (Rx hT s (bh _ _) hl hg) ?_)));rintro v h ⟨rfl,s⟩;exact zk 8 U (WP.drawn [af,af,af,af,af,af,af,af,some (0,2),some (0,2),some (0,2),af,af,af,af,af,af,af,af,af,af,af] U bo bo<|zM U (ah.ot U U U U (ag U U aE) O<|zM U (ah.no (e:=false) U U U U (ah.no (e:=false) U U U U (ah.no (e:=false) U U U U (zO U (gZ U U) (zM U (ah.no (e:=false) U U U U (ah.no (e:=false) U U U U (ah.no (e:=false) U U U U (ah.no (e:=true) U U U U (ah.no (e:=true) U U U U (ah.no (e:=false) U U U U (zO U (gZ U U) (zM U (ah.no (e:=false) U U U U (ah.no (e:=false) U U U U (ah.no (e:=false) U U U U (ah.no (e:=false) U U U U (ah.no (e:=false) U U U U (zO U (gZ U U)<|ah.nil ⟨⟨aa,aa,aa,aa,aa,aa,aa,aa,λ_ _=>.inl U,λ_ _=>.inl U,λ_ _=>.inl U,dq 12⟩,zK 8 U (WP.ret ⟨aa,_,U,aj,U,I,hs,s.drop⟩)⟩)))))))))))))))))))))
theorem BJ (hT:W told)(hR:G_ told N B rv A pg)(J:EI N B ε)(hN:1<=N)(hl:(pg ε 0).length=512)(hg:cH (pg ε 0)=false)(s:Sat h (A ε::S)):
  Call ⟨prog,told⟩ 78 [rv] h λv h'=>∃aj,v=.aR [.bool false,.int .i64 0]/\EI N B aj/\Sm N ε aj/\Sat h' (A aj::S):=by
 refine Call.of_wp (hT.free _ U) func78 U U (zK 8 U (zc U (Uz hT hR J hN hl hg s) ?_));rintro v h ⟨aj,rfl,I,hs,s⟩;exact zk 17 U (zR U ⟨aj,U,I,hs,s⟩)
end
def CX : List Nat:=((List.replicate 375 0).set 0 1).set 0 3
theorem UA : bt CX j=decide (j<2):=by
 unfold bt CX;by_cases h:j/8=0
 .have e:(((List.replicate 375 0).set 0 1).set 0 3).getD (j/8) 0=3:=Q;have k:∀i,i<8->(3:Nat).testBit i=decide (i<2):=O;grind
 grind
def GDn (N B kd:Nat)(ε aj:bn): Prop:=∃(I:bn) (now:List (Int×List Nat)) (aL:Nat),EI N B I/\Sm N ε I/\NW N now/\(∀i:Int,2<=i->lookL i now=none)/\DnR I now kd 0 0 0 [] 0 aL 0 true aj
section
variable {told:bU} {M p:Nat}
theorem UB (hB:B<=800)(kQ:EI N B ε)(hN:4<=N)(hN2:N<=2999)(hz:(pgA ε 0).length=512)(hg:cH (pgA ε 0)=false)(hd:EU K M ε)(hf:K+1068<=M)(s:Sat h (SA a p q r .aW data aF ε::S)):
  ∃v h2,(∃N0,∀n,N0<=n->toldDefer CB n 79 [.ptr a 0] h=some (v,h2))/\(v=.int .i64 0/\∃aj,EI N (B+2) aj/\mj N (List.replicate 64 0) CX (pgA aj)/\EU (K+1068) M aj/\Sat h2 (SA a p q r .aW data aF aj::S)/\GDn N B 1 ε aj):=by
 have I:=W.base;refine toldDefer_do (C:=CB) Mm U U (of_decide_eq_true bo)<|WPd.seq (WPd.of_wp U (zr U (za U (zv (WPd.seq (WPd.of_wp U (zr U (zm U (zo U (uJ U (mki_of Hf U)) (zc U (BJ I (Ru I Y) kQ Y hz hg s) ?_))))))))));rintro v h ⟨yZ,rfl,sk,gC,s⟩;have hd:=hd.sm gC;have s:Sat h (dJ a p q r .aW data aF::dx r p q yZ.1::bD q p yZ.2.1::aS p yZ.2.2::S):=aX.1 s;refine zk 5 U (zv (WPd.seq (WPd.of_wp U (WP.block (zg U (zm U (zh U (ag U U aE) U (za U (zv (zj U (zg U (zk 2 U (zv (zj U (WP.skip (WPd.seq (WPd.of_wp U (zr U (zm U (zc U (XE I s) ?_))))))))))))))))))));rintro v h' ⟨rfl,rfl⟩;refine zc U (Fv I (s.ae [3])) ?_;rintro v h' ⟨rfl,rfl⟩;rw[sk.ec.dk.aU];refine za U (zv (WPd.seq (WPd.of_wp U (zr U (zm U (zc U (Uk I (n:=N) Y Y) ?_))))));rintro v h' ⟨rfl,rfl⟩;refine za U (zv (WPd.seq (WPd.of_wp U (zr U (zm U (zc U (vk I s) ?_))))));rintro v h ⟨g,rfl,s⟩;refine zk 5 U (zv (WPd.seq (WPd.seq (WPd.of_wp U (zr U (zm U (zh U (ag U U aE) U (zv (WPd.of_wp U (zj U (WP.skip (WPd.seq (WPd.defer U U U U U U U U U U U U (WPd.seq (WPd.seq (WPd.of_wp U (zr U (zk 2 U (zb U (by exact aT ay)<|zC U aG Q ?_)))))))))))))))))));have s:Sat h (GA g a p q r data aF [] yZ::S):=aX.2 s;refine zv (WPd.of_wp U (zj U (WP.skip (WPd.seq (WPd.seq (WPd.of_wp U (WP.drawn [some (0,5),some (0,4),af,af,af,af,af,af] U bo bo<|zM U (zM U (ah.any U U U U (OpR.call U U U U (Mj I s)) λmv h s=>ah.any U U U U (OpR.GD U s U U U U O) λzbv h s=>?_)))))))));have s:=s.ic;have h64:(List.replicate 64 0).length=64:=lF;have hm:=(s.aQ 1 U (fX _ _)).cells;have hzc:=(s.aQ 0 U (fX _ _)).cells;obtain⟨cv,h1,e1,s1⟩:=abD (P:=prog) (x:=mv) (y:=zbv) s jg vE jN U hm.1 hzc.1 hm.2 hzc.2;refine ah.any U U U U (OpR.of (R:=λv h'=>v=cv/\h'=h1) (jj U e1) ⟨U,U⟩) ?_;rintro cv h ⟨rfl,rfl⟩;have s:=(s1.ae [2,1]).two (C:=each (λv c=>.dL v c) [mv,zbv] [gI,List.replicate 64 0]) (bg.dL _ _) (bg.dL _ _) λa b q1 q2=>⟨q1,q2,aa⟩;generalize hR:List.replicate 64 0=R at s h64;refine ah.any U U U U (OpR.call U U U U (PN (kd:=201) (lk:=N) I O Y (by grind[tot,gI,List.length_cons]) U s)) ?_;rintro u h ⟨b0,w8,s⟩;refine ah.any U U U U (OpR.call U U U U (Hi (i:=0) I Y sk (NW.nil N) Y (s.ae [1,0]) (bh _ _) w8)) ?_;rintro v h ⟨xJ,rfl,vm,qV,ov,s⟩;have hd:=hd.sm qV;refine zA U<|ah.nil ⟨⟨λ_ _=>.inr ⟨U,⟨_,aD U⟩,aA _ U⟩,λ_ _=>.inr ⟨U,⟨_,aD U⟩,aA _ U⟩,dq 7⟩,WPd.seq (WPd.of_wp U (zr U (zm U (zh U (ag U U aE) U (zv (WPd.of_wp U (zj U (WP.skip (WPd.seq (WPd.seq (WPd.of_wp U (zr U (za U (zv (WPd.of_wp U (WP.block (WP.loop (zw (zg U (zk 2 U (zt U (ag U U aG) O<|zv (zi U (WP.skip (zw (WP.block (zg U (aq.any U U U (OpR.GD U s U U U U O) λmk h s=>?_)))))))))))))))))))))))))))⟩;have agU:(List.replicate 375 0).length=375:=lF;have F2:(List.replicate 375 0)[0]?=some 0:=by rfl
 have EM:CX.length=375:=by grind[CX]
 have Mw:CX=((List.replicate 375 0).set 0 1).set 0 3:=rfl;have JO:∀j,bt CX j=decide (j<2):=λj=>UA;generalize CX=M0 at EM Mw JO ⊢;generalize List.replicate 375 0=Z at s agU F2 Mw;obtain⟨id,off,e2,e3⟩:=gG (s.buf (k:=0) U).view F2;obtain⟨Mq,Mr,e4,h4,e5,s2⟩:=qN s (i:=0) (b:=1) Y O;have ee:V.ptr id off=V.ptr Mq Mr:=Q;rw[<-ee] at e5;refine zk 8 U (WP.block (WP.loop (zg U (zB U aG O<|zk 5 U (WP.block (zK 8 U (zo U (ag (r:=.int .i64 0) U U bo)<|zm U (zb U (by exact gz ay)<|zB U bH O<|zk 2 U (WP.drawn [af,af,af,af,af,af,af,af,af,af,af,af] U bo bo<|zM U (zM U (zO U (ag (r:=.int .i64 0) U U bo)<|zO U (ag (r:=.int .i64 0) U U bo)<|zO U (aJ (.ptr id off) U U e2) (zL U e3 (zM U (zO U (ag (r:=.int .i64 0) U U bo)<|zO U (ag (r:=.int .u8 1) U U bo)<|zO U (ag (r:=.int .u8 1) U U bo)<|zO U (aJ (.ptr id off) U U e2) (ah.cy U U U (OpR.dX U U U (⟨h4,e5,s2⟩)) ?_)))))))))))))));rintro w h ⟨rfl,s⟩;refine ah.nil ⟨(dq 13),?_⟩;have K1:(Z.set 0 1)[0]?=some 1:=mB Y;have r8:(Z.set 0 1).length=375:=Q;obtain⟨UC,J,e6,e7⟩:=gG (s.buf (k:=0) U).view K1;obtain⟨id6,agV,e8,h7,e9,s3⟩:=qN s (i:=0) (b:=3) Y O;have ee:V.ptr UC J=V.ptr id6 agV:=Q;rw[<-ee] at e9;refine zr U (zb U (by exact aT ay)<|zm U (zv (WP.loop (zg U (zt U (ag U U aG) O<|zk 5 U (WP.block (zK 8 U (zo U (ag (r:=.int .i64 0) U U bo)<|zm U (zb U (by exact gz ay)<|zB U bH O<|zk 2 U (WP.drawn [af,af,af,af,af,af,af,af,af,af,af,af] U bo bo<|zM U (zM U (zO U (ag (r:=.int .i64 1) U U bo)<|zO U (ag (r:=.int .i64 0) U U bo)<|zO U (aJ (.ptr UC J) U U e6) (zL U e7 (zM U (zO U (ag (r:=.int .i64 1) U U bo)<|zO U (ag (r:=.int .u8 2) U U bo)<|zO U (ag (r:=.int .u8 3) U U bo)<|zO U (aJ (.ptr UC J) U U e6) (ah.cy U U U (OpR.dX U U U (⟨h7,e9,s3⟩)) ?_))))))))))))))));rintro w h ⟨rfl,s⟩;refine ah.nil ⟨(dq 13),?_⟩;rw[<-Mw] at s;refine zr U (zb U (by exact aT ay)<|zm U (zv (WP.loop (zg U (zh U (ag U U aG) O<|zk 3 U (WP.exit (zK 5 U ?_)))))));have s:=s.ic;have hkc:=(s.aQ 0 U (fX _ _)).cells;obtain⟨cv2,h8,e10,s4⟩:=fP prog (k:=1) (x:=mk) s jg vE jN U O O Q Q;rw[hkc.1] at s4;refine aq.any U U U (OpR.of (R:=λv h'=>v=cv2/\h'=h8) (jj U e10) ⟨U,U⟩) ?_;rintro cv2 h ⟨rfl,rfl⟩;have s:=(s4.ae [1]).iX (B:=each (λv c=>.dL v c) [mk] [M0]) λa b q=>⟨q,aa⟩;dsimp only[aB,bringA] at s;refine zc U (PN (kd:=202) (lk:=0) I O O (by grind[tot]) U s) ?_;rintro u h ⟨b1,BX,s⟩;refine zc U (Hi (i:=1) I Y vm ov Y (s.ae [1,0]) (bh _ _) BX) ?_;rintro v h ⟨Hj,rfl,vL,nD,m6,s⟩;dsimp only[aB,bringA] at s;have hd:=hd.sm nD;refine za U (zv (zg U (zm U (zh U (ag U U aE) U (zv (zj U (WP.skip (zr U (zm U (zb U (by exact aT ay)<|zk 2 U (WP.loop (zK 5 U (zC U aG O<|zk 2 U (WP.exit (WPd.seq (WPd.of_wp U (zK 2 U (zo U (cE U (Hl (kd:=1))) (zc U (Ux (kd:=1) (L:=2) I Y vL m6 (b7 rF (Nat.succ_le_succ rF)) Y O O O hd hf s) ?_)))))))))))))))))));rintro v h ⟨aL,XV,rfl,adV,ig,hd4,s,UD⟩;have CO:mj N R M0 (pgG (dM ((1:Nat):Int) b1 (dM ((0:Nat):Int) b0 [])) Hj):=by
  refine⟨⟨0,?_⟩,h64,⟨202,0,0,?_⟩,EM,Y,Y,λj hj=>by rw[JO,lH hj],λj hj=>by rw[JO,mE Y]⟩<;>grind[jP]
 refine zk 4 U (zv (WPd.seq (WPd.of_wp U (zr U (zk 2 U (zv (WPd.of_wp U (WP.ret ?_))))))));have s:=s.ae [1];have s:=aX.1 s;have s:=s.ae [4];obtain⟨v2,h2,xo,rfl,s⟩:=tu I s;have s:=s.ae [1,1,1,1];have s:Sat h2 (SA a p q r .aW data aF XV::_):=aX.2 s;have mR:oZ 59=none:=I.free _ U;exact⟨aa,h2,_,oL (C:=CB) mR vf U U xo,jk U,U,XV,adV,CO.done m6 ig,hd4,((s.del 3).del 2).del 1,Hj,_,aL,vL,(gC.trans qV).trans nD,m6,λi hi=>by rw[mN,ax Y,mN,ax Y];rfl,UD⟩
end
section
variable {v c:V} {cs:List V} {te t':TypeId}
theorem k_ (s:Sat h (.arr 1 v cs::S))(hi:i<cs.length)(hx:x.cells=[x])(J:storable x=true)(hu:P.underlying t=some (.slice te))(I:bf P te=some 1):
  ∃id off h',indexAddrV P t v (.int .i64 (i:Int))=some (.ptr id off)/\ga P h te (.ptr id off) x=some h'/\Sat h' (.arr 1 v (cs.set i x)::S):=by
 have nL:cs≠[]:=λe=>by grind
 have oP:=s.ZA (j:=0) U;obtain⟨id,m,cap,M,rest,rfl,hl,hM,s1,hc⟩:=s.aaN nL;obtain⟨h',e1,e2⟩:=s1.cS (P:=P) (t:=te) (k:=0) (off:=i) (v:=x) U I Q Y hx J;refine⟨id,i,h',?_,e1,hc h' (cs.set i x) S (ff) ?_ ?_⟩
 .simp only[indexAddrV,hu,I,cN];grind
 .grind
 .grind[setA]
end
def CY (R:List Nat)(i p:Nat): List Nat:=bJ R (4*i) (le 4 p)
theorem Mx {p:Nat}(I:R.length=64)(hi:i<16): (CY R i p).length=64:=by
 grind[CY,dH,dI]
theorem mj.roots {P:Int->List Nat}(h:mj N R M P){I:List Nat}(h1:P' 1=P 1)(J:∃ex,PgD (P' 0) 201 N ex [gI,I])(hl:I.length=64): mj N I M P' :=
 ⟨J,hl,by rw[h1];exact h.marks,h.ml,h.n1,h.n2,h.own,h.hi⟩
theorem Kn (I:n<18446744073709551616): convV prog h 3 32 (.int .i64 (n:Int))=some (.int .u64 (n:Int),h):=by
 simp_all[convV,wrap_u64]
section
variable {told:bU} {p:Nat} {v:V} {sm:bn->bn->Prop}
theorem agW (J:Mo told N lv dd sm)(I:lv ε)(hw:NW N now){n:Int}(h0:0<=n)(h1:n<N)(s:Sat h (GA g a p q r data aF now ε::S)):
  Call ⟨prog,told⟩ 207 [.ptr g 0,.int .i64 n] h λv h'=>(∃aj,v=.aR [.aP,.int .i64 9]/\dd aj/\Sat h' (GA g a p q r data aF now aj::S))\/∃w aj,v=.aR [w,.int .i64 0]/\lv aj/\sm ε aj/\Sat h' (bu w (pgG now ε n)::GA g a p q r data aF now aj::S):=by
 obtain⟨ty,u,f,e,hm,hr⟩:=(J.gr (g:=g) (a:=a) (p:=p) (q:=q) (r:=r) (data:=data) (aF:=aF) hw).iface;injection e with e1 e2;subst e1;subst e2;rw[IL] at hm;obtain rfl:=fY hm;exact hr I h0 h1 s
theorem UE (hT:W told)(hM:Mo told N lv dd sm)(kQ:lv ε)(hw:NW N now)(hp:mj N R M (pgG now ε)){i:Int}(s:Sat h (GA g a p q r data aF now ε::S)):
  Call ⟨prog,told⟩ 153 [.ptr g 0,.int .i64 i,.int .i64 z] h λv h'=>(v=.int .i64 9/\DdG N g a p q r data aF dd S h')\/∃aj dR,lv aj/\sm ε aj/\NW N dR/\dR.length<=now.length+1/\Sat h' (GA g a p q r data aF dR aj::S) /\
   ((¬(0<=i/\i<16/\0<=z/\z<N)/\v=.int .i64 1/\dR=now)\/(0<=i/\i<16/\0<=z/\z<N/\v=.int .i64 0/\mj N (CY R i.toNat z.toNat) M (pgG dR aj)/\∀m,m≠0->pgG dR aj m=pgG now ε m)):=by
 obtain⟨ex,x_⟩:=hp.head;have tM:=hp.n1;have xz:=hp.n2;have Mk:=hp.rl;refine Call.of_wp (hT.free _ U) func153 U U (zK 7 U (zo U (uJ U (mki_of qU U)) (zc U (Ml hT (hM.gr hw) kQ Y x_ hp.rl s) ?_)));rintro v h (⟨I,rfl,s,hd⟩|⟨u,I,rfl,sk,gC,s⟩)
 .skip;exact zk 9 U (WP.block (zK 3 U (zB U aE O<|zk 8 U (WP.ret ⟨aa,_,U,.inl ⟨U,I,now,hw,s,hd⟩⟩))))
 have ig:pgG now I=pgG now ε:=hM.pgG gC;have bad:∀ {h':H},¬(0<=i/\i<16/\0<=z/\z<N)->Sat h' (bu u R::GA g a p q r data aF now I::S)->∃aj dR,lv aj/\sm ε aj/\NW N dR/\dR.length<=now.length+1/\Sat h' (GA g a p q r data aF dR aj::S) /\
   ((¬(0<=i/\i<16/\0<=z/\z<N)/\V.int .i64 1=.int .i64 1/\dR=now)\/(0<=i/\i<16/\0<=z/\z<N/\V.int .i64 1=.int .i64 0/\mj N (CY R i.toNat z.toNat) M (pgG dR aj)/\∀m,m≠0->pgG dR aj m=pgG now ε m)) :=
  λKW s=>⟨I,now,sk,gC,hw,z7 _,s.drop,.inl ⟨KW,U,U⟩⟩
 refine zk 9 U (WP.block (zK 3 U (zC U aE U (zk 6 U ?_))));by_cases h1:i<0
 .skip;exact zB U aG Q<|zk 20 U (WP.ret ⟨aa,_,U,.inr (bad Y s)⟩)
 .skip;refine zC U aG Q<|zk 2 U ?_;by_cases h2:16<=i
  .skip;exact zB U dO Q<|zk 17 U (WP.ret ⟨aa,_,U,.inr (bad Y s)⟩)
  .skip;refine zC U dO Q<|zk 3 U ?_;by_cases h3:z<0
   .skip;exact zB U aG Q<|zk 13 U (WP.ret ⟨aa,_,U,.inr (bad Y s)⟩)
   .skip;refine zC U aG Q<|zk 4 U ?_;by_cases h4:(N:Int)<=z
    .skip;exact zB U dO Q<|zk 8 U (WP.ret ⟨aa,_,U,.inr (bad Y s)⟩)
    .obtain⟨k,rfl⟩:∃k:Nat,i=k:=⟨i.toNat,Y⟩;obtain⟨w,rfl⟩:∃w:Nat,z=w:=⟨z.toNat,Y⟩;have h4k:4*(k:Int)=((4*k:Nat):Int):=Y;have adW:4*((k:Int)+1)=((4*k+4:Nat):Int):=Y;refine zC U dO Q<|zk 2 U (zv (zj U (WP.skip (zw ?_))));have tL:=fO (s.buf (k:=0) U).view;have L3:=dm (s.buf (k:=0) U).view (a:=4*k) (b:=4*k+4) Y Y;have Cv:=fO L3.2.1;have s0:=s;refine WP.drawn [some (0,2),some (0,2),some (0,2),some (0,2),some (0,2),some (0,2),some (0,2),af,af,af,af] U bo bo<|zM U (zM U (zO U (ag (r:=.int .i64 ((4*k:Nat):Int)) U U (by rw[<-h4k];exact jM ay))<|zM U (zO U (ag (r:=.int .i64 ((k:Int)+1)) U U (aT ay))<|zO U (ag (r:=.int .i64 ((4*k+4:Nat):Int)) U U (by rw[<-adW];exact jM ay))<|zO U (bR (p:=some (.int .i64 ((4*k:Nat):Int))) (q:=some (.int .i64 ((4*k+4:Nat):Int))) (m:=none) (p':=some (4*k)) (q':=some (4*k+4)) (m':=none) U U U U (by rw[fb,cN]) (by rw[fb,cN]) U (dm (s.buf (k:=0) U).view (a:=4*k) (b:=4*k+4) Y Y).1)<|zM U (ah.op U U U (by simp only[isEff,bS]) (bQ U (Kn Y)) ?_))));have s:=s.pK;refine ah.any U U U U (OpR.call U U U U (qS (z:=4) (n:=w) hT s O cb)) λv h s=>?_;rw[iQ] at s;have s:=s.ae [1,0];have s1:=s;refine ah.any U U U U (OpR.QW (p:=4*k) (q:=4*k+4) U s (bh _ _) U U U U Y Y (by rw[dI];omega)) ?_;intro _ h s;rw[kg (by rw[dI];omega)] at s;have s:Sat h (bu u (CY R k w)::_):=s;refine ah.nil ⟨⟨λ_ _=>.inr ⟨U,⟨_,aD U⟩,tL⟩,λ_ _=>.inr ⟨U,⟨_,aD U⟩,aA _ U⟩,λ_ _=>.inr ⟨U,⟨_,ag (r:=.int .i64 ((4*k:Nat):Int)) U U (by rw[<-h4k];exact jM ay)⟩,aA _ U⟩,λ_ _=>.inr ⟨U,⟨_,aD U⟩,aA _ U⟩,λ_ _=>.inr ⟨U,⟨_,ag (r:=.int .i64 ((k:Int)+1)) U U (aT ay)⟩,aA _ U⟩,λ_ _=>.inr ⟨U,⟨_,ag (r:=.int .i64 ((4*k+4:Nat):Int)) U U (by rw[<-adW];exact jM ay)⟩,aA _ U⟩,cY (.inr ⟨U,⟨_,bR (p:=some (.int .i64 ((4*k:Nat):Int))) (q:=some (.int .i64 ((4*k+4:Nat):Int))) (m:=none) (p':=some (4*k)) (q':=some (4*k+4)) (m':=none) U U U U (by rw[fb,cN]) (by rw[fb,cN]) U (dm (s0.buf (k:=0) U).view (a:=4*k) (b:=4*k+4) Y Y).1⟩,Cv⟩) (.inr ⟨U,⟨_,bR (p:=some (.int .i64 ((4*k:Nat):Int))) (q:=some (.int .i64 ((4*k+4:Nat):Int))) (m:=none) (p':=some (4*k)) (q':=some (4*k+4)) (m':=none) U U U U (by rw[fb,cN]) (by rw[fb,cN]) U (dm (s1.buf (k:=0) U).view (a:=4*k) (b:=4*k+4) Y Y).1⟩,Cv⟩),dq 5⟩,?_⟩;have s:=s.ae [2,0];refine zK 3 U (zc U (agW (n:=0) hM sk hw O Y s) ?_);rintro v h (⟨xJ,rfl,hd,s⟩|⟨w2,xJ,rfl,vm,qV,s⟩)
     .skip;exact zk 10 U (zB U aE O<|zk 7 U (WP.ret ⟨aa,_,U,.inl ⟨U,xJ,now,hw,(s.del 2).del 1,hd⟩⟩))
     have agX:PgD (pgG now I 0) 201 N ex [gI,R]:=by simp_all
     have s:=s.ae [0,1];refine zk 10 U (zC U aE U (zk 8 U (zc U (Ed (i:=1) (c:=R) hT s (bh _ _) (bh _ _) agX U (by grind[Mx])) ?_)));rintro v h ⟨w3,b',rfl,nM,s⟩;have nM:PgD b' 201 N ex [gI,CY R k w]:=nM;refine zk 9 U (zC U aE U (zk 7 U (zc U (hM.gw (i:=0) vm hw Y (s.ae [3,0]) (bh _ _) nM) ?_)));rintro v h (⟨J,rfl,s,hd⟩|⟨J,rfl,vL,nD,m6,s⟩)
     .skip;exact zk 2 U (zR U (.inl ⟨U,J,now,hw,(((s.del 4).del 3).del 2).del 1,hd⟩))
     refine zk 2 U (zR U ?_);have adX:∀m:Int,m≠0->pgG (dM (0:Nat) b' now) J m=pgG now ε m:=λm hm=>by rw[jP,ax Y,hM.pgG nD,hM.pgG qV,ig]
     refine .inr ⟨J,_,vL,hM.tr (hM.tr gC qV) nD,m6,rF,?_,.inr ⟨Y,Y,Y,Y,U,?_,adX⟩⟩
     .exact(((s.del 4).del 3).del 2).del 1
     .exact hp.roots (adX 1 O) ⟨ex,by grind[jP]⟩ (Mx Mk Y)
theorem Ry (J:W told)(hB:B<=2000)(I:EI N B ε)(hw:NW N now)(hp:mj N R M (pgG now ε)){i:Int}(s:Sat h (GA g a p q r data aF now ε::S)):
  Call ⟨prog,told⟩ 153 [.ptr g 0,.int .i64 i,.int .i64 z] h λv h'=>∃aj dR,EI N B aj/\Sm N ε aj/\NW N dR/\dR.length<=now.length+1/\Sat h' (GA g a p q r data aF dR aj::S) /\
   ((¬(0<=i/\i<16/\0<=z/\z<N)/\v=.int .i64 1/\dR=now)\/(0<=i/\i<16/\0<=z/\z<N/\v=.int .i64 0/\mj N (CY R i.toNat z.toNat) M (pgG dR aj)/\∀m,m≠0->pgG dR aj m=pgG now ε m)) :=
 (UE J (Mo.live J hB) I hw hp s).mono λ_ _ k=>k.resolve_left λ⟨_,_,_,_,_,q⟩=>q
end
theorem Ou : ∀(k n:Nat),n<128^(k+1)->digits (k+1) n=digits k n:=by
 intro k;induction k<;>grind[digits]
set_option maxRecDepth 10000 in
theorem adY (h:n<256): Nat.land n 127=n%128:=by
 have:∀m:Fin 256,Nat.land m.1 127=m.1%128:=O;exact this ⟨n,h⟩
theorem Ov (h:n<256): intV .and .u8 (n:Int) 127=some (.int .u8 ((n%128:Nat):Int)):=by
 have h1:((n:Int)%(2^(IntKind.u8).bits:Int)).toNat=n:=by grind[IntKind.bits]
 have h2:((127:Int)%(2^(IntKind.u8).bits:Int)).toNat=127:=by rfl
 grind[intV,bitsV,adY,wrap_u8]
theorem Ow (I:n<18446744073709551616): convV prog h 5 32 (.int .u8 (n:Int))=some (.int .u64 (n:Int),h):=by
 simp_all[convV,wrap_u64]
theorem Ox (I:n<9223372036854775808): convV prog h 5 3 (.int .u8 (n:Int))=some (.int .i64 (n:Int),h):=by
 simp_all[convV,wrap_i64]
theorem My (I:n<9223372036854775808): convV prog h 32 3 (.int .u64 (n:Int))=some (.int .i64 (n:Int),h):=by
 simp_all[convV,wrap_i64]
theorem Mz (i:Nat): (128:Nat)^i=2^(7*i):=by rw[Nat.pow_mul]
theorem agY {d:Nat}(hd:d<128)(hi:i<=8): shiftV .shl .u64 (d:Int) ((7*i:Nat):Int)=some (.int .u64 ((d*128^i:Nat):Int)):=by
 have J:(128:Nat)^i<=128^8:=tU Y hi;have I:d*128^i<18446744073709551616:=by
  have:d*128^i<=127*128^8:=m9 Y J;omega
 simp only[shiftV,IntKind.bits,cN];rw[show min (7*i) 64=7*i by omega,show decide (((7*i:Nat):Int)<0)=false by rfl,bq];have:(d:Int)*2^(7*i)=((d*128^i:Nat):Int):=by rw[Mz];push_cast;rfl
 simp only[this,wrap_u64 I]
theorem abF {d:Nat}(I:a<128^i)(hd:d<128)(hi:i<=8): intV .or .u64 (a:Int) ((d*128^i:Nat):Int)=some (.int .u64 ((a+d*128^i:Nat):Int)):=by
 have J:(128:Nat)^i<=128^8:=tU Y hi;have hm:d*128^i<=127*128^8:=m9 Y J;have h1:((a:Int)%(2^(IntKind.u64).bits:Int)).toNat=a:=by grind[IntKind.bits]
 have h2:((d*128^i:Nat):Int)%(2^(IntKind.u64).bits:Int)=((d*128^i:Nat):Int):=by simp only[IntKind.bits];omega
 have h3:Nat.lor a (d*128^i)=a+d*128^i:=by
  have e:d*128^i=2^(7*i)*d:=by rw[<-Mz,Nat.mul_comm]
  have:=OH (i:=7*i) (b:=a) (by rw[<-Mz];exact I) d;simp_all[Nat.add_comm,Nat.or_comm]
 simp only[intV,bitsV,h1,h2,cN,h3];rw[wrap_u64 Y]
section
variable {told:bU} {c:Nat} {v w:V} {m:List Nat}
theorem oh (I:W told): Call ⟨prog,told⟩ 251 [.bool true] h λv h'=>v=.aR []/\h'=h:=by
 exact Call.of_wp (I.free _ U) func251 U U (zg U (zm U (zh U (cI U U) U (zv (zj U (WP.skip ⟨aa,_,U,U,U⟩))))))
theorem XW (hT:W told){x:Nat}(s:Sat h (pt c (.cells 1 [v] false)::X::S))(hX:cQ X (cT v (x::l))):
  Call ⟨prog,told⟩ 247 [.ptr c 0] h λr h'=>r=.int .u8 (x:Int)/\∃u,cQ X (cT u l)/\Sat h' (pt c (.cells 1 [u] false)::X::S):=by
 have J:=s.aQ 1 U hX;obtain⟨id,off,e1,e2⟩:=gG J (i:=0) (b:=x) U;have I:=iy J (a:=1) cb;have hu:=I.2.1.cells;refine Call.of_wp (hT.free _ U) func247 U U (zK 8 U (zY s 0 nC cF U (zo U (aO U U U (bC aZ J)) (zB U dc cb<|zc U (oh hT) ?_))));rintro r h' ⟨rfl,rfl⟩;refine zk 5 U (zY s 0 nC cF U (zo U (aJ (.ptr id off) U U e1) (zl U e2 (zk 7 U (zY s 0 nC cF U (zo U (bR (p:=some (.int .i64 1)) (q:=none) (m:=none) (p':=some 1) (q':=none) (m':=none) U U U U U U U I.1) (zn U (zf U (nC _ _) (zS U (s.cS (k:=0) U jN U O hu.1 hu.2) ?_)))))))));rintro h s;exact zk 6 U (zR U ⟨U,_,uq hX cb,s⟩)
def Cu (h:H)(c:Nat)(X:aH)(S:List aH)(l:List Nat): Prop:=∃v,cQ X (cT v l)/\Sat h (pt c (.cells 1 [v] false)::X::S)
theorem IY (I:W told){x:Nat}(J:Cu h c X S (x::l)): Call ⟨prog,told⟩ 247 [.ptr c 0] h λr h'=>r=.int .u8 (x:Int)/\Cu h' c X S l:=by
 obtain⟨v,hX,s⟩:=J;exact(XW I s hX).mono λr h' ⟨e,u,hU,s'⟩=>⟨e,u,hU,s'⟩
noncomputable def nbX : Code:=aV [1,1,0,0] ((f248.body).getD .skip)
noncomputable def Z0 : Code:=unblk (leftC nbX)
noncomputable def nbC : Code:=cM (cM (cM Z0))
theorem EV (hT:W told){x:Nat}(hx:x<256)(hi:i<=8)(ha:acc<128^i)
 (hc:Cu h c X S (x::l))(h0:look E 0=some (.ptr c 0))(h2:look E 2=some (.int .u64 (acc:Int)))(I:look E 3=some (.int .i64 (i:Int)))
 (hq:∀E' h',look E' 0=some (.ptr c 0)->look E' 2=some (.int .u64 ((acc+x%128*128^i:Nat):Int))->look E' 3=some (.int .i64 (i:Int))->look E' 4=some (.int .u8 (x:Int))->Cu h' c X S l->WP ⟨prog,told⟩ 38 nbC E' h' a8):
  WP ⟨prog,told⟩ 38 Z0 E h a8:=by
 refine WP.seq (WP.region U<|zo U (aD h0)<|zc U (IY hT hc) (λv h₁ ⟨e1,c1⟩=>?_));subst e1;refine aq.op U U U (eZ U) (aq.nil<|WP.seq (WP.region U ?_));refine zo U (aD I) (zo U (ag (v:=.int .i64 (i:Int)) (u:=.int .i64 9) (r:=.bool true) U U (by simp only[binV,ikBeq,ak,intV];congr 2<;>simp<;>omega)) ?_);refine zk 8 U<|zc U (oh hT) (λv J ⟨e2,tg⟩=>aq.nil ?_);subst e2;subst tg;refine WP.seq (WP.region U<|zo U (aD h2) (zm U (zo U (ag (v:=.int .u8 (x:Int)) (u:=.int .u8 127) U U (by simp only[binV,ikBeq,ak];exact Ov hx))<|zo U (bQ (v:=.int .u8 ((x%128:Nat):Int)) U (Ow Y))<|zo U (aD I) ?_)));refine aq.op U U U (ag (v:=.int .i64 7) (u:=.int .i64 (i:Int)) (r:=.int .i64 ((7*i:Nat):Int)) U U (by
  simp only[binV,ikBeq,ak,intV];rw[show(7:Int)*(i:Int)=((7*i:Nat):Int) by rfl,wrap_i64 Y])) ?_
 exact zo U (ag (v:=.int .u64 ((x%128:Nat):Int)) (u:=.int .i64 ((7*i:Nat):Int)) U U (by simp only[binV];exact agY Y hi))<|zo U (ag (v:=.int .u64 (acc:Int)) U U (by simp only[binV,ikBeq,ak];exact abF ha Y hi))<|aq.op U U U (eZ U) (aq.nil<|hq _ _ h0 U I U c1)
set_option maxRecDepth 4000 in
theorem Ho (hT:W told){m:Nat}(hi:i<=8)(hm:m<128)(hz:i=0\/0<m)(ha:acc<128^i)
 (hc:Cu h c X S (m::l))(h0:look E 0=some (.ptr c 0))(h2:look E 2=some (.int .u64 (acc:Int)))(h3:look E 3=some (.int .i64 (i:Int)))
 (hq:∀E' h',look E' 2=some (.int .u64 ((acc+m*128^i:Nat):Int))->Cu h' c X S l->a8 .ret E' h'): WP ⟨prog,told⟩ 38 (.loop nbX) E h a8:=by
 refine WP.loop (WP.seq (WP.block<|EV hT (x:=m) Y hi ha hc h0 h2 h3 (λE1 h₁ q0 q2 q3 q4 c1=>?_)));rw[zU hm] at q2;refine WP.seq (WP.region U<|zo U (aD q4) ?_);refine aq.op U U U (ag (v:=.int .u8 (m:Int)) (u:=.int .u8 128) (r:=.bool true) U U (by simp only[binV,ikBeq,ak,intV];congr 2<;>simp<;>omega)) (aq.nil ?_);refine WP.cond (t:=true) U (WP.seq (WP.region U<|zo U (aD q4) ?_));by_cases uV:0<m
 .refine aq.op U U U (ag (v:=.int .u8 (m:Int)) (u:=.int .u8 0) (r:=.bool true) U U (by simp only[binV,ikBeq,ak,intV];congr 2<;>simp<;>omega)) ?_;refine zk 4 U<|zc U (oh hT) (λv I ⟨e2,J⟩=>aq.nil ?_);subst e2;subst J;exact WP.seq (WP.region U<|zo U (aD q2) (aq.op U U U (eZ U) (aq.nil (WP.ret (hq _ _ U c1)))))
 .have ZJ:i=0:=Y;have agZ:m=0:=Y;subst ZJ;subst agZ;refine zo U (ag (v:=.int .u8 0) (u:=.int .u8 0) (r:=.bool false) U U U) (zm U (zo U (aD q3) (zo U (ag (v:=.int .i64 0) (u:=.int .i64 0) (r:=.bool true) U U U) (zp U<|zc U (oh hT) (λv I ⟨e2,J⟩=>aq.nil ?_)))));subst e2;subst J;exact WP.seq (WP.region U<|zo U (aD q2) (aq.op U U U (eZ U) (aq.nil (WP.ret (hq _ _ U c1)))))
set_option maxRecDepth 4000 in
theorem Oy (hT:W told): ∀(k m i acc:Nat) (h:H) (E:List (Nat×V)) (a8:Ex->List (Nat×V)->H->Prop),i+k<=8->m<128^(k+1)->(i=0\/0<m)->acc<128^i ->
  Cu h c X S (digits k m++l)->look E 0=some (.ptr c 0)->look E 2=some (.int .u64 (acc:Int))->look E 3=some (.int .i64 (i:Int)) ->
  (∀E' h',look E' 2=some (.int .u64 ((acc+m*128^i:Nat):Int))->Cu h' c X S l->a8 .ret E' h')->WP ⟨prog,told⟩ 38 (.loop nbX) E h a8:=by
 intro k;induction k with
 |zero =>
  intro m i acc h E a8 hi hm hz ha hc h0 h2 h3 hq;have I:m<128:=by simpa using hm
  rw[sX I] at hc;exact Ho hT Y I hz ha hc h0 h2 h3 hq
 |succ k ih =>
  intro m i acc h E a8 hi hm hz ha hc h0 h2 h3 hq;by_cases I:m<128
  .rw[sX I] at hc;exact Ho hT Y I hz ha hc h0 h2 h3 hq
  .have hd:m/128<128^(k+1):=by
    rw[Nat.div_lt_iff_lt_mul Y];rw[Nat.pow_succ] at hm;exact hm
   rw[digits,ax I] at hc;refine WP.loop (WP.seq (WP.block<|EV hT (x:=m%128+128) Y Y ha hc h0 h2 h3 (λE1 h₁ q0 q2 q3 q4 c1=>(WP.seq (WP.region U<|zo U (aD q4) ?_)))));refine aq.op U U U (ag (v:=.int .u8 ((m%128+128:Nat):Int)) (u:=.int .u8 128) (r:=.bool false) U U (by simp only[binV,ikBeq,ak,intV];congr 2<;>simp<;>omega)) (aq.nil ?_);refine WP.cond (t:=false) U (WP.skip<|zr U (zo U (aD q3) (zo U (ag (v:=.int .i64 (i:Int)) (u:=.int .i64 1) (r:=.int .i64 ((i+1:Nat):Int)) U U (by exact aT ay))<|aq.op U U U (eZ U) (aq.nil ?_))));have e1:(m%128+128)%128=m%128:=Y;rw[e1] at q2;have J:128^(i+1)=128^i*128:=Nat.pow_succ 128 i;refine ih (m/128) (i+1) (acc+m%128*128^i) h₁ _ a8 Y hd (.inr Y) ?_ c1 q0 q2 U (λE' h' p1 p3=>hq E' h' ?_ p3)
   .have:m%128*128^i<=127*128^i:=pV _ Y;rw[J];omega
   .rw[p1];have:acc+m%128*128^i+m/128*128^(i+1)=acc+m*128^i:=by
     rw[J,Nat.mul_comm (128^i) 128,<-Nat.mul_assoc,z6,<-tY];congr 2;omega
    rw[this]
theorem yG (I:W told)(hn:n<9223372036854775808)(J:Cu h c X S (digits 9 n++l)):
  Call ⟨prog,told⟩ 248 [.ptr c 0] h λv h'=>v=.int .u64 (n:Int)/\Cu h' c X S l:=by
 rw[Ou 8 n Y] at J;refine Call.of_wp (I.free _ U) func248 U U (zK 8 U (WP.block<|Oy I 8 n 0 0 h _ _ Y Y (.inl U) cb J U U U (λE' h' q1 q2=>⟨aa,_,?_,U,q2⟩)));have:0+n*128^0=n:=cb;rw[this] at q1;show resLE _ E' h' [.tmp 2]=_;simp only[resLE,mapO,resE,q1]
theorem Bc (I:W told)(hn:n<=1048576)(J:Cu h c X S (digits 9 n++l)):
  Call ⟨prog,told⟩ 250 [.ptr c 0] h λv h'=>v=.int .i64 (n:Int)/\Cu h' c X S l:=by
 refine Call.of_wp (I.free _ U) func250 U U (zK 7 U (zc U (yG I Y J) ?_));rintro v h' ⟨rfl,J⟩;refine zk 5 U (zB U rj Q<|zc U (oh I) ?_);rintro v h' ⟨rfl,rfl⟩;exact zk 4 U (zo U (bQ U (My Y))<|zk 2 U (zR U ⟨U,J⟩))
theorem MA (hT:W told)(hm:m.length<=1048576)(hc:Cu h c X S (digits 9 m.length++m++l)):
  Call ⟨prog,told⟩ 249 [.ptr c 0] h λv h'=>Cu h' c X (bu v m::S) l:=by
 rw[gX] at hc;refine Call.of_wp (hT.free _ U) func249 U U (zK 7 U (zc U (Bc hT hm hc) ?_));rintro v h ⟨rfl,v,I,s⟩;have hv:=s.aQ 1 U I;have J:=fO hv;refine zk 7 U (zY s 0 nC cF U (zo U (aO U U U (bC aZ hv)) (zB U rj Q<|zc U (oh hT) ?_)));rintro r h' ⟨rfl,rfl⟩;refine zk 2 U ?_;have s0:=s;have UF:=xw hv (b:=m.length) cb;have Jq:=fO UF.2.1;refine WP.drawn [none,none,some (0,2),some (0,2),some (0,2),some (0,2),some (0,2),some (0,2),none,none] U bo bo<|zM U (ah.any U U U U (OpR.xx U s U U U U Y) λv2 h s=>?_);have s:=s.ae [1,1,0];have yq:=fO (s.buf (k:=2) U).view;have s1:=s;have UF:=xw (s.aQ 1 U I) (b:=m.length) cb;refine zM U (zN U (zF U (nC _ _) (zL U (s.ld 0 U cF U) (zM U (zO U (bR (p:=none) (q:=some (.int .i64 (m.length:Int))) (m:=none) (p':=none) (q':=some m.length) (m':=none) U U U U U (by rw[fb];rfl) U (xw (s.aQ 1 U I) (b:=m.length) cb).1)<|ah.any U U U U (OpR.sW U (s.ae [2,1]) (afo I (b:=m.length) cb) U U U U Q) λv3 h s=>?_)))));have s:=s.ae [2,1,0];rw[rM U] at s;have hv3:=fO (s.buf (k:=2) U).view;refine zA U<|ah.nil ⟨⟨aa,aa,λ_ _=>.inr ⟨U,⟨_,aD U⟩,aA _ U⟩,λ_ _=>.inr ⟨U,⟨_,jq U⟩,aA _ U⟩,λ_ _=>.inr ⟨U,⟨_,gy U (nC _ _)⟩,aA _ U⟩,cY (.inr ⟨U,⟨_,o_load U (s0.ld 0 U cF U)⟩,J⟩) (.inr ⟨U,⟨_,o_load U (s1.ld 0 U cF U)⟩,J⟩),λ_ _=>.inr ⟨U,⟨_,aD U⟩,aA _ U⟩,cY (.inr ⟨U,⟨_,bR (p:=none) (q:=some (.int .i64 (m.length:Int))) (m:=none) (p':=none) (q':=some m.length) (m':=none) U U U U U (by rw[fb];rfl) U (xw (s0.aQ 1 U I) (b:=m.length) cb).1⟩,Jq⟩) (.inr ⟨U,⟨_,bR (p:=none) (q:=some (.int .i64 (m.length:Int))) (m:=none) (p':=none) (q':=some m.length) (m':=none) U U U U U (by rw[fb];rfl) U (xw (s1.aQ 1 U I) (b:=m.length) cb).1⟩,Jq⟩),aa,aa,aa⟩,?_⟩;have kI:=iy (s.aQ 1 U I) (a:=m.length) cb;have hu:=kI.2.1.cells;refine zK 5 U (zY s 0 nC cF U (zm U (zo U (bR (p:=some (.int .i64 (m.length:Int))) (q:=none) (m:=none) (p':=some m.length) (q':=none) (m':=none) U U U U (by rw[fb];rfl) U U kI.1)<|zn U (zf U (nC _ _) (zS U (s.cS (k:=0) U jN U O hu.1 hu.2) ?_)))));rintro h s;refine zk 6 U (zR U ?_);have hr:=uq I (a:=m.length) cb;rw[List.drop_left' U] at hr;exact⟨_,hr,s⟩
end
theorem Z1 {t:Nat}{p v:V}(I:look E a=some p)(hd:loadV P h t p=some v): resLE P E h [.cell a t]=some v:=by grind[resLE,mapO,resE]
section
variable {told:bU} {c:Nat} {v w:V} {m:List Nat}
theorem Rz (J:W told){x:cU}(hx:x.Ok)(hc:Cu h c X S (kZ x++l)):
  Call ⟨prog,told⟩ 252 [.ptr c 0] h λr h'=>∃u,r=.agg [.int .i64 x.bA,.int .i64 x.pos,.bool x.whole,u]/\Cu h' c X (bu u x.b::S) l:=by
 obtain⟨x1,x2,x3,x4,x5,x6⟩:=hx;obtain⟨pg,ps,wh,b⟩:=x;dsimp only at x1 x2 x3 x4 x5 x6 hc;obtain⟨pg,rfl⟩:=zI x1;obtain⟨ps,rfl⟩:=zI x3;simp only[kZ,cN,gX,List.cons_append,iQ] at hc;generalize lD:(if wh=true then 1 else 0)=wb at hc;have yc:wb<=1:=Q;have ov:decide ((wb:Int)=1)=wh:=Q;obtain⟨v,I,s⟩:=hc;refine Call.of_wp (J.free _ U) func252 U U (zg U<|aq.bG s U U U (bK qm) (λp2 h s=>(zk 4 U (zc U (Bc J Y ⟨v,I,s.ae [1,1,0]⟩) ?_))));rintro v h ⟨rfl,v,I,s⟩;refine zm U (zc U (Bc J Y ⟨v,I,s⟩) ?_);rintro v h ⟨rfl,v,I,s⟩;refine zf U (D4 _ _)<|zS U (by exact s.cS (k:=2) U kr U O U U) (λh s=>(zf U (um _ _)<|zS U (by exact s.cS (k:=2) U kr U O U U) (λh s=>(zk 4 U (zc U (IY J ⟨v,I,s⟩) ?_)))));rintro v h ⟨rfl,v,I,s⟩;refine zk 5 U (zB U rj Q<|zc U (oh J) ?_);rintro r h' ⟨rfl,rfl⟩;refine zk 4 U (zo U (ag (r:=.bool wh) U U (by rw[<-ov];exact bH))<|zf U (D5 _ _)<|zS U (by exact s.cS (k:=2) U BB U O U U) (λh s=>(zk 4 U ?_)));rw[<-gX] at I;refine zc U (MA J Y ⟨v,I,s⟩) ?_;rintro u h ⟨v,I,s⟩;have hu:=(s.buf (k:=2) U).view.cells;refine zf U (rY _ _) (zS U (s.cS (k:=3) U jN U O hu.1 hu.2) ?_);rintro h s;dsimp only[V.cells,List.length_cons,List.length_nil,Nat.reduceAdd,aB,bringA,getA,List.set,setA] at s;refine zk 3 U (zl U (s.bW (k:=3) U QM sS) (zS U (s.dS (j:=3) U sS U (by simp only[mF,m_,hu.2];rfl)) ?_));rintro h s;exact zv<|WP.ret ⟨aa,_,Z1 U (s.bW (k:=3) U QM sS),⟨u,U,v,I,s.del 3⟩⟩
structure Bd (tx pv nx:Nat)(data:List Nat)(bw:List cU): Prop where
 tx:tx<9223372036854775808
 pv:pv<9223372036854775808
 nx:nx<9223372036854775808
 data:data.length<=1048576
 many:bw.length<=1048576
theorem RA (k n:Nat): 1<=(digits k n).length:=by
 cases k<;>grind[digits]
theorem XX (x:cU): 1<=(kZ x).length:=by grind[kZ]
theorem MB : ∀l:List cU,l.length<=(l.flatMap kZ).length:=by
 intro l;induction l<;>grind[XX]
noncomputable def rdL : Code:=aV [1,1,1,1,1,1,1,1,0,1,0,0] ((f221.body).getD .skip)
theorem abG (hT:W told){kd:Nat}{p2:Nat}{dt:V}(kB:∀x∈bw,x.Ok)(hn:bw.length<=1048576): ∀(j i:Nat) (av:V) (cs:List V) (h:H) (E:List (Nat×V)) (a8:Ex->List (Nat×V)->H->Prop),
  i+j=bw.length->Cu h c X (pt p2 (.cells 6 (ep kd tx pv nx dt av) false)::.arr 4 av cs::c6 cs (bw.take i)::S) ((bw.drop i).flatMap kZ)->Has E [(0,.ptr c 0),(2,.ptr p2 0),(41,.int .i64 bw.length),(42,.int .i64 i)] ->
  (∀E' h' av cs,Has E' [(0,.ptr c 0),(2,.ptr p2 0)]->Cu h' c X (pt p2 (.cells 6 (ep kd tx pv nx dt av) false)::.arr 4 av cs::c6 cs bw::S) []->a8 (.exit 2) E' h')->WP ⟨prog,told⟩ 64 (.loop rdL) E h a8:=by
 intro j;induction j with
 |zero =>
  refine λi av cs h E a8 hi hc hE hq=>WP.loop (WP.has hE (zg U (zC U aG Q<|zk 3 U (WP.exit ?_))));rw[kg Y,HN Y] at hc;exact hq _ _ _ _ ⟨U,U,aa⟩ hc
 |succ j ih =>
  intro i av cs h E a8 hi hc hE hq;have hx:bw[i]?=some (bw[i]' Y):=aI _;generalize (bw[i]' Y)=x at hx;have hxo:=kB x (bz hx);have I:bw.drop i=x::bw.drop (i+1):=by
   grind[List.drop_eq_getElem_cons]
  have J:bw.take (i+1)=bw.take i++[x]:=Q;rw[I,Ds] at hc;obtain⟨v,hX,s⟩:=hc;refine WP.loop (WP.has hE (zg U (zB U aG Q<|zk 5 U (WP.block ?_))));have s0:=s;have UG:=(s.cz 3 U).2.2;refine WP.drawn [some (0,3),some (0,3),af,af,af,af,af,af] U bo bo<|zF U (ku _ _) (zL U (s.ld 2 U sQ U) (zM U (ah.any U U U U (OpR.call U U U U (Rz hT hxo ⟨v,hX,s⟩)) ?_)));rintro w h ⟨u,rfl,v,hX,s⟩;dsimp only[ep] at s;have hu:=(s.buf (k:=2) U).view.cells;have tL:=fO (s.buf (k:=2) U).view;have s1:=s;have s:=(s.ae [2]).ic;dsimp only[bringA,getA,aB] at s;obtain⟨rv,h1,vb,s2⟩:=fP prog (k:=4) (x:=.agg [.int .i64 x.bA,.int .i64 x.pos,.bool x.whole,u]) s js qm sS U O O U (by simp only[V.cells,mF,m_,hu.2];rfl);dsimp only[V.cells] at s2;refine ah.any U U U U (OpR.of (R:=λv h'=>v=rv/\h'=h1) (jj U vb) ⟨U,U⟩) ?_;rintro v' h' ⟨rfl,rfl⟩;obtain⟨i1,gD,fH,gu⟩:=xH;have Xx:cs.length=(bw.take i).length*4:=by
   obtain⟨a,b,q1,q2,q3⟩:=s2.at (k:=6) U;exact pM q3
  rw[wD] at Xx;obtain⟨qA,h2,tg,s3⟩:=dV (s2.ae [5,0]) js gD qm fH Y U O Q;dsimp only[bringA,getA,aB] at s3;refine ah.any U U U U (OpR.of (R:=λv h'=>v=qA/\h'=h2) (fN U U tg) ⟨U,U⟩) ?_;rintro v' h' ⟨rfl,rfl⟩;have s:=s3;have BH:=s.cz 0 U;refine zF U (ku _ _) (ah.cy U U U (OpR.dX U U U (s.cS (k:=5) U DO U O BH.1 BH.2.1)) ?_);rintro v' h ⟨rfl,s⟩;dsimp only[Nat.reduceAdd,List.set,setA] at s;refine ah.nil ⟨⟨λ_ _=>.inr ⟨U,⟨_,gy U (ku _ _)⟩,aA _ U⟩,lT (.inr ⟨U,⟨_,o_load U (s0.ld 2 U sQ U)⟩,UG⟩) (.inr ⟨U,⟨_,o_load U (s1.ld 3 U sQ U)⟩,UG⟩) (.inr ⟨U,⟨_,o_load U (s2.ld 4 U sQ U)⟩,UG⟩),dq 7⟩,zr U (zb U (by exact aT ay)<|zm U (zv ?_))⟩;have s4:Sat _ (c6 cs (bw.take i)::.dL u x.b::_):=s.ae [6,2];have s5:=s4.two (C:=c6 (cs++[.int .i64 x.bA,.int .i64 x.pos,.bool x.whole,u]) (bw.take i++[x])) (bg.qz _ _) (bg.dL _ _) λa b q1 q2=>A3 q1 ⟨⟨⟨U,U,U⟩,q2⟩,aa⟩;rw[<-J] at s5;have s6:=(s5.ae [3,3,3,1,0]).del 5;exact ih (i+1) _ _ h _ a8 Y ⟨v,hX,s6⟩ ⟨U,U,U,U,aa⟩ hq
theorem abH (J:W told){kd:Nat}(hg:eH kd bw=true)(hk:kd<256)(hr:Bd tx pv nx data bw)(hc:Cu h c X S (cV kd tx pv nx data bw)):
  Call ⟨prog,told⟩ 221 [.ptr c 0] h λr h'=>∃dt ch cs,r=.agg (ep kd tx pv nx dt ch)/\Sat h' (X::bu dt data::.arr 4 ch cs::c6 cs bw::S):=by
 simp only[cV,cN,gX,List.cons_append,iQ] at hc;obtain⟨v,I,s⟩:=hc;refine Call.of_wp (J.free _ U) func221 U U (zg U<|aq.bG s U U U (bK sR) (λp2 h s=>?_));dsimp only[V.cells,List.length_cons,List.length_nil,Nat.reduceAdd] at s;refine zk 4 U (zc U (IY J ⟨v,I,s.ae [1,1,0]⟩) ?_);rintro v h ⟨rfl,v,I,s⟩;dsimp only[aB,bringA,getA] at s;refine zo U (bQ U (Ox Y))<|zf U (qj _ _)<|zS U (by exact s.cS (k:=2) U kr U O U U) (λh s=>?_);dsimp only[Nat.reduceAdd,List.set,setA] at s;refine zk 4 U (zo U (uK U U) (zk 5 U (zf U (Ij _ _) (zf U (Ik _ _) (zf U (Il _ _) (zo U (cE U (by rw[afm];rfl))<|zk 2 U (WP.block (WP.loop (zg U (zB U aG U (zk 5 U (WP.block (zg U (zo U (Cc U U (r:=.ptr p2 (0+1)) (by simp only[indexV,Mn,QO,qX,QS];rfl))<|zk 5 U (zc U (yG J hr.tx ⟨v,I,s⟩) ?_)))))))))))))));rintro v h ⟨rfl,v,I,s⟩;refine zn U<|zS U (by exact s.cS (k:=2) U gL U O U U) (λh s=>?_);dsimp only[Nat.reduceAdd,List.set,setA] at s;refine zv (zr U (zb U (by exact aT ay)<|zm U (zv (WP.loop (zg U (zt U (ag U U aG) U (zv (zw (zi U (WP.skip (zw (WP.block (zg U (zo U (Cc U U (r:=.ptr p2 (0+2)) (by simp only[indexV,Mn,QO,qX,QS];rfl))<|zk 5 U (zc U (yG J hr.pv ⟨v,I,s⟩) ?_)))))))))))))));rintro v h ⟨rfl,v,I,s⟩;refine zn U<|zS U (by exact s.cS (k:=2) U gL U O U U) (λh s=>?_);dsimp only[Nat.reduceAdd,List.set,setA] at s;refine zv (zr U (zb U (by exact aT ay)<|zk 2 U (WP.loop (zg U (zB U aG U (zk 5 U (WP.block (zg U (zo U (Cc U U (r:=.ptr p2 (0+3)) (by simp only[indexV,Mn,QO,qX,QS];rfl))<|zk 5 U (zc U (yG J hr.nx ⟨v,I,s⟩) ?_))))))))));rintro v h ⟨rfl,v,I,s⟩;refine zn U<|zS U (by exact s.cS (k:=2) U gL U O U U) (λh s=>?_);dsimp only[Nat.reduceAdd,List.set,setA] at s;refine zv (zr U (zb U (by exact aT ay)<|zm U (zv (WP.loop (zg U (zh U (ag U U aG) U (zv (zw (zj U (WP.exit (zg U (zm U ?_))))))))))));rw[<-gX] at I;refine zc U (MA J hr.data ⟨v,I,s⟩) ?_;rintro dt h ⟨v,I,s⟩;have kO:=(s.buf (k:=2) U).view.cells;refine zf U (DP _ _) (zS U (s.cS (k:=3) U jN U O kO.1 kO.2) ?_);rintro h s;refine zk 4 U (zc U (Bc J hr.many ⟨v,I,s⟩) ?_);rintro v h ⟨rfl,v,I,s⟩;have hv:=s.aQ 1 U I;refine zk 7 U (zY s 0 nC cF U (zo U (aO U U U (bC aZ hv)) (zB U rj (by grind[MB])<|zc U (oh J) ?_)));rintro r h' ⟨rfl,rfl⟩;refine zk 4 U ?_;obtain⟨i1,gD,fH,gu⟩:=xH;have D9:=hr.many;obtain⟨nv,OM,e1,s1⟩:=yt (P:=prog) s js gD qm fH Y U O O (n:=0) (c:=bw.length) Y Y;dsimp only[repeatL] at s1;refine aq.any U U U (OpR.of (R:=λv h'=>v=nv/\h'=OM) (uL U U e1) ⟨U,U⟩) ?_;rintro v h' ⟨rfl,rfl⟩;have s:=s1.ae [1,1,2,0];have BI:=s.cz 3 U;refine zf U (ku _ _) (zS U (s.cS (k:=2) U DO U O BI.1 BI.2.1) ?_);rintro h s;have kB:∀x∈bw,x.Ok:=λx hx=>by
  grind[eH]
 have s2:=((s.eF (φ:=True) aa).iX (B:=c6 [] []) λ_ _ h=>h).ae [1,1,1,1,0];refine zk 7 U (WP.block<|abG J kB hr.many bw.length 0 _ [] h _ _ Y ⟨_,I,s2⟩ ⟨U,U,U,U,aa⟩ (λE h av cs hE hc=>?_));obtain⟨v,I,s⟩:=hc;refine WP.has hE ?_;have hv:=s.aQ 1 U I;have kO:=(s.buf (k:=5) U).view.cells;have BH:=s.cz 3 U;have dG:[V.int .i64 (kd:Int),V.int .u64 (tx:Int),V.int .u64 (pv:Int),V.int .u64 (nx:Int),dt,av].all storable=true:=nE kO.2 BH.2.1;have fJ:Au bw:=⟨Y,λx hx=>by grind[cU.Ok],λx hx=>by grind[cU.Ok]⟩;refine zK 4 U (zY s 0 nC cF U (zo U (aO U U U (bC aZ hv)) (zB U bH U (zm U (zl U (s.bW (k:=2) U kV gq) (zc U (LP J (s.ae [3,3]) kO.2 fJ) ?_))))));rintro r h ⟨rfl,s⟩;rw[hg];refine zq U (zc U (oh J) ?_);rintro r h' ⟨rfl,rfl⟩;refine zk 3 U (zl U (s.bW (k:=4) U kV gq) (zS U (s.dS (j:=4) U gq U dG) ?_));rintro h s;exact zv<|WP.ret ⟨aa,_,Z1 U (s.bW (k:=4) U kV gq),⟨dt,av,cs,U,((s.ae [3,4,0,0]).del 4).del 4⟩⟩
end
end Go.Proofs.YtiojppeahfoiaaaGreat.Am
