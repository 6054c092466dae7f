/- ChainNeeds: a part of its proof; conditions: its statement's. -/
import Derived.Test.YtefepnnfphdkpaaGreatB29
import Derived.Test.YtefepnnfphdkpaaGreatB28
import Derived.Test.YtefepnnfphdkpaaGreatB12
import Derived.Defers
import Derived.Recover
namespace Go.Proofs.YtefepnnfphdkpaaGreat.Am
open Go
section
variable {P:Program} {h:H} {t:TypeId} {x y:Operand} {a k n:Nat}
theorem Lz (I:n<3000): binV P h .quo t x y (.int .i64 (n:Int)) (.int .i64 3000)=some (.int .i64 0):=by
 have:=yY (P:=P) (h:=h) (t:=t) (x:=x) (y:=y) (a:=n) (b:=3000) (by decide) (by omega)
 rw [show n/3000=0 by omega] at this; exact this
theorem Qd (I:n<3000): binV P h .rem t x y (.int .i64 (n:Int)) (.int .i64 3000)=some (.int .i64 (n:Int)):=by
 have:=K3 (P:=P) (h:=h) (t:=t) (x:=x) (y:=y) (a:=n) (b:=3000) (by decide)
 rw [show n%3000=n by omega] at this; exact this
theorem LA {J:Array TypeId}{k:IntKind}{a b:Int}: builtinV P h .min J [.int k a,.int k b]=some (.int k (min a b),h):=by
 simp only [builtinV,foldV,wR,cQ,af,gV]
 by_cases I:b<a
 ·simp only [I,vu,af]
  rw [show min a b=b by omega]
 ·simp only [I,l8,ay]
  rw [show min a b=a by omega]
end
section
variable {told:cK} {h:H} {S:List aq} {X Y:aq} {N B n:Nat} {v x y rv:V} {b l c R M:List Nat} {kd link extra lF:Nat} {cs:List (List Nat)} {A:aF→aq} {pg:aF→Int→List Nat} {ε:aF}
structure jq (n:Nat)(R M:List Nat)(p:Int→List Nat): Prop where
 head:∃ex,dF (p 0) 201 n ex [fR,R]
 rl:R.length=64
 marks:∃kd lk ex,dF (p 1) kd lk ex [M]
 ml:M.length=375
 n1:2≤n
 n2:n≤2999
 own:∀j,j<2→bt M j=true
 hi:∀j,n≤j→bt M j=false
theorem JF (J:W told)(hR:qx told N B rv A pg)(gT:EI N B ε)(hN:2≤N)(hp:jq n R M (pg ε)){lo:Nat}(qw:lo<n)(h0:bt M lo=false)(h1:∀j,j<lo→bt M j=true)(s:Sat h (A ε::S)):
  Call ⟨Tryz.prog,told⟩ 51 [rv] h fun v h'=>∃ε',v=.aX [.int .i64 (lo:Int),.int .i64 0]∧EI N B ε'∧Sm N ε ε'∧Sat h' (A ε'::S):=by
 obtain ⟨ex,uc⟩:=hp.head
 obtain ⟨kd,lk,lF,I⟩:=hp.marks
 have hM:=hp.ml
 have qh:=hp.n2
 refine Call.of_wp (J.free _ rfl) Tryz.func51 rfl rfl (zK 8 rfl (zc rfl (FD J hR gT (by omega) uc hp.rl s) ?_))
 rintro v h ⟨u,va,rfl,qU,jO,s⟩
 refine zk 12 rfl (zh rfl (ag rfl rfl aL) (rfl) (zk 7 rfl (zc rfl (Dh J (by omega) (by omega)) ?_)))
 rintro v h' ⟨rfl,rfl⟩
 refine zb rfl (by exact jV (aC (by omega) (by omega))) ?_
 refine zk 2 rfl (WP.block (WP.loop (zg rfl (zt rfl (ag rfl rfl bf) (by decide) ?_))))
 have I:dF (pg va 1) kd lk lF [M]:=by rw [hR.same jO]; exact I
 refine zk 5 rfl (WP.block (zK 9 rfl (zc rfl (xq J hR qU hN I hM (s.ae [1])) ?_)))
 rintro v h ⟨w2,u2,mY,rfl,qy,oc,s⟩
 refine zk 12 rfl (zh rfl (ag rfl rfl aL) (rfl) (zk 6 rfl (zo rfl (aV rfl rfl rfl (aS aI (s.aH (k:=0) rfl (aR _ _)))) ?_)))
 rw [hM]
 refine zk 2 rfl (WP.block ?_)
 refine Lx J (s.buf (k:=0) rfl).view hM (by omega) qw h0 h1 (lo/8) 0 _ _ (by omega) ⟨rfl,rfl,rfl,rfl,rfl,aa⟩ (fun E' l2 l3=>⟨aa,_,Lf l2 l3,mY,rfl,qy,jO.trans oc,?_⟩)
 exact ((s.ae [2]).del 3 |>.del 2).del 1
theorem Ek (hT:W told)(hR:qx told N B rv A pg)(gT:EI N B ε)(hN:2≤N)(I:jq n R M (pg ε))(h1:∀j,j<n→bt M j=true)(s:Sat h (A ε::S)):
  Call ⟨Tryz.prog,told⟩ 51 [rv] h fun v h'=>∃ε',v=.aX [.int .i64 (-1),.int .i64 0]∧EI N B ε'∧Sm N ε ε'∧Sat h' (A ε'::S):=by
 obtain ⟨ex,uc⟩:=I.head
 obtain ⟨kd,lk,lF,J⟩:=I.marks
 have hM:=I.ml
 have qh:=I.n2
 have Fa:=I.n1
 refine Call.of_wp (hT.free _ rfl) Tryz.func51 rfl rfl (zK 8 rfl (zc rfl (FD hT hR gT (by omega) uc I.rl s) ?_))
 rintro v h ⟨u,va,rfl,qU,jO,s⟩
 refine zk 12 rfl (zh rfl (ag rfl rfl aL) (rfl) (zk 7 rfl (zc rfl (Dh hT (by omega) (by omega)) ?_)))
 rintro v h' ⟨rfl,rfl⟩
 refine zb rfl (by exact jV (aC (by omega) (by omega))) ?_
 refine zk 2 rfl (WP.block (WP.loop (zg rfl (zt rfl (ag rfl rfl bf) (by decide) ?_))))
 have J:dF (pg va 1) kd lk lF [M]:=by rw [hR.same jO]; exact J
 refine zk 5 rfl (WP.block (zK 9 rfl (zc rfl (xq hT hR qU hN J hM (s.ae [1])) ?_)))
 rintro v h ⟨w2,u2,mY,rfl,qy,oc,s⟩
 refine zk 12 rfl (zh rfl (ag rfl rfl aL) (rfl) (zk 6 rfl (zo rfl (aV rfl rfl rfl (aS aI (s.aH (k:=0) rfl (aR _ _)))) ?_)))
 rw [hM]
 refine zk 2 rfl (WP.block ?_)
 refine JE hT (s.buf (k:=0) rfl).view hM (by omega) h1 I.hi 375 0 _ _ (by omega) ⟨rfl,rfl,rfl,rfl,rfl,rfl,rfl,aa⟩ (fun E' hE => ?_)
 refine WP.has hE (zr rfl (zb rfl (by exact bB (aC (by omega) (by omega))) ?_))
 refine zm rfl (zv (WP.loop (zg rfl (zh rfl (ag rfl rfl bf) (by decide) ?_))))
 exact zk 3 rfl (WP.exit (zK 5 rfl (WP.ret ⟨aa,_,rfl,mY,rfl,qy,jO.trans oc,((s.ae [2]).del 3 |>.del 2).del 1⟩)))
end
def SA (a p q r:Nat)(op:V)(data:List Nat)(bA:Nat)(ε:aF): aq:=star [dR a p q r op data bA,dG r p q ε.1,bW q p ε.2.1,bp p ε.2.2]
def GA (g a p q r:Nat)(data:List Nat)(bA:Nat)(now:List (Int×List Nat))(ε:aF): aq:=star [fy g a now false,dR a p q r (.ptr g 0) data bA,dG r p q ε.1,bW q p ε.2.1,bp p ε.2.2]
def eC (now:List (Int×List Nat))(ε:aF)(n:Int): List Nat:=match lookL n now with
 | some b=>b
 | none=>pgA ε n
theorem jL {N:Nat}{now:List (Int×List Nat)}{ε ε':aF}(h:Sm N ε ε'): eC now ε'=eC now ε:=by
 funext n
 unfold eC
 rw [h.1]
theorem gF {now:List (Int×List Nat)}{ε:aF}{i n:Int}{b:List Nat}: eC (cY i b now) ε n=if i=n then b else eC now ε n:=by
 unfold eC
 rw [nW]
 by_cases h:i=n
 ·rw [ax h,ax h]
 ·rw [ai h,ai h]
section
variable {told:cK} {h:H} {S:List aq} {X Y:aq} {N B n g a p q r bA:Nat} {v x y rv op:V} {b l c R M data:List Nat} {kd link extra lF:Nat} {cs:List (List Nat)} {ε:aF} {now:List (Int×List Nat)}
theorem TQ (hT:W told)(hB:B≤2000): qx told N B (.iface 24 (.ptr a 0)) (SA a p q r op data bA) pgA:=by
 refine ⟨⟨_,_,_,rfl,NM,fun {h S ε n} I h0 h1 s => ?_⟩,fun hs=>hs.1⟩
 have uX:=I.cj
 have SF:=qq (ε:=ε)
 have s:=cS.1 s
 refine (xg hT (n:=n) s I.ok.ok I.ok.pins (by omega)).mono ?_
 rintro v h ⟨e,b,ε',J,hs⟩
 obtain ⟨k1,k2,k3,k4⟩:=J.ec I.ec I.ok.pins
 obtain ⟨rfl,rfl⟩:=k3 h0 h1
 rcases hs with ⟨he,_⟩ | ⟨_,u,rfl,s⟩
 ·exact absurd rfl he
 ·have s2:Sat h (SA a p q r op data bA ε'::aP u (pgA ε n)::S):=cS.2 (s.ae [1,1,1,1,0])
  exact ⟨u,ε',rfl,I.rd J,⟨k2,fun P hP hv=>hP.rd J I.ec hv⟩,s2.ae [1]⟩
theorem AQ (hT:W told)(hB:B≤2000)(hw:NW N now): qx told N B (.iface 26 (.ptr g 0)) (GA g a p q r data bA now) (eC now):=by
 refine ⟨⟨_,_,_,rfl,Fq,fun {h S ε n} I h0 h1 s => ?_⟩,fun hs m=>by rw [jL hs]⟩
 have uX:=I.cj
 have SF:=qq (ε:=ε)
 have s:=cS.1 s
 refine (C4 hT (n:=n) s I.ok (by omega) (fun e he=>gE (hw.good e he).1)).mono ?_
 rintro v h ⟨e,b,ε',J,hs⟩
 obtain ⟨k1,k2,k3,k4⟩:=J.ec I.ec I.ok.pins
 obtain ⟨rfl,hb⟩:=k3 h0 h1
 have hb:b=eC now ε n:=hb
 subst hb
 rcases hs with ⟨he,_⟩ | ⟨_,u,rfl,s⟩
 ·exact absurd rfl he
 ·have s2:Sat h (GA g a p q r data bA now ε'::aP u (eC now ε n)::S):=cS.2 (s.ae [1,1,1,1,1,0])
  exact ⟨u,ε',rfl,I.u5 J,⟨k2,fun P hP hv=>hP.u5 J I.ec hv⟩,s2.ae [1]⟩
theorem vZ (hT:W told)(hB:B≤2000)(I:EI N B ε)(hw:NW N now){i:Nat}(hi:i<N)(s:Sat h (GA g a p q r data bA now ε::X::S))(hX:cI X (cL x b))(J:dF b kd link extra cs):
  Call ⟨Tryz.prog,told⟩ 49 [.ptr g 0,.int .i64 (i:Int),x] h fun v h'=>∃ε',v=.int .i64 0∧EI N B ε'∧Sm N ε ε'∧NW N (cY (i:Int) b now)∧Sat h' (GA g a p q r data bA (cY (i:Int) b now) ε'::X::S):=by
 have uX:=I.cj
 have SF:=qq (ε:=ε)
 have hlen:=J.len
 have hb:=(s.aH (k:=1) rfl hX).1
 have s:=cS.1 s
 refine (Jb hT (n:=(i:Int)) s hX (by omega) I.ok (by omega) (fun e he=>gE (hw.good e he).1)).mono ?_
 rintro v h ⟨e,cg,ε',hr,rfl,s⟩
 obtain ⟨k1,k2,k3,k4,k5⟩:=hr.ec I.ec I.ok.pins
 obtain ⟨rfl,rfl⟩:=k5 (by omega) (by omega) J.good
 exact ⟨ε',rfl,I.Ji hr,⟨k2,fun P hP hv=>hP.Ji hr I.ec hv⟩,hw.put (by omega) (by omega) J.good hb,cS.2 s⟩
theorem jq.put {P:Int→List Nat}(h:jq N R M P){I:List Nat}{J:Int→List Nat}(h0:J 0=P 0)(h1:∃kd lk ex,dF (J 1) kd lk ex [I])(hl:I.length=375)(ho:∀j,j<2→bt I j=true)(hh:∀j,N≤j→bt I j=false): jq N R I J :=
 ⟨by rw [h0]; exact h.head,h.rl,h1,hl,h.n1,h.n2,ho,hh⟩
theorem NV (hT:W told)(hB:B≤2000)(gT:EI N B ε)(hw:NW N now)(hp:jq N R M (eC now ε)){i:Nat}(hi:i<N)(ie:2≤i){bl:Bool}(s:Sat h (GA g a p q r data bA now ε::S)):
  Call ⟨Tryz.prog,told⟩ 52 [.ptr g 0,.int .i64 (i:Int),.bool bl] h fun v h'=>∃ε' cg,v=.int .i64 0∧EI N B ε'∧Sm N ε ε'∧NW N cg∧jq N R (if bl then yZ M i else JA M i) (eC cg ε')∧(∀m,m≠1→eC cg ε' m=eC now ε m) ∧
   Sat h' (GA g a p q r data bA cg ε'::S):=by
 obtain ⟨kd,lk,lF,JG⟩:=hp.marks
 have hM:=hp.ml
 have Fa:=hp.n1
 have qh:=hp.n2
 have SG:i/8<M.length:=by omega
 have hb:M[i/8]?=some (M[i/8]'(by omega)):=aY _
 have nZ:M.getD (i/8) 0=M[i/8]'(by omega):=by rw [ei,hb]; rfl
 generalize (M[i/8]'(by omega))=z at hb nZ
 -- what is so behind it
 have fin:∀ {ε':aF} {b':List Nat} {M':List Nat},Sm N ε ε'→dF b' kd lk lF [M']→M'.length=375→(∀j,bt M' j=if j=i then bl else bt M j)→jq N R M' (eC (cY 1 b' now) ε')∧(∀m,m≠1→eC (cY 1 b' now) ε' m=eC now ε m):=fun {ε' b' M'} hs I hl FI =>
  ⟨hp.put (by rw [gF,ai (by decide),jL hs]) ⟨_,_,_,by rw [gF,ax rfl]; exact I⟩ hl (fun j hj=>by rw [FI,ai (by omega)]; exact hp.own j hj) (fun j hj=>by rw [FI,ai (by omega)]; exact hp.hi j hj),
   fun m hm=>by rw [gF,ai (by omega),jL hs]⟩
 refine Call.of_wp (hT.free _ rfl) Tryz.func52 rfl rfl (zK 7 rfl (zo rfl (qK rfl (nU j7 rfl)) (zm rfl (zo rfl (ag (r:=.int .i64 0) rfl rfl (Lz (by omega))) ?_))))
 refine zc rfl (xq hT (AQ hT hB hw) gT (by omega) JG hM s) ?_
 rintro v h ⟨w2,u2,mY,rfl,qy,oc,s⟩
 have hv:=(s.buf (k:=0) rfl).view
 have hz:z<256:=hv.1 z (bh hb)
 have VA:2^(i%8)<256:=rC (a:=2) (n:=8) (by decide) (by omega)
 obtain ⟨id,off,e1,e2⟩:=eB hv hb
 refine zk 12 rfl (zh rfl (ag rfl rfl aL) (rfl) (zk 6 rfl (zb rfl (Qd (by omega)) ?_)))
 refine zb rfl (K3 (a:=i) (b:=8) (by decide)) ?_
 refine zb rfl (Qb (k:=i%8) (by omega)) ?_
 refine zk 6 rfl (zb rfl (Qd (by omega)) ?_)
 refine zb rfl (yY (a:=i) (b:=8) (by decide) (by omega)) ?_
 refine zk 6 rfl ?_
 cases bl with
 | true =>
  obtain ⟨JH,J,e3,h4,e4,s2⟩:=kf s (i:=i/8) (b:=Nat.lor z (2^(i%8))) (by omega) (JB hz (by omega))
  have ee:V.ptr id off=V.ptr JH J:=by rw [e1] at e3; exact bG e3
  rw [←ee] at e4
  refine zK 4 rfl (zo rfl (dm (r:=.ptr id off) rfl rfl e1) (zl rfl e2 (zm rfl (zb rfl (RA hz (by omega)) ?_))))
  refine zo rfl (dm (r:=.ptr id off) rfl rfl e1) (zS rfl (⟨h4,e4,s2⟩) ?_)
  rintro h s
  rw [←nZ] at s
  have s:Sat h (aP u2 (yZ M i)::_):=s
  refine zk 6 rfl (zc rfl (FB (i:=0) (c:=M) hT (s.ae [1,0]) (aR _ _) (aR _ _) JG rfl FE) ?_)
  rintro v h ⟨w3,b',rfl,I,s⟩
  refine zk 9 rfl (zh rfl (ag rfl rfl aL) (rfl) (zk 7 rfl (zo rfl (ag (r:=.int .i64 0) rfl rfl (Lz (by omega))) ?_)))
  refine zb rfl (by exact bB (aC (by omega) (by omega))) ?_
  refine zm rfl (zc rfl (vZ (i:=1) hT hB qy hw (by omega) (s.ae [3,0]) (aR _ _) I) ?_)
  rintro v h ⟨G8,rfl,Bn,Bo,wQ,s⟩
  refine zk 2 rfl (WP.ret ⟨aa,_,rfl,?_⟩)
  obtain ⟨f1,f2⟩:=fin (oc.trans Bo) I (by rw [FE]; exact hM) (fun j=>MC SG)
  exact ⟨G8,_,rfl,Bn,oc.trans Bo,wQ,f1,f2,((s.ae [0]).del 3 |>.del 2).del 1⟩
 | false =>
  obtain ⟨JH,J,e3,h4,e4,s2⟩:=kf s (i:=i/8) (b:=Nat.land z (255-2^(i%8))) (by omega) (FG hz)
  have ee:V.ptr id off=V.ptr JH J:=by rw [e1] at e3; exact bG e3
  rw [←ee] at e4
  refine zK 4 rfl (zo rfl (dm (r:=.ptr id off) rfl rfl e1) (zl rfl e2 (zm rfl (zb rfl (JC hz VA) (zo rfl (dm (r:=.ptr id off) rfl rfl e1) (zS rfl (⟨h4,e4,s2⟩) ?_))))))
  rintro h s
  rw [←nZ] at s
  have s:Sat h (aP u2 (JA M i)::_):=s
  refine zk 6 rfl (zc rfl (FB (i:=0) (c:=M) hT (s.ae [1,0]) (aR _ _) (aR _ _) JG rfl FF) ?_)
  rintro v h ⟨w3,b',rfl,I,s⟩
  refine zk 9 rfl (zh rfl (ag rfl rfl aL) (rfl) (zk 7 rfl (zo rfl (ag (r:=.int .i64 0) rfl rfl (Lz (by omega))) ?_)))
  refine zb rfl (by exact bB (aC (by omega) (by omega))) ?_
  refine zm rfl (zc rfl (vZ (i:=1) hT hB qy hw (by omega) (s.ae [3,0]) (aR _ _) I) ?_)
  rintro v h ⟨G8,rfl,Bn,Bo,wQ,s⟩
  refine zk 2 rfl (WP.ret ⟨aa,_,rfl,?_⟩)
  obtain ⟨f1,f2⟩:=fin (oc.trans Bo) I (by rw [FF]; exact hM) (fun j=>Rz SG)
  exact ⟨G8,_,rfl,Bn,oc.trans Bo,wQ,f1,f2,((s.ae [0]).del 3 |>.del 2).del 1⟩
theorem LB (hT:W told)(hB:B≤2000)(gT:EI N B ε)(hw:NW N now)(hp:jq N R M (eC now ε)){lo:Nat}(qw:lo<N)(h0:bt M lo=false)(h1:∀j,j<lo→bt M j=true)(s:Sat h (GA g a p q r data bA now ε::S)):
  Call ⟨Tryz.prog,told⟩ 22 [.ptr g 0] h fun v h'=>∃ε' cg,v=.aX [.int .i64 (lo:Int),.int .i64 0]∧EI N B ε'∧Sm N ε ε'∧NW N cg∧jq N R (yZ M lo) (eC cg ε')∧(∀m,m≠1→m≠(lo:Int)→eC cg ε' m=eC now ε m)∧dF (eC cg ε' lo) 0 0 0 [] ∧
   Sat h' (GA g a p q r data bA cg ε'::S):=by
 have Fa:=hp.n1
 have qh:=hp.n2
 have h2:2≤lo:=by
  rcases gZ lo 2 with hq | hq
  ·rw [hp.own lo hq] at h0; cases h0
  ·exact hq
 refine Call.of_wp (hT.free _ rfl) Tryz.func22 rfl rfl (zK 8 rfl (zo rfl (qK rfl (nU j7 rfl)) (zc rfl (JF hT (AQ hT hB hw) gT (by omega) hp qw h0 h1 s) ?_)))
 rintro v h ⟨va,rfl,qU,jO,s⟩
 have JG:jq N R M (eC now va):=by rw [jL jO]; exact hp
 refine zk 7 rfl (WP.block (zK 3 rfl (zh rfl (ag rfl rfl aL) (rfl) (zk 6 rfl (zh rfl (ag rfl rfl bf) (by simp) ?_)))))
 refine za rfl (zv (zj rfl (WP.skip (zw (zg rfl (zk 2 rfl (zc rfl (NV (bl:=true) hT hB qU hw JG qw h2 s) ?_)))))))
 rintro v h ⟨mY,xu,rfl,qy,oc,y6,I,m7,s⟩
 refine za rfl (zv (zg rfl (zm rfl (zh rfl (ag rfl rfl aL) (rfl) (zv (zj rfl (WP.skip (zg rfl (zc rfl (xo (kd:=0) hT s (by decide)) ?_)))))))))
 rintro v h ⟨u,b',rfl,l_,s⟩
 refine zk 12 rfl (zc rfl (vZ (i:=lo) hT hB qy y6 qw (s.ae [1,0]) (aR _ _) l_) ?_)
 rintro v h ⟨G8,rfl,Bn,J,wQ,s⟩
 refine zk 5 rfl (zh rfl (ag rfl rfl aL) (rfl) (zk 9 rfl (WP.ret ⟨aa,_,rfl,?_⟩)))
 have I:jq N R (yZ M lo) (eC xu mY):=I
 refine ⟨G8,_,rfl,Bn,(jO.trans oc).trans J,wQ,I.put (by rw [gF,ai (by omega),jL J]) ?_ I.ml I.own I.hi,fun m wH LY=>by rw [gF,ai (by omega),jL J,m7 m wH,jL jO],by rw [gF,ax rfl]; exact l_,s.del 1⟩
 rw [gF,ai (by omega),jL J]
 exact I.marks
theorem G9 (J:W told)(hB:B≤2000)(gT:EI N B ε)(hw:NW N now)(hp:jq N R M (eC now ε))(h1:∀j,j<N→bt M j=true)(s:Sat h (GA g a p q r data bA now ε::S)):
  Call ⟨Tryz.prog,told⟩ 22 [.ptr g 0] h fun v h'=>∃ε',v=.aX [.int .i64 0,.int .i64 7]∧EI N B ε'∧Sm N ε ε'∧Sat h' (GA g a p q r data bA now ε'::S):=by
 have Fa:=hp.n1
 refine Call.of_wp (J.free _ rfl) Tryz.func22 rfl rfl (zK 8 rfl (zo rfl (qK rfl (nU j7 rfl)) (zc rfl (Ek J (AQ J hB hw) gT (by omega) hp h1 s) ?_)))
 rintro v h ⟨va,rfl,I,jO,s⟩
 refine zk 7 rfl (WP.block (zK 3 rfl (zh rfl (ag rfl rfl aL) (rfl) (zk 6 rfl (zt rfl (ag rfl rfl bf) (by decide) ?_)))))
 exact zk 8 rfl (WP.ret ⟨aa,_,rfl,va,rfl,I,jO,s⟩)
end
theorem G_ : ga (List.replicate 512 0)=0:=by rw [ga,ax rfl]
def fresh (n m f:Nat): aF:=(Pl.fresh f,(Lg.fresh,Dk.fresh n m))
theorem Dn {n m:Nat}(k:Int): (Dk.fresh n m).at k=List.replicate 512 0:=by
 rw [Dk.at,show lookL k (Dk.fresh n m).now=none from rfl]
 simp only [Dk.fresh]
 cases I:(List.replicate n (none:Option (List Nat)))[k.toNat]? with
 | none=>rfl
 | some o =>
  have:=ry (bh I)
  subst this
  rfl
theorem Bp {n m f:Nat}(k:Int): pgA (fresh n m f) k=List.replicate 512 0:=by
 rw [kP (by rfl)]
 exact Dn k
theorem Dp {f i:Nat}{x:Fm}(h:(Pl.fresh f).ah[i]?=some x): x=dz:=ry (bh h)
theorem EI.fresh {n m f:Nat}(hn:n≤65536)(hm:m≤16777216)(hf:1≤f)(VB:f≤1024): EI n 1 (fresh n m f):=by
 have J:∀x∈(Pl.fresh f).ah,x=dz:=fun x I=>ry I
 have hlen:(Pl.fresh f).ah.length=f:=eE
 refine ⟨⟨⟨⟨(show 0<(Pl.fresh f).ah.length by rw [hlen]; omega),(show (Pl.fresh f).ah.length≤1024 by rw [hlen]; exact VB),fun e he=>(by cases he),fun x I=>by rw [J x I]; decide,fun x I=>by rw [J x I]; decide⟩,Lg.Da,?_⟩,fun x I=>by rw [J x I]; rfl,⟨rO,fun k i hk=>(by cases hk)⟩⟩,⟨?_,rO,fun k i hk=>(by cases hk),fun i x I=>.inl (by rw [Dp I]; decide),fun k hk=>(by cases hk),rO⟩,⟨rfl,aD _,(show (1:Nat)+0≤1*1048600 by decide)⟩,?_⟩
 ·exact ⟨(show (-1:Int)<4294967296 by decide),gy _,hm,fun e he=>(by cases he),fun i b hb=>(by have h1:some b=none:=ry (bh hb); cases h1),aD _,(show (List.replicate n (none:Option (List Nat))).length≤65536 by rw [eE]; exact hn)⟩
 ·exact ⟨rfl,(show (-1:Int)<0 by decide),eE,fun k hk=>(by cases hk),rO,fun k h0 h1=>by show ga ((Dk.fresh n m).at k)=0; rw [Dn]; exact G_⟩
 ·have e:fQ (Pl.fresh f).ah=0:=by
   rw [fQ,List.count_eq_zero]
   intro hh
   obtain ⟨x,I,hc⟩:=List.mem_map.1 hh
   rw [J x I] at hc
   cases hc
  show ([]:List Wr).length+fQ (Pl.fresh f).ah≤_
  rw [e]; decide
theorem FJ {n:Nat}(h:n<128): (digits 9 n).length=1:=by
 show (if n<128 then [n] else (n%128+128)::digits 8 (n/128)).length=1
 rw [ax h]; rfl
theorem v7 {n:Nat}(h:n<16384): (digits 9 n).length≤2:=by
 show (if n<128 then [n] else (n%128+128)::(if n/128<128 then [n/128] else (n/128%128+128)::digits 7 (n/128/128))).length≤2
 split
 ·exact o_ 1
 ·rw [ax (by omega)]; exact aD 2
theorem xw {c:c7}(I:c.aU.toNat<16384)(J:c.pos.toNat<16384)(h3:c.b.length<16384): (kL c).length≤7+c.b.length:=by
 have e1:=v7 I
 have e2:=v7 J
 have e3:=v7 h3
 simp only [kL,bQ,aQ,bF]
 omega
theorem NX {pg:Int}{cT now:List Nat}{i:Nat}{l:List c7}(J:tG pg cT now i l)(hn:now.length=512)(hp:pg.toNat<16384): ∀j,(∀k,i≤k→k<j→cT[k]?=now[k]?)→j≤520→(l.flatMap kL).length≤520-max i j:=by
 induction J with
 | done i h=>intro j _ _; simp
 | skip i l h he J ih =>
  intro j hj I
  have:=ih j (fun k h1 h2=>hj k (by omega) h2) I
  omega
 | take i e l h1 h2 h3 h4 J ih =>
  intro j hj I
  have oC:j≤i:=nf fun bk=>h3 (hj i (aD _) bk)
  have h5:=ih (e+8) h4 (by omega)
  have hl:((now.take e).drop i).length=e-i:=by rw [List.length_drop,fc]; omega
  have h6:=xw (c:=⟨pg,i,false,(now.take e).drop i⟩) hp (by show (i:Int).toNat<_; omega) (by show ((now.take e).drop i).length<_; omega)
  rw [rL,bQ]
  simp only [hl] at h6
  omega
theorem NY {pg:Int}{cT now:List Nat}{c:List c7}(hr:Jd pg cT now c)(hn:now.length=512)(I:pg.toNat<16384): (c.flatMap kL).length≤520:=by
 obtain ⟨l,hl,rfl⟩:=hr
 have:=NX hl hn I 0 (fun k _ h=>absurd h (by omega)) (by omega)
 by_cases J:l=[]
 ·rw [ax J]
  have h6:=xw (c:=⟨pg,0,false,[]⟩) I (show (0:Int).toNat<16384 by decide) (show ([]:List Nat).length<16384 by decide)
  simp only [rL,List.flatMap_nil,fJ]
  simp only [bF] at h6
  omega
 ·rw [ai J]; omega
theorem jg.VC {N:Nat}{now:List (Int×List Nat)}{l:List Int}{ε ε':aF}{e:Int}{cs:List c7}(hr:jg now l ε e cs ε')(hn:NW N now): (∀n∈l,n.toNat<16384)→(cs.flatMap kL).length≤520*l.length:=by
 induction hr with
 | nil ε=>intro _; simp
 | err n l ε e b ε' hr he=>intro _; simp
 | part n l ε cT b ε' c e cs I hr hb tF hc j4 ht ih =>
  intro J
  have h1:=NY hc (gE (hn.look hb).1) (J n cM)
  have h2:=ih fun m hm=>J m (cC _ hm)
  rw [List.flatMap_append,bQ,aQ]
  omega
 | whole n l ε cT b ε' e cs I hr hb tF ht ih =>
  intro J
  have l_:=gE (hn.look hb).1
  have h1:=xw (c:=⟨n,0,true,b⟩) (J n cM) (show (0:Int).toNat<16384 by decide) (by show b.length<_; omega)
  have h2:=ih fun m hm=>J m (cC _ hm)
  rw [rL,bQ,aQ]
  simp only at h1
  omega
theorem Dq {N:Nat}{now:List (Int×List Nat)}{ε ε':aF}{e:Int}{cs:List c7}{kd:Int}{tx:Nat}(hr:jg now (dQ now) ε e cs ε')(I:NW N now)(hN:N≤16384)(ht:tx<16384): (d_ kd tx 0 0 [] cs).length≤520*N+20:=by
 have h2:=v7 ht
 have h1:=FJ (n:=0) (by decide)
 have h4:=FJ (n:=([]:List Nat).length) (by decide)
 have h5:=Ej cs.length
 have h6:=hr.VC I fun n hm=>by have:=I.keys n (oa.1 hm); omega
 have J:(dQ now).length≤N:=by
  have:=I.len
  rw [dQ,(e_ _).length_eq,eP]; exact this
 have J:=Nat.mul_le_mul_left 520 J
 simp only [d_,bQ,aQ,bF] at h4 ⊢
 omega
theorem tg (K M:Nat): jZ fun x=>x.2.log.length=K∧x.2.room=M:=by
 refine ⟨fun x n h => ?_,fun x n b h => ?_⟩
 ·unfold bM Dk.fP
  split
  ·exact h
  ·split
   ·exact h
   ·split
    ·exact h
    ·split <;> first | exact h | exact h
 ·unfold Dk.cJ
  split
  ·exact h
  ·split
   ·exact h
   ·split <;> exact h
def tJ (K M:Nat)(ε:aF): Prop:=ε.2.2.log.length≤K∧ε.2.2.room=M
theorem tJ.sm {N K M:Nat}{ε ε':aF}(h:tJ K M ε)(hs:Sm N ε ε'): tJ K M ε':=by
 have:=hs.2 _ ((tg ε.2.2.log.length ε.2.2.room).TN N) ⟨rfl,rfl⟩
 have this:ε'.2.2.log.length=ε.2.2.log.length∧ε'.2.2.room=ε.2.2.room:=this
 exact ⟨by rw [this.1]; exact h.1,by rw [this.2]; exact h.2⟩
theorem uZ.fits {N B K M kd tx aM:Nat}{now:List (Int×List Nat)}{ε ε':aF}{e:Int}{cl:Bool}(hr:uZ ε now kd tx 0 0 [] 0 aM e cl ε')(J:EI N B ε)(hB:B≤1000)(hw:NW N now)(hN:N≤1024)(h1:1≤kd)(h2:kd≤7)(I5:tx<16384)(hd:tJ K M ε)(hf:K+520*N+28≤M):
  cl=true∧e=0∧tJ (K+520*N+28) M ε':=by
 have I:∀n∈dQ now,0≤n∧n<N:=fun n hq=>hw.keys n (oa.1 hq)
 obtain ⟨hK,hM⟩:=hd
 have RB:=J.done hB hw (by omega) (by omega) hr
 cases hr with
 | arg hh=>omega
 | dead _ _ _ hd=>rw [J.ec.dk.alive] at hd; cases hd
 | n_ e c ε' _ _ _ _ hc Ft=>exact absurd (hc.ec J.ec J.ok I).2.2 Ft
 | app c mY _ _ _ _ hc Ft =>
  exfalso
  have rW:=Dq (kd:=kd) hc hw (by omega) I5
  have hP:=(tg ε.2.2.log.length ε.2.2.room).ch hc ⟨rfl,rfl⟩
  obtain ⟨c1,c2,c3⟩:=hc.ec J.ec J.ok I
  have nZ:dO kd c=true:=by
   refine C8 ⟨by omega,by omega⟩ (hc.fit (fun x hx=>gE (hw.good x hx).1) fun n hq => ?_)
   have:=I n hq
   omega
  rcases lu mY.2 kd tx 0 0 [] c with ⟨e,he,m5,hq⟩ | ⟨_,Jn,hq⟩ | ⟨_,hb,tY,fF,Jn,hq⟩
  ·rcases m5 with ⟨rfl,hg⟩ | ⟨_,hb⟩ | ⟨rfl,tY⟩ | ⟨rfl,hb⟩
   ·rw [nZ] at hg; cases hg
   ·omega
   ·rw [c1.dk.alive] at tY; cases tY
   ·rw [dh,sX,hP.1,hP.2] at hb; omega
  ·have:=c1.dk.bL; omega
  ·rw [hq] at Ft; exact absurd rfl Ft
 | put c mY e G8 _ _ _ _ hc ha hp =>
  rcases RB with ⟨j4,_⟩ | ⟨_,he,_⟩
  ·cases j4
  ·refine ⟨rfl,he,?_⟩
   have rW:=Dq (kd:=kd) hc hw (by omega) I5
   have hP:=(tg ε.2.2.log.length ε.2.2.room).ch hc ⟨rfl,rfl⟩
   rcases lu mY.2 kd tx 0 0 [] c with ⟨e,he,m5,hq⟩ | ⟨_,Jn,hq⟩ | ⟨_,hb,tY,fF,Jn,hq⟩
   ·rw [hq] at ha; exact absurd ha he
   ·rw [hq] at ha; cases ha
   ·rw [hq] at hp
    have fU:=(tg (ε.2.2.log.length+(dh mY.2.1 kd tx 0 0 [] c).length) ε.2.2.room).pt hp ⟨by show (mY.2.2.log++_).length=_; rw [bQ,hP.1],hP.2⟩
    have h3:(dh mY.2.1 kd tx 0 0 [] c).length≤520*N+28:=by rw [dh,sX]; omega
    exact ⟨by rw [fU.1]; omega,by rw [fU.2]; exact hM⟩
abbrev m9 := List (Nat×List V×List V)
noncomputable def kz (P:Program)(s:St)(rs:List ResultVar): Option V:=match mapO (resV P s) rs with
 | some [v]=>some v
 | some I=>some (.aX I)
 | none=>none
noncomputable def evOpsD (C:bX)(self:Self)(L:List Oper): List Oper→St→m9→Option (St×m9)
 | [],s,d=>some (s,d)
 | o::rest,s,d=>match o.op with
  | .defer cl=>match o.guard,o.dst,cl.callee,evArgs s.env cl.args.toList with
   | none,none,.value x,some args=>match evO s.env x with
    | some (.fn (.func g) first cap)=>evOpsD C self L rest s ((g,first++args,cap)::d)
    | _=>none
   | _,_,_,_=>none
  | _=>cond (wantedV L s.env o)
   (match evOp C self s.env s.h o with
    | some (v,h)=>match s.put o.dst v h with
     | some s'=>evOpsD C self L rest s' d
     | none=>none
    | none=>none)
   (match s.put o.dst bE s.h with
    | some s'=>evOpsD C self L rest s' d
    | none=>none)
noncomputable def evTop (C:bX)(n:Nat): Nat→Code→St→m9→Option (Ex×St×m9)
 | 0,_,_,_=>none
 | m+1,c,s,d=>match c with
  | .seq a b=>match evTop C n m a s d with
   | some (.normal,s',I)=>evTop C n m b s' I
   | r=>r
  | .region _ ops false=>match evOpsD C (r5 C n) ops.toList ops.toList s d with
   | some (s',I)=>some (.normal,s',I)
   | none=>none
  | c=>match r5 C n c s with
   | some (ex,s')=>some (ex,s',d)
   | none=>none
def quietParts : Code→Option (Nat×Nat×Code)
 | .seq (.region _ ops false) rest=>match ops.toList with
  | [I,J]=>match I.op,I.guard,I.dst,J.op,J.guard,J.dst with
   | .call cl,none,some AR,.assign (.tmp t),none,some LC=>match cl.callee,cl.args.toList with
    | .builtin .recover,[]=>cond (Nat.beq t AR) (some (AR,LC,rest)) none
    | _,_=>none
   | _,_,_,_,_,_=>none
  | _=>none
 | _=>none
noncomputable def defCall (C : bX) (n : Nat) (g : Nat) (args : List V) (h : H) : Option H := match C.P.funcs[g]? with
 | none => none
 | some fn => match fn.body with
  | none => none
  | some code => match quietParts code with
   | some (I, J, rest) => cond (Nat.blt I fn.ntmps && Nat.blt J fn.ntmps && Nat.ble args.length fn.ntmps && !(fn.name == "runtime.NumGoroutine"))
    (match r5 C n rest ⟨((bindArgs args 0 .lf).set I (some .lB)).set J (some .lB), fn.ntmps, h⟩ with
     | some (.normal, s) | some (.ret, s) => match kz C.P s fn.results.toList with
      | some _ => some s.h
      | none => none
     | _ => none) none
   | none => match callF C (r5 C n) g args h with
    | some (_, h') => some h'
    | none => none
noncomputable def runDefs (C:bX)(n:Nat): m9→H→Option H
 | [],h=>some h
 | (g,args,cap)::d,h=>match C.told g with
  | some _=>none
  | none=>match defCall C n g (args++cap) h with
   | some h'=>runDefs C n d h'
   | none=>none
noncomputable def toldDefer (C:bX)(n f:Nat)(args:List V)(h:H): Option (V×H):=match C.P.funcs[f]? with
 | none=>none
 | some fn=>match fn.body with
  | none=>none
  | some c=>cond (Nat.blt fn.ntmps args.length) none (match evTop C n 1000 c ⟨bindArgs args 0 .lf,fn.ntmps,h⟩ [] with
   | some (.exit _,_,_)=>none
   | some (_,s,d)=>match runDefs C n d s.h with
    | some h'=>match kz C.P ⟨s.env,s.au,h'⟩ fn.results.toList with
     | some v=>some (v,h')
     | none=>none
    | none=>none
   | none=>none)
section
variable {C:bX} {self:Self} {c:Ctx} {σ:H} {w:World}
theorem xx {s:St}{a:Act}{P:Program}{fn:Func}{v:V}(h:Rel c s.h w)(he:cU c s.env s.au a)(I:kz P s fn.results.toList=some v):
  (results fn a.tmps).run P w=.ok (conc c v) w∧wf c v:=by
 unfold kz at I
 cases J:mapO (resV P s) fn.results.toList with
 | none=>simp [J] at I
 | some vs =>
  obtain ⟨q1,q2⟩:=sJ h he J
  rw [J] at I
  rw [q1]
  rcases vs with _ | ⟨v0,_ | ⟨v1,vs⟩⟩
  ·simp only [aj] at I
   subst I
   exact ⟨by simp [conc,concL],by simp [wf,dS]⟩
  ·simp only [aj] at I
   subst I
   exact ⟨by simp,q2 v0 (by simp)⟩
  ·simp only [aj] at I
   subst I
   exact ⟨by simp [conc,eu],by simp only [wf,eF]; exact q2⟩
structure nQ (c:Ctx)(d:m9)(ds:List Deferred): Prop where
 eq:ds=d.map fun x=>{ target:=.fn (.func x.1) (x.2.2.map (conc c)).toArray,args:=(x.2.1.map (conc c)).toArray }
 Bq:∀x∈d,(∀v∈x.2.1,wf c v)∧∀v∈x.2.2,wf c v
theorem nQ.ext {c':Ctx}{d:m9}{ds:List Deferred}(h:nQ c d ds)(e:Ext c c'): nQ c' d ds where
 eq:=by
  rw [h.eq]
  refine oU fun x I => ?_
  rw [(kB e (h.Bq x I).1).1,(kB e (h.Bq x I).2).1]
 Bq:=fun x I=>⟨(kB e (h.Bq x I).1).2,(kB e (h.Bq x I).2).2⟩
theorem JI {env:Env}{n:Nat}{a:Act}(he:cU c env n a): ∀(l:List Operand) (I:List V),evArgs env l=some I→l.map a.eval=I.map (conc c)∧∀v∈I,wf c v:=by
 intro l
 induction l with
 | nil=>intro I h; simp [evArgs] at h; subst h; simp
 | cons x l ih =>
  intro I h
  simp only [evArgs] at h
  cases J:evO env x with
  | none=>simp [J] at h
  | some v =>
   cases h2:evArgs env l with
   | none=>simp [J,h2] at h
   | some m =>
    simp [J,h2] at h
    subst h
    obtain ⟨i1,i2⟩:=ih m h2
    obtain ⟨e1,e2⟩:=tQ he J
    refine ⟨by simp [e1,i1],fun y hy => ?_⟩
    rcases List.mem_cons.1 hy with rfl | hy
    ·exact e2
    ·exact i2 y hy
theorem JJ (hS:g9 C.P self)(hT:eU C){ops:Array Oper}{Q:Exit→Act→World→Prop}: ∀(l:List Oper) (k:Nat) (s s':St) (d d':m9) (c:Ctx) (a:Act) (w:World),
  (∀j,l[j]?=ops[k+j]?)→evOpsD C self ops.toList l s d=some (s',d')→Rel c s.h w→cU c s.env s.au a→nQ c d a.defers →
  (∀c' a' w',Rel c' s'.h w'→cU c' s'.env s'.au a'→bU c w c' w'→nQ c' d' a'.defers→Q .normal a' w') →
  wpOpsIn (Fr none) 0 C.P ops Q (List.range' k l.length) a w:=by
 intro l
 induction l with
 | nil =>
  intro k s s' d d' c a w _ I h he hd hQ
  simp only [evOpsD,aj,aA] at I
  obtain ⟨rfl,rfl⟩:=I
  simp only [bF,List.range'_zero,wpOpsIn]
  exact hQ c a w h he (bU.refl c w) hd
 | cons o l ih =>
  intro k s s' d d' c a w hl I h he hd hQ
  have h0:ops[k]?=some o:=by simpa using (hl 0).symm
  have xP:∀j,l[j]?=ops[k+1+j]?:=fun j=>by have:=hl (j+1); simpa [iA,vr 1 j] using this
  simp only [aQ,zJ,wpOpsIn,h0]
  rw [xO he]
  have common:(cond (wantedV ops.toList s.env o)
    (match evOp C self s.env s.h o with
     | some (v,h)=>match s.put o.dst v h with
      | some s'=>evOpsD C self ops.toList l s' d
      | none=>none
     | none=>none)
    (match s.put o.dst bE s.h with
     | some s'=>evOpsD C self ops.toList l s' d
     | none=>none))=some (s',d') →
    (if wantedV ops.toList s.env o=true then o.wpIn (Fr none) 0 C.P a w (wpOpsIn (Fr none) 0 C.P ops Q (List.range' (k+1) l.length)) Q else (∀f,o.about C.P w a.eval=some f→(Fr none).fn f)∧wpOpsIn (Fr none) 0 C.P ops Q (List.range' (k+1) l.length) (a.put o.dst undef) w):=by
   intro I
   cases hw:wantedV ops.toList s.env o with
   | true =>
    rw [hw,af] at I
    simp only [bz]
    cases ho:evOp C self s.env s.h o with
    | none=>simp [ho] at I
    | some r =>
     obtain ⟨v,dH⟩:=r
     simp only [ho] at I
     cases hp:s.put o.dst v dH with
     | none=>simp [hp] at I
     | some J =>
      simp only [hp] at I
      refine (vD hS hT h (he.EB o) ho).wpIn (kF ho) ?_
      intro c' w' r1 r2 r3
      obtain ⟨p1,p2,p3⟩:=St.xB (he.ext r2.ext) r3 hp
      refine ih (k+1) J s' d d' c' _ w' xP I (by rw [p2]; exact r1) p1 (by rw [put_defers]; exact hd.ext r2.ext) ?_
      intro oB ue uf q1 q2 q3 q4
      exact hQ oB ue uf q1 q2 (r2.trans q3) q4
   | false =>
    rw [hw,ay] at I
    simp only [dI,bC]
    refine ⟨fun _ _=>trivial,?_⟩
    cases hp:s.put o.dst bE s.h with
    | none=>simp [hp] at I
    | some J =>
     simp only [hp] at I
     obtain ⟨p1,p2,p3⟩:=St.xB he (show wf c bE by simp [bE,wf,dS]) hp
     rw [mB] at p1
     refine ih (k+1) J s' d d' c _ w xP I (by rw [p2]; exact h) p1 (by rw [put_defers]; exact hd) ?_
     intro oB ue uf q1 q2 q3 q4
     exact hQ oB ue uf q1 q2 q3 q4
  unfold evOpsD at I
  split at I
  ·rename_i cl j4
   split at I
   ·rename_i x args hg Kb NZ vT
    split at I
    ·rename_i g first cap Ss
     have RC:wantedV ops.toList s.env o=true:=by simp [wantedV,hg]
     simp only [RC,bz]
     obtain ⟨e1,e2⟩:=JI he _ _ vT
     obtain ⟨f1,f2⟩:=tQ he Ss
     have fw:(∀x∈first,wf c x)∧(∀x∈cap,wf c x):=by
      have:dS c first∧dS c cap:=by simpa [wf] using f2
      exact ⟨eF.1 this.1,eF.1 this.2⟩
     have Ab:(execOp a.eval o).run C.P w=.ok (.defer { target:=.fn (.func g) (cap.map (conc c)).toArray,args:=((first++args).map (conc c)).toArray }) w:=by
      have h1:cl.args.map a.eval=(args.map (conc c)).toArray:=by
       apply gz
       simpa using e1
      have h2:a.eval x=.func (.func g) (first.map (conc c)).toArray (cap.map (conc c)).toArray:=by rw [f1]; simp [conc,eu]
      simp [execOp,j4,resolve,NZ,h2,Deferred.ofValue,h1]
     refine ⟨fun _ _=>trivial,?_⟩
     rw [show (Fr none).round=none from rfl,Oper.semAt_none,Ab]
     simp only [Oper.uponIn,Kb,Act.put]
     refine ih (k+1) s s' ((g,first++args,cap)::d) d' c _ w xP I h ⟨he.size,he.val,he.tj⟩ ⟨by simp [hd.eq],fun x hx => ?_⟩ ?_
     ·rcases List.mem_cons.1 hx with rfl | hx
      ·exact ⟨fun v hv=>by
        rcases List.mem_append.1 hv with hv | hv
        ·exact fw.1 v hv
        ·exact e2 v hv,fw.2⟩
      ·exact hd.Bq x hx
     ·intro oB ue uf q1 q2 q3 q4
      exact hQ oB ue uf q1 q2 q3 q4
    ·cases I
   ·cases I
  ·exact common I
theorem LF (hm:C.P.follows .mixedOrders=true)(hT:eU C){n:Nat}: ∀(m:Nat) (code:Code) (s:St) (d:m9) (ex:Ex) (s':St) (d':m9),evTop C n m code s d=some (ex,s',d') →
  ∀(c:Ctx) (a:Act) (w:World),Rel c s.h w→cU c s.env s.au a→nQ c d a.defers →
   code.wp C.P (fun e a' w'=>e=exOf ex∧∃c',Rel c' s'.h w'∧cU c' s'.env s'.au a'∧bU c w c' w'∧nQ c' d' a'.defers) a w:=by
 have hS:=(xZ (C:=C) hm hT n).1
 intro m
 induction m with
 | zero=>intro code s d ex s' d' h; simp [evTop] at h
 | succ m ih =>
  intro code s d ex s' d' I c a w h he hd
  have rest:(match ev C n code s with
    | some (ex,s')=>some (ex,s',d)
    | none=>none)=some (ex,s',d')→code.wp C.P (fun e a' w'=>e=exOf ex∧∃c',Rel c' s'.h w'∧cU c' s'.env s'.au a'∧bU c w c' w'∧nQ c' d' a'.defers) a w:=by
   intro I
   cases jE:ev C n code s with
   | none=>rw [jE] at I; cases I
   | some r =>
    obtain ⟨xY,J⟩:=r
    rw [jE] at I
    simp only [aj,aA] at I
    obtain ⟨rfl,rfl,rfl⟩:=I
    refine Code.wp_mono ?_ (hS _ _ _ _ jE c a w h he)
    rintro e a' w' ⟨rfl,q2,c',q3,q4,q5⟩
    exact ⟨rfl,c',q3,q4,q5,by rw [q2]; exact hd.ext q5.ext⟩
  unfold evTop at I
  rw [pY] at I
  split at I
  ·rename_i x y
   cases hx:evTop C n m x s d with
   | none=>rw [hx] at I; cases I
   | some r =>
    obtain ⟨xY,J,AR⟩:=r
    rw [hx] at I
    refine wp_seq (Code.wp_mono ?_ (ih x s d xY J AR hx c a w h he hd))
    rintro e Ca tL ⟨rfl,c₁,q3,q4,q5,q6⟩
    cases xY with
    | normal =>
     refine Code.wp_mono ?_ (ih y J AR ex s' d' I c₁ Ca tL q3 q4 q6)
     rintro e BD Ta ⟨rfl,c₂,p3,p4,p5,p6⟩
     exact ⟨rfl,c₂,p3,p4,q5.trans p5,p6⟩
    | exit i =>
     simp only [aj,aA] at I
     obtain ⟨rfl,rfl,rfl⟩:=I
     exact ⟨rfl,c₁,q3,q4,q5,q6⟩
    | ret =>
     simp only [aj,aA] at I
     obtain ⟨rfl,rfl,rfl⟩:=I
     exact ⟨rfl,c₁,q3,q4,q5,q6⟩
  ·rename_i id ops
   cases hx:evOpsD C (ev C n) ops.toList ops.toList s d with
   | none=>rw [hx] at I; cases I
   | some r =>
    obtain ⟨J,AR⟩:=r
    rw [hx] at I
    simp only [aj,aA] at I
    obtain ⟨rfl,rfl,rfl⟩:=I
    refine wpIn_wide.1 (show (Code.region id ops false).wpIn (Fr none) 0 C.P _ a w from wpIn_region ?_)
    rw [List.range_eq_range',←zB]
    exact JJ (Cj (C:=C) hm hT n).1 hT ops.toList 0 s J d AR c a w (fun j=>by rw [dB,gU]) hx h he hd fun c' a' w' r1 r2 r3 r4=>⟨rfl,c',r1,r2,r3,r4⟩
  ·exact rest I
theorem LG (hm : C.P.follows .mixedOrders = true) (hT : eU C) {n g : Nat} {args : List V} {v : V} {I : H} (hg : C.told g = none) (J : callF C (ev C n) g args σ = some (v, I)) (h : Rel c σ w) (hw : ∀ x ∈ args, wf c x) :
  CallsD C.P g (args.map (conc c)).toArray .returning w (fun e u' w' => u' = .returning ∧ (∃ x, e = .returned x) ∧ ∃ c', Rel c' I w' ∧ bU c w c' w') ∧ ∀ (x : Array Value) (w : World), (callFunc g x).run C.P w = .ok (.enter g x) w := by
 have hS := (xZ (C := C) hm hT n).1
 have VD := (nr hS hT J h hw).2
 refine ⟨?_, VD⟩
 unfold callF at J
 rw [hg] at J
 simp only at J
 cases hf : C.P.funcs[g]? with
 | none => simp [hf] at J
 | some fn =>
  simp only [hf] at J
  cases hb : fn.body with
  | none => simp [hb] at J
  | some code =>
   simp only [hb] at J
   cases hq : (fn.name == "runtime.NumGoroutine" || Nat.blt fn.ntmps args.length) with
   | true => simp [hq] at J
   | false =>
    simp only [hq, ay] at J
    simp only [Bool.or_eq_false_iff] at hq
    have hle : args.length ≤ fn.ntmps := by
     rcases gZ fn.ntmps args.length with h' | h'
     ·rw [fe.2 h'] at hq; cases hq.2
     ·exact h'
    have mI := kE (c := c) hle hw
    have done : ∀ ex s, ev C n code ⟨bindArgs args 0 .lf, fn.ntmps, σ⟩ = some (ex, s) → (ex = .normal ∨ ex = .ret) →
      (match mapO (resV C.P s) fn.results.toList with
       | some [v] => some (v, s.h)
       | some vs => some (.aX vs, s.h)
       | none => none) = some (v, I) →
      CallsD C.P g (args.map (conc c)).toArray .returning w (fun e u' w' => u' = .returning ∧ (∃ x, e = .returned x) ∧ ∃ c', Rel c' I w' ∧ bU c w c' w') := by
     intro ex s hs hex JK
     have OA := hS code _ ex s hs c _ w h mI
     have AS : kz C.P s fn.results.toList = some v ∧ s.h = I := by
      unfold kz
      cases pV : mapO (resV C.P s) fn.results.toList with
      | none => rw [pV] at JK; cases JK
      | some vs =>
       rw [pV] at JK
       rcases vs with _ | ⟨v0, _ | ⟨v1, vs⟩⟩ <;> simp only [aj, aA] at JK ⊢ <;> exact JK
     have A6 := callsD_of_wp (u := .returning) (R := fun e w' => (∃ x, e = .returned x) ∧ ∃ c', Rel c' I w' ∧ bU c w c' w') hf hb (Code.wp_mono (Q' := bodyPost C.P fn fun e w' => (∃ x, e = .returned x) ∧ ∃ c', Rel c' I w' ∧ bU c w c' w') ?_ OA)
     ·exact A6.mono fun e u' w' ⟨h1, h2⟩ => ⟨h1, h2⟩
     ·rintro e a' w' ⟨rfl, hd, c', r1, r2, r3⟩
      have qD : a'.defers = [] ∧ ∃ x, (results fn a'.tmps).run C.P w' = .ok x w' ∧ (∃ y, Ending.returned x = .returned y) ∧ ∃ c', Rel c' I w' ∧ bU c w c' w' :=
       ⟨hd, _, (xx r1 r2 AS.1).1, ⟨_, rfl⟩, c', by rw [← AS.2]; exact r1, r3⟩
      rcases hex with rfl | rfl
      ·simpa [bodyPost, exOf] using qD
      ·simpa [bodyPost, exOf] using qD
    split at J
    ·rename_i s hs
     exact done .normal s hs (.inl rfl) J
    ·rename_i s hs
     exact done .ret s hs (.inr rfl) J
    ·simp at J
theorem BH {P:Program}{o:Oper}{ρ:Operand→Value}{cl:Go.Call}(ho:o.op=.call cl)(J:cl.callee=.builtin .recover)(ha:cl.args.toList=[])(w:World): (execOp ρ o).run P w=.ok .recover w:=by
 have I:cl.args = #[]:=by apply gz; simpa using ha
 simp [execOp,ho,resolve,J,I,invoke,builtin]
theorem Br (hm:C.P.follows .mixedOrders=true)(hT:eU C){n g AR LC:Nat}{fn:Func}{code rest:Code}{args:List V}{ex:Ex}{I:St}{v:V}(hf:C.P.funcs[g]?=some fn)(hb:fn.body=some code)
 (J:quietParts code=some (AR,LC,rest))(h1:AR<fn.ntmps)(h2:LC<fn.ntmps)(hle:args.length≤fn.ntmps)
 (Ro:ev C n rest ⟨((bindArgs args 0 .lf).set AR (some .lB)).set LC (some .lB),fn.ntmps,σ⟩=some (ex,I))(hex:ex=.normal∨ex=.ret)(AS:kz C.P I fn.results.toList=some v)
 (h:Rel c σ w)(hw:∀x∈args,wf c x):
  CallsD C.P g (args.map (conc c)).toArray .returning w (fun e u' w'=>u'=.returning∧(∃x,e=.returned x)∧∃c',Rel c' I.h w'∧bU c w c' w'):=by
 have hS:=(xZ (C:=C) hm hT n).1
 unfold quietParts at J
 split at J
 ·rename_i id ops Mi
  split at J
  ·rename_i On Oo TR
   split at J
   ·rename_i cl VE t VF q6 q2 q4 q9 q3 q5
    split at J
    ·rename_i q7 q8
     cases ht:Nat.beq t VE with
     | false=>rw [ht] at J; cases J
     | true =>
      rw [ht,af] at J
      simp only [aj,aA] at J
      obtain ⟨rfl,rfl,rfl⟩:=J
      have:=beq_iff.1 ht
      subst this
      have RD:ops = #[On,Oo]:=by apply gz; simpa using TR
      subst RD
      refine callsD_of_wpS hf hb fun c₀ cs hu=>(wpS_seq ?_)
      have Oj:=kE (c:=c) hle hw
      generalize hA:({ tmps:=(args.map (conc c)).toArray++Array.replicate (fn.ntmps-(args.map (conc c)).toArray.size) undef,defers:=[] }:Act)=A at Oj ⊢
      have VG:A.defers=[]:=by rw [←hA]
      have OE:=(Oj.put (d:=t) (v:=.lB) h1 (by simp [wf])).put (d:=VF) (v:=.lB) h2 (by simp [wf])
      have Ab:=hS _ _ _ _ Ro c _ w h OE
      rw [show conc c .lB=.nilIface from by simp [conc]] at Ab
      have TS:recoverD (c₀::cs)=none:=by simp [recoverD,hu]
      have h5:(A.put (some t) .nilIface).eval (.tmp t)=.nilIface:=by
       have:=(Oj.put (d:=t) (v:=.lB) h1 (by simp [wf])).val t
       rw [show conc c .lB=.nilIface from by simp [conc]] at this
       rw [show Act.eval (A.put (some t) .nilIface) (.tmp t)=(A.put (some t) .nilIface).tmps.getD t undef from rfl,this]
       simp [Env.v,aJ,conc]
      refine wpS_region ?_
      rw [show List.range (#[On,Oo]:Array Oper).size=[0,1] from rfl]
      simp only [wpOpsS,kV,lW,j8,Region.wanted,q2,q3,bz]
      rw [BH q6 q7 q8]
      simp only [TS,q4]
      have TT:(execOp (A.put (some t) .nilIface).eval Oo).run C.P w=.ok (.value .nilIface) w:=by simp [execOp,q9,h5]
      rw [TT]
      simp only [Oper.upon,q5,Exit.thenS]
      refine wpS_of_wp (Code.wp_mono ?_ Ab)
      rintro e a' w' ⟨rfl,dd,c',r1,e2,p1⟩
      have qD:a'.defers=[]∧∃u',c₀::cs={ c₀ with mode:=u' }::cs∧∃v,(results fn a'.tmps).run C.P w'=.ok v w'∧(u'=.returning∧(∃x,Ending.returned v=.returned x)∧∃c',Rel c' I.h w'∧bU c w c' w') :=
       ⟨dd.trans VG,.returning,by rw [←hu],_,(xx r1 e2 AS).1,rfl,⟨_,rfl⟩,c',r1,p1⟩
      rcases hex with rfl | rfl
      ·exact qD
      ·exact qD
    ·cases J
   ·cases J
  ·cases J
 ·cases J
theorem He (hm : C.P.follows .mixedOrders = true) (hT : eU C) {n g : Nat} {args : List V} {dH : H} (hg : C.told g = none) (I : defCall C n g args σ = some dH) (h : Rel c σ w) (hw : ∀ x ∈ args, wf c x) :
  CallsD C.P g (args.map (conc c)).toArray .returning w (fun e u' w' => u' = .returning ∧ (∃ x, e = .returned x) ∧ ∃ c', Rel c' dH w' ∧ bU c w c' w') ∧ ∀ (x : Array Value) (w : World), (callFunc g x).run C.P w = .ok (.enter g x) w := by
 unfold defCall at I
 rw [pY] at I
 cases hf : C.P.funcs[g]? with
 | none => simp [hf] at I
 | some fn =>
  simp only [hf] at I
  cases hb : fn.body with
  | none => simp [hb] at I
  | some code =>
   simp only [hb] at I
   split at I
   ·rename_i AR LC rest hq
    cases hc : (Nat.blt AR fn.ntmps && Nat.blt LC fn.ntmps && Nat.ble args.length fn.ntmps && !(fn.name == "runtime.NumGoroutine")) with
    | false => rw [hc] at I; cases I
    | true =>
     rw [hc, af] at I
     simp only [aG, fe, aE, rK] at hc
     obtain ⟨⟨⟨c1, c2⟩, c3⟩, c4⟩ := hc
     refine ⟨?_, fun x w => by simp only [callFunc, Sem.run_bind, run_program, Result.andThen_ok, hf, c4, dI, bC, hb, Option.isNone_some, Sem.run_pure]⟩
     split at I
     ·rename_i s hs
      cases J : kz C.P s fn.results.toList with
      | none => rw [J] at I; cases I
      | some v =>
       rw [J] at I
       simp only [aj] at I
       subst I
       exact Br hm hT hf hb hq c1 c2 c3 hs (.inl rfl) J h hw
     ·rename_i s hs
      cases J : kz C.P s fn.results.toList with
      | none => rw [J] at I; cases I
      | some v =>
       rw [J] at I
       simp only [aj] at I
       subst I
       exact Br hm hT hf hb hq c1 c2 c3 hs (.inr rfl) J h hw
     ·cases I
   ·cases hc : callF C (ev C n) g args σ with
    | none => rw [hc] at I; cases I
    | some r =>
     obtain ⟨u, h₁⟩ := r
     rw [hc] at I
     simp only [aj] at I
     subst I
     exact LG hm hT hg hc h hw
theorem JL (hm:C.P.follows .mixedOrders=true)(hT:eU C){n:Nat}{fn:Func}{s:St}{v:V}{h':H}{c₀:Ctx}{w₀:World}(AS:kz C.P ⟨s.env,s.au,h'⟩ fn.results.toList=some v):
  ∀(d:m9) (h:H) (c:Ctx) (a:Act) (ds:List Deferred) (w:World),runDefs C n d h=some h'→Rel c h w→cU c s.env s.au a→nQ c d ds→bU c₀ w₀ c w →
   Leaves C.P fn a.tmps (fun e w'=>∃c',e=.returned (conc c' v)∧wf c' v∧Rel c' h' w'∧bU c₀ w₀ c' w') ds .returning w:=by
 intro d
 induction d with
 | nil =>
  intro h c a ds w J I he hd hs
  simp only [runDefs,aj] at J
  subst J
  have:ds=[]:=by rw [hd.eq]; rfl
  subst this
  obtain ⟨q1,q2⟩:=xx (s:=⟨s.env,s.au,h⟩) I he AS
  exact ⟨_,q1,c,rfl,q2,I,hs⟩
 | cons x d ih =>
  intro h c a ds w J I he hd hs
  obtain ⟨g,args,cap⟩:=x
  simp only [runDefs] at J
  cases ht:C.told g with
  | some t=>rw [ht] at J; cases J
  | none =>
   rw [ht] at J
   simp only at J
   cases hc:defCall C n g (args++cap) h with
   | none=>rw [hc] at J; cases J
   | some h₁ =>
    rw [hc] at J
    simp only at J
    have jM:=hd.Bq (g,args,cap) (by simp)
    obtain ⟨k1,k2⟩:=He hm hT ht hc I (fun x hx=>by
     rcases List.mem_append.1 hx with hx | hx
     ·exact jM.1 x hx
     ·exact jM.2 x hx)
    have VH:ds={ target:=.fn (.func g) (cap.map (conc c)).toArray,args:=(args.map (conc c)).toArray }::d.map fun x=>{ target:=.fn (.func x.1) (x.2.2.map (conc c)).toArray,args:=(x.2.1.map (conc c)).toArray }:=by rw [hd.eq]; rfl
    rw [VH]
    refine leaves_cons (f:=g) (args:=((args++cap).map (conc c)).toArray) (by simp) ?_ ?_
    ·simp only [invoke]
     rw [show (args.map (conc c)).toArray++(cap.map (conc c)).toArray=((args++cap).map (conc c)).toArray from by simp]
     exact k2 _ w
    ·refine k1.mono ?_
     rintro e u' tL ⟨rfl,⟨y,rfl⟩,c₁,r1,r2⟩
     have xT:nQ c d (d.map fun x=>{ target:=.fn (.func x.1) (x.2.2.map (conc c)).toArray,args:=(x.2.1.map (conc c)).toArray }):=⟨rfl,fun z hz=>hd.Bq z (by simp [hz])⟩
     exact ih h₁ c₁ a _ tL J r1 (he.ext r2.ext) (xT.ext r2.ext) (hs.trans r2)
theorem Dr (hm:C.P.follows .mixedOrders=true)(hT:eU C){n f:Nat}{args:List V}{v:V}{dH:H}(J:toldDefer C n f args σ=some (v,dH))(h:Rel c σ w)(hw:∀x∈args,wf c x):
  fV C.P f args c w v dH:=by
 unfold toldDefer at J
 cases hf:C.P.funcs[f]? with
 | none=>simp [hf] at J
 | some fn =>
  simp only [hf] at J
  cases hb:fn.body with
  | none=>simp [hb] at J
  | some code =>
   simp only [hb] at J
   cases hq:Nat.blt fn.ntmps args.length with
   | true=>rw [hq] at J; cases J
   | false =>
    rw [hq,ay] at J
    have hle:args.length≤fn.ntmps:=by
     rcases gZ fn.ntmps args.length with h' | h'
     ·rw [fe.2 h'] at hq; cases hq
     ·exact h'
    have mI:=kE (c:=c) hle hw
    unfold fV
    refine calls_of_wp_defers hf hb ?_
    have done:∀ex s d,evTop C n 1000 code ⟨bindArgs args 0 .lf,fn.ntmps,σ⟩ []=some (ex,s,d)→(ex=.normal∨ex=.ret) →
      (match runDefs C n d s.h with
       | some h'=>match kz C.P ⟨s.env,s.au,h'⟩ fn.results.toList with
        | some v=>some (v,h')
        | none=>none
       | none=>none)=some (v,dH) →
      code.wp C.P (bodyPostD C.P fn fun e w'=>∃c',e=.returned (conc c' v)∧wf c' v∧Rel c' dH w'∧bU c w c' w')
       { tmps:=(args.map (conc c)).toArray++Array.replicate (fn.ntmps-(args.map (conc c)).toArray.size) undef,defers:=[] } w:=by
     intro ex s d hs hex I
     refine Code.wp_mono ?_ (LF hm hT 1000 code _ [] ex s d hs c _ w h mI ⟨rfl,fun x hx=>by cases hx⟩)
     rintro e a' w' ⟨rfl,c',r1,r2,r3,r4⟩
     cases fT:runDefs C n d s.h with
     | none=>rw [fT] at I; cases I
     | some h' =>
      rw [fT] at I
      simp only at I
      cases Ie:kz C.P ⟨s.env,s.au,h'⟩ fn.results.toList with
      | none=>rw [Ie] at I; cases I
      | some v' =>
       rw [Ie] at I
       simp only [aj,aA] at I
       obtain ⟨rfl,rfl⟩:=I
       have hl:=JL hm hT Ie d s.h c' a' a'.defers w' fT r1 r2 r4 r3
       rcases hex with rfl | rfl
       ·simpa [bodyPostD,exOf] using hl
       ·simpa [bodyPostD,exOf] using hl
    split at J
    ·cases J
    ·rename_i ex s d dg hs
     refine done ex s d hs ?_ J
     cases ex with
     | normal=>exact .inl rfl
     | ret=>exact .inr rfl
     | exit i=>exact absurd rfl (dg i)
    ·cases J
end
end Go.Proofs.YtefepnnfphdkpaaGreat.Am
