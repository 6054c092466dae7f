/- ChainKept: a part of its proof; conditions: its statement's. -/
import Derived.Test.YtefepnnfphdkpaaGreatC29
import Derived.Test.YtefepnnfphdkpaaGreatC28
namespace Go.Proofs.YtefepnnfphdkpaaGreat.Am
open Go
section
variable {told:cN} {h:H} {S:List aq} {X Y:aq} {N B n:Nat} {v x y rv:V} {b l c R M:List Nat} {kd link extra kW:Nat} {cs:List (List Nat)} {A:aF→aq} {pg:aF→Int→List Nat} {ε:aF}
theorem D8 (I:W told){a:Nat}(J:a<256): Call ⟨Tryz.prog,told⟩ 109 [.int .u8 ((255-a:Nat):Int)] h fun r h'=>r=.int .i64 (jJ a:Nat)∧h'=h:=by
 have hle:∀a,a<256→jJ a≤8:=by decide +kernel
 have hle:=hle a J
 have he:jJ (255-(255-a))=jJ a:=by rw [show 255-(255-a)=a by omega]
 refine Call.of_wp (I.free _ rfl) Tryz.func109 rfl rfl (zK 7 rfl (zo rfl (Hg rfl rfl (RL (f:=fun x=>jJ (255-x)) qH (by decide +kernel) (by omega))) ?_))
 rw [he]
 refine zo rfl (cF rfl (by exact ke Tryz.underlying5 bO (aA (by omega) (by omega)))) ?_
 exact zk 2 rfl (WP.ret ⟨aa,_,rfl,rfl,rfl⟩)
noncomputable def T_ : Code:=eD [1,1,1,0,1,0,0,1,1,0,0,1,1,1,1,0,0] ((Tryz.f51.body).getD .skip)
theorem ME (hT:W told){u:V}{lo:Nat}(hv:View h u M)(hM:M.length=375)(hn:n≤3000)(qS:lo<n)(h0:bt M lo=false)(h1:∀j,j<lo→bt M j=true): ∀(m k:Nat) (E:List (Nat×V)) (Q:Ex→List (Nat×V)→H→Prop),k+m=lo/8 →
  Has E [(5,.int .i64 (n:Int)),(7,.int .i64 0),(39,u),(40,.int .i64 375),(41,.int .i64 (k:Int))] →
  (∀E',look E' 2=some (.int .i64 (lo:Int))→look E' 3=some (.int .i64 0)→Q .ret E' h)→WP ⟨Tryz.prog,told⟩ 65 (.loop T_) E h Q:=by
 intro m
 induction m with
 | zero =>
  intro k E Q hk hE hq
  have J:M[k]?=some (M[k]'(by omega)):=aN _
  have I:M.getD k 0=M[k]'(by omega):=by rw [er,J]; rfl
  generalize (M[k]'(by omega))=x at J I
  have hx:x<256:=hv.1 x (aY J)
  obtain ⟨id,off,e1,e2⟩:=dN hv J
  have FN:x≠255:=fun e=>by
   have:=Ao (M:=M) (k:=k) (j:=lo%8) (by omega)
   rw [show 8*k+lo%8=lo by omega,h0,I,e] at this
   have q:∀j,j<8→(255:Nat).testBit j=true:=by decide
   rw [q _ (by omega)] at this; cases this
  obtain ⟨w1,w2,w3⟩:=Gz x (by omega)
  have hl:8*k+jJ x=lo:=by
   have a1:=Ao (M:=M) (k:=k) (j:=jJ x) w1
   rw [I,w2] at a1
   rcases iq (8*k+jJ x) lo with q | q
   ·rw [h1 _ q] at a1; cases a1
   ·by_cases q2:lo%8<jJ x
    ·have:=w3 _ q2
     have a2:=Ao (M:=M) (k:=k) (j:=lo%8) (by omega)
     rw [show 8*k+lo%8=lo by omega,h0,I,this] at a2; cases a2
    ·omega
  refine WP.loop (WP.has hE (zg rfl (zt rfl (ag rfl rfl aP) (by simp; omega) ?_)))
  refine zk 5 rfl (WP.block (zK 3 rfl (zo rfl (cx (r:=.ptr id off) rfl rfl e1) (zl rfl e2 (zk 6 rfl (zb rfl (by exact jG (aA (by omega) (by omega))) ?_))))))
  refine zm rfl (zb rfl (by exact jG (aA (by omega) (by omega))) ?_)
  refine zb rfl (by exact bk (aA (by omega) (by omega))) ?_
  refine zm rfl (zo rfl (fo rfl (D7 hx)) (zc rfl (D8 hT hx) ?_))
  rintro v h' ⟨rfl,rfl⟩
  refine zo rfl (ag (r:=.int .i64 (lo:Int)) rfl rfl (by rw [←hl,show (((8*k+jJ x:Nat):Int))=(3000*0+8*(k:Int))+(jJ x:Int) by omega]; exact bk (aA (by omega) (by omega)))) ?_
  refine zk 5 rfl (zt rfl (ag rfl rfl aJ) (by simp; omega) ?_)
  refine zk 3 rfl (zt rfl (ag rfl rfl aP) (by simp; omega) ?_)
  exact zk 9 rfl (WP.ret (hq _ rfl rfl))
 | succ m ih =>
  intro k E Q hk hE hq
  have J:M[k]?=some (M[k]'(by omega)):=aN _
  have I:M.getD k 0=M[k]'(by omega):=by rw [er,J]; rfl
  generalize (M[k]'(by omega))=x at J I
  have hx:x<256:=hv.1 x (aY J)
  obtain ⟨id,off,e1,e2⟩:=dN hv J
  have FN:x=255:=Vk x hx fun j hj=>by rw [←I,←Ao hj]; exact h1 _ (by omega)
  have KB:∀a,a<256→jJ a≤8:=by decide +kernel
  have KB:=KB x hx
  refine WP.loop (WP.has hE (zg rfl (zt rfl (ag rfl rfl aP) (by simp; omega) ?_)))
  refine zk 5 rfl (WP.block (zK 3 rfl (zo rfl (cx (r:=.ptr id off) rfl rfl e1) (zl rfl e2 (zk 6 rfl (zb rfl (by exact jG (aA (by omega) (by omega))) ?_))))))
  refine zm rfl (zb rfl (by exact jG (aA (by omega) (by omega))) ?_)
  refine zb rfl (by exact bk (aA (by omega) (by omega))) ?_
  refine zm rfl (zo rfl (fo rfl (D7 hx)) (zc rfl (D8 hT hx) ?_))
  rintro v h' ⟨rfl,rfl⟩
  refine zb rfl (by exact bk (aA (by omega) (by omega))) ?_
  refine zk 5 rfl (zh rfl (ag rfl rfl aJ) (by simp; omega) ?_)
  refine zk 5 rfl (zv (zj rfl (WP.skip (zr rfl (zb rfl (by exact bk (aA (by omega) (by omega))) ?_)))))
  refine zm rfl (zv ?_)
  exact ih (k+1) _ Q (by omega) ⟨rfl,rfl,rfl,rfl,rfl,aa⟩ hq
theorem KC (hT:W told){u:V}(hv:View h u M)(hM:M.length=375)(hn:n≤3000)(h1:∀j,j<n→bt M j=true)(h0:∀j,n≤j→bt M j=false): ∀(m k:Nat) (E:List (Nat×V)) (Q:Ex→List (Nat×V)→H→Prop),k+m=375 →
  Has E [(5,.int .i64 (n:Int)),(7,.int .i64 0),(25,.int .i64 1),(26,.int .i64 0),(39,u),(40,.int .i64 375),(41,.int .i64 (k:Int))] →
  (∀E',Has E' [(25,.int .i64 1),(26,.int .i64 0)]→Q (.exit 2) E' h)→WP ⟨Tryz.prog,told⟩ 65 (.loop T_) E h Q:=by
 intro m
 induction m with
 | zero =>
  intro k E Q hk I hq
  refine WP.loop (WP.has I (zg rfl (zh rfl (ag rfl rfl aP) (by simp; omega) ?_)))
  exact zk 3 rfl (WP.exit (hq _ ⟨rfl,rfl,aa⟩))
 | succ m ih =>
  intro k E Q hk I hq
  have hb:M[k]?=some (M[k]'(by omega)):=aN _
  have J:M.getD k 0=M[k]'(by omega):=by rw [er,hb]; rfl
  generalize (M[k]'(by omega))=x at hb J
  have hx:x<256:=hv.1 x (aY hb)
  obtain ⟨id,off,e1,e2⟩:=dN hv hb
  have KB:∀a,a<256→jJ a≤8:=by decide +kernel
  have KB:=KB x hx
  have next:=fun E I=>ih (k+1) E Q (by omega) I hq
  refine WP.loop (WP.has I (zg rfl (zt rfl (ag rfl rfl aP) (by simp; omega) ?_)))
  refine zk 5 rfl (WP.block (zK 3 rfl (zo rfl (cx (r:=.ptr id off) rfl rfl e1) (zl rfl e2 (zk 6 rfl (zb rfl (by exact jG (aA (by omega) (by omega))) ?_))))))
  refine zm rfl (zb rfl (by exact jG (aA (by omega) (by omega))) ?_)
  refine zb rfl (by exact bk (aA (by omega) (by omega))) ?_
  refine zm rfl (zo rfl (fo rfl (D7 hx)) (zc rfl (D8 hT hx) ?_))
  rintro v h' ⟨rfl,rfl⟩
  refine zb rfl (by exact bk (aA (by omega) (by omega))) ?_
  refine zk 5 rfl ?_
  by_cases FN:x=255
  ·skip
   refine zh rfl (ag rfl rfl aJ) (by simp; omega) ?_
   refine zk 5 rfl (zv (zj rfl (WP.skip (zr rfl (zb rfl (by exact bk (aA (by omega) (by omega))) ?_)))))
   refine zm rfl (zv ?_)
   exact next _ ⟨rfl,rfl,rfl,rfl,rfl,rfl,rfl,aa⟩
  ·obtain ⟨w1,w2,w3⟩:=Gz x (by omega)
   have TC:n≤8*k+jJ x:=by
    rcases iq (8*k+jJ x) n with q | q
    ·have:=h1 _ q
     rw [Ao w1,J,w2] at this; cases this
    ·exact q
   refine zt rfl (ag rfl rfl aJ) (by simp; omega) ?_
   refine zk 3 rfl (zh rfl (ag rfl rfl aP) (by simp; omega) ?_)
   refine zq rfl (zv (zj rfl (WP.skip (zr rfl (zb rfl (by exact bk (aA (by omega) (by omega))) ?_)))))
   refine zm rfl (zv ?_)
   exact next _ ⟨rfl,rfl,rfl,rfl,rfl,rfl,rfl,aa⟩
end
section
variable {P:Program} {h:H} {t:TypeId} {x y:Operand} {a k n:Nat}
theorem MF (I:n<3000): binV P h .quo t x y (.int .i64 (n:Int)) (.int .i64 3000)=some (.int .i64 0):=by
 have:=wW (P:=P) (h:=h) (t:=t) (x:=x) (y:=y) (a:=n) (b:=3000) (by decide) (by omega)
 rw [show n/3000=0 by omega] at this; exact this
theorem RM (I:n<3000): binV P h .rem t x y (.int .i64 (n:Int)) (.int .i64 3000)=some (.int .i64 (n:Int)):=by
 have:=HS (P:=P) (h:=h) (t:=t) (x:=x) (y:=y) (a:=n) (b:=3000) (by decide)
 rw [show n%3000=n by omega] at this; exact this
theorem KD : binV P h .eql t x y (.int .u8 ((Nat.land (a/2^k) 1:Nat):Int)) (.int .u8 1)=some (.bool (a.testBit k)):=by
 simp only [binV,ikBeq,af,intV,lM]
 rw [RK]
 cases h:a.testBit k <;> rfl
theorem Ie {J:Array TypeId}{k:IntKind}{a b:Int}: builtinV P h .min J [.int k a,.int k b]=some (.int k (min a b),h):=by
 simp only [builtinV,foldV,xF,cY,af,ig]
 by_cases I:b<a
 ·simp only [I,wj,af]
  rw [show min a b=b by omega]
 ·simp only [I,mF,ay]
  rw [show min a b=a by omega]
end
section
variable {told:cN} {h:H} {S:List aq} {X Y:aq} {N B n:Nat} {v x y rv:V} {b l c R M:List Nat} {kd link extra kW:Nat} {cs:List (List Nat)} {A:aF→aq} {pg:aF→Int→List Nat} {ε:aF}
structure iw (n:Nat)(R M:List Nat)(p:Int→List Nat): Prop where
 head:∃ex,dI (p 0) 201 n ex [fL,R]
 rl:R.length=64
 marks:∃kd lk ex,dI (p 1) kd lk ex [M]
 ml:M.length=375
 n1:2≤n
 n2:n≤2999
 own:∀j,j<2→bt M j=true
 hi:∀j,n≤j→bt M j=false
theorem KE (J:W told)(hR:mT told N B rv A pg)(fq:EI N B ε)(hN:2≤N)(hp:iw n R M (pg ε)){lo:Nat}(qS:lo<n)(h0:bt M lo=false)(h1:∀j,j<lo→bt M j=true)(s:Sat h (A ε::S)):
  Call ⟨Tryz.prog,told⟩ 51 [rv] h fun v h'=>∃ε',v=.bh [.int .i64 (lo:Int),.int .i64 0]∧EI N B ε'∧Sm N ε ε'∧Sat h' (A ε'::S):=by
 obtain ⟨ex,qu⟩:=hp.head
 obtain ⟨kd,lk,kW,I⟩:=hp.marks
 have hM:=hp.ml
 have oZ:=hp.n2
 refine Call.of_wp (J.free _ rfl) Tryz.func51 rfl rfl (zK 8 rfl (zc rfl (wX J hR fq (by omega) qu hp.rl s) ?_))
 rintro v h ⟨u,qV,rfl,nG,iM,s⟩
 refine zk 12 rfl (zh rfl (ag rfl rfl aJ) (rfl) (zk 7 rfl (zc rfl (vJ J (by omega) (by omega)) ?_)))
 rintro v h' ⟨rfl,rfl⟩
 refine zb rfl (by exact jF (aA (by omega) (by omega))) ?_
 refine zk 2 rfl (WP.block (WP.loop (zg rfl (zt rfl (ag rfl rfl aP) (by decide) ?_))))
 have I:dI (pg qV 1) kd lk kW [M]:=by rw [hR.same iM]; exact I
 refine zk 5 rfl (WP.block (zK 9 rfl (zc rfl (ua J hR nG hN I hM (s.ae [1])) ?_)))
 rintro v h ⟨w2,u2,kP,rfl,mc,kA,s⟩
 refine zk 12 rfl (zh rfl (ag rfl rfl aJ) (rfl) (zk 6 rfl (zo rfl (aM rfl rfl rfl (aW aG (s.aH (k:=0) rfl (aX _ _)))) ?_)))
 rw [hM]
 refine zk 2 rfl (WP.block ?_)
 refine ME J (s.buf (k:=0) rfl).view hM (by omega) qS h0 h1 (lo/8) 0 _ _ (by omega) ⟨rfl,rfl,rfl,rfl,rfl,aa⟩ (fun E' l2 l3=>⟨aa,_,Mn l2 l3,kP,rfl,mc,iM.trans kA,?_⟩)
 exact ((s.ae [2]).del 3 |>.del 2).del 1
theorem Fh (hT:W told)(hR:mT told N B rv A pg)(fq:EI N B ε)(hN:2≤N)(I:iw n R M (pg ε))(h1:∀j,j<n→bt M j=true)(s:Sat h (A ε::S)):
  Call ⟨Tryz.prog,told⟩ 51 [rv] h fun v h'=>∃ε',v=.bh [.int .i64 (-1),.int .i64 0]∧EI N B ε'∧Sm N ε ε'∧Sat h' (A ε'::S):=by
 obtain ⟨ex,qu⟩:=I.head
 obtain ⟨kd,lk,kW,J⟩:=I.marks
 have hM:=I.ml
 have oZ:=I.n2
 have zY:=I.n1
 refine Call.of_wp (hT.free _ rfl) Tryz.func51 rfl rfl (zK 8 rfl (zc rfl (wX hT hR fq (by omega) qu I.rl s) ?_))
 rintro v h ⟨u,qV,rfl,nG,iM,s⟩
 refine zk 12 rfl (zh rfl (ag rfl rfl aJ) (rfl) (zk 7 rfl (zc rfl (vJ hT (by omega) (by omega)) ?_)))
 rintro v h' ⟨rfl,rfl⟩
 refine zb rfl (by exact jF (aA (by omega) (by omega))) ?_
 refine zk 2 rfl (WP.block (WP.loop (zg rfl (zt rfl (ag rfl rfl aP) (by decide) ?_))))
 have J:dI (pg qV 1) kd lk kW [M]:=by rw [hR.same iM]; exact J
 refine zk 5 rfl (WP.block (zK 9 rfl (zc rfl (ua hT hR nG hN J hM (s.ae [1])) ?_)))
 rintro v h ⟨w2,u2,kP,rfl,mc,kA,s⟩
 refine zk 12 rfl (zh rfl (ag rfl rfl aJ) (rfl) (zk 6 rfl (zo rfl (aM rfl rfl rfl (aW aG (s.aH (k:=0) rfl (aX _ _)))) ?_)))
 rw [hM]
 refine zk 2 rfl (WP.block ?_)
 refine KC hT (s.buf (k:=0) rfl).view hM (by omega) h1 I.hi 375 0 _ _ (by omega) ⟨rfl,rfl,rfl,rfl,rfl,rfl,rfl,aa⟩ (fun E' hE => ?_)
 refine WP.has hE (zr rfl (zb rfl (by exact bk (aA (by omega) (by omega))) ?_))
 refine zm rfl (zv (WP.loop (zg rfl (zh rfl (ag rfl rfl aP) (by decide) ?_))))
 exact zk 3 rfl (WP.exit (zK 5 rfl (WP.ret ⟨aa,_,rfl,kP,rfl,mc,iM.trans kA,((s.ae [2]).del 3 |>.del 2).del 1⟩)))
end
def SA (a p q r:Nat)(op:V)(data:List Nat)(bz:Nat)(ε:aF): aq:=star [ej a p q r op data bz,dL r p q ε.1,b7 q p ε.2.1,bx p ε.2.2]
def GA (g a p q r:Nat)(data:List Nat)(bz:Nat)(now:List (Int×List Nat))(ε:aF): aq:=star [fK g a now false,ej a p q r (.ptr g 0) data bz,dL r p q ε.1,b7 q p ε.2.1,bx p ε.2.2]
def dW (now:List (Int×List Nat))(ε:aF)(n:Int): List Nat:=match lookL n now with
 | some b=>b
 | none=>pgA ε n
theorem jd {N:Nat}{now:List (Int×List Nat)}{ε ε':aF}(h:Sm N ε ε'): dW now ε'=dW now ε:=by
 funext n
 unfold dW
 rw [h.1]
theorem gS {now:List (Int×List Nat)}{ε:aF}{i n:Int}{b:List Nat}: dW (dg i b now) ε n=if i=n then b else dW now ε n:=by
 unfold dW
 rw [oF]
 by_cases h:i=n
 ·rw [au h,au h]
 ·rw [ai h,ai h]
section
variable {told:cN} {h:H} {S:List aq} {X Y:aq} {N B n g a p q r bz:Nat} {v x y rv op:V} {b l c R M data:List Nat} {kd link extra kW:Nat} {cs:List (List Nat)} {ε:aF} {now:List (Int×List Nat)}
theorem Vl (hT:W told)(hB:B≤2000): mT told N B (.iface 24 (.ptr a 0)) (SA a p q r op data bz) pgA:=by
 refine ⟨⟨_,_,_,rfl,Pb,fun {h S ε n} I h0 h1 s => ?_⟩,fun hs=>hs.1⟩
 have vA:=I.cy
 have Ua:=qO (ε:=ε)
 have s:=c6.1 s
 refine (xW hT (n:=n) s I.ok.ok I.ok.pins (by omega)).mono ?_
 rintro v h ⟨e,b,ε',J,hs⟩
 obtain ⟨k1,k2,k3,k4⟩:=J.ec I.ec I.ok.pins
 obtain ⟨rfl,rfl⟩:=k3 h0 h1
 rcases hs with ⟨he,_⟩ | ⟨_,u,rfl,s⟩
 ·exact absurd rfl he
 ·have s2:Sat h (SA a p q r op data bz ε'::aR u (pgA ε n)::S):=c6.2 (s.ae [1,1,1,1,0])
  exact ⟨u,ε',rfl,I.rd J,⟨k2,fun P hP hv=>hP.rd J I.ec hv⟩,s2.ae [1]⟩
theorem vK (hT:W told)(hB:B≤2000)(hw:NW N now): mT told N B (.iface 26 (.ptr g 0)) (GA g a p q r data bz now) (dW now):=by
 refine ⟨⟨_,_,_,rfl,Gi,fun {h S ε n} I h0 h1 s => ?_⟩,fun hs m=>by rw [jd hs]⟩
 have vA:=I.cy
 have Ua:=qO (ε:=ε)
 have s:=c6.1 s
 refine (DO hT (n:=n) s I.ok (by omega) (fun e he=>gQ (hw.good e he).1)).mono ?_
 rintro v h ⟨e,b,ε',J,hs⟩
 obtain ⟨k1,k2,k3,k4⟩:=J.ec I.ec I.ok.pins
 obtain ⟨rfl,hb⟩:=k3 h0 h1
 have hb:b=dW now ε n:=hb
 subst hb
 rcases hs with ⟨he,_⟩ | ⟨_,u,rfl,s⟩
 ·exact absurd rfl he
 ·have s2:Sat h (GA g a p q r data bz now ε'::aR u (dW now ε n)::S):=c6.2 (s.ae [1,1,1,1,1,0])
  exact ⟨u,ε',rfl,I.vD J,⟨k2,fun P hP hv=>hP.vD J I.ec hv⟩,s2.ae [1]⟩
theorem wZ (hT:W told)(hB:B≤2000)(I:EI N B ε)(hw:NW N now){i:Nat}(hi:i<N)(s:Sat h (GA g a p q r data bz now ε::X::S))(hX:cO X (cR x b))(J:dI b kd link extra cs):
  Call ⟨Tryz.prog,told⟩ 49 [.ptr g 0,.int .i64 (i:Int),x] h fun v h'=>∃ε',v=.int .i64 0∧EI N B ε'∧Sm N ε ε'∧NW N (dg (i:Int) b now)∧Sat h' (GA g a p q r data bz (dg (i:Int) b now) ε'::X::S):=by
 have vA:=I.cy
 have Ua:=qO (ε:=ε)
 have hlen:=J.len
 have hb:=(s.aH (k:=1) rfl hX).1
 have s:=c6.1 s
 refine (J8 hT (n:=(i:Int)) s hX (by omega) I.ok (by omega) (fun e he=>gQ (hw.good e he).1)).mono ?_
 rintro v h ⟨e,b6,ε',hr,rfl,s⟩
 obtain ⟨k1,k2,k3,k4,k5⟩:=hr.ec I.ec I.ok.pins
 obtain ⟨rfl,rfl⟩:=k5 (by omega) (by omega) J.good
 exact ⟨ε',rfl,I.Kf hr,⟨k2,fun P hP hv=>hP.Kf hr I.ec hv⟩,hw.put (by omega) (by omega) J.good hb,c6.2 s⟩
theorem iw.put {P:Int→List Nat}(h:iw N R M P){I:List Nat}{J:Int→List Nat}(h0:J 0=P 0)(h1:∃kd lk ex,dI (J 1) kd lk ex [I])(hl:I.length=375)(ho:∀j,j<2→bt I j=true)(hh:∀j,N≤j→bt I j=false): iw N R I J :=
 ⟨by rw [h0]; exact h.head,h.rl,h1,hl,h.n1,h.n2,ho,hh⟩
theorem Pq (hT:W told)(hB:B≤2000)(fq:EI N B ε)(hw:NW N now)(hp:iw N R M (dW now ε)){i:Nat}(hi:i<N)(gi:2≤i){bl:Bool}(s:Sat h (GA g a p q r data bz now ε::S)):
  Call ⟨Tryz.prog,told⟩ 52 [.ptr g 0,.int .i64 (i:Int),.bool bl] h fun v h'=>∃ε' b6,v=.int .i64 0∧EI N B ε'∧Sm N ε ε'∧NW N b6∧iw N R (if bl then An M i else Ky M i) (dW b6 ε')∧(∀m,m≠1→dW b6 ε' m=dW now ε m) ∧
   Sat h' (GA g a p q r data bz b6 ε'::S):=by
 obtain ⟨kd,lk,kW,D9⟩:=hp.marks
 have hM:=hp.ml
 have zY:=hp.n1
 have oZ:=hp.n2
 have Ub:i/8<M.length:=by omega
 have hb:M[i/8]?=some (M[i/8]'(by omega)):=aN _
 have oI:M.getD (i/8) 0=M[i/8]'(by omega):=by rw [er,hb]; rfl
 generalize (M[i/8]'(by omega))=z at hb oI
 -- what is so behind it
 have fin:∀ {ε':aF} {b':List Nat} {M':List Nat},Sm N ε ε'→dI b' kd lk kW [M']→M'.length=375→(∀j,bt M' j=if j=i then bl else bt M j)→iw N R M' (dW (dg 1 b' now) ε')∧(∀m,m≠1→dW (dg 1 b' now) ε' m=dW now ε m):=fun {ε' b' M'} hs I hl vL =>
  ⟨hp.put (by rw [gS,ai (by decide),jd hs]) ⟨_,_,_,by rw [gS,au rfl]; exact I⟩ hl (fun j hj=>by rw [vL,ai (by omega)]; exact hp.own j hj) (fun j hj=>by rw [vL,ai (by omega)]; exact hp.hi j hj),
   fun m hm=>by rw [gS,ai (by omega),jd hs]⟩
 refine Call.of_wp (hT.free _ rfl) Tryz.func52 rfl rfl (zK 7 rfl (zo rfl (pF rfl (m_ j8 rfl)) (zm rfl (zo rfl (ag (r:=.int .i64 0) rfl rfl (MF (by omega))) ?_))))
 refine zc rfl (ua hT (vK hT hB hw) fq (by omega) D9 hM s) ?_
 rintro v h ⟨w2,u2,kP,rfl,mc,kA,s⟩
 have hv:=(s.buf (k:=0) rfl).view
 have hz:z<256:=hv.1 z (aY hb)
 have Xn:2^(i%8)<256:=si (a:=2) (n:=8) (by decide) (by omega)
 obtain ⟨id,off,e1,e2⟩:=dN hv hb
 refine zk 12 rfl (zh rfl (ag rfl rfl aJ) (rfl) (zk 6 rfl (zb rfl (RM (by omega)) ?_)))
 refine zb rfl (HS (a:=i) (b:=8) (by decide)) ?_
 refine zb rfl (RI (k:=i%8) (by omega)) ?_
 refine zk 6 rfl (zb rfl (RM (by omega)) ?_)
 refine zb rfl (wW (a:=i) (b:=8) (by decide) (by omega)) ?_
 refine zk 6 rfl ?_
 cases bl with
 | true =>
  obtain ⟨KF,J,e3,h4,e4,s2⟩:=iN s (i:=i/8) (b:=Nat.lor z (2^(i%8))) (by omega) (Kz hz (by omega))
  have ee:V.ptr id off=V.ptr KF J:=by rw [e1] at e3; exact bI e3
  rw [←ee] at e4
  refine zK 4 rfl (zo rfl (cx (r:=.ptr id off) rfl rfl e1) (zl rfl e2 (zm rfl (zb rfl (Tf hz (by omega)) ?_))))
  refine zo rfl (cx (r:=.ptr id off) rfl rfl e1) (zS rfl (⟨h4,e4,s2⟩) ?_)
  rintro h s
  rw [←oI] at s
  have s:Sat h (aR u2 (An M i)::_):=s
  refine zk 6 rfl (zc rfl (Gv (i:=0) (c:=M) hT (s.ae [1,0]) (aX _ _) (aX _ _) D9 rfl Gx) ?_)
  rintro v h ⟨w3,b',rfl,I,s⟩
  refine zk 9 rfl (zh rfl (ag rfl rfl aJ) (rfl) (zk 7 rfl (zo rfl (ag (r:=.int .i64 0) rfl rfl (MF (by omega))) ?_)))
  refine zb rfl (by exact bk (aA (by omega) (by omega))) ?_
  refine zm rfl (zc rfl (wZ (i:=1) hT hB mc hw (by omega) (s.ae [3,0]) (aX _ _) I) ?_)
  rintro v h ⟨yf,rfl,th,qT,xE,s⟩
  refine zk 2 rfl (WP.ret ⟨aa,_,rfl,?_⟩)
  obtain ⟨f1,f2⟩:=fin (kA.trans qT) I (by rw [Gx]; exact hM) (fun j=>NU Ub)
  exact ⟨yf,_,rfl,th,kA.trans qT,xE,f1,f2,((s.ae [0]).del 3 |>.del 2).del 1⟩
 | false =>
  obtain ⟨KF,J,e3,h4,e4,s2⟩:=iN s (i:=i/8) (b:=Nat.land z (255-2^(i%8))) (by omega) (By hz)
  have ee:V.ptr id off=V.ptr KF J:=by rw [e1] at e3; exact bI e3
  rw [←ee] at e4
  refine zK 4 rfl (zo rfl (cx (r:=.ptr id off) rfl rfl e1) (zl rfl e2 (zm rfl (zb rfl (KA hz Xn) (zo rfl (cx (r:=.ptr id off) rfl rfl e1) (zS rfl (⟨h4,e4,s2⟩) ?_))))))
  rintro h s
  rw [←oI] at s
  have s:Sat h (aR u2 (Ky M i)::_):=s
  refine zk 6 rfl (zc rfl (Gv (i:=0) (c:=M) hT (s.ae [1,0]) (aX _ _) (aX _ _) D9 rfl Gy) ?_)
  rintro v h ⟨w3,b',rfl,I,s⟩
  refine zk 9 rfl (zh rfl (ag rfl rfl aJ) (rfl) (zk 7 rfl (zo rfl (ag (r:=.int .i64 0) rfl rfl (MF (by omega))) ?_)))
  refine zb rfl (by exact bk (aA (by omega) (by omega))) ?_
  refine zm rfl (zc rfl (wZ (i:=1) hT hB mc hw (by omega) (s.ae [3,0]) (aX _ _) I) ?_)
  rintro v h ⟨yf,rfl,th,qT,xE,s⟩
  refine zk 2 rfl (WP.ret ⟨aa,_,rfl,?_⟩)
  obtain ⟨f1,f2⟩:=fin (kA.trans qT) I (by rw [Gy]; exact hM) (fun j=>Te Ub)
  exact ⟨yf,_,rfl,th,kA.trans qT,xE,f1,f2,((s.ae [0]).del 3 |>.del 2).del 1⟩
theorem MG (hT:W told)(hB:B≤2000)(fq:EI N B ε)(hw:NW N now)(hp:iw N R M (dW now ε)){lo:Nat}(qS:lo<N)(h0:bt M lo=false)(h1:∀j,j<lo→bt M j=true)(s:Sat h (GA g a p q r data bz now ε::S)):
  Call ⟨Tryz.prog,told⟩ 22 [.ptr g 0] h fun v h'=>∃ε' b6,v=.bh [.int .i64 (lo:Int),.int .i64 0]∧EI N B ε'∧Sm N ε ε'∧NW N b6∧iw N R (An M lo) (dW b6 ε')∧(∀m,m≠1→m≠(lo:Int)→dW b6 ε' m=dW now ε m)∧dI (dW b6 ε' lo) 0 0 0 [] ∧
   Sat h' (GA g a p q r data bz b6 ε'::S):=by
 have zY:=hp.n1
 have oZ:=hp.n2
 have h2:2≤lo:=by
  rcases iq lo 2 with hq | hq
  ·rw [hp.own lo hq] at h0; cases h0
  ·exact hq
 refine Call.of_wp (hT.free _ rfl) Tryz.func22 rfl rfl (zK 8 rfl (zo rfl (pF rfl (m_ j8 rfl)) (zc rfl (KE hT (vK hT hB hw) fq (by omega) hp qS h0 h1 s) ?_)))
 rintro v h ⟨qV,rfl,nG,iM,s⟩
 have D9:iw N R M (dW now qV):=by rw [jd iM]; exact hp
 refine zk 7 rfl (WP.block (zK 3 rfl (zh rfl (ag rfl rfl aJ) (rfl) (zk 6 rfl (zh rfl (ag rfl rfl aP) (by simp) ?_)))))
 refine za rfl (zv (zj rfl (WP.skip (zw (zg rfl (zk 2 rfl (zc rfl (Pq (bl:=true) hT hB nG hw D9 qS h2 s) ?_)))))))
 rintro v h ⟨kP,yg,rfl,mc,kA,Ap,I,nE,s⟩
 refine za rfl (zv (zg rfl (zm rfl (zh rfl (ag rfl rfl aJ) (rfl) (zv (zj rfl (WP.skip (zg rfl (zc rfl (yb (kd:=0) hT s (by decide)) ?_)))))))))
 rintro v h ⟨u,b',rfl,mH,s⟩
 refine zk 12 rfl (zc rfl (wZ (i:=lo) hT hB mc Ap qS (s.ae [1,0]) (aX _ _) mH) ?_)
 rintro v h ⟨yf,rfl,th,J,xE,s⟩
 refine zk 5 rfl (zh rfl (ag rfl rfl aJ) (rfl) (zk 9 rfl (WP.ret ⟨aa,_,rfl,?_⟩)))
 have I:iw N R (An M lo) (dW yg kP):=I
 refine ⟨yf,_,rfl,th,(iM.trans kA).trans J,xE,I.put (by rw [gS,ai (by omega),jd J]) ?_ I.ml I.own I.hi,fun m zI Nd=>by rw [gS,ai (by omega),jd J,nE m zI,jd iM],by rw [gS,au rfl]; exact mH,s.del 1⟩
 rw [gS,ai (by omega),jd J]
 exact I.marks
theorem Ig (J:W told)(hB:B≤2000)(fq:EI N B ε)(hw:NW N now)(hp:iw N R M (dW now ε))(h1:∀j,j<N→bt M j=true)(s:Sat h (GA g a p q r data bz now ε::S)):
  Call ⟨Tryz.prog,told⟩ 22 [.ptr g 0] h fun v h'=>∃ε',v=.bh [.int .i64 0,.int .i64 7]∧EI N B ε'∧Sm N ε ε'∧Sat h' (GA g a p q r data bz now ε'::S):=by
 have zY:=hp.n1
 refine Call.of_wp (J.free _ rfl) Tryz.func22 rfl rfl (zK 8 rfl (zo rfl (pF rfl (m_ j8 rfl)) (zc rfl (Fh J (vK J hB hw) fq (by omega) hp h1 s) ?_)))
 rintro v h ⟨qV,rfl,I,iM,s⟩
 refine zk 7 rfl (WP.block (zK 3 rfl (zh rfl (ag rfl rfl aJ) (rfl) (zk 6 rfl (zt rfl (ag rfl rfl aP) (by decide) ?_)))))
 exact zk 8 rfl (WP.ret ⟨aa,_,rfl,qV,rfl,I,iM,s⟩)
end
theorem Ih : gv (List.replicate 512 0)=0:=by rw [gv,au rfl]
def fresh (n m f:Nat): aF:=(Pl.fresh f,(Lg.fresh,Dk.fresh n m))
theorem D_ {n m:Nat}(k:Int): (Dk.fresh n m).at k=List.replicate 512 0:=by
 rw [Dk.at,show lookL k (Dk.fresh n m).now=none from rfl]
 simp only [Dk.fresh]
 cases I:(List.replicate n (none:Option (List Nat)))[k.toNat]? with
 | none=>rfl
 | some o =>
  have:=r_ (aY I)
  subst this
  rfl
theorem B8 {n m f:Nat}(k:Int): pgA (fresh n m f) k=List.replicate 512 0:=by
 rw [lu (by rfl)]
 exact D_ k
theorem Ea {f i:Nat}{x:Fm}(h:(Pl.fresh f).ah[i]?=some x): x=dH:=r_ (aY h)
theorem EI.fresh {n m f:Nat}(hn:n≤65536)(hm:m≤16777216)(hf:1≤f)(Xo:f≤1024): EI n 1 (fresh n m f):=by
 have J:∀x∈(Pl.fresh f).ah,x=dH:=fun x I=>r_ I
 have hlen:(Pl.fresh f).ah.length=f:=eR
 refine ⟨⟨⟨⟨(show 0<(Pl.fresh f).ah.length by rw [hlen]; omega),(show (Pl.fresh f).ah.length≤1024 by rw [hlen]; exact Xo),fun e he=>(by cases he),fun x I=>by rw [J x I]; decide,fun x I=>by rw [J x I]; decide⟩,Lg.DV,?_⟩,fun x I=>by rw [J x I]; rfl,⟨pU,fun k i hk=>(by cases hk)⟩⟩,⟨?_,pU,fun k i hk=>(by cases hk),fun i x I=>.inl (by rw [Ea I]; decide),fun k hk=>(by cases hk),pU⟩,⟨rfl,aD _,(show (1:Nat)+0≤1*1048600 by decide)⟩,?_⟩
 ·exact ⟨(show (-1:Int)<4294967296 by decide),dR _,hm,fun e he=>(by cases he),fun i b hb=>(by have h1:some b=none:=r_ (aY hb); cases h1),aD _,(show (List.replicate n (none:Option (List Nat))).length≤65536 by rw [eR]; exact hn)⟩
 ·exact ⟨rfl,(show (-1:Int)<0 by decide),eR,fun k hk=>(by cases hk),pU,fun k h0 h1=>by show gv ((Dk.fresh n m).at k)=0; rw [D_]; exact Ih⟩
 ·have e:ga (Pl.fresh f).ah=0:=by
   rw [ga,List.count_eq_zero]
   intro hh
   obtain ⟨x,I,hc⟩:=List.mem_map.1 hh
   rw [J x I] at hc
   cases hc
  show ([]:List Wr).length+ga (Pl.fresh f).ah≤_
  rw [e]; decide
theorem GB {n:Nat}(h:n<128): (digits 9 n).length=1:=by
 show (if n<128 then [n] else (n%128+128)::digits 8 (n/128)).length=1
 rw [au h]; rfl
theorem w5 {n:Nat}(h:n<16384): (digits 9 n).length≤2:=by
 show (if n<128 then [n] else (n%128+128)::(if n/128<128 then [n/128] else (n/128%128+128)::digits 7 (n/128/128))).length≤2
 split
 ·exact pY 1
 ·rw [au (by omega)]; exact aD 2
theorem yh {c:dn}(I:c.bf.toNat<16384)(J:c.pos.toNat<16384)(h3:c.b.length<16384): (k9 c).length≤7+c.b.length:=by
 have e1:=w5 I
 have e2:=w5 J
 have e3:=w5 h3
 simp only [k9,bD,aO,bB]
 omega
theorem Pr {pg:Int}{c7 now:List Nat}{i:Nat}{l:List dn}(J:uu pg c7 now i l)(hn:now.length=512)(hp:pg.toNat<16384): ∀j,(∀k,i≤k→k<j→c7[k]?=now[k]?)→j≤520→(l.flatMap k9).length≤520-max i j:=by
 induction J with
 | done i h=>intro j _ _; simp
 | skip i l h he J ih =>
  intro j hj I
  have:=ih j (fun k h1 h2=>hj k (by omega) h2) I
  omega
 | take i e l h1 h2 h3 h4 J ih =>
  intro j hj I
  have oY:j≤i:=nL fun a_=>h3 (hj i (aD _) a_)
  have h5:=ih (e+8) h4 (by omega)
  have hl:((now.take e).drop i).length=e-i:=by rw [List.length_drop,e_]; omega
  have h6:=yh (c:=⟨pg,i,false,(now.take e).drop i⟩) hp (by show (i:Int).toNat<_; omega) (by show ((now.take e).drop i).length<_; omega)
  rw [sB,bD]
  simp only [hl] at h6
  omega
theorem Ps {pg:Int}{c7 now:List Nat}{c:List dn}(hr:J_ pg c7 now c)(hn:now.length=512)(I:pg.toNat<16384): (c.flatMap k9).length≤520:=by
 obtain ⟨l,hl,rfl⟩:=hr
 have:=Pr hl hn I 0 (fun k _ h=>absurd h (by omega)) (by omega)
 by_cases J:l=[]
 ·rw [au J]
  have h6:=yh (c:=⟨pg,0,false,[]⟩) I (show (0:Int).toNat<16384 by decide) (show ([]:List Nat).length<16384 by decide)
  simp only [sB,List.flatMap_nil,fD]
  simp only [bB] at h6
  omega
 ·rw [ai J]; omega
theorem jA.GC {N:Nat}{now:List (Int×List Nat)}{l:List Int}{ε ε':aF}{e:Int}{cs:List dn}(hr:jA now l ε e cs ε')(hn:NW N now): (∀n∈l,n.toNat<16384)→(cs.flatMap k9).length≤520*l.length:=by
 induction hr with
 | nil ε=>intro _; simp
 | err n l ε e b ε' hr he=>intro _; simp
 | part n l ε c7 b ε' c e cs I hr hb ur hc jf ht ih =>
  intro J
  have h1:=Ps hc (gQ (hn.look hb).1) (J n cz)
  have h2:=ih fun m hm=>J m (cj _ hm)
  rw [List.flatMap_append,bD,aO]
  omega
 | whole n l ε c7 b ε' e cs I hr hb ur ht ih =>
  intro J
  have mH:=gQ (hn.look hb).1
  have h1:=yh (c:=⟨n,0,true,b⟩) (J n cz) (show (0:Int).toNat<16384 by decide) (by show b.length<_; omega)
  have h2:=ih fun m hm=>J m (cj _ hm)
  rw [sB,bD,aO]
  simp only at h1
  omega
theorem Eb {N:Nat}{now:List (Int×List Nat)}{ε ε':aF}{e:Int}{cs:List dn}{kd:Int}{tx:Nat}(hr:jA now (ei now) ε e cs ε')(I:NW N now)(hN:N≤16384)(ht:tx<16384): (eE kd tx 0 0 [] cs).length≤520*N+20:=by
 have h2:=w5 ht
 have h1:=GB (n:=0) (by decide)
 have h4:=GB (n:=([]:List Nat).length) (by decide)
 have h5:=Fg cs.length
 have h6:=hr.GC I fun n hm=>by have:=I.keys n (oL.1 hm); omega
 have J:(ei now).length≤N:=by
  have:=I.len
  rw [ei,(fA _).length_eq,ew]; exact this
 have J:=Nat.mul_le_mul_left 520 J
 simp only [eE,bD,aO,bB] at h4 ⊢
 omega
theorem uc (K M:Nat): kr fun x=>x.2.log.length=K∧x.2.room=M:=by
 refine ⟨fun x n h => ?_,fun x n b h => ?_⟩
 ·unfold bR Dk.f_
  split
  ·exact h
  ·split
   ·exact h
   ·split
    ·exact h
    ·split <;> first | exact h | exact h
 ·unfold Dk.cS
  split
  ·exact h
  ·split
   ·exact h
   ·split <;> exact h
def uy (K M:Nat)(ε:aF): Prop:=ε.2.2.log.length≤K∧ε.2.2.room=M
theorem uy.sm {N K M:Nat}{ε ε':aF}(h:uy K M ε)(hs:Sm N ε ε'): uy K M ε':=by
 have:=hs.2 _ ((uc ε.2.2.log.length ε.2.2.room).Vi N) ⟨rfl,rfl⟩
 have this:ε'.2.2.log.length=ε.2.2.log.length∧ε'.2.2.room=ε.2.2.room:=this
 exact ⟨by rw [this.1]; exact h.1,by rw [this.2]; exact h.2⟩
theorem vC.fits {N B K M kd tx aQ:Nat}{now:List (Int×List Nat)}{ε ε':aF}{e:Int}{cl:Bool}(hr:vC ε now kd tx 0 0 [] 0 aQ e cl ε')(J:EI N B ε)(hB:B≤1000)(hw:NW N now)(hN:N≤1024)(h1:1≤kd)(h2:kd≤7)(J1:tx<16384)(hd:uy K M ε)(hf:K+520*N+28≤M):
  cl=true∧e=0∧uy (K+520*N+28) M ε':=by
 have I:∀n∈ei now,0≤n∧n<N:=fun n hq=>hw.keys n (oL.1 hq)
 obtain ⟨hK,hM⟩:=hd
 have Tg:=J.done hB hw (by omega) (by omega) hr
 cases hr with
 | arg hh=>omega
 | dead _ _ _ hd=>rw [J.ec.dk.alive] at hd; cases hd
 | oK e c ε' _ _ _ _ hc Gk=>exact absurd (hc.ec J.ec J.ok I).2.2 Gk
 | app c kP _ _ _ _ hc Gk =>
  exfalso
  have oB:=Eb (kd:=kd) hc hw (by omega) J1
  have hP:=(uc ε.2.2.log.length ε.2.2.room).ch hc ⟨rfl,rfl⟩
  obtain ⟨c1,c2,c3⟩:=hc.ec J.ec J.ok I
  have oI:dZ kd c=true:=by
   refine DS ⟨by omega,by omega⟩ (hc.fit (fun x hx=>gQ (hw.good x hx).1) fun n hq => ?_)
   have:=I n hq
   omega
  rcases lR kP.2 kd tx 0 0 [] c with ⟨e,he,oW,hq⟩ | ⟨_,Kj,hq⟩ | ⟨_,hb,uP,fg,Kj,hq⟩
  ·rcases oW with ⟨rfl,hg⟩ | ⟨_,hb⟩ | ⟨rfl,uP⟩ | ⟨rfl,hb⟩
   ·rw [oI] at hg; cases hg
   ·omega
   ·rw [c1.dk.alive] at uP; cases uP
   ·rw [dz,tT,hP.1,hP.2] at hb; omega
  ·have:=c1.dk.bP; omega
  ·rw [hq] at Gk; exact absurd rfl Gk
 | put c kP e yf _ _ _ _ hc ha hp =>
  rcases Tg with ⟨jf,_⟩ | ⟨_,he,_⟩
  ·cases jf
  ·refine ⟨rfl,he,?_⟩
   have oB:=Eb (kd:=kd) hc hw (by omega) J1
   have hP:=(uc ε.2.2.log.length ε.2.2.room).ch hc ⟨rfl,rfl⟩
   rcases lR kP.2 kd tx 0 0 [] c with ⟨e,he,oW,hq⟩ | ⟨_,Kj,hq⟩ | ⟨_,hb,uP,fg,Kj,hq⟩
   ·rw [hq] at ha; exact absurd ha he
   ·rw [hq] at ha; cases ha
   ·rw [hq] at hp
    have gj:=(uc (ε.2.2.log.length+(dz kP.2.1 kd tx 0 0 [] c).length) ε.2.2.room).pt hp ⟨by show (kP.2.2.log++_).length=_; rw [bD,hP.1],hP.2⟩
    have h3:(dz kP.2.1 kd tx 0 0 [] c).length≤520*N+28:=by rw [dz,tT]; omega
    exact ⟨by rw [gj.1]; omega,by rw [gj.2]; exact hM⟩
end Go.Proofs.YtefepnnfphdkpaaGreat.Am
