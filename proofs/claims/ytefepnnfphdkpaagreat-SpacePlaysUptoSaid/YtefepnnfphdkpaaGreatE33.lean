/- SpacePlays: a part of its proof; conditions: its statement's. -/
import Derived.Test.YtefepnnfphdkpaaGreatE32
import Derived.Test.YtefepnnfphdkpaaGreatE30
namespace Go.Proofs.YtefepnnfphdkpaaGreat.Am
open Go
def onesL : List Nat→Nat
 | []=>0
 | x::l=>rE x+onesL l
theorem B8 {M:List Nat}{k x:Nat}(I:M[k]?=some x): onesL (M.take (k+1))=onesL (M.take k)+rE x:=by
 induction M generalizing k with
 | nil=>simp at I
 | cons y M J =>
  cases k with
  | zero=>simp at I; subst I; simp [onesL]
  | succ k =>
   have:=J (k:=k) (by simpa using I)
   simp only [rI,onesL,this]; omega
theorem Gx (x:Nat): rE x≤8:=by unfold rE; exact cu (yG _ _) (by simp)
theorem Pp : ∀(M:List Nat),onesL M≤8*M.length:=by
 intro M
 induction M with
 | nil=>exact aD _
 | cons x M I=>have:=Gx x; simp only [onesL,aH]; omega
section
variable {P:Program} {h:H} {t:TypeId} {x y:Operand} {a k n:Nat}
theorem Ks (I:n<3000): binV P h .quo t x y (.int .i64 (n:Int)) (.int .i64 3000)=some (.int .i64 0):=by
 have:=z6 (P:=P) (h:=h) (t:=t) (x:=x) (y:=y) (a:=n) (b:=3000) (by decide) (by omega)
 rw [show n/3000=0 by omega] at this; exact this
theorem Kt (I:n<3000): binV P h .rem t x y (.int .i64 (n:Int)) (.int .i64 3000)=some (.int .i64 (n:Int)):=by
 have:=FU (P:=P) (h:=h) (t:=t) (x:=x) (y:=y) (a:=n) (b:=3000) (by decide)
 rw [show n%3000=n by omega] at this; exact this
theorem Gy : binV P h .eql t x y (.int .u8 ((Nat.land (a/2^k) 1:Nat):Int)) (.int .u8 1)=some (.bool (a.testBit k)):=by
 simp only [binV,ikBeq,ag,intV,lR]
 rw [Va]
 cases h:a.testBit k <;> rfl
theorem YJ {J:Array TypeId}{k:IntKind}{a b:Int}: builtinV P h .min J [.int k a,.int k b]=some (.int k (min a b),h):=by
 simp only [builtinV,foldV,wY,dg,ag,iI]
 by_cases I:b<a
 ·simp only [I,uX,ag]
  rw [show min a b=b by omega]
 ·simp only [I,pP,ay]
  rw [show min a b=a by omega]
end
section
variable {told:cZ} {h:H} {S:List au} {X Y:au} {N B n:Nat} {v x y rv:V} {b l c R M:List Nat} {kd link extra ny:Nat} {cs:List (List Nat)} {A:aE→au} {pg:aE→Int→List Nat} {ε:aE}
structure f_ (n:Nat)(R M:List Nat)(p:Int→List Nat): Prop where
 head:∃ex,dP (p 0) 201 n ex [eS,R]
 rl:R.length=64
 marks:∃kd lk ex,dP (p 1) kd lk ex [M]
 ml:M.length=375
 n1:2≤n
 n2:n≤2999
 own:∀j,j<2→bt M j=true
 hi:∀j,n≤j→bt M j=false
theorem MW (J:W told)(hR:qN told N B rv A pg)(fF:EI N B ε)(hN:2≤N)(hp:f_ n R M (pg ε)){lo:Nat}(nA:lo<n)(h0:bt M lo=false)(h1:∀j,j<lo→bt M j=true)(s:Sat h (A ε::S)):
  Call ⟨Tryz.prog,told⟩ 51 [rv] h fun v h'=>∃ε',v=.aY [.int .i64 (lo:Int),.int .i64 0]∧EI N B ε'∧Sm N ε ε'∧Sat h' (A ε'::S):=by
 obtain ⟨ex,nE⟩:=hp.head
 obtain ⟨kd,lk,ny,I⟩:=hp.marks
 have hM:=hp.ml
 have nM:=hp.n2
 refine Call.of_wp (J.free _ rfl) Tryz.func51 rfl rfl (zK 8 rfl (zc rfl (oH J hR fF (by omega) nE hp.rl s) ?_))
 rintro v h ⟨u,j4,rfl,kI,eF,s⟩
 refine zk 12 rfl (zh rfl (af rfl rfl aG) (rfl) (zk 7 rfl (zc rfl (tD J (by omega) (by omega)) ?_)))
 rintro v h' ⟨rfl,rfl⟩
 refine zb rfl (by exact iB (aB (by omega) (by omega))) ?_
 refine zk 2 rfl (WP.block (WP.loop (zg rfl (zt rfl (af rfl rfl aK) (by decide) ?_))))
 have I:dP (pg j4 1) kd lk ny [M]:=by rw [hR.same eF]; exact I
 refine zk 5 rfl (WP.block (zK 9 rfl (zc rfl (qh J hR kI hN I hM (s.ae [1])) ?_)))
 rintro v h ⟨w2,u2,lX,rfl,j3,fN,s⟩
 refine zk 12 rfl (zh rfl (af rfl rfl aG) (rfl) (zk 6 rfl (zo rfl (aT rfl rfl rfl (bO aV (s.aU (k:=0) rfl (bz _ _)))) ?_)))
 rw [hM]
 refine zk 2 rfl (WP.block ?_)
 refine Po J (s.buf (k:=0) rfl).view hM (by omega) nA h0 h1 (lo/8) 0 _ _ (by omega) ⟨rfl,rfl,rfl,rfl,rfl,aa⟩ (fun E' l2 l3=>⟨aa,_,O0 l2 l3,lX,rfl,j3,eF.trans fN,?_⟩)
 exact ((s.ae [2]).del 3 |>.del 2).del 1
theorem HJ (hT:W told)(hR:qN told N B rv A pg)(fF:EI N B ε)(hN:2≤N)(I:f_ n R M (pg ε))(h1:∀j,j<n→bt M j=true)(s:Sat h (A ε::S)):
  Call ⟨Tryz.prog,told⟩ 51 [rv] h fun v h'=>∃ε',v=.aY [.int .i64 (-1),.int .i64 0]∧EI N B ε'∧Sm N ε ε'∧Sat h' (A ε'::S):=by
 obtain ⟨ex,nE⟩:=I.head
 obtain ⟨kd,lk,ny,J⟩:=I.marks
 have hM:=I.ml
 have nM:=I.n2
 have qD:=I.n1
 refine Call.of_wp (hT.free _ rfl) Tryz.func51 rfl rfl (zK 8 rfl (zc rfl (oH hT hR fF (by omega) nE I.rl s) ?_))
 rintro v h ⟨u,j4,rfl,kI,eF,s⟩
 refine zk 12 rfl (zh rfl (af rfl rfl aG) (rfl) (zk 7 rfl (zc rfl (tD hT (by omega) (by omega)) ?_)))
 rintro v h' ⟨rfl,rfl⟩
 refine zb rfl (by exact iB (aB (by omega) (by omega))) ?_
 refine zk 2 rfl (WP.block (WP.loop (zg rfl (zt rfl (af rfl rfl aK) (by decide) ?_))))
 have J:dP (pg j4 1) kd lk ny [M]:=by rw [hR.same eF]; exact J
 refine zk 5 rfl (WP.block (zK 9 rfl (zc rfl (qh hT hR kI hN J hM (s.ae [1])) ?_)))
 rintro v h ⟨w2,u2,lX,rfl,j3,fN,s⟩
 refine zk 12 rfl (zh rfl (af rfl rfl aG) (rfl) (zk 6 rfl (zo rfl (aT rfl rfl rfl (bO aV (s.aU (k:=0) rfl (bz _ _)))) ?_)))
 rw [hM]
 refine zk 2 rfl (WP.block ?_)
 refine MV hT (s.buf (k:=0) rfl).view hM (by omega) h1 I.hi 375 0 _ _ (by omega) ⟨rfl,rfl,rfl,rfl,rfl,rfl,rfl,aa⟩ (fun E' hE => ?_)
 refine WP.has hE (zr rfl (zb rfl (by exact bg (aB (by omega) (by omega))) ?_))
 refine zm rfl (zv (WP.loop (zg rfl (zh rfl (af rfl rfl aK) (by decide) ?_))))
 exact zk 3 rfl (WP.exit (zK 5 rfl (WP.ret ⟨aa,_,rfl,lX,rfl,j3,eF.trans fN,((s.ae [2]).del 3 |>.del 2).del 1⟩)))
noncomputable def YK : Code:=cV [1,1,1,1,0,1,0,0,1,1,0,0,1,1,1,1,0,0] ((Tryz.f23.body).getD .skip)
theorem MX (hT:W told){u:V}(hv:View h u M)(hM:M.length=375)(hn:n≤3000): ∀(m k:Nat) (E:List (Nat×V)) (Q:Ex→List (Nat×V)→H→Prop),k+m=375 →
  Has E [(7,.int .i64 ((n:Int)-(onesL (M.take k):Nat))),(26,.int .i64 1),(27,.int .i64 0),(40,u),(41,.int .i64 375),(42,.int .i64 (k:Int))] →
  (∀E',Has E' [(7,.int .i64 ((n:Int)-(onesL M:Nat))),(26,.int .i64 1),(27,.int .i64 0)]→Q (.exit 2) E' h)→WP ⟨Tryz.prog,told⟩ 53 (.loop YK) E h Q:=by
 intro m
 induction m with
 | zero =>
  intro k E Q hk J hq
  refine WP.loop (WP.has J (zg rfl (zh rfl (af rfl rfl aK) (by simp; omega) ?_)))
  refine zk 3 rfl (WP.exit ?_)
  refine hq _ ⟨?_,rfl,rfl,aa⟩
  rw [show M.take k=M from fq (by omega)]
  rfl
 | succ m ih =>
  intro k E Q hk J hq
  have I:M[k]?=some (M[k]'(by omega)):=aN _
  generalize (M[k]'(by omega))=x at I
  have hx:x<256:=hv.1 x (a_ I)
  obtain ⟨id,off,e1,e2⟩:=dR hv I
  have ht:=B8 I
  have hle:=Pp (M.take k)
  have jQ:(M.take k).length≤375:=by rw [kZ]; omega
  have h8:=Gx x
  refine WP.loop (WP.has J (zg rfl (zt rfl (af rfl rfl aK) (by simp; omega) ?_)))
  refine zk 5 rfl (WP.block (zg rfl (zo rfl (cn (r:=.ptr id off) rfl rfl e1) (zl rfl e2 (zk 5 rfl (zc rfl (Pn hT hx) ?_))))))
  rintro v h' ⟨rfl,rfl⟩
  refine zb rfl (by exact iB (aB (by omega) (by omega))) ?_
  refine za rfl (zv (zr rfl (zb rfl (by exact bg (aB (by omega) (by omega))) ?_)))
  refine zm rfl (zv ?_)
  refine ih (k+1) _ Q (by omega) ⟨?_,rfl,rfl,rfl,rfl,rfl,aa⟩ hq
  exact fQ (fun z=>some (V.int .i64 z)) (by omega)
theorem Sz (hT:W told)(hR:qN told N B rv A pg)(fF:EI N B ε)(hN:2≤N)(J:f_ n R M (pg ε))(s:Sat h (A ε::S)):
  Call ⟨Tryz.prog,told⟩ 23 [rv] h fun v h'=>∃ε',v=.aY [.int .i64 ((n:Int)-(onesL M:Nat)),.int .i64 0]∧EI N B ε'∧Sm N ε ε'∧Sat h' (A ε'::S):=by
 obtain ⟨ex,nE⟩:=J.head
 obtain ⟨kd,lk,ny,I⟩:=J.marks
 have hM:=J.ml
 have nM:=J.n2
 have qD:=J.n1
 refine Call.of_wp (hT.free _ rfl) Tryz.func23 rfl rfl (zK 8 rfl (zc rfl (oH hT hR fF (by omega) nE J.rl s) ?_))
 rintro v h ⟨u,j4,rfl,kI,eF,s⟩
 refine zk 12 rfl (zh rfl (af rfl rfl aG) (rfl) (zk 12 rfl (zc rfl (tD hT (by omega) (by omega)) ?_)))
 rintro v h' ⟨rfl,rfl⟩
 refine zb rfl (by exact iB (aB (by omega) (by omega))) ?_
 refine zk 2 rfl (WP.block (WP.loop (zg rfl (zt rfl (af rfl rfl aK) (by decide) ?_))))
 have I:dP (pg j4 1) kd lk ny [M]:=by rw [hR.same eF]; exact I
 refine zk 5 rfl (WP.block (zK 9 rfl (zc rfl (qh hT hR kI hN I hM (s.ae [1])) ?_)))
 rintro v h ⟨w2,u2,lX,rfl,j3,fN,s⟩
 refine zk 12 rfl (zh rfl (af rfl rfl aG) (rfl) (zk 6 rfl (zo rfl (aT rfl rfl rfl (bO aV (s.aU (k:=0) rfl (bz _ _)))) ?_)))
 rw [hM]
 refine zk 2 rfl (WP.block ?_)
 refine MX hT (n:=n) (s.buf (k:=0) rfl).view hM (by omega) 375 0 _ _ (by omega) ⟨?_,rfl,rfl,rfl,rfl,rfl,aa⟩ (fun E' hE => ?_)
 ·exact fQ (fun z=>some (V.int .i64 z)) (by have:onesL (M.take 0)=0:=rfl; omega)
 refine WP.has hE (zr rfl (zb rfl (by exact bg (aB (by omega) (by omega))) ?_))
 refine zm rfl (zv (WP.loop (zg rfl (zh rfl (af rfl rfl aK) (by decide) ?_))))
 exact zk 3 rfl (WP.exit (zK 6 rfl (WP.ret ⟨aa,_,rfl,lX,rfl,j3,eF.trans fN,((s.ae [2]).del 3 |>.del 2).del 1⟩)))
theorem SB (hT:W told)(hR:qN told N B rv A pg)(fF:EI N B ε)(hN:2≤N)(hp:f_ n R M (pg ε)){i:Nat}(hi:i<n)(s:Sat h (A ε::S)):
  Call ⟨Tryz.prog,told⟩ 57 [rv,.int .i64 (i:Int)] h fun v h'=>∃ε',v=.aY [.bool (bt M i),.int .i64 0]∧EI N B ε'∧Sm N ε ε'∧Sat h' (A ε'::S):=by
 obtain ⟨kd,lk,ny,pF⟩:=hp.marks
 have hM:=hp.ml
 have nM:=hp.n2
 refine Call.of_wp (hT.free _ rfl) Tryz.func57 rfl rfl (zK 9 rfl (zo rfl (af (r:=.int .i64 0) rfl rfl (Ks (by omega))) ?_))
 refine zc rfl (qh hT hR fF hN pF hM s) ?_
 rintro v h ⟨w2,u2,lX,rfl,I,fN,s⟩
 have hb:M[i/8]?=some (M[i/8]'(by omega)):=aN _
 have J:M.getD (i/8) 0=M[i/8]'(by omega):=by rw [dL,hb]; rfl
 generalize (M[i/8]'(by omega))=x at hb J
 have hv:=(s.buf (k:=0) rfl).view
 have hx:x<256:=hv.1 x (a_ hb)
 have qY:x.testBit (i%8)=bt M i:=by rw [bt,J]
 obtain ⟨id,off,e1,e2⟩:=dR hv hb
 have Iz:x/2^(i%8)<256:=Cj (Cr _ _) hx
 refine zk 12 rfl (zh rfl (af rfl rfl aG) (rfl) (zk 7 rfl (zb rfl (Kt (by omega)) ?_)))
 refine zb rfl (z6 (a:=i) (b:=8) (by decide) (by omega)) ?_
 refine zo rfl (cn (r:=.ptr id off) rfl rfl e1) (zl rfl e2 (zm rfl (zb rfl (Kt (by omega)) ?_)))
 refine zb rfl (FU (a:=i) (b:=8) (by decide)) ?_
 refine zb rfl (MQ (a:=x) (k:=i%8) (by omega)) ?_
 refine zb rfl (MR (b:=1) Iz (by decide)) ?_
 refine zo rfl (af (r:=.bool (bt M i)) rfl rfl (by rw [←qY]; exact Gy)) ?_
 exact zk 3 rfl (WP.ret ⟨aa,_,rfl,lX,rfl,I,fN,(s.ae [2]).del 2 |>.del 1⟩)
end
def SA (a p q r:Nat)(op:V)(data:List Nat)(aO:Nat)(ε:aE): au:=star [dx a p q r op data aO,cK r p q ε.1,bx q p ε.2.1,aL p ε.2.2]
def GA (g a p q r:Nat)(data:List Nat)(aO:Nat)(now:List (Int×List Nat))(ε:aE): au:=star [fh g a now false,dx a p q r (.ptr g 0) data aO,cK r p q ε.1,bx q p ε.2.1,aL p ε.2.2]
def dK (now:List (Int×List Nat))(ε:aE)(n:Int): List Nat:=match lookL n now with
 | some b=>b
 | none=>pgA ε n
theorem gJ {N:Nat}{now:List (Int×List Nat)}{ε ε':aE}(h:Sm N ε ε'): dK now ε'=dK now ε:=by
 funext n
 unfold dK
 rw [h.1]
theorem jO {now:List (Int×List Nat)}{ε:aE}{i n:Int}{b:List Nat}: dK (dO i b now) ε n=if i=n then b else dK now ε n:=by
 unfold dK
 rw [qA]
 by_cases h:i=n
 ·rw [aq h,aq h]
 ·rw [ah h,ah h]
section
variable {told:cZ} {h:H} {S:List au} {X Y:au} {N B n g a p q r aO:Nat} {v x y rv op:V} {b l c R M data:List Nat} {kd link extra ny:Nat} {cs:List (List Nat)} {ε:aE} {now:List (Int×List Nat)}
theorem Gz (hT:W told)(hB:B≤2000): qN told N B (.iface 24 (.ptr a 0)) (SA a p q r op data aO) pgA:=by
 refine ⟨⟨_,_,_,rfl,R9,fun {h S ε n} I h0 h1 s => ?_⟩,fun hs=>hs.1⟩
 have wq:=I.cr
 have QE:=qf (ε:=ε)
 have s:=cq.1 s
 refine (AT hT (n:=n) s I.ok.ok I.ok.pins (by omega)).mono ?_
 rintro v h ⟨e,b,ε',J,hs⟩
 obtain ⟨k1,k2,k3,k4⟩:=J.ec I.ec I.ok.pins
 obtain ⟨rfl,rfl⟩:=k3 h0 h1
 rcases hs with ⟨he,_⟩ | ⟨_,u,rfl,s⟩
 ·exact absurd rfl he
 ·have s2:Sat h (SA a p q r op data aO ε'::aZ u (pgA ε n)::S):=cq.2 (s.ae [1,1,1,1,0])
  exact ⟨u,ε',rfl,I.rd J,⟨k2,fun P hP hv=>hP.rd J I.ec hv⟩,s2.ae [1]⟩
theorem yx (hT:W told)(hB:B≤2000)(hw:NW N now): qN told N B (.iface 26 (.ptr g 0)) (GA g a p q r data aO now) (dK now):=by
 refine ⟨⟨_,_,_,rfl,Dd,fun {h S ε n} I h0 h1 s => ?_⟩,fun hs m=>by rw [gJ hs]⟩
 have wq:=I.cr
 have QE:=qf (ε:=ε)
 have s:=cq.1 s
 refine (F7 hT (n:=n) s I.ok (by omega) (fun e he=>iQ (hw.good e he).1)).mono ?_
 rintro v h ⟨e,b,ε',J,hs⟩
 obtain ⟨k1,k2,k3,k4⟩:=J.ec I.ec I.ok.pins
 obtain ⟨rfl,hb⟩:=k3 h0 h1
 have hb:b=dK now ε n:=hb
 subst hb
 rcases hs with ⟨he,_⟩ | ⟨_,u,rfl,s⟩
 ·exact absurd rfl he
 ·have s2:Sat h (GA g a p q r data aO now ε'::aZ u (dK now ε n)::S):=cq.2 (s.ae [1,1,1,1,1,0])
  exact ⟨u,ε',rfl,I.yn J,⟨k2,fun P hP hv=>hP.yn J I.ec hv⟩,s2.ae [1]⟩
theorem z_ (hT:W told)(hB:B≤2000)(I:EI N B ε)(hw:NW N now){i:Nat}(hi:i<N)(s:Sat h (GA g a p q r data aO now ε::X::S))(hX:c8 X (c9 x b))(J:dP b kd link extra cs):
  Call ⟨Tryz.prog,told⟩ 49 [.ptr g 0,.int .i64 (i:Int),x] h fun v h'=>∃ε',v=.int .i64 0∧EI N B ε'∧Sm N ε ε'∧NW N (dO (i:Int) b now)∧Sat h' (GA g a p q r data aO (dO (i:Int) b now) ε'::X::S):=by
 have wq:=I.cr
 have QE:=qf (ε:=ε)
 have hlen:=J.len
 have hb:=(s.aU (k:=1) rfl hX).1
 have s:=cq.1 s
 refine (Mr hT (n:=(i:Int)) s hX (by omega) I.ok (by omega) (fun e he=>iQ (hw.good e he).1)).mono ?_
 rintro v h ⟨e,bS,ε',hr,rfl,s⟩
 obtain ⟨k1,k2,k3,k4,k5⟩:=hr.ec I.ec I.ok.pins
 obtain ⟨rfl,rfl⟩:=k5 (by omega) (by omega) J.good
 exact ⟨ε',rfl,I.My hr,⟨k2,fun P hP hv=>hP.My hr I.ec hv⟩,hw.put (by omega) (by omega) J.good hb,cq.2 s⟩
theorem f_.put {P:Int→List Nat}(h:f_ N R M P){I:List Nat}{J:Int→List Nat}(h0:J 0=P 0)(h1:∃kd lk ex,dP (J 1) kd lk ex [I])(hl:I.length=375)(ho:∀j,j<2→bt I j=true)(hh:∀j,N≤j→bt I j=false): f_ N R I J :=
 ⟨by rw [h0]; exact h.head,h.rl,h1,hl,h.n1,h.n2,ho,hh⟩
theorem wC {i:Int}{b:List Nat}: ∀ {now:List (Int×List Nat)},(dO i b now).length≤now.length+1:=by
 intro now
 induction now with
 | nil=>exact aD _
 | cons e now I =>
  obtain ⟨k,c⟩:=e
  simp only [dO]
  split <;> simp only [aH] <;> omega
theorem GB (hT:W told)(hB:B≤2000)(fF:EI N B ε)(hw:NW N now)(hp:f_ N R M (dK now ε)){i:Nat}(hi:i<N)(iE:2≤i){bl:Bool}(s:Sat h (GA g a p q r data aO now ε::S)):
  Call ⟨Tryz.prog,told⟩ 52 [.ptr g 0,.int .i64 (i:Int),.bool bl] h fun v h'=>∃ε' bS,v=.int .i64 0∧EI N B ε'∧Sm N ε ε'∧NW N bS∧bS.length≤now.length+1∧f_ N R (if bl then B7 M i else D3 M i) (dK bS ε')∧(∀m,m≠1→dK bS ε' m=dK now ε m) ∧
   Sat h' (GA g a p q r data aO bS ε'::S):=by
 obtain ⟨kd,lk,ny,pF⟩:=hp.marks
 have hM:=hp.ml
 have qD:=hp.n1
 have nM:=hp.n2
 have XF:i/8<M.length:=by omega
 have hb:M[i/8]?=some (M[i/8]'(by omega)):=aN _
 have wP:M.getD (i/8) 0=M[i/8]'(by omega):=by rw [dL,hb]; rfl
 generalize (M[i/8]'(by omega))=z at hb wP
 -- what is so behind it
 have fin:∀ {ε':aE} {b':List Nat} {M':List Nat},Sm N ε ε'→dP b' kd lk ny [M']→M'.length=375→(∀j,bt M' j=if j=i then bl else bt M j)→f_ N R M' (dK (dO 1 b' now) ε')∧(∀m,m≠1→dK (dO 1 b' now) ε' m=dK now ε m):=fun {ε' b' M'} hs I hl qY =>
  ⟨hp.put (by rw [jO,ah (by decide),gJ hs]) ⟨_,_,_,by rw [jO,aq rfl]; exact I⟩ hl (fun j hj=>by rw [qY,ah (by omega)]; exact hp.own j hj) (fun j hj=>by rw [qY,ah (by omega)]; exact hp.hi j hj),
   fun m hm=>by rw [jO,ah (by omega),gJ hs]⟩
 refine Call.of_wp (hT.free _ rfl) Tryz.func52 rfl rfl (zK 7 rfl (zo rfl (nj rfl (lC jZ rfl)) (zm rfl (zo rfl (af (r:=.int .i64 0) rfl rfl (Ks (by omega))) ?_))))
 refine zc rfl (qh hT (yx hT hB hw) fF (by omega) pF hM s) ?_
 rintro v h ⟨w2,u2,lX,rfl,j3,fN,s⟩
 have hv:=(s.buf (k:=0) rfl).view
 have hz:z<256:=hv.1 z (a_ hb)
 have h2k:2^(i%8)<256:=uG (a:=2) (n:=8) (by decide) (by omega)
 obtain ⟨id,off,e1,e2⟩:=dR hv hb
 refine zk 12 rfl (zh rfl (af rfl rfl aG) (rfl) (zk 6 rfl (zb rfl (Kt (by omega)) ?_)))
 refine zb rfl (FU (a:=i) (b:=8) (by decide)) ?_
 refine zb rfl (U_ (k:=i%8) (by omega)) ?_
 refine zk 6 rfl (zb rfl (Kt (by omega)) ?_)
 refine zb rfl (z6 (a:=i) (b:=8) (by decide) (by omega)) ?_
 refine zk 6 rfl ?_
 cases bl with
 | true =>
  obtain ⟨GC,J,e3,h4,e4,s2⟩:=kK s (i:=i/8) (b:=Nat.lor z (2^(i%8))) (by omega) (MP hz (by omega))
  have ee:V.ptr id off=V.ptr GC J:=by rw [e1] at e3; exact bB e3
  rw [←ee] at e4
  refine zK 4 rfl (zo rfl (cn (r:=.ptr id off) rfl rfl e1) (zl rfl e2 (zm rfl (zb rfl (Wl hz (by omega)) ?_))))
  refine zo rfl (cn (r:=.ptr id off) rfl rfl e1) (zS rfl (⟨h4,e4,s2⟩) ?_)
  rintro h s
  rw [←wP] at s
  have s:Sat h (aZ u2 (B7 M i)::_):=s
  refine zk 6 rfl (zc rfl (Dj (i:=0) (c:=M) hT (s.ae [1,0]) (bz _ _) (bz _ _) pF rfl IZ) ?_)
  rintro v h ⟨w3,b',rfl,I,s⟩
  refine zk 9 rfl (zh rfl (af rfl rfl aG) (rfl) (zk 7 rfl (zo rfl (af (r:=.int .i64 0) rfl rfl (Ks (by omega))) ?_)))
  refine zb rfl (by exact bg (aB (by omega) (by omega))) ?_
  refine zm rfl (zc rfl (z_ (i:=1) hT hB j3 hw (by omega) (s.ae [3,0]) (bz _ _) I) ?_)
  rintro v h ⟨wD,rfl,tE,lM,wU,s⟩
  refine zk 2 rfl (WP.ret ⟨aa,_,rfl,?_⟩)
  obtain ⟨f1,f2⟩:=fin (fN.trans lM) I (by rw [IZ]; exact hM) (fun j=>QO XF)
  exact ⟨wD,_,rfl,tE,fN.trans lM,wU,wC,f1,f2,((s.ae [0]).del 3 |>.del 2).del 1⟩
 | false =>
  obtain ⟨GC,J,e3,h4,e4,s2⟩:=kK s (i:=i/8) (b:=Nat.land z (255-2^(i%8))) (by omega) (Dl hz)
  have ee:V.ptr id off=V.ptr GC J:=by rw [e1] at e3; exact bB e3
  rw [←ee] at e4
  refine zK 4 rfl (zo rfl (cn (r:=.ptr id off) rfl rfl e1) (zl rfl e2 (zm rfl (zb rfl (MS hz h2k) (zo rfl (cn (r:=.ptr id off) rfl rfl e1) (zS rfl (⟨h4,e4,s2⟩) ?_))))))
  rintro h s
  rw [←wP] at s
  have s:Sat h (aZ u2 (D3 M i)::_):=s
  refine zk 6 rfl (zc rfl (Dj (i:=0) (c:=M) hT (s.ae [1,0]) (bz _ _) (bz _ _) pF rfl I0) ?_)
  rintro v h ⟨w3,b',rfl,I,s⟩
  refine zk 9 rfl (zh rfl (af rfl rfl aG) (rfl) (zk 7 rfl (zo rfl (af (r:=.int .i64 0) rfl rfl (Ks (by omega))) ?_)))
  refine zb rfl (by exact bg (aB (by omega) (by omega))) ?_
  refine zm rfl (zc rfl (z_ (i:=1) hT hB j3 hw (by omega) (s.ae [3,0]) (bz _ _) I) ?_)
  rintro v h ⟨wD,rfl,tE,lM,wU,s⟩
  refine zk 2 rfl (WP.ret ⟨aa,_,rfl,?_⟩)
  obtain ⟨f1,f2⟩:=fin (fN.trans lM) I (by rw [I0]; exact hM) (fun j=>QS XF)
  exact ⟨wD,_,rfl,tE,fN.trans lM,wU,wC,f1,f2,((s.ae [0]).del 3 |>.del 2).del 1⟩
theorem D4 (hT:W told)(hB:B≤2000)(fF:EI N B ε)(hw:NW N now)(hp:f_ N R M (dK now ε)){lo:Nat}(nA:lo<N)(h0:bt M lo=false)(h1:∀j,j<lo→bt M j=true)(s:Sat h (GA g a p q r data aO now ε::S)):
  Call ⟨Tryz.prog,told⟩ 22 [.ptr g 0] h fun v h'=>∃ε' bS,v=.aY [.int .i64 (lo:Int),.int .i64 0]∧EI N B ε'∧Sm N ε ε'∧NW N bS∧bS.length≤now.length+2∧f_ N R (B7 M lo) (dK bS ε')∧(∀m,m≠1→m≠(lo:Int)→dK bS ε' m=dK now ε m)∧dP (dK bS ε' lo) 0 0 0 []∧dK bS ε' lo=nX 0 ∧
   Sat h' (GA g a p q r data aO bS ε'::S):=by
 have qD:=hp.n1
 have nM:=hp.n2
 have h2:2≤lo:=by
  rcases j8 lo 2 with hq | hq
  ·rw [hp.own lo hq] at h0; cases h0
  ·exact hq
 refine Call.of_wp (hT.free _ rfl) Tryz.func22 rfl rfl (zK 8 rfl (zo rfl (nj rfl (lC jZ rfl)) (zc rfl (MW hT (yx hT hB hw) fF (by omega) hp nA h0 h1 s) ?_)))
 rintro v h ⟨j4,rfl,kI,eF,s⟩
 have pF:f_ N R M (dK now j4):=by rw [gJ eF]; exact hp
 refine zk 7 rfl (WP.block (zK 3 rfl (zh rfl (af rfl rfl aG) (rfl) (zk 6 rfl (zh rfl (af rfl rfl aK) (by simp) ?_)))))
 refine za rfl (zv (zj rfl (WP.skip (zw (zg rfl (zk 2 rfl (zc rfl (GB (bl:=true) hT hB kI hw pF nA h2 s) ?_)))))))
 rintro v h ⟨lX,Dm,rfl,j3,fN,Vb,jQ,I,pz,s⟩
 refine za rfl (zv (zg rfl (zm rfl (zh rfl (af rfl rfl aG) (rfl) (zv (zj rfl (WP.skip (zg rfl (zc rfl (D2 (kd:=0) hT s (by decide)) ?_)))))))))
 rintro v h ⟨u,rfl,s⟩
 have oM:dP (nX 0) 0 0 0 []:=dP.new (k:=0)
 generalize hbn:nX 0=b' at s oM
 refine zk 12 rfl (zc rfl (z_ (i:=lo) hT hB j3 Vb nA (s.ae [1,0]) (bz _ _) oM) ?_)
 rintro v h ⟨wD,rfl,tE,J,wU,s⟩
 refine zk 5 rfl (zh rfl (af rfl rfl aG) (rfl) (zk 9 rfl (WP.ret ⟨aa,_,rfl,?_⟩)))
 have I:f_ N R (B7 M lo) (dK Dm lX):=I
 refine ⟨wD,_,rfl,tE,(eF.trans fN).trans J,wU,cu wC (by omega),I.put (by rw [jO,ah (by omega),gJ J]) ?_ I.ml I.own I.hi,fun m oT Dv=>by rw [jO,ah (by omega),gJ J,pz m oT,gJ eF],by rw [jO,aq rfl]; exact oM,by rw [jO,aq rfl],s.del 1⟩
 rw [jO,ah (by omega),gJ J]
 exact I.marks
theorem Pq (hT:W told)(hB:B≤2000)(I:EI N B ε)(hw:NW N now)(hp:f_ N R M (dK now ε)){lo:Nat}(J:lo<N)(h0:bt M lo=false)(h1:∀j,j<lo→bt M j=true)(s:Sat h (GA g a p q r data aO now ε::S)):
  Call ⟨Tryz.prog,told⟩ 22 [.ptr g 0] h fun v h'=>∃ε' bS,v=.aY [.int .i64 (lo:Int),.int .i64 0]∧EI N B ε'∧Sm N ε ε'∧NW N bS∧f_ N R (B7 M lo) (dK bS ε')∧(∀m,m≠1→m≠(lo:Int)→dK bS ε' m=dK now ε m)∧dP (dK bS ε' lo) 0 0 0 [] ∧
   Sat h' (GA g a p q r data aO bS ε'::S) :=
 (D4 hT hB I hw hp J h0 h1 s).mono fun v h' ⟨ε',bS,e,a1,a2,a3,_,a4,a5,a6,_,a7⟩=>⟨ε',bS,e,a1,a2,a3,a4,a5,a6,a7⟩
theorem Ku (J:W told)(hB:B≤2000)(fF:EI N B ε)(hw:NW N now)(hp:f_ N R M (dK now ε))(h1:∀j,j<N→bt M j=true)(s:Sat h (GA g a p q r data aO now ε::S)):
  Call ⟨Tryz.prog,told⟩ 22 [.ptr g 0] h fun v h'=>∃ε',v=.aY [.int .i64 0,.int .i64 7]∧EI N B ε'∧Sm N ε ε'∧Sat h' (GA g a p q r data aO now ε'::S):=by
 have qD:=hp.n1
 refine Call.of_wp (J.free _ rfl) Tryz.func22 rfl rfl (zK 8 rfl (zo rfl (nj rfl (lC jZ rfl)) (zc rfl (HJ J (yx J hB hw) fF (by omega) hp h1 s) ?_)))
 rintro v h ⟨j4,rfl,I,eF,s⟩
 refine zk 7 rfl (WP.block (zK 3 rfl (zh rfl (af rfl rfl aG) (rfl) (zk 6 rfl (zt rfl (af rfl rfl aK) (by decide) ?_)))))
 exact zk 8 rfl (WP.ret ⟨aa,_,rfl,j4,rfl,I,eF,s⟩)
theorem MY (hT:W told)(hB:B≤2000)(fF:EI N B ε)(hw:NW N now)(hp:f_ N R M (dK now ε)){i:Int}(s:Sat h (GA g a p q r data aO now ε::S)):
  Call ⟨Tryz.prog,told⟩ 24 [.ptr g 0,.int .i64 i] h fun v h'=>∃ε' bS,EI N B ε'∧Sm N ε ε'∧NW N bS∧bS.length≤now.length+1∧Sat h' (GA g a p q r data aO bS ε'::S) ∧
   ((¬(2≤i∧i<N∧bt M i.toNat=true)∧v=.int .i64 18∧bS=now)∨(2≤i∧i<N∧bt M i.toNat=true∧v=.int .i64 0∧f_ N R (D3 M i.toNat) (dK bS ε')∧∀m,m≠1→dK bS ε' m=dK now ε m)):=by
 obtain ⟨ex,nE⟩:=hp.head
 have qD:=hp.n1
 have nM:=hp.n2
 refine Call.of_wp (hT.free _ rfl) Tryz.func24 rfl rfl (zK 7 rfl (zo rfl (nj rfl (lC jZ rfl)) (zc rfl (oH hT (yx hT hB hw) fF (by omega) nE hp.rl s) ?_)))
 rintro v h ⟨u,j4,rfl,J,I,s⟩
 have pF:f_ N R M (dK now j4):=by rw [gJ I]; exact hp
 refine zk 9 rfl (WP.block (zK 3 rfl (zh rfl (af rfl rfl aG) (rfl) (zk 7 rfl (zc rfl (tD hT (by omega) (by omega)) ?_)))))
 rintro v h' ⟨rfl,rfl⟩
 by_cases nA:i<2
 ·skip
  refine zt rfl (af rfl rfl aK) (by simp; omega) ?_
  exact zk 12 rfl (WP.ret ⟨aa,_,rfl,j4,now,J,I,hw,jh _,s.drop,.inl ⟨by omega,rfl,rfl⟩⟩)
 ·skip
  refine zh rfl (af rfl rfl aK) (by simp; omega) ?_
  refine zk 3 rfl ?_
  by_cases hhi:(N:Int)≤i
  ·skip
   refine zt rfl (af rfl rfl jq) (by simp; omega) ?_
   exact zk 8 rfl (WP.ret ⟨aa,_,rfl,j4,now,J,I,hw,jh _,s.drop,.inl ⟨by omega,rfl,rfl⟩⟩)
  ·skip
   refine zh rfl (af rfl rfl jq) (by simp; omega) ?_
   obtain ⟨k,rfl⟩:∃k:Nat,i=k:=⟨i.toNat,by omega⟩
   refine zk 2 rfl (zv (zj rfl (WP.skip (zg rfl (zm rfl (zo rfl (nj rfl (lC jZ rfl)) (zm rfl (zc rfl (SB (i:=k) hT (yx hT hB hw) J (by omega) pF (by omega) (s.ae [1])) ?_))))))))
   rintro v h ⟨lX,rfl,j3,fN,s⟩
   have QH:f_ N R M (dK now lX):=by rw [gJ fN]; exact pF
   refine zk 7 rfl (WP.block (zK 3 rfl (zh rfl (af rfl rfl aG) (rfl) (zk 6 rfl (zo rfl (cX rfl rfl) (zk 2 rfl ?_))))))
   cases hb:bt M k with
   | false =>
    exact zK 5 rfl (WP.ret ⟨aa,_,rfl,lX,now,j3,I.trans fN,hw,jh _,s.del 1,.inl ⟨fun ⟨_,_,q⟩=>(by rw [bP,hb] at q; cases q),rfl,rfl⟩⟩)
   | true =>
    refine zj rfl (WP.skip (zg rfl (zk 2 rfl (zc rfl (GB (bl:=false) hT hB j3 hw QH (i:=k) (by omega) (by omega) s) ?_))))
    rintro v h ⟨wD,Vc,rfl,tE,lM,wU,hl3,Vd,ho3,s⟩
    refine zk 2 rfl (WP.ret ⟨aa,_,rfl,?_⟩)
    have Vd:f_ N R (D3 M k) (dK Vc wD):=Vd
    exact ⟨wD,Vc,tE,(I.trans fN).trans lM,wU,hl3,s.del 1,.inr ⟨by omega,by omega,by rw [bP]; exact hb,rfl,by rw [bP]; exact Vd,fun m hm=>by rw [ho3 m hm,gJ fN,gJ I]⟩⟩
end
theorem Kv : h_ (List.replicate 512 0)=0:=by rw [h_,aq rfl]
def fresh (n m f:Nat): aE:=(Pl.fresh f,(Lg.fresh,Dk.fresh n m))
theorem GD {n m:Nat}(k:Int): (Dk.fresh n m).at k=List.replicate 512 0:=by
 rw [Dk.at,show lookL k (Dk.fresh n m).now=none from rfl]
 simp only [Dk.fresh]
 cases I:(List.replicate n (none:Option (List Nat)))[k.toNat]? with
 | none=>rfl
 | some o =>
  have:=uD (a_ I)
  subst this
  rfl
theorem D5 {n m f:Nat}(k:Int): pgA (fresh n m f) k=List.replicate 512 0:=by
 rw [mZ (by rfl)]
 exact GD k
theorem GF {f i:Nat}{x:Fm}(h:(Pl.fresh f).aj[i]?=some x): x=ep:=uD (a_ h)
theorem EI.fresh {n m f:Nat}(hn:n≤65536)(hm:m≤16777216)(hf:1≤f)(hf2:f≤1024): EI n 1 (fresh n m f):=by
 have J:∀x∈(Pl.fresh f).aj,x=ep:=fun x I=>uD I
 have hlen:(Pl.fresh f).aj.length=f:=cY
 refine ⟨⟨⟨⟨(show 0<(Pl.fresh f).aj.length by rw [hlen]; omega),(show (Pl.fresh f).aj.length≤1024 by rw [hlen]; exact hf2),fun e he=>(by cases he),fun x I=>by rw [J x I]; decide,fun x I=>by rw [J x I]; decide⟩,Lg.Gf,?_⟩,fun x I=>by rw [J x I]; rfl,⟨pM,fun k i hk=>(by cases hk)⟩⟩,⟨?_,pM,fun k i hk=>(by cases hk),fun i x I=>.inl (by rw [GF I]; decide),fun k hk=>(by cases hk),pM⟩,⟨rfl,aD _,(show (1:Nat)+0≤1*1048600 by decide)⟩,?_⟩
 ·exact ⟨(show (-1:Int)<4294967296 by decide),gV _,hm,fun e he=>(by cases he),fun i b hb=>(by have h1:some b=none:=uD (a_ hb); cases h1),aD _,(show (List.replicate n (none:Option (List Nat))).length≤65536 by rw [cY]; exact hn)⟩
 ·exact ⟨rfl,(show (-1:Int)<0 by decide),cY,fun k hk=>(by cases hk),pM,fun k h0 h1=>by show h_ ((Dk.fresh n m).at k)=0; rw [GD]; exact Kv⟩
 ·have e:g9 (Pl.fresh f).aj=0:=by
   rw [g9,List.count_eq_zero]
   intro hh
   obtain ⟨x,I,hc⟩:=List.mem_map.1 hh
   rw [J x I] at hc
   cases hc
  show ([]:List Wr).length+g9 (Pl.fresh f).aj≤_
  rw [e]; decide
theorem vA {n:Nat}(h:n<128): (digits 9 n).length=1:=by
 show (if n<128 then [n] else (n%128+128)::digits 8 (n/128)).length=1
 rw [aq h]; rfl
theorem Aa {n:Nat}(h:n<16384): (digits 9 n).length≤2:=by
 show (if n<128 then [n] else (n%128+128)::(if n/128<128 then [n/128] else (n/128%128+128)::digits 7 (n/128/128))).length≤2
 split
 ·exact jh 1
 ·rw [aq (by omega)]; exact aD 2
theorem AY {c:dG}(I:c.bn.toNat<16384)(J:c.pos.toNat<16384)(h3:c.b.length<16384): (mW c).length≤7+c.b.length:=by
 have e1:=Aa I
 have e2:=Aa J
 have e3:=Aa h3
 simp only [mW,bU,aH,bM]
 omega
theorem SC {pg:Int}{dD now:List Nat}{i:Nat}{l:List dG}(J:wR pg dD now i l)(hn:now.length=512)(hp:pg.toNat<16384): ∀j,(∀k,i≤k→k<j→dD[k]?=now[k]?)→j≤520→(l.flatMap mW).length≤520-max i j:=by
 induction J with
 | done i h=>intro j _ _; simp
 | skip i l h he J ih =>
  intro j hj I
  have:=ih j (fun k h1 h2=>hj k (by omega) h2) I
  omega
 | take i e l h1 h2 h3 h4 J ih =>
  intro j hj I
  have wL:j≤i:=rM fun bC=>h3 (hj i (aD _) bC)
  have h5:=ih (e+8) h4 (by omega)
  have hl:((now.take e).drop i).length=e-i:=by rw [rO,kZ]; omega
  have h6:=AY (c:=⟨pg,i,false,(now.take e).drop i⟩) hp (by show (i:Int).toNat<_; omega) (by show ((now.take e).drop i).length<_; omega)
  rw [uO,bU]
  simp only [hl] at h6
  omega
theorem SD {pg:Int}{dD now:List Nat}{c:List dG}(hr:Ms pg dD now c)(hn:now.length=512)(I:pg.toNat<16384): (c.flatMap mW).length≤520:=by
 obtain ⟨l,hl,rfl⟩:=hr
 have:=SC hl hn I 0 (fun k _ h=>absurd h (by omega)) (by omega)
 by_cases J:l=[]
 ·rw [aq J]
  have h6:=AY (c:=⟨pg,0,false,[]⟩) I (show (0:Int).toNat<16384 by decide) (show ([]:List Nat).length<16384 by decide)
  simp only [uO,Cn,gz]
  simp only [bM] at h6
  omega
 ·rw [ah J]; omega
theorem kG.Ve {N:Nat}{now:List (Int×List Nat)}{l:List Int}{ε ε':aE}{e:Int}{cs:List dG}(hr:kG now l ε e cs ε')(hn:NW N now): (∀n∈l,n.toNat<16384)→(cs.flatMap mW).length≤520*l.length:=by
 induction hr with
 | nil ε=>intro _; simp
 | err n l ε e b ε' hr he=>intro _; simp
 | part n l ε dD b ε' c e cs I hr hb qG hc kQ ht ih =>
  intro J
  have h1:=SD hc (iQ (hn.look hb).1) (J n ct)
  have h2:=ih fun m hm=>J m (b6 _ hm)
  rw [List.flatMap_append,bU,aH]
  omega
 | whole n l ε dD b ε' e cs I hr hb qG ht ih =>
  intro J
  have oM:=iQ (hn.look hb).1
  have h1:=AY (c:=⟨n,0,true,b⟩) (J n ct) (show (0:Int).toNat<16384 by decide) (by show b.length<_; omega)
  have h2:=ih fun m hm=>J m (b6 _ hm)
  rw [uO,bU,aH]
  simp only at h1
  omega
theorem AZ {N L:Nat}{now:List (Int×List Nat)}{ε ε':aE}{e:Int}{cs:List dG}{kd:Int}{tx:Nat}(hr:kG now (bw now) ε e cs ε')(I:NW N now)(hL:now.length≤L)(hN:N≤16384)(ht:tx<16384): (eN kd tx 0 0 [] cs).length≤520*L+20:=by
 have h2:=Aa ht
 have h1:=vA (n:=0) (by decide)
 have h4:=vA (n:=([]:List Nat).length) (by decide)
 have h5:=mA cs.length
 have h6:=hr.Ve I fun n hm=>by have:=I.keys n (oF.1 hm); omega
 have J:(bw now).length≤L:=by
  rw [bw,(e_ _).length_eq,dF]; exact hL
 have J:=Nat.mul_le_mul_left 520 J
 simp only [eN,bU,aH,bM] at h4 ⊢
 omega
theorem qi (K M:Nat): lV fun x=>x.2.log.length=K∧x.2.room=M:=by
 refine ⟨fun x n h => ?_,fun x n b h => ?_⟩
 ·unfold bH Dk.gH
  split
  ·exact h
  ·split
   ·exact h
   ·split
    ·exact h
    ·split <;> first | exact h | exact h
 ·unfold Dk.dc
  split
  ·exact h
  ·split
   ·exact h
   ·split <;> exact h
def ga (K M:Nat)(ε:aE): Prop:=ε.2.2.log.length≤K∧ε.2.2.room=M
theorem ga.sm {N K M:Nat}{ε ε':aE}(h:ga K M ε)(hs:Sm N ε ε'): ga K M ε':=by
 have:=hs.2 _ ((qi ε.2.2.log.length ε.2.2.room).YG N) ⟨rfl,rfl⟩
 have this:ε'.2.2.log.length=ε.2.2.log.length∧ε'.2.2.room=ε.2.2.room:=this
 exact ⟨by rw [this.1]; exact h.1,by rw [this.2]; exact h.2⟩
theorem yl.fits {N B K M L kd tx aW:Nat}{now:List (Int×List Nat)}{ε ε':aE}{e:Int}{cl:Bool}(hr:yl ε now kd tx 0 0 [] 0 aW e cl ε')(J:EI N B ε)(hB:B≤1000)(hw:NW N now)(hL:now.length≤L)(hN:N≤1024)(h1:1≤kd)(h2:kd≤7)(IF:tx<16384)(hd:ga K M ε)(hf:K+520*L+28≤M):
  cl=true∧e=0∧ga (K+520*L+28) M ε':=by
 have I:∀n∈bw now,0≤n∧n<N:=fun n hq=>hw.keys n (oF.1 hq)
 obtain ⟨hK,hM⟩:=hd
 have Wm:=J.done hB hw (by omega) (by omega) hr
 cases hr with
 | arg hh=>omega
 | dead _ _ _ hd=>rw [J.ec.dk.alive] at hd; cases hd
 | pq e c ε' _ _ _ _ hc vz=>exact absurd (hc.ec J.ec J.ok I).2.2 vz
 | app c lX _ _ _ _ hc vz =>
  exfalso
  have Dt:=AZ (kd:=kd) hc hw hL (by omega) IF
  have aaE:=AZ (kd:=kd) hc hw hw.len (by omega) IF
  have hP:=(qi ε.2.2.log.length ε.2.2.room).ch hc ⟨rfl,rfl⟩
  obtain ⟨c1,c2,c3⟩:=hc.ec J.ec J.ok I
  have wP:eU kd c=true:=by
   refine Gd ⟨by omega,by omega⟩ (hc.fit (fun x hx=>iQ (hw.good x hx).1) fun n hq => ?_)
   have:=I n hq
   omega
  rcases lG lX.2 kd tx 0 0 [] c with ⟨e,he,tM,hq⟩ | ⟨_,Gj,hq⟩ | ⟨_,hb,sF,fS,Gj,hq⟩
  ·rcases tM with ⟨rfl,hg⟩ | ⟨_,hb⟩ | ⟨rfl,sF⟩ | ⟨rfl,hb⟩
   ·rw [wP] at hg; cases hg
   ·omega
   ·rw [c1.dk.alive] at sF; cases sF
   ·rw [cO,nR,hP.1,hP.2] at hb; omega
  ·have:=c1.dk.bj; omega
  ·rw [hq] at vz; exact absurd rfl vz
 | put c lX e wD _ _ _ _ hc ha hp =>
  rcases Wm with ⟨kQ,_⟩ | ⟨_,he,_⟩
  ·cases kQ
  ·refine ⟨rfl,he,?_⟩
   have Dt:=AZ (kd:=kd) hc hw hL (by omega) IF
   have hP:=(qi ε.2.2.log.length ε.2.2.room).ch hc ⟨rfl,rfl⟩
   rcases lG lX.2 kd tx 0 0 [] c with ⟨e,he,tM,hq⟩ | ⟨_,Gj,hq⟩ | ⟨_,hb,sF,fS,Gj,hq⟩
   ·rw [hq] at ha; exact absurd ha he
   ·rw [hq] at ha; cases ha
   ·rw [hq] at hp
    have iz:=(qi (ε.2.2.log.length+(cO lX.2.1 kd tx 0 0 [] c).length) ε.2.2.room).pt hp ⟨by show (lX.2.2.log++_).length=_; rw [bU,hP.1],hP.2⟩
    have h3:(cO lX.2.1 kd tx 0 0 [] c).length≤520*L+28:=by rw [cO,nR]; omega
    exact ⟨by rw [iz.1]; omega,by rw [iz.2]; exact hM⟩
end Go.Proofs.YtefepnnfphdkpaaGreat.Am
