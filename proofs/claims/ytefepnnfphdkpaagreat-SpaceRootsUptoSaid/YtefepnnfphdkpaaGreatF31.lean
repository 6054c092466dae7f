/- SpaceRoots: a part of its proof; conditions: its statement's. -/
import Derived.Test.YtefepnnfphdkpaaGreatF30
import Derived.Test.YtefepnnfphdkpaaGreatF29
namespace Go.Proofs.YtefepnnfphdkpaaGreat.Am
open Go
section
variable {told:cQ} {h:H} {S:List au} {X Y:au} {N B n:Nat} {v x y rv:V} {b l c R M:List Nat} {kd link extra og:Nat} {cs:List (List Nat)} {A:aI→au} {pg:aI→Int→List Nat} {ε:aI}
theorem RW (I:W told){a:Nat}(J:a<256): Call ⟨Tryz.prog,told⟩ 56 [.int .u8 (a:Int)] h fun r h'=>r=.int .i64 (sP a:Nat)∧h'=h:=by
 have hle:sP a≤8:=by unfold sP; exact cC (DX _ _) (by simp)
 refine Call.of_wp (I.free _ rfl) Tryz.func56 rfl rfl (zK 7 rfl (zo rfl (yV rfl rfl (Ps (f:=sP) wJ (by decide +kernel) J)) ?_))
 refine zo rfl (cJ rfl (by exact iZ Tryz.underlying5 bD (aC (by omega) (by omega)))) ?_
 exact zk 2 rfl (WP.ret ⟨aa,_,rfl,rfl,rfl⟩)
theorem Pt (I:W told){a:Nat}(J:a<256): Call ⟨Tryz.prog,told⟩ 109 [.int .u8 ((255-a:Nat):Int)] h fun r h'=>r=.int .i64 (ng a:Nat)∧h'=h:=by
 have hle:∀a,a<256→ng a≤8:=by decide +kernel
 have hle:=hle a J
 have he:ng (255-(255-a))=ng a:=by rw [show 255-(255-a)=a by omega]
 refine Call.of_wp (I.free _ rfl) Tryz.func109 rfl rfl (zK 7 rfl (zo rfl (yV rfl rfl (Ps (f:=fun x=>ng (255-x)) wJ (by decide +kernel) (by omega))) ?_))
 rw [he]
 refine zo rfl (cJ rfl (by exact iZ Tryz.underlying5 bD (aC (by omega) (by omega)))) ?_
 exact zk 2 rfl (WP.ret ⟨aa,_,rfl,rfl,rfl⟩)
noncomputable def lwL : Code:=dB [1,1,1,0,1,0,0,1,1,0,0,1,1,1,1,0,0] ((Tryz.f51.body).getD .skip)
theorem RX (hT:W told){u:V}{lo:Nat}(hv:View h u M)(hM:M.length=375)(hn:n≤3000)(uO:lo<n)(h0:bt M lo=false)(h1:∀j,j<lo→bt M j=true): ∀(m k:Nat) (E:List (Nat×V)) (Q:Ex→List (Nat×V)→H→Prop),k+m=lo/8 →
  Has E [(5,.int .i64 (n:Int)),(7,.int .i64 0),(39,u),(40,.int .i64 375),(41,.int .i64 (k:Int))] →
  (∀E',look E' 2=some (.int .i64 (lo:Int))→look E' 3=some (.int .i64 0)→Q .ret E' h)→WP ⟨Tryz.prog,told⟩ 65 (.loop lwL) E h Q:=by
 intro m
 induction m with
 | zero =>
  intro k E Q hk hE hq
  have J:M[k]?=some (M[k]'(by omega)):=bf _
  have I:M.getD k 0=M[k]'(by omega):=by rw [dU,J]; rfl
  generalize (M[k]'(by omega))=x at J I
  have hx:x<256:=hv.1 x (bC J)
  obtain ⟨id,off,e1,e2⟩:=eP hv J
  have yS:x≠255:=fun e=>by
   have:=DB (M:=M) (k:=k) (j:=lo%8) (by omega)
   rw [show 8*k+lo%8=lo by omega,h0,I,e] at this
   have q:∀j,j<8→(255:Nat).testBit j=true:=by decide
   rw [q _ (by omega)] at this; cases this
  obtain ⟨w1,w2,w3⟩:=U_ x (by omega)
  have hl:8*k+ng x=lo:=by
   have a1:=DB (M:=M) (k:=k) (j:=ng x) w1
   rw [I,w2] at a1
   rcases lR (8*k+ng x) lo with q | q
   ·rw [h1 _ q] at a1; cases a1
   ·by_cases q2:lo%8<ng x
    ·have:=w3 _ q2
     have a2:=DB (M:=M) (k:=k) (j:=lo%8) (by omega)
     rw [show 8*k+lo%8=lo by omega,h0,I,this] at a2; cases a2
    ·omega
  refine WP.loop (WP.has hE (zg rfl (zt rfl (af rfl rfl aT) (by simp; omega) ?_)))
  refine zk 5 rfl (WP.block (zK 3 rfl (zo rfl (dr (r:=.ptr id off) rfl rfl e1) (zl rfl e2 (zk 6 rfl (zb rfl (by exact kA (aC (by omega) (by omega))) ?_))))))
  refine zm rfl (zb rfl (by exact kA (aC (by omega) (by omega))) ?_)
  refine zb rfl (by exact br (aC (by omega) (by omega))) ?_
  refine zm rfl (zo rfl (eD rfl (Pr hx)) (zc rfl (Pt hT hx) ?_))
  rintro v h' ⟨rfl,rfl⟩
  refine zo rfl (af (r:=.int .i64 (lo:Int)) rfl rfl (by rw [←hl,show (((8*k+ng x:Nat):Int))=(3000*0+8*(k:Int))+(ng x:Int) by omega]; exact br (aC (by omega) (by omega)))) ?_
  refine zk 5 rfl (zt rfl (af rfl rfl aN) (by simp; omega) ?_)
  refine zk 3 rfl (zt rfl (af rfl rfl aT) (by simp; omega) ?_)
  exact zk 9 rfl (WP.ret (hq _ rfl rfl))
 | succ m ih =>
  intro k E Q hk hE hq
  have J:M[k]?=some (M[k]'(by omega)):=bf _
  have I:M.getD k 0=M[k]'(by omega):=by rw [dU,J]; rfl
  generalize (M[k]'(by omega))=x at J I
  have hx:x<256:=hv.1 x (bC J)
  obtain ⟨id,off,e1,e2⟩:=eP hv J
  have yS:x=255:=aaX x hx fun j hj=>by rw [←I,←DB hj]; exact h1 _ (by omega)
  have hl8:∀a,a<256→ng a≤8:=by decide +kernel
  have hl8:=hl8 x hx
  refine WP.loop (WP.has hE (zg rfl (zt rfl (af rfl rfl aT) (by simp; omega) ?_)))
  refine zk 5 rfl (WP.block (zK 3 rfl (zo rfl (dr (r:=.ptr id off) rfl rfl e1) (zl rfl e2 (zk 6 rfl (zb rfl (by exact kA (aC (by omega) (by omega))) ?_))))))
  refine zm rfl (zb rfl (by exact kA (aC (by omega) (by omega))) ?_)
  refine zb rfl (by exact br (aC (by omega) (by omega))) ?_
  refine zm rfl (zo rfl (eD rfl (Pr hx)) (zc rfl (Pt hT hx) ?_))
  rintro v h' ⟨rfl,rfl⟩
  refine zb rfl (by exact br (aC (by omega) (by omega))) ?_
  refine zk 5 rfl (zh rfl (af rfl rfl aN) (by simp; omega) ?_)
  refine zk 5 rfl (zv (zj rfl (WP.skip (zr rfl (zb rfl (by exact br (aC (by omega) (by omega))) ?_)))))
  refine zm rfl (zv ?_)
  exact ih (k+1) _ Q (by omega) ⟨rfl,rfl,rfl,rfl,rfl,aa⟩ hq
end
def onesL : List Nat→Nat
 | []=>0
 | x::l=>sP x+onesL l
theorem DC {M:List Nat}{k x:Nat}(I:M[k]?=some x): onesL (M.take (k+1))=onesL (M.take k)+sP x:=by
 induction M generalizing k with
 | nil=>simp at I
 | cons y M J =>
  cases k with
  | zero=>simp at I; subst I; simp [onesL]
  | succ k =>
   have:=J (k:=k) (by simpa using I)
   simp only [sR,onesL,this]; omega
theorem Iz (x:Nat): sP x≤8:=by unfold sP; exact cC (DX _ _) (by simp)
theorem RY : ∀(M:List Nat),onesL M≤8*M.length:=by
 intro M
 induction M with
 | nil=>exact aD _
 | cons x M I=>have:=Iz x; simp only [onesL,aS]; omega
section
variable {P:Program} {h:H} {t:TypeId} {x y:Operand} {a k n:Nat}
theorem RZ (I:n<3000): binV P h .quo t x y (.int .i64 (n:Int)) (.int .i64 3000)=some (.int .i64 0):=by
 have:=Dz (P:=P) (h:=h) (t:=t) (x:=x) (y:=y) (a:=n) (b:=3000) (by decide) (by omega)
 rw [show n/3000=0 by omega] at this; exact this
theorem Xy (I:n<3000): binV P h .rem t x y (.int .i64 (n:Int)) (.int .i64 3000)=some (.int .i64 (n:Int)):=by
 have:=EU (P:=P) (h:=h) (t:=t) (x:=x) (y:=y) (a:=n) (b:=3000) (by decide)
 rw [show n%3000=n by omega] at this; exact this
theorem Pu : binV P h .eql t x y (.int .u8 ((Nat.land (a/2^k) 1:Nat):Int)) (.int .u8 1)=some (.bool (a.testBit k)):=by
 simp only [binV,ikBeq,ag,intV,k_]
 rw [Xx]
 cases h:a.testBit k <;> rfl
theorem aaY {J:Array TypeId}{k:IntKind}{a b:Int}: builtinV P h .min J [.int k a,.int k b]=some (.int k (min a b),h):=by
 simp only [builtinV,foldV,BT,dN,ag,jN]
 by_cases I:b<a
 ·simp only [I,AF,ag]
  rw [show min a b=b by omega]
 ·simp only [I,o6,az]
  rw [show min a b=a by omega]
end
section
variable {told:cQ} {h:H} {S:List au} {X Y:au} {N B n:Nat} {v x y rv:V} {b l c R M:List Nat} {kd link extra og:Nat} {cs:List (List Nat)} {A:aI→au} {pg:aI→Int→List Nat} {ε:aI}
structure iH (n:Nat)(R M:List Nat)(p:Int→List Nat): Prop where
 head:∃ex,dX (p 0) 201 n ex [fB,R]
 rl:R.length=64
 marks:∃kd lk ex,dX (p 1) kd lk ex [M]
 ml:M.length=375
 n1:2≤n
 n2:n≤2999
 own:∀j,j<2→bt M j=true
 hi:∀j,n≤j→bt M j=false
theorem Pv (J:W told)(hR:uP told N B rv A pg)(mo:EI N B ε)(hN:2≤N)(hp:iH n R M (pg ε)){lo:Nat}(uO:lo<n)(h0:bt M lo=false)(h1:∀j,j<lo→bt M j=true)(s:Sat h (A ε::S)):
  Call ⟨Tryz.prog,told⟩ 51 [rv] h fun v h'=>∃ε',v=.bj [.int .i64 (lo:Int),.int .i64 0]∧EI N B ε'∧Sm N ε ε'∧Sat h' (A ε'::S):=by
 obtain ⟨ex,pX⟩:=hp.head
 obtain ⟨kd,lk,og,I⟩:=hp.marks
 have hM:=hp.ml
 have sA:=hp.n2
 refine Call.of_wp (J.free _ rfl) Tryz.func51 rfl rfl (zK 8 rfl (zc rfl (tH J hR mo (by omega) pX hp.rl s) ?_))
 rintro v h ⟨u,sn,rfl,pO,ig,s⟩
 refine zk 12 rfl (zh rfl (af rfl rfl aN) (rfl) (zk 7 rfl (zc rfl (Af J (by omega) (by omega)) ?_)))
 rintro v h' ⟨rfl,rfl⟩
 refine zb rfl (by exact jE (aC (by omega) (by omega))) ?_
 refine zk 2 rfl (WP.block (WP.loop (zg rfl (zt rfl (af rfl rfl aT) (by decide) ?_))))
 have I:dX (pg sn 1) kd lk og [M]:=by rw [hR.same ig]; exact I
 refine zk 5 rfl (WP.block (zK 9 rfl (zc rfl (xR J hR pO hN I hM (s.ae [1])) ?_)))
 rintro v h ⟨w2,u2,qo,rfl,sB,nN,s⟩
 refine zk 12 rfl (zh rfl (af rfl rfl aN) (rfl) (zk 6 rfl (zo rfl (aU rfl rfl rfl (a_ aG (s.aE (k:=0) rfl (bg _ _)))) ?_)))
 rw [hM]
 refine zk 2 rfl (WP.block ?_)
 refine RX J (s.buf (k:=0) rfl).view hM (by omega) uO h0 h1 (lo/8) 0 _ _ (by omega) ⟨rfl,rfl,rfl,rfl,rfl,aa⟩ (fun E' l2 l3=>⟨aa,_,uJ l2 l3,qo,rfl,sB,ig.trans nN,?_⟩)
 exact ((s.ae [2]).del 3 |>.del 2).del 1
noncomputable def aaZ : Code:=dB [1,1,1,1,0,1,0,0,1,1,0,0,1,1,1,1,0,0] ((Tryz.f23.body).getD .skip)
theorem Pw (hT:W told){u:V}(hv:View h u M)(hM:M.length=375)(hn:n≤3000): ∀(m k:Nat) (E:List (Nat×V)) (Q:Ex→List (Nat×V)→H→Prop),k+m=375 →
  Has E [(7,.int .i64 ((n:Int)-(onesL (M.take k):Nat))),(26,.int .i64 1),(27,.int .i64 0),(40,u),(41,.int .i64 375),(42,.int .i64 (k:Int))] →
  (∀E',Has E' [(7,.int .i64 ((n:Int)-(onesL M:Nat))),(26,.int .i64 1),(27,.int .i64 0)]→Q (.exit 2) E' h)→WP ⟨Tryz.prog,told⟩ 53 (.loop aaZ) E h Q:=by
 intro m
 induction m with
 | zero =>
  intro k E Q hk J hq
  refine WP.loop (WP.has J (zg rfl (zh rfl (af rfl rfl aT) (by simp; omega) ?_)))
  refine zk 3 rfl (WP.exit ?_)
  refine hq _ ⟨?_,rfl,rfl,aa⟩
  rw [show M.take k=M from dO (by omega)]
  rfl
 | succ m ih =>
  intro k E Q hk J hq
  have I:M[k]?=some (M[k]'(by omega)):=bf _
  generalize (M[k]'(by omega))=x at I
  have hx:x<256:=hv.1 x (bC I)
  obtain ⟨id,off,e1,e2⟩:=eP hv I
  have ht:=DC I
  have hle:=RY (M.take k)
  have jo:(M.take k).length≤375:=by rw [dM]; omega
  have h8:=Iz x
  refine WP.loop (WP.has J (zg rfl (zt rfl (af rfl rfl aT) (by simp; omega) ?_)))
  refine zk 5 rfl (WP.block (zg rfl (zo rfl (dr (r:=.ptr id off) rfl rfl e1) (zl rfl e2 (zk 5 rfl (zc rfl (RW hT hx) ?_))))))
  rintro v h' ⟨rfl,rfl⟩
  refine zb rfl (by exact jE (aC (by omega) (by omega))) ?_
  refine za rfl (zv (zr rfl (zb rfl (by exact br (aC (by omega) (by omega))) ?_)))
  refine zm rfl (zv ?_)
  refine ih (k+1) _ Q (by omega) ⟨?_,rfl,rfl,rfl,rfl,rfl,aa⟩ hq
  exact gy (fun z=>some (V.int .i64 z)) (by omega)
theorem Va (hT:W told)(hR:uP told N B rv A pg)(mo:EI N B ε)(hN:2≤N)(J:iH n R M (pg ε))(s:Sat h (A ε::S)):
  Call ⟨Tryz.prog,told⟩ 23 [rv] h fun v h'=>∃ε',v=.bj [.int .i64 ((n:Int)-(onesL M:Nat)),.int .i64 0]∧EI N B ε'∧Sm N ε ε'∧Sat h' (A ε'::S):=by
 obtain ⟨ex,pX⟩:=J.head
 obtain ⟨kd,lk,og,I⟩:=J.marks
 have hM:=J.ml
 have sA:=J.n2
 have ux:=J.n1
 refine Call.of_wp (hT.free _ rfl) Tryz.func23 rfl rfl (zK 8 rfl (zc rfl (tH hT hR mo (by omega) pX J.rl s) ?_))
 rintro v h ⟨u,sn,rfl,pO,ig,s⟩
 refine zk 12 rfl (zh rfl (af rfl rfl aN) (rfl) (zk 12 rfl (zc rfl (Af hT (by omega) (by omega)) ?_)))
 rintro v h' ⟨rfl,rfl⟩
 refine zb rfl (by exact jE (aC (by omega) (by omega))) ?_
 refine zk 2 rfl (WP.block (WP.loop (zg rfl (zt rfl (af rfl rfl aT) (by decide) ?_))))
 have I:dX (pg sn 1) kd lk og [M]:=by rw [hR.same ig]; exact I
 refine zk 5 rfl (WP.block (zK 9 rfl (zc rfl (xR hT hR pO hN I hM (s.ae [1])) ?_)))
 rintro v h ⟨w2,u2,qo,rfl,sB,nN,s⟩
 refine zk 12 rfl (zh rfl (af rfl rfl aN) (rfl) (zk 6 rfl (zo rfl (aU rfl rfl rfl (a_ aG (s.aE (k:=0) rfl (bg _ _)))) ?_)))
 rw [hM]
 refine zk 2 rfl (WP.block ?_)
 refine Pw hT (n:=n) (s.buf (k:=0) rfl).view hM (by omega) 375 0 _ _ (by omega) ⟨?_,rfl,rfl,rfl,rfl,rfl,aa⟩ (fun E' hE => ?_)
 ·exact gy (fun z=>some (V.int .i64 z)) (by have:onesL (M.take 0)=0:=rfl; omega)
 refine WP.has hE (zr rfl (zb rfl (by exact br (aC (by omega) (by omega))) ?_))
 refine zm rfl (zv (WP.loop (zg rfl (zh rfl (af rfl rfl aT) (by decide) ?_))))
 exact zk 3 rfl (WP.exit (zK 6 rfl (WP.ret ⟨aa,_,rfl,qo,rfl,sB,ig.trans nN,((s.ae [2]).del 3 |>.del 2).del 1⟩)))
end
def SA (a p q r:Nat)(op:V)(data:List Nat)(aH:Nat)(ε:aI): au:=star [dV a p q r op data aH,eF r p q ε.1,b8 q p ε.2.1,aR p ε.2.2]
def GA (g a p q r:Nat)(data:List Nat)(aH:Nat)(now:List (Int×List Nat))(ε:aI): au:=star [fZ g a now false,dV a p q r (.ptr g 0) data aH,eF r p q ε.1,b8 q p ε.2.1,aR p ε.2.2]
def fR (now:List (Int×List Nat))(ε:aI)(n:Int): List Nat:=match lookL n now with
 | some b=>b
 | none=>pgA ε n
theorem mQ {N:Nat}{now:List (Int×List Nat)}{ε ε':aI}(h:Sm N ε ε'): fR now ε'=fR now ε:=by
 funext n
 unfold fR
 rw [h.1]
theorem kr {now:List (Int×List Nat)}{ε:aI}{i n:Int}{b:List Nat}: fR (cB i b now) ε n=if i=n then b else fR now ε n:=by
 unfold fR
 rw [gS]
 by_cases h:i=n
 ·rw [aj h,aj h]
 ·rw [ah h,ah h]
section
variable {told:cQ} {h:H} {S:List au} {X Y:au} {N B n g a p q r aH:Nat} {v x y rv op:V} {b l c R M data:List Nat} {kd link extra og:Nat} {cs:List (List Nat)} {ε:aI} {now:List (Int×List Nat)}
theorem IA (hT:W told)(hB:B≤2000): uP told N B (.iface 24 (.ptr a 0)) (SA a p q r op data aH) pgA:=by
 refine ⟨⟨_,_,_,rfl,UW,fun {h S ε n} I h0 h1 s => ?_⟩,fun hs=>hs.1⟩
 have z_:=I.cn
 have TH:=rA (ε:=ε)
 have s:=bQ.1 s
 refine (Cc hT (n:=n) s I.ok.ok I.ok.pins (by omega)).mono ?_
 rintro v h ⟨e,b,ε',J,hs⟩
 obtain ⟨k1,k2,k3,k4⟩:=J.ec I.ec I.ok.pins
 obtain ⟨rfl,rfl⟩:=k3 h0 h1
 rcases hs with ⟨he,_⟩ | ⟨_,u,rfl,s⟩
 ·exact absurd rfl he
 ·have s2:Sat h (SA a p q r op data aH ε'::aZ u (pgA ε n)::S):=bQ.2 (s.ae [1,1,1,1,0])
  exact ⟨u,ε',rfl,I.rd J,⟨k2,fun P hP hv=>hP.rd J I.ec hv,J.cn⟩,s2.ae [1]⟩
theorem MK (hT:W told)(hB:B≤2000)(hw:NW N now): uP told N B (.iface 26 (.ptr g 0)) (GA g a p q r data aH now) (fR now):=by
 refine ⟨⟨_,_,_,rfl,EY,fun {h S ε n} I h0 h1 s => ?_⟩,fun hs m=>by rw [mQ hs]⟩
 have z_:=I.cn
 have TH:=rA (ε:=ε)
 have s:=bQ.1 s
 refine (Ii hT (n:=n) s I.ok (by omega) (fun e he=>eX (hw.good e he).1)).mono ?_
 rintro v h ⟨e,b,ε',J,hs⟩
 obtain ⟨k1,k2,k3,k4⟩:=J.ec I.ec I.ok.pins
 obtain ⟨rfl,hb⟩:=k3 h0 h1
 have hb:b=fR now ε n:=hb
 subst hb
 rcases hs with ⟨he,_⟩ | ⟨_,u,rfl,s⟩
 ·exact absurd rfl he
 ·have s2:Sat h (GA g a p q r data aH now ε'::aZ u (fR now ε n)::S):=bQ.2 (s.ae [1,1,1,1,1,0])
  exact ⟨u,ε',rfl,I.Aa J,⟨k2,fun P hP hv=>hP.Aa J I.ec hv,J.cn⟩,s2.ae [1]⟩
theorem Be (hT:W told)(hB:B≤2000)(I:EI N B ε)(hw:NW N now){i:Nat}(hi:i<N)(s:Sat h (GA g a p q r data aH now ε::X::S))(hX:cT X (cU x b))(hp:dX b kd link extra cs):
  Call ⟨Tryz.prog,told⟩ 49 [.ptr g 0,.int .i64 (i:Int),x] h fun v h'=>∃ε',v=.int .i64 0∧EI N B ε'∧Sm N ε ε'∧NW N (cB (i:Int) b now)∧Sat h' (GA g a p q r data aH (cB (i:Int) b now) ε'::X::S):=by
 have z_:=I.cn
 have TH:=rA (ε:=ε)
 have hlen:=hp.len
 have hb:=(s.aE (k:=1) rfl hX).1
 have s:=bQ.1 s
 refine (O5 hT (n:=(i:Int)) s hX (by omega) I.ok (by omega) (fun e he=>eX (hw.good e he).1)).mono ?_
 rintro v h ⟨e,cS,ε',J,rfl,s⟩
 obtain ⟨k1,k2,k3,k4,k5⟩:=J.ec I.ec I.ok.pins
 obtain ⟨rfl,rfl⟩:=k5 (by omega) (by omega) hp.good
 exact ⟨ε',rfl,I.O_ J,⟨k2,fun P hP hv=>hP.O_ J I.ec hv,J.cn⟩,hw.put (by omega) (by omega) hp.good hb,bQ.2 s⟩
theorem iH.put {P:Int→List Nat}(h:iH N R M P){I:List Nat}{P':Int→List Nat}(J:P' 0=P 0)(h1:∃kd lk ex,dX (P' 1) kd lk ex [I])(hl:I.length=375)(ho:∀j,j<2→bt I j=true)(hh:∀j,N≤j→bt I j=false): iH N R I P' :=
 ⟨by rw [J]; exact h.head,h.rl,h1,hl,h.n1,h.n2,ho,hh⟩
theorem xS {i:Int}{b:List Nat}: ∀ {now:List (Int×List Nat)},(cB i b now).length≤now.length+1:=by
 intro now
 induction now with
 | nil=>exact aD _
 | cons e now I =>
  obtain ⟨k,c⟩:=e
  simp only [cB]
  split <;> simp only [aS] <;> omega
theorem R3 (hT:W told)(hB:B≤2000)(mo:EI N B ε)(hw:NW N now)(hp:iH N R M (fR now ε)){i:Nat}(hi:i<N)(jF:2≤i){bl:Bool}(s:Sat h (GA g a p q r data aH now ε::S)):
  Call ⟨Tryz.prog,told⟩ 52 [.ptr g 0,.int .i64 (i:Int),.bool bl] h fun v h'=>∃ε' cS,v=.int .i64 0∧EI N B ε'∧Sm N ε ε'∧NW N cS∧cS.length≤now.length+1∧iH N R (if bl then F1 M i else Po M i) (fR cS ε')∧(∀m,m≠1→fR cS ε' m=fR now ε m) ∧
   Sat h' (GA g a p q r data aH cS ε'::S):=by
 obtain ⟨kd,lk,og,F2⟩:=hp.marks
 have hM:=hp.ml
 have ux:=hp.n1
 have sA:=hp.n2
 have hi8:i/8<M.length:=by omega
 have hb:M[i/8]?=some (M[i/8]'(by omega)):=bf _
 have qx:M.getD (i/8) 0=M[i/8]'(by omega):=by rw [dU,hb]; rfl
 generalize (M[i/8]'(by omega))=z at hb qx
 -- what is so behind it
 have fin:∀ {ε':aI} {b':List Nat} {M':List Nat},Sm N ε ε'→dX b' kd lk og [M']→M'.length=375→(∀j,bt M' j=if j=i then bl else bt M j)→iH N R M' (fR (cB 1 b' now) ε')∧(∀m,m≠1→fR (cB 1 b' now) ε' m=fR now ε m):=fun {ε' b' M'} hs I hl Ah =>
  ⟨hp.put (by rw [kr,ah (by decide),mQ hs]) ⟨_,_,_,by rw [kr,aj rfl]; exact I⟩ hl (fun j hj=>by rw [Ah,ah (by omega)]; exact hp.own j hj) (fun j hj=>by rw [Ah,ah (by omega)]; exact hp.hi j hj),
   fun m hm=>by rw [kr,ah (by omega),mQ hs]⟩
 refine Call.of_wp (hT.free _ rfl) Tryz.func52 rfl rfl (zK 7 rfl (zo rfl (u9 rfl (rW ql rfl)) (zm rfl (zo rfl (af (r:=.int .i64 0) rfl rfl (RZ (by omega))) ?_))))
 refine zc rfl (xR hT (MK hT hB hw) mo (by omega) F2 hM s) ?_
 rintro v h ⟨w2,u2,qo,rfl,sB,nN,s⟩
 have hv:=(s.buf (k:=0) rfl).view
 have hz:z<256:=hv.1 z (bC hb)
 have h2k:2^(i%8)<256:=vL (a:=2) (n:=8) (by decide) (by omega)
 obtain ⟨id,off,e1,e2⟩:=eP hv hb
 refine zk 12 rfl (zh rfl (af rfl rfl aN) (rfl) (zk 6 rfl (zb rfl (Xy (by omega)) ?_)))
 refine zb rfl (EU (a:=i) (b:=8) (by decide)) ?_
 refine zb rfl (Xv (k:=i%8) (by omega)) ?_
 refine zk 6 rfl (zb rfl (Xy (by omega)) ?_)
 refine zb rfl (Dz (a:=i) (b:=8) (by decide) (by omega)) ?_
 refine zk 6 rfl ?_
 cases bl with
 | true =>
  obtain ⟨IB,J,e3,h4,e4,s2⟩:=oE s (i:=i/8) (b:=Nat.lor z (2^(i%8))) (by omega) (Pp hz (by omega))
  have ee:V.ptr id off=V.ptr IB J:=by rw [e1] at e3; exact bk e3
  rw [←ee] at e4
  refine zK 4 rfl (zo rfl (dr (r:=.ptr id off) rfl rfl e1) (zl rfl e2 (zm rfl (zb rfl (Y7 hz (by omega)) ?_))))
  refine zo rfl (dr (r:=.ptr id off) rfl rfl e1) (zS rfl (⟨h4,e4,s2⟩) ?_)
  rintro h s
  rw [←qx] at s
  have s:Sat h (aZ u2 (F1 M i)::_):=s
  refine zk 6 rfl (zc rfl (E5 (i:=0) (c:=M) hT (s.ae [1,0]) (bg _ _) (bg _ _) F2 rfl Lb) ?_)
  rintro v h ⟨w3,b',rfl,I,s⟩
  refine zk 9 rfl (zh rfl (af rfl rfl aN) (rfl) (zk 7 rfl (zo rfl (af (r:=.int .i64 0) rfl rfl (RZ (by omega))) ?_)))
  refine zb rfl (by exact br (aC (by omega) (by omega))) ?_
  refine zm rfl (zc rfl (Be (i:=1) hT hB sB hw (by omega) (s.ae [3,0]) (bg _ _) I) ?_)
  rintro v h ⟨DD,rfl,yt,sC,Ai,s⟩
  refine zk 2 rfl (WP.ret ⟨aa,_,rfl,?_⟩)
  obtain ⟨f1,f2⟩:=fin (nN.trans sC) I (by rw [Lb]; exact hM) (fun j=>Y5 hi8)
  exact ⟨DD,_,rfl,yt,nN.trans sC,Ai,xS,f1,f2,((s.ae [0]).del 3 |>.del 2).del 1⟩
 | false =>
  obtain ⟨IB,J,e3,h4,e4,s2⟩:=oE s (i:=i/8) (b:=Nat.land z (255-2^(i%8))) (by omega) (E6 hz)
  have ee:V.ptr id off=V.ptr IB J:=by rw [e1] at e3; exact bk e3
  rw [←ee] at e4
  refine zK 4 rfl (zo rfl (dr (r:=.ptr id off) rfl rfl e1) (zl rfl e2 (zm rfl (zb rfl (Pq hz h2k) (zo rfl (dr (r:=.ptr id off) rfl rfl e1) (zS rfl (⟨h4,e4,s2⟩) ?_))))))
  rintro h s
  rw [←qx] at s
  have s:Sat h (aZ u2 (Po M i)::_):=s
  refine zk 6 rfl (zc rfl (E5 (i:=0) (c:=M) hT (s.ae [1,0]) (bg _ _) (bg _ _) F2 rfl Lc) ?_)
  rintro v h ⟨w3,b',rfl,I,s⟩
  refine zk 9 rfl (zh rfl (af rfl rfl aN) (rfl) (zk 7 rfl (zo rfl (af (r:=.int .i64 0) rfl rfl (RZ (by omega))) ?_)))
  refine zb rfl (by exact br (aC (by omega) (by omega))) ?_
  refine zm rfl (zc rfl (Be (i:=1) hT hB sB hw (by omega) (s.ae [3,0]) (bg _ _) I) ?_)
  rintro v h ⟨DD,rfl,yt,sC,Ai,s⟩
  refine zk 2 rfl (WP.ret ⟨aa,_,rfl,?_⟩)
  obtain ⟨f1,f2⟩:=fin (nN.trans sC) I (by rw [Lc]; exact hM) (fun j=>Y6 hi8)
  exact ⟨DD,_,rfl,yt,nN.trans sC,Ai,xS,f1,f2,((s.ae [0]).del 3 |>.del 2).del 1⟩
theorem Px (hT:W told)(hB:B≤2000)(mo:EI N B ε)(hw:NW N now)(hp:iH N R M (fR now ε)){lo:Nat}(uO:lo<N)(h0:bt M lo=false)(h1:∀j,j<lo→bt M j=true)(s:Sat h (GA g a p q r data aH now ε::S)):
  Call ⟨Tryz.prog,told⟩ 22 [.ptr g 0] h fun v h'=>∃ε' cS,v=.bj [.int .i64 (lo:Int),.int .i64 0]∧EI N B ε'∧Sm N ε ε'∧NW N cS∧cS.length≤now.length+2∧iH N R (F1 M lo) (fR cS ε')∧(∀m,m≠1→m≠(lo:Int)→fR cS ε' m=fR now ε m)∧dX (fR cS ε' lo) 0 0 0 []∧fR cS ε' lo=vD 0 ∧
   Sat h' (GA g a p q r data aH cS ε'::S):=by
 have ux:=hp.n1
 have sA:=hp.n2
 have h2:2≤lo:=by
  rcases lR lo 2 with hq | hq
  ·rw [hp.own lo hq] at h0; cases h0
  ·exact hq
 refine Call.of_wp (hT.free _ rfl) Tryz.func22 rfl rfl (zK 8 rfl (zo rfl (u9 rfl (rW ql rfl)) (zc rfl (Pv hT (MK hT hB hw) mo (by omega) hp uO h0 h1 s) ?_)))
 rintro v h ⟨sn,rfl,pO,ig,s⟩
 have F2:iH N R M (fR now sn):=by rw [mQ ig]; exact hp
 refine zk 7 rfl (WP.block (zK 3 rfl (zh rfl (af rfl rfl aN) (rfl) (zk 6 rfl (zh rfl (af rfl rfl aT) (by simp) ?_)))))
 refine za rfl (zv (zj rfl (WP.skip (zw (zg rfl (zk 2 rfl (zc rfl (R3 (bl:=true) hT hB pO hw F2 uO h2 s) ?_)))))))
 rintro v h ⟨qo,aa0,rfl,sB,nN,vl,jo,I,qy,s⟩
 refine za rfl (zv (zg rfl (zm rfl (zh rfl (af rfl rfl aN) (rfl) (zv (zj rfl (WP.skip (zg rfl (zc rfl (F0 (kd:=0) hT s (by decide)) ?_)))))))))
 rintro v h ⟨u,rfl,s⟩
 have pS:dX (vD 0) 0 0 0 []:=dX.new (k:=0)
 generalize hbn:vD 0=b' at s pS
 refine zk 12 rfl (zc rfl (Be (i:=lo) hT hB sB vl uO (s.ae [1,0]) (bg _ _) pS) ?_)
 rintro v h ⟨DD,rfl,yt,J,Ai,s⟩
 refine zk 5 rfl (zh rfl (af rfl rfl aN) (rfl) (zk 9 rfl (WP.ret ⟨aa,_,rfl,?_⟩)))
 have I:iH N R (F1 M lo) (fR aa0 qo):=I
 refine ⟨DD,_,rfl,yt,(ig.trans nN).trans J,Ai,cC xS (by omega),I.put (by rw [kr,ah (by omega),mQ J]) ?_ I.ml I.own I.hi,fun m uo rP=>by rw [kr,ah (by omega),mQ J,qy m uo,mQ ig],by rw [kr,aj rfl]; exact pS,by rw [kr,aj rfl],s.del 1⟩
 rw [kr,ah (by omega),mQ J]
 exact I.marks
theorem R4 (hT:W told)(hB:B≤2000)(I:EI N B ε)(hw:NW N now)(hp:iH N R M (fR now ε)){lo:Nat}(J:lo<N)(h0:bt M lo=false)(h1:∀j,j<lo→bt M j=true)(s:Sat h (GA g a p q r data aH now ε::S)):
  Call ⟨Tryz.prog,told⟩ 22 [.ptr g 0] h fun v h'=>∃ε' cS,v=.bj [.int .i64 (lo:Int),.int .i64 0]∧EI N B ε'∧Sm N ε ε'∧NW N cS∧iH N R (F1 M lo) (fR cS ε')∧(∀m,m≠1→m≠(lo:Int)→fR cS ε' m=fR now ε m)∧dX (fR cS ε' lo) 0 0 0 [] ∧
   Sat h' (GA g a p q r data aH cS ε'::S) :=
 (Px hT hB I hw hp J h0 h1 s).mono fun v h' ⟨ε',cS,e,a1,a2,a3,_,a4,a5,a6,_,a7⟩=>⟨ε',cS,e,a1,a2,a3,a4,a5,a6,a7⟩
end
theorem xT : gr (List.replicate 512 0)=0:=by rw [gr,aj rfl]
def fresh (n m f:Nat): aI:=(Pl.fresh f,(Lg.fresh,Dk.fresh n m))
theorem Ce {n m:Nat}(k:Int): (Dk.fresh n m).at k=List.replicate 512 0:=by
 rw [Dk.at,show lookL k (Dk.fresh n m).now=none from rfl]
 simp only [Dk.fresh]
 cases I:(List.replicate n (none:Option (List Nat)))[k.toNat]? with
 | none=>rfl
 | some o =>
  have:=qB (bC I)
  subst this
  rfl
theorem r9 {n m f:Nat}(k:Int): pgA (fresh n m f) k=List.replicate 512 0:=by
 rw [mJ (by rfl)]
 exact Ce k
theorem qp {f i:Nat}{x:Fm}(h:(Pl.fresh f).ak[i]?=some x): x=eR:=qB (bC h)
theorem EI.fresh {n m f:Nat}(hn:n≤65536)(hm:m≤16777216)(hf:1≤f)(Ld:f≤1024): EI n 1 (fresh n m f):=by
 have J:∀x∈(Pl.fresh f).ak,x=eR:=fun x I=>qB I
 have hlen:(Pl.fresh f).ak.length=f:=cY
 refine ⟨⟨⟨⟨(show 0<(Pl.fresh f).ak.length by rw [hlen]; omega),(show (Pl.fresh f).ak.length≤1024 by rw [hlen]; exact Ld),fun e he=>(by cases he),fun x I=>by rw [J x I]; decide,fun x I=>by rw [J x I]; decide⟩,Lg.Is,?_⟩,fun x I=>by rw [J x I]; rfl,⟨kL,fun k i hk=>(by cases hk)⟩⟩,⟨?_,kL,fun k i hk=>(by cases hk),fun i x I=>.inl (by rw [qp I]; decide),fun k hk=>(by cases hk),kL⟩,⟨rfl,aD _,(show (1:Nat)+0≤1*1048600 by decide)⟩,?_⟩
 ·exact ⟨(show (-1:Int)<4294967296 by decide),ew _,hm,fun e he=>(by cases he),fun i b hb=>(by have h1:some b=none:=qB (bC hb); cases h1),aD _,(show (List.replicate n (none:Option (List Nat))).length≤65536 by rw [cY]; exact hn)⟩
 ·exact ⟨rfl,(show (-1:Int)<0 by decide),cY,fun k hk=>(by cases hk),kL,fun k h0 h1=>by show gr ((Dk.fresh n m).at k)=0; rw [Ce]; exact xT⟩
 ·have e:fJ (Pl.fresh f).ak=0:=by
   rw [fJ,List.count_eq_zero]
   intro hh
   obtain ⟨x,I,hc⟩:=List.mem_map.1 hh
   rw [J x I] at hc
   cases hc
  show ([]:List Wr).length+fJ (Pl.fresh f).ak≤_
  rw [e]; decide
theorem Le {n:Nat}(h:n<128): (digits 9 n).length=1:=by
 show (if n<128 then [n] else (n%128+128)::digits 8 (n/128)).length=1
 rw [aj h]; rfl
theorem Bf {n:Nat}(h:n<16384): (digits 9 n).length≤2:=by
 show (if n<128 then [n] else (n%128+128)::(if n/128<128 then [n/128] else (n/128%128+128)::digits 7 (n/128/128))).length≤2
 split
 ·exact qS 1
 ·rw [aj (by omega)]; exact aD 2
theorem Cf {c:cq}(I:c.aL.toNat<16384)(J:c.pos.toNat<16384)(h3:c.b.length<16384): (kC c).length≤7+c.b.length:=by
 have e1:=Bf I
 have e2:=Bf J
 have e3:=Bf h3
 simp only [kC,bx,aS,bT]
 omega
theorem Vb {pg:Int}{cX now:List Nat}{i:Nat}{l:List cq}(J:uG pg cX now i l)(hn:now.length=512)(hp:pg.toNat<16384): ∀j,(∀k,i≤k→k<j→cX[k]?=now[k]?)→j≤520→(l.flatMap kC).length≤520-max i j:=by
 induction J with
 | done i h=>intro j _ _; simp
 | skip i l h he J ih =>
  intro j hj I
  have:=ih j (fun k h1 h2=>hj k (by omega) h2) I
  omega
 | take i e l h1 h2 h3 h4 J ih =>
  intro j hj I
  have rV:j≤i:=sW fun bF=>h3 (hj i (aD _) bF)
  have h5:=ih (e+8) h4 (by omega)
  have hl:((now.take e).drop i).length=e-i:=by rw [vU,dM]; omega
  have h6:=Cf (c:=⟨pg,i,false,(now.take e).drop i⟩) hp (by show (i:Int).toNat<_; omega) (by show ((now.take e).drop i).length<_; omega)
  rw [qG,bx]
  simp only [hl] at h6
  omega
theorem Vc {pg:Int}{cX now:List Nat}{c:List cq}(hr:FP pg cX now c)(hn:now.length=512)(I:pg.toNat<16384): (c.flatMap kC).length≤520:=by
 obtain ⟨l,hl,rfl⟩:=hr
 have:=Vb hl hn I 0 (fun k _ h=>absurd h (by omega)) (by omega)
 by_cases J:l=[]
 ·rw [aj J]
  have h6:=Cf (c:=⟨pg,0,false,[]⟩) I (show (0:Int).toNat<16384 by decide) (show ([]:List Nat).length<16384 by decide)
  simp only [qG,List.flatMap_nil,bR]
  simp only [bT] at h6
  omega
 ·rw [ah J]; omega
theorem js.Xz {N:Nat}{now:List (Int×List Nat)}{l:List Int}{ε ε':aI}{e:Int}{cs:List cq}(hr:js now l ε e cs ε')(hn:NW N now): (∀n∈l,n.toNat<16384)→(cs.flatMap kC).length≤520*l.length:=by
 induction hr with
 | nil ε=>intro _; simp
 | err n l ε e b ε' hr he=>intro _; simp
 | part n l ε cX b ε' c e cs I hr hb jr hc iG ht ih =>
  intro J
  have h1:=Vc hc (eX (hn.look hb).1) (J n bu)
  have h2:=ih fun m hm=>J m (bn _ hm)
  rw [List.flatMap_append,bx,aS]
  omega
 | whole n l ε cX b ε' e cs I hr hb jr ht ih =>
  intro J
  have pS:=eX (hn.look hb).1
  have h1:=Cf (c:=⟨n,0,true,b⟩) (J n bu) (show (0:Int).toNat<16384 by decide) (by show b.length<_; omega)
  have h2:=ih fun m hm=>J m (bn _ hm)
  rw [qG,bx,aS]
  simp only at h1
  omega
theorem xU {N L:Nat}{now:List (Int×List Nat)}{ε ε':aI}{e:Int}{cs:List cq}{kd:Int}{tx:Nat}(hr:js now (bU now) ε e cs ε')(I:NW N now)(hL:now.length≤L)(hN:N≤16384)(ht:tx<16384): (dK kd tx 0 0 [] cs).length≤520*L+20:=by
 have h2:=Bf ht
 have h1:=Le (n:=0) (by decide)
 have h4:=Le (n:=([]:List Nat).length) (by decide)
 have h5:=JX cs.length
 have h6:=hr.Xz I fun n hm=>by have:=I.keys n (jJ.1 hm); omega
 have J:(bU now).length≤L:=by
  rw [bU,(fc _).length_eq,fS]; exact hL
 have J:=Nat.mul_le_mul_left 520 J
 simp only [dK,bx,aS,bT] at h4 ⊢
 omega
theorem rC (K M:Nat): kJ fun x=>x.2.log.length=K∧x.2.room=M:=by
 refine ⟨fun x n h => ?_,fun x n b h => ?_⟩
 ·unfold bE Dk.cK
  split
  ·exact h
  ·split
   ·exact h
   ·split
    ·exact h
    ·split <;> first | exact h | exact h
 ·unfold Dk.bK
  split
  ·exact h
  ·split
   ·exact h
   ·split <;> exact h
def vm (K M:Nat)(ε:aI): Prop:=ε.2.2.log.length≤K∧ε.2.2.room=M
theorem vm.sm {N K M:Nat}{ε ε':aI}(h:vm K M ε)(hs:Sm N ε ε'): vm K M ε':=by
 have:=hs.2.1 _ ((rC ε.2.2.log.length ε.2.2.room).vC N) ⟨rfl,rfl⟩
 have this:ε'.2.2.log.length=ε.2.2.log.length∧ε'.2.2.room=ε.2.2.room:=this
 exact ⟨by rw [this.1]; exact h.1,by rw [this.2]; exact h.2⟩
theorem pM.fits {N B K M L kd tx aK:Nat}{now:List (Int×List Nat)}{ε ε':aI}{e:Int}{cl:Bool}(hr:pM ε now kd tx 0 0 [] 0 aK e cl ε')(J:EI N B ε)(hB:B≤1000)(hw:NW N now)(hL:now.length≤L)(hN:N≤1024)(h1:1≤kd)(h2:kd≤7)(FI:tx<16384)(hd:vm K M ε)(hf:K+520*L+28≤M):
  cl=true∧e=0∧vm (K+520*L+28) M ε':=by
 have I:∀n∈bU now,0≤n∧n<N:=fun n hq=>hw.keys n (jJ.1 hq)
 obtain ⟨hK,hM⟩:=hd
 have ML:=J.done hB hw (by omega) (by omega) hr
 cases hr with
 | arg hh=>omega
 | dead _ _ _ hd=>rw [J.ec.dk.alive] at hd; cases hd
 | nF e c ε' _ _ _ _ hc z6=>exact absurd (hc.ec J.ec J.ok I).2.2 z6
 | app c qo _ _ _ _ hc z6 =>
  exfalso
  have sx:=xU (kd:=kd) hc hw hL (by omega) FI
  have acf:=xU (kd:=kd) hc hw hw.len (by omega) FI
  have hP:=(rC ε.2.2.log.length ε.2.2.room).ch hc ⟨rfl,rfl⟩
  obtain ⟨c1,c2,c3⟩:=hc.ec J.ec J.ok I
  have qx:dD kd c=true:=by
   refine uL ⟨by omega,by omega⟩ (hc.fit (fun x hx=>eX (hw.good x hx).1) fun n hq => ?_)
   have:=I n hq
   omega
  rcases jl qo.2 kd tx 0 0 [] c with ⟨e,he,rQ,hq⟩ | ⟨_,Du,hq⟩ | ⟨_,hb,sy,dZ,Du,hq⟩
  ·rcases rQ with ⟨rfl,hg⟩ | ⟨_,hb⟩ | ⟨rfl,sy⟩ | ⟨rfl,hb⟩
   ·rw [qx] at hg; cases hg
   ·omega
   ·rw [c1.dk.alive] at sy; cases sy
   ·rw [dI,oT,hP.1,hP.2] at hb; omega
  ·have:=c1.dk.aP; omega
  ·rw [hq] at z6; exact absurd rfl z6
 | put c qo e DD _ _ _ _ hc ha hp =>
  rcases ML with ⟨iG,_⟩ | ⟨_,he,_⟩
  ·cases iG
  ·refine ⟨rfl,he,?_⟩
   have sx:=xU (kd:=kd) hc hw hL (by omega) FI
   have hP:=(rC ε.2.2.log.length ε.2.2.room).ch hc ⟨rfl,rfl⟩
   rcases jl qo.2 kd tx 0 0 [] c with ⟨e,he,rQ,hq⟩ | ⟨_,Du,hq⟩ | ⟨_,hb,sy,dZ,Du,hq⟩
   ·rw [hq] at ha; exact absurd ha he
   ·rw [hq] at ha; cases ha
   ·rw [hq] at hp
    have iF:=(rC (ε.2.2.log.length+(dI qo.2.1 kd tx 0 0 [] c).length) ε.2.2.room).pt hp ⟨by show (qo.2.2.log++_).length=_; rw [bx,hP.1],hP.2⟩
    have h3:(dI qo.2.1 kd tx 0 0 [] c).length≤520*L+28:=by rw [dI,oT]; omega
    exact ⟨by rw [iF.1]; omega,by rw [iF.2]; exact hM⟩
end Go.Proofs.YtefepnnfphdkpaaGreat.Am
