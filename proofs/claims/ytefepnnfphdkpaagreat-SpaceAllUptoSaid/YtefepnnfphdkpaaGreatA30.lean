/- SpaceAll: a part of its proof; conditions: its statement's. -/
import Derived.Test.YtefepnnfphdkpaaGreatA29
import Derived.Test.YtefepnnfphdkpaaGreatA28
namespace Go.Proofs.YtefepnnfphdkpaaGreat.Am
open Go
section
variable {told:cX} {h:H} {S:List au} {X Y:au} {N B n:Nat} {v x y rv:V} {b l c R M:List Nat} {kd link extra k_:Nat} {cs:List (List Nat)} {A:aH→au} {pg:aH→Int→List Nat} {ε:aH}
theorem Le (I:W told){a:Nat}(J:a<256): Call ⟨Tryz.prog,told⟩ 56 [.int .u8 (a:Int)] h fun r h'=>r=.int .i64 (oP a:Nat)∧h'=h:=by
 have hle:oP a≤8:=by unfold oP; exact b5 (yW _ _) (by simp)
 refine Call.of_wp (I.free _ rfl) Tryz.func56 rfl rfl (zK 7 rfl (zo rfl (B8 rfl rfl (Jm (f:=oP) r7 (by decide +kernel) J)) ?_))
 refine zo rfl (cM rfl (by exact jf Tryz.underlying5 bG (aA (by omega) (by omega)))) ?_
 exact zk 2 rfl (WP.ret ⟨aa,_,rfl,rfl,rfl⟩)
theorem C9 (I:W told){a:Nat}(J:a<256): Call ⟨Tryz.prog,told⟩ 109 [.int .u8 ((255-a:Nat):Int)] h fun r h'=>r=.int .i64 (jo a:Nat)∧h'=h:=by
 have hle:∀a,a<256→jo a≤8:=by decide +kernel
 have hle:=hle a J
 have he:jo (255-(255-a))=jo a:=by rw [show 255-(255-a)=a by omega]
 refine Call.of_wp (I.free _ rfl) Tryz.func109 rfl rfl (zK 7 rfl (zo rfl (B8 rfl rfl (Jm (f:=fun x=>jo (255-x)) r7 (by decide +kernel) (by omega))) ?_))
 rw [he]
 refine zo rfl (cM rfl (by exact jf Tryz.underlying5 bG (aA (by omega) (by omega)))) ?_
 exact zk 2 rfl (WP.ret ⟨aa,_,rfl,rfl,rfl⟩)
noncomputable def R3 : Code:=fC [1,1,1,0,1,0,0,1,1,0,0,1,1,1,1,0,0] ((Tryz.f51.body).getD .skip)
theorem Lf (hT:W told){u:V}{lo:Nat}(hv:View h u M)(hM:M.length=375)(hn:n≤3000)(oA:lo<n)(h0:bt M lo=false)(h1:∀j,j<lo→bt M j=true): ∀(m k:Nat) (E:List (Nat×V)) (Q:Ex→List (Nat×V)→H→Prop),k+m=lo/8 →
  Has E [(5,.int .i64 (n:Int)),(7,.int .i64 0),(39,u),(40,.int .i64 375),(41,.int .i64 (k:Int))] →
  (∀E',look E' 2=some (.int .i64 (lo:Int))→look E' 3=some (.int .i64 0)→Q .ret E' h)→WP ⟨Tryz.prog,told⟩ 65 (.loop R3) E h Q:=by
 intro m
 induction m with
 | zero =>
  intro k E Q hk hE hq
  have J:M[k]?=some (M[k]'(by omega)):=aN _
  have I:M.getD k 0=M[k]'(by omega):=by rw [dF,J]; rfl
  generalize (M[k]'(by omega))=x at J I
  have hx:x<256:=hv.1 x (aU J)
  obtain ⟨id,off,e1,e2⟩:=c7 hv J
  have EA:x≠255:=fun e=>by
   have:=vS (M:=M) (k:=k) (j:=lo%8) (by omega)
   rw [show 8*k+lo%8=lo by omega,h0,I,e] at this
   have q:∀j,j<8→(255:Nat).testBit j=true:=by decide
   rw [q _ (by omega)] at this; cases this
  obtain ⟨w1,w2,w3⟩:=Fp x (by omega)
  have hl:8*k+jo x=lo:=by
   have a1:=vS (M:=M) (k:=k) (j:=jo x) w1
   rw [I,w2] at a1
   rcases iR (8*k+jo x) lo with q | q
   ·rw [h1 _ q] at a1; cases a1
   ·by_cases q2:lo%8<jo x
    ·have:=w3 _ q2
     have a2:=vS (M:=M) (k:=k) (j:=lo%8) (by omega)
     rw [show 8*k+lo%8=lo by omega,h0,I,this] at a2; cases a2
    ·omega
  refine WP.loop (WP.has hE (zg rfl (zt rfl (ag rfl rfl aO) (by simp; omega) ?_)))
  refine zk 5 rfl (WP.block (zK 3 rfl (zo rfl (cI (r:=.ptr id off) rfl rfl e1) (zl rfl e2 (zk 6 rfl (zb rfl (by exact jD (aA (by omega) (by omega))) ?_))))))
  refine zm rfl (zb rfl (by exact jD (aA (by omega) (by omega))) ?_)
  refine zb rfl (by exact aV (aA (by omega) (by omega))) ?_
  refine zm rfl (zo rfl (eP rfl (C8 hx)) (zc rfl (C9 hT hx) ?_))
  rintro v h' ⟨rfl,rfl⟩
  refine zo rfl (ag (r:=.int .i64 (lo:Int)) rfl rfl (by rw [←hl,show (((8*k+jo x:Nat):Int))=(3000*0+8*(k:Int))+(jo x:Int) by omega]; exact aV (aA (by omega) (by omega)))) ?_
  refine zk 5 rfl (zt rfl (ag rfl rfl aF) (by simp; omega) ?_)
  refine zk 3 rfl (zt rfl (ag rfl rfl aO) (by simp; omega) ?_)
  exact zk 9 rfl (WP.ret (hq _ rfl rfl))
 | succ m ih =>
  intro k E Q hk hE hq
  have J:M[k]?=some (M[k]'(by omega)):=aN _
  have I:M.getD k 0=M[k]'(by omega):=by rw [dF,J]; rfl
  generalize (M[k]'(by omega))=x at J I
  have hx:x<256:=hv.1 x (aU J)
  obtain ⟨id,off,e1,e2⟩:=c7 hv J
  have EA:x=255:=Tf x hx fun j hj=>by rw [←I,←vS hj]; exact h1 _ (by omega)
  have Jn:∀a,a<256→jo a≤8:=by decide +kernel
  have Jn:=Jn x hx
  refine WP.loop (WP.has hE (zg rfl (zt rfl (ag rfl rfl aO) (by simp; omega) ?_)))
  refine zk 5 rfl (WP.block (zK 3 rfl (zo rfl (cI (r:=.ptr id off) rfl rfl e1) (zl rfl e2 (zk 6 rfl (zb rfl (by exact jD (aA (by omega) (by omega))) ?_))))))
  refine zm rfl (zb rfl (by exact jD (aA (by omega) (by omega))) ?_)
  refine zb rfl (by exact aV (aA (by omega) (by omega))) ?_
  refine zm rfl (zo rfl (eP rfl (C8 hx)) (zc rfl (C9 hT hx) ?_))
  rintro v h' ⟨rfl,rfl⟩
  refine zb rfl (by exact aV (aA (by omega) (by omega))) ?_
  refine zk 5 rfl (zh rfl (ag rfl rfl aF) (by simp; omega) ?_)
  refine zk 5 rfl (zv (zj rfl (WP.skip (zr rfl (zb rfl (by exact aV (aA (by omega) (by omega))) ?_)))))
  refine zm rfl (zv ?_)
  exact ih (k+1) _ Q (by omega) ⟨rfl,rfl,rfl,rfl,rfl,aa⟩ hq
theorem Jo (hT:W told){u:V}(hv:View h u M)(hM:M.length=375)(hn:n≤3000)(h1:∀j,j<n→bt M j=true)(h0:∀j,n≤j→bt M j=false): ∀(m k:Nat) (E:List (Nat×V)) (Q:Ex→List (Nat×V)→H→Prop),k+m=375 →
  Has E [(5,.int .i64 (n:Int)),(7,.int .i64 0),(25,.int .i64 1),(26,.int .i64 0),(39,u),(40,.int .i64 375),(41,.int .i64 (k:Int))] →
  (∀E',Has E' [(25,.int .i64 1),(26,.int .i64 0)]→Q (.exit 2) E' h)→WP ⟨Tryz.prog,told⟩ 65 (.loop R3) E h Q:=by
 intro m
 induction m with
 | zero =>
  intro k E Q hk I hq
  refine WP.loop (WP.has I (zg rfl (zh rfl (ag rfl rfl aO) (by simp; omega) ?_)))
  exact zk 3 rfl (WP.exit (hq _ ⟨rfl,rfl,aa⟩))
 | succ m ih =>
  intro k E Q hk I hq
  have hb:M[k]?=some (M[k]'(by omega)):=aN _
  have J:M.getD k 0=M[k]'(by omega):=by rw [dF,hb]; rfl
  generalize (M[k]'(by omega))=x at hb J
  have hx:x<256:=hv.1 x (aU hb)
  obtain ⟨id,off,e1,e2⟩:=c7 hv hb
  have Jn:∀a,a<256→jo a≤8:=by decide +kernel
  have Jn:=Jn x hx
  have next:=fun E I=>ih (k+1) E Q (by omega) I hq
  refine WP.loop (WP.has I (zg rfl (zt rfl (ag rfl rfl aO) (by simp; omega) ?_)))
  refine zk 5 rfl (WP.block (zK 3 rfl (zo rfl (cI (r:=.ptr id off) rfl rfl e1) (zl rfl e2 (zk 6 rfl (zb rfl (by exact jD (aA (by omega) (by omega))) ?_))))))
  refine zm rfl (zb rfl (by exact jD (aA (by omega) (by omega))) ?_)
  refine zb rfl (by exact aV (aA (by omega) (by omega))) ?_
  refine zm rfl (zo rfl (eP rfl (C8 hx)) (zc rfl (C9 hT hx) ?_))
  rintro v h' ⟨rfl,rfl⟩
  refine zb rfl (by exact aV (aA (by omega) (by omega))) ?_
  refine zk 5 rfl ?_
  by_cases EA:x=255
  ·skip
   refine zh rfl (ag rfl rfl aF) (by simp; omega) ?_
   refine zk 5 rfl (zv (zj rfl (WP.skip (zr rfl (zb rfl (by exact aV (aA (by omega) (by omega))) ?_)))))
   refine zm rfl (zv ?_)
   exact next _ ⟨rfl,rfl,rfl,rfl,rfl,rfl,rfl,aa⟩
  ·obtain ⟨w1,w2,w3⟩:=Fp x (by omega)
   have Rq:n≤8*k+jo x:=by
    rcases iR (8*k+jo x) n with q | q
    ·have:=h1 _ q
     rw [vS w1,J,w2] at this; cases this
    ·exact q
   refine zt rfl (ag rfl rfl aF) (by simp; omega) ?_
   refine zk 3 rfl (zh rfl (ag rfl rfl aO) (by simp; omega) ?_)
   refine zq rfl (zv (zj rfl (WP.skip (zr rfl (zb rfl (by exact aV (aA (by omega) (by omega))) ?_)))))
   refine zm rfl (zv ?_)
   exact next _ ⟨rfl,rfl,rfl,rfl,rfl,rfl,rfl,aa⟩
end
def onesL : List Nat→Nat
 | []=>0
 | x::l=>oP x+onesL l
theorem yO {M:List Nat}{k x:Nat}(I:M[k]?=some x): onesL (M.take (k+1))=onesL (M.take k)+oP x:=by
 induction M generalizing k with
 | nil=>simp at I
 | cons y M J =>
  cases k with
  | zero=>simp at I; subst I; simp [onesL]
  | succ k =>
   have:=J (k:=k) (by simpa using I)
   simp only [oU,onesL,this]; omega
theorem C_ (x:Nat): oP x≤8:=by unfold oP; exact b5 (yW _ _) (by simp)
theorem Lh : ∀(M:List Nat),onesL M≤8*M.length:=by
 intro M
 induction M with
 | nil=>exact aE _
 | cons x M I=>have:=C_ x; simp only [onesL,bf]; omega
section
variable {P:Program} {h:H} {t:TypeId} {x y:Operand} {a k n:Nat}
theorem GQ (I:n<3000): binV P h .quo t x y (.int .i64 (n:Int)) (.int .i64 3000)=some (.int .i64 0):=by
 have:=vR (P:=P) (h:=h) (t:=t) (x:=x) (y:=y) (a:=n) (b:=3000) (by decide) (by omega)
 rw [show n/3000=0 by omega] at this; exact this
theorem GR (I:n<3000): binV P h .rem t x y (.int .i64 (n:Int)) (.int .i64 3000)=some (.int .i64 (n:Int)):=by
 have:=wS (P:=P) (h:=h) (t:=t) (x:=x) (y:=y) (a:=n) (b:=3000) (by decide)
 rw [show n%3000=n by omega] at this; exact this
theorem Da : binV P h .eql t x y (.int .u8 ((Nat.land (a/2^k) 1:Nat):Int)) (.int .u8 1)=some (.bool (a.testBit k)):=by
 simp only [binV,ikBeq,af,intV,kV]
 rw [PX]
 cases h:a.testBit k <;> rfl
theorem Tg {J:Array TypeId}{k:IntKind}{a b:Int}: builtinV P h .min J [.int k a,.int k b]=some (.int k (min a b),h):=by
 simp only [builtinV,foldV,wI,c6,af,gN]
 by_cases I:b<a
 ·simp only [I,decide_true,af]
  rw [show min a b=b by omega]
 ·simp only [I,nh,ay]
  rw [show min a b=a by omega]
end
section
variable {told:cX} {h:H} {S:List au} {X Y:au} {N B n:Nat} {v x y rv:V} {b l c R M:List Nat} {kd link extra k_:Nat} {cs:List (List Nat)} {A:aH→au} {pg:aH→Int→List Nat} {ε:aH}
structure fq (n:Nat)(R M:List Nat)(p:Int→List Nat): Prop where
 head:∃ex,dA (p 0) 201 n ex [ey,R]
 rl:R.length=64
 marks:∃kd lk ex,dA (p 1) kd lk ex [M]
 ml:M.length=375
 n1:2≤n
 n2:n≤2999
 own:∀j,j<2→bt M j=true
 hi:∀j,n≤j→bt M j=false
theorem Jp (J:W told)(hR:n4 told N B rv A pg)(gU:EI N B ε)(hN:2≤N)(hp:fq n R M (pg ε)){lo:Nat}(oA:lo<n)(h0:bt M lo=false)(h1:∀j,j<lo→bt M j=true)(s:Sat h (A ε::S)):
  Call ⟨Tryz.prog,told⟩ 51 [rv] h fun v h'=>∃ε',v=.aX [.int .i64 (lo:Int),.int .i64 0]∧EI N B ε'∧Sm N ε ε'∧Sat h' (A ε'::S):=by
 obtain ⟨ex,mY⟩:=hp.head
 obtain ⟨kd,lk,k_,I⟩:=hp.marks
 have hM:=hp.ml
 have ow:=hp.n2
 refine Call.of_wp (J.free _ rfl) Tryz.func51 rfl rfl (zK 8 rfl (zc rfl (nE J hR gU (by omega) mY hp.rl s) ?_))
 rintro v h ⟨u,qs,rfl,m4,gX,s⟩
 refine zk 12 rfl (zh rfl (ag rfl rfl aF) (rfl) (zk 7 rfl (zc rfl (qq J (by omega) (by omega)) ?_)))
 rintro v h' ⟨rfl,rfl⟩
 refine zb rfl (by exact jC (aA (by omega) (by omega))) ?_
 refine zk 2 rfl (WP.block (WP.loop (zg rfl (zt rfl (ag rfl rfl aO) (by decide) ?_))))
 have I:dA (pg qs 1) kd lk k_ [M]:=by rw [hR.same gX]; exact I
 refine zk 5 rfl (WP.block (zK 9 rfl (zc rfl (nF J hR m4 hN I hM (s.ae [1])) ?_)))
 rintro v h ⟨w2,u2,mu,rfl,kI,gS,s⟩
 refine zk 12 rfl (zh rfl (ag rfl rfl aF) (rfl) (zk 6 rfl (zo rfl (aQ rfl rfl rfl (bw aM (s.aK (k:=0) rfl (bz _ _)))) ?_)))
 rw [hM]
 refine zk 2 rfl (WP.block ?_)
 refine Lf J (s.buf (k:=0) rfl).view hM (by omega) oA h0 h1 (lo/8) 0 _ _ (by omega) ⟨rfl,rfl,rfl,rfl,rfl,aa⟩ (fun E' l2 l3=>⟨aa,_,KY l2 l3,mu,rfl,kI,gX.trans gS,?_⟩)
 exact ((s.ae [2]).del 3 |>.del 2).del 1
theorem D8 (hT:W told)(hR:n4 told N B rv A pg)(gU:EI N B ε)(hN:2≤N)(I:fq n R M (pg ε))(h1:∀j,j<n→bt M j=true)(s:Sat h (A ε::S)):
  Call ⟨Tryz.prog,told⟩ 51 [rv] h fun v h'=>∃ε',v=.aX [.int .i64 (-1),.int .i64 0]∧EI N B ε'∧Sm N ε ε'∧Sat h' (A ε'::S):=by
 obtain ⟨ex,mY⟩:=I.head
 obtain ⟨kd,lk,k_,J⟩:=I.marks
 have hM:=I.ml
 have ow:=I.n2
 have wu:=I.n1
 refine Call.of_wp (hT.free _ rfl) Tryz.func51 rfl rfl (zK 8 rfl (zc rfl (nE hT hR gU (by omega) mY I.rl s) ?_))
 rintro v h ⟨u,qs,rfl,m4,gX,s⟩
 refine zk 12 rfl (zh rfl (ag rfl rfl aF) (rfl) (zk 7 rfl (zc rfl (qq hT (by omega) (by omega)) ?_)))
 rintro v h' ⟨rfl,rfl⟩
 refine zb rfl (by exact jC (aA (by omega) (by omega))) ?_
 refine zk 2 rfl (WP.block (WP.loop (zg rfl (zt rfl (ag rfl rfl aO) (by decide) ?_))))
 have J:dA (pg qs 1) kd lk k_ [M]:=by rw [hR.same gX]; exact J
 refine zk 5 rfl (WP.block (zK 9 rfl (zc rfl (nF hT hR m4 hN J hM (s.ae [1])) ?_)))
 rintro v h ⟨w2,u2,mu,rfl,kI,gS,s⟩
 refine zk 12 rfl (zh rfl (ag rfl rfl aF) (rfl) (zk 6 rfl (zo rfl (aQ rfl rfl rfl (bw aM (s.aK (k:=0) rfl (bz _ _)))) ?_)))
 rw [hM]
 refine zk 2 rfl (WP.block ?_)
 refine Jo hT (s.buf (k:=0) rfl).view hM (by omega) h1 I.hi 375 0 _ _ (by omega) ⟨rfl,rfl,rfl,rfl,rfl,rfl,rfl,aa⟩ (fun E' hE => ?_)
 refine WP.has hE (zr rfl (zb rfl (by exact aV (aA (by omega) (by omega))) ?_))
 refine zm rfl (zv (WP.loop (zg rfl (zh rfl (ag rfl rfl aO) (by decide) ?_))))
 exact zk 3 rfl (WP.exit (zK 5 rfl (WP.ret ⟨aa,_,rfl,mu,rfl,kI,gX.trans gS,((s.ae [2]).del 3 |>.del 2).del 1⟩)))
noncomputable def Th : Code:=fC [1,1,1,1,0,1,0,0,1,1,0,0,1,1,1,1,0,0] ((Tryz.f23.body).getD .skip)
theorem Jq (hT:W told){u:V}(hv:View h u M)(hM:M.length=375)(hn:n≤3000): ∀(m k:Nat) (E:List (Nat×V)) (Q:Ex→List (Nat×V)→H→Prop),k+m=375 →
  Has E [(7,.int .i64 ((n:Int)-(onesL (M.take k):Nat))),(26,.int .i64 1),(27,.int .i64 0),(40,u),(41,.int .i64 375),(42,.int .i64 (k:Int))] →
  (∀E',Has E' [(7,.int .i64 ((n:Int)-(onesL M:Nat))),(26,.int .i64 1),(27,.int .i64 0)]→Q (.exit 2) E' h)→WP ⟨Tryz.prog,told⟩ 53 (.loop Th) E h Q:=by
 intro m
 induction m with
 | zero =>
  intro k E Q hk J hq
  refine WP.loop (WP.has J (zg rfl (zh rfl (ag rfl rfl aO) (by simp; omega) ?_)))
  refine zk 3 rfl (WP.exit ?_)
  refine hq _ ⟨?_,rfl,rfl,aa⟩
  rw [show M.take k=M from eA (by omega)]
  rfl
 | succ m ih =>
  intro k E Q hk J hq
  have I:M[k]?=some (M[k]'(by omega)):=aN _
  generalize (M[k]'(by omega))=x at I
  have hx:x<256:=hv.1 x (aU I)
  obtain ⟨id,off,e1,e2⟩:=c7 hv I
  have ht:=yO I
  have hle:=Lh (M.take k)
  have iN:(M.take k).length≤375:=by rw [gM]; omega
  have h8:=C_ x
  refine WP.loop (WP.has J (zg rfl (zt rfl (ag rfl rfl aO) (by simp; omega) ?_)))
  refine zk 5 rfl (WP.block (zg rfl (zo rfl (cI (r:=.ptr id off) rfl rfl e1) (zl rfl e2 (zk 5 rfl (zc rfl (Le hT hx) ?_))))))
  rintro v h' ⟨rfl,rfl⟩
  refine zb rfl (by exact jC (aA (by omega) (by omega))) ?_
  refine za rfl (zv (zr rfl (zb rfl (by exact aV (aA (by omega) (by omega))) ?_)))
  refine zm rfl (zv ?_)
  refine ih (k+1) _ Q (by omega) ⟨?_,rfl,rfl,rfl,rfl,rfl,aa⟩ hq
  exact eB (fun z=>some (V.int .i64 z)) (by omega)
theorem Fq (hT:W told)(hR:n4 told N B rv A pg)(gU:EI N B ε)(hN:2≤N)(J:fq n R M (pg ε))(s:Sat h (A ε::S)):
  Call ⟨Tryz.prog,told⟩ 23 [rv] h fun v h'=>∃ε',v=.aX [.int .i64 ((n:Int)-(onesL M:Nat)),.int .i64 0]∧EI N B ε'∧Sm N ε ε'∧Sat h' (A ε'::S):=by
 obtain ⟨ex,mY⟩:=J.head
 obtain ⟨kd,lk,k_,I⟩:=J.marks
 have hM:=J.ml
 have ow:=J.n2
 have wu:=J.n1
 refine Call.of_wp (hT.free _ rfl) Tryz.func23 rfl rfl (zK 8 rfl (zc rfl (nE hT hR gU (by omega) mY J.rl s) ?_))
 rintro v h ⟨u,qs,rfl,m4,gX,s⟩
 refine zk 12 rfl (zh rfl (ag rfl rfl aF) (rfl) (zk 12 rfl (zc rfl (qq hT (by omega) (by omega)) ?_)))
 rintro v h' ⟨rfl,rfl⟩
 refine zb rfl (by exact jC (aA (by omega) (by omega))) ?_
 refine zk 2 rfl (WP.block (WP.loop (zg rfl (zt rfl (ag rfl rfl aO) (by decide) ?_))))
 have I:dA (pg qs 1) kd lk k_ [M]:=by rw [hR.same gX]; exact I
 refine zk 5 rfl (WP.block (zK 9 rfl (zc rfl (nF hT hR m4 hN I hM (s.ae [1])) ?_)))
 rintro v h ⟨w2,u2,mu,rfl,kI,gS,s⟩
 refine zk 12 rfl (zh rfl (ag rfl rfl aF) (rfl) (zk 6 rfl (zo rfl (aQ rfl rfl rfl (bw aM (s.aK (k:=0) rfl (bz _ _)))) ?_)))
 rw [hM]
 refine zk 2 rfl (WP.block ?_)
 refine Jq hT (n:=n) (s.buf (k:=0) rfl).view hM (by omega) 375 0 _ _ (by omega) ⟨?_,rfl,rfl,rfl,rfl,rfl,aa⟩ (fun E' hE => ?_)
 ·exact eB (fun z=>some (V.int .i64 z)) (by have:onesL (M.take 0)=0:=rfl; omega)
 refine WP.has hE (zr rfl (zb rfl (by exact aV (aA (by omega) (by omega))) ?_))
 refine zm rfl (zv (WP.loop (zg rfl (zh rfl (ag rfl rfl aO) (by decide) ?_))))
 exact zk 3 rfl (WP.exit (zK 6 rfl (WP.ret ⟨aa,_,rfl,mu,rfl,kI,gX.trans gS,((s.ae [2]).del 3 |>.del 2).del 1⟩)))
theorem NH (hT:W told)(hR:n4 told N B rv A pg)(gU:EI N B ε)(hN:2≤N)(hp:fq n R M (pg ε)){i:Nat}(hi:i<n)(s:Sat h (A ε::S)):
  Call ⟨Tryz.prog,told⟩ 57 [rv,.int .i64 (i:Int)] h fun v h'=>∃ε',v=.aX [.bool (bt M i),.int .i64 0]∧EI N B ε'∧Sm N ε ε'∧Sat h' (A ε'::S):=by
 obtain ⟨kd,lk,k_,qM⟩:=hp.marks
 have hM:=hp.ml
 have ow:=hp.n2
 refine Call.of_wp (hT.free _ rfl) Tryz.func57 rfl rfl (zK 9 rfl (zo rfl (ag (r:=.int .i64 0) rfl rfl (GQ (by omega))) ?_))
 refine zc rfl (nF hT hR gU hN qM hM s) ?_
 rintro v h ⟨w2,u2,mu,rfl,I,gS,s⟩
 have hb:M[i/8]?=some (M[i/8]'(by omega)):=aN _
 have J:M.getD (i/8) 0=M[i/8]'(by omega):=by rw [dF,hb]; rfl
 generalize (M[i/8]'(by omega))=x at hb J
 have hv:=(s.buf (k:=0) rfl).view
 have hx:x<256:=hv.1 x (aU hb)
 have m5:x.testBit (i%8)=bt M i:=by rw [bt,J]
 obtain ⟨id,off,e1,e2⟩:=c7 hv hb
 have EV:x/2^(i%8)<256:=y9 (zI _ _) hx
 refine zk 12 rfl (zh rfl (ag rfl rfl aF) (rfl) (zk 7 rfl (zb rfl (GR (by omega)) ?_)))
 refine zb rfl (vR (a:=i) (b:=8) (by decide) (by omega)) ?_
 refine zo rfl (cI (r:=.ptr id off) rfl rfl e1) (zl rfl e2 (zm rfl (zb rfl (GR (by omega)) ?_)))
 refine zb rfl (wS (a:=i) (b:=8) (by decide)) ?_
 refine zb rfl (Jj (a:=x) (k:=i%8) (by omega)) ?_
 refine zb rfl (Jk (b:=1) EV (by decide)) ?_
 refine zo rfl (ag (r:=.bool (bt M i)) rfl rfl (by rw [←m5]; exact Da)) ?_
 exact zk 3 rfl (WP.ret ⟨aa,_,rfl,mu,rfl,I,gS,(s.ae [2]).del 2 |>.del 1⟩)
end
def SA (a p q r:Nat)(op:V)(data:List Nat)(bA:Nat)(ε:aH): au:=star [dP a p q r op data bA,dB r p q ε.1,bU q p ε.2.1,bj p ε.2.2]
def GA (g a p q r:Nat)(data:List Nat)(bA:Nat)(now:List (Int×List Nat))(ε:aH): au:=star [fo g a now false,dP a p q r (.ptr g 0) data bA,dB r p q ε.1,bU q p ε.2.1,bj p ε.2.2]
def eS (now:List (Int×List Nat))(ε:aH)(n:Int): List Nat:=match lookL n now with
 | some b=>b
 | none=>pgA ε n
theorem g9 {N:Nat}{now:List (Int×List Nat)}{ε ε':aH}(h:Sm N ε ε'): eS now ε'=eS now ε:=by
 funext n
 unfold eS
 rw [h.1]
theorem j4 {now:List (Int×List Nat)}{ε:aH}{i n:Int}{b:List Nat}: eS (dr i b now) ε n=if i=n then b else eS now ε n:=by
 unfold eS
 rw [nT]
 by_cases h:i=n
 ·rw [aq h,aq h]
 ·rw [ai h,ai h]
section
variable {told:cX} {h:H} {S:List au} {X Y:au} {N B n g a p q r bA:Nat} {v x y rv op:V} {b l c R M data:List Nat} {kd link extra k_:Nat} {cs:List (List Nat)} {ε:aH} {now:List (Int×List Nat)}
theorem PY (hT:W told)(hB:B≤2000): n4 told N B (.iface 24 (.ptr a 0)) (SA a p q r op data bA) pgA:=by
 refine ⟨⟨_,_,_,rfl,Nr,fun {h S ε n} I h0 h1 s => ?_⟩,fun hs=>hs.1⟩
 have uS:=I.cf
 have R4:=qm (ε:=ε)
 have s:=cP.1 s
 refine (wV hT (n:=n) s I.ok.ok I.ok.pins (by omega)).mono ?_
 rintro v h ⟨e,b,ε',J,hs⟩
 obtain ⟨k1,k2,k3,k4⟩:=J.ec I.ec I.ok.pins
 obtain ⟨rfl,rfl⟩:=k3 h0 h1
 rcases hs with ⟨he,_⟩ | ⟨_,u,rfl,s⟩
 ·exact absurd rfl he
 ·have s2:Sat h (SA a p q r op data bA ε'::bg u (pgA ε n)::S):=cP.2 (s.ae [1,1,1,1,0])
  exact ⟨u,ε',rfl,I.rd J,⟨k2,fun P hP hv=>hP.rd J I.ec hv⟩,s2.ae [1]⟩
theorem w6 (hT:W told)(hB:B≤2000)(hw:NW N now): n4 told N B (.iface 26 (.ptr g 0)) (GA g a p q r data bA now) (eS now):=by
 refine ⟨⟨_,_,_,rfl,E_,fun {h S ε n} I h0 h1 s => ?_⟩,fun hs m=>by rw [g9 hs]⟩
 have uS:=I.cf
 have R4:=qm (ε:=ε)
 have s:=cP.1 s
 refine (CN hT (n:=n) s I.ok (by omega) (fun e he=>gx (hw.good e he).1)).mono ?_
 rintro v h ⟨e,b,ε',J,hs⟩
 obtain ⟨k1,k2,k3,k4⟩:=J.ec I.ec I.ok.pins
 obtain ⟨rfl,hb⟩:=k3 h0 h1
 have hb:b=eS now ε n:=hb
 subst hb
 rcases hs with ⟨he,_⟩ | ⟨_,u,rfl,s⟩
 ·exact absurd rfl he
 ·have s2:Sat h (GA g a p q r data bA now ε'::bg u (eS now ε n)::S):=cP.2 (s.ae [1,1,1,1,1,0])
  exact ⟨u,ε',rfl,I.uU J,⟨k2,fun P hP hv=>hP.uU J I.ec hv⟩,s2.ae [1]⟩
theorem yP (hT:W told)(hB:B≤2000)(I:EI N B ε)(hw:NW N now){i:Nat}(hi:i<N)(s:Sat h (GA g a p q r data bA now ε::X::S))(hX:cN X (cQ x b))(J:dA b kd link extra cs):
  Call ⟨Tryz.prog,told⟩ 49 [.ptr g 0,.int .i64 (i:Int),x] h fun v h'=>∃ε',v=.int .i64 0∧EI N B ε'∧Sm N ε ε'∧NW N (dr (i:Int) b now)∧Sat h' (GA g a p q r data bA (dr (i:Int) b now) ε'::X::S):=by
 have uS:=I.cf
 have R4:=qm (ε:=ε)
 have hlen:=J.len
 have hb:=(s.aK (k:=1) rfl hX).1
 have s:=cP.1 s
 refine (IU hT (n:=(i:Int)) s hX (by omega) I.ok (by omega) (fun e he=>gx (hw.good e he).1)).mono ?_
 rintro v h ⟨e,b_,ε',hr,rfl,s⟩
 obtain ⟨k1,k2,k3,k4,k5⟩:=hr.ec I.ec I.ok.pins
 obtain ⟨rfl,rfl⟩:=k5 (by omega) (by omega) J.good
 exact ⟨ε',rfl,I.I1 hr,⟨k2,fun P hP hv=>hP.I1 hr I.ec hv⟩,hw.put (by omega) (by omega) J.good hb,cP.2 s⟩
theorem fq.put {P:Int→List Nat}(h:fq N R M P){I:List Nat}{J:Int→List Nat}(h0:J 0=P 0)(h1:∃kd lk ex,dA (J 1) kd lk ex [I])(hl:I.length=375)(ho:∀j,j<2→bt I j=true)(hh:∀j,N≤j→bt I j=false): fq N R I J :=
 ⟨by rw [h0]; exact h.head,h.rl,h1,hl,h.n1,h.n2,ho,hh⟩
theorem Fs (hT:W told)(hB:B≤2000)(gU:EI N B ε)(hw:NW N now)(hp:fq N R M (eS now ε)){i:Nat}(hi:i<N)(iq:2≤i){bl:Bool}(s:Sat h (GA g a p q r data bA now ε::S)):
  Call ⟨Tryz.prog,told⟩ 52 [.ptr g 0,.int .i64 (i:Int),.bool bl] h fun v h'=>∃ε' b_,v=.int .i64 0∧EI N B ε'∧Sm N ε ε'∧NW N b_∧fq N R (if bl then Be M i else yN M i) (eS b_ ε')∧(∀m,m≠1→eS b_ ε' m=eS now ε m) ∧
   Sat h' (GA g a p q r data bA b_ ε'::S):=by
 obtain ⟨kd,lk,k_,qM⟩:=hp.marks
 have hM:=hp.ml
 have wu:=hp.n1
 have ow:=hp.n2
 have R5:i/8<M.length:=by omega
 have hb:M[i/8]?=some (M[i/8]'(by omega)):=aN _
 have tD:M.getD (i/8) 0=M[i/8]'(by omega):=by rw [dF,hb]; rfl
 generalize (M[i/8]'(by omega))=z at hb tD
 -- what is so behind it
 have fin:∀ {ε':aH} {b':List Nat} {M':List Nat},Sm N ε ε'→dA b' kd lk k_ [M']→M'.length=375→(∀j,bt M' j=if j=i then bl else bt M j)→fq N R M' (eS (dr 1 b' now) ε')∧(∀m,m≠1→eS (dr 1 b' now) ε' m=eS now ε m):=fun {ε' b' M'} hs I hl m5 =>
  ⟨hp.put (by rw [j4,ai (by decide),g9 hs]) ⟨_,_,_,by rw [j4,aq rfl]; exact I⟩ hl (fun j hj=>by rw [m5,ai (by omega)]; exact hp.own j hj) (fun j hj=>by rw [m5,ai (by omega)]; exact hp.hi j hj),
   fun m hm=>by rw [j4,ai (by omega),g9 hs]⟩
 refine Call.of_wp (hT.free _ rfl) Tryz.func52 rfl rfl (zK 7 rfl (zo rfl (nJ rfl (lC jG rfl)) (zm rfl (zo rfl (ag (r:=.int .i64 0) rfl rfl (GQ (by omega))) ?_))))
 refine zc rfl (nF hT (w6 hT hB hw) gU (by omega) qM hM s) ?_
 rintro v h ⟨w2,u2,mu,rfl,kI,gS,s⟩
 have hv:=(s.buf (k:=0) rfl).view
 have hz:z<256:=hv.1 z (aU hb)
 have U6:2^(i%8)<256:=rf (a:=2) (n:=8) (by decide) (by omega)
 obtain ⟨id,off,e1,e2⟩:=c7 hv hb
 refine zk 12 rfl (zh rfl (ag rfl rfl aF) (rfl) (zk 6 rfl (zb rfl (GR (by omega)) ?_)))
 refine zb rfl (wS (a:=i) (b:=8) (by decide)) ?_
 refine zb rfl (PW (k:=i%8) (by omega)) ?_
 refine zk 6 rfl (zb rfl (GR (by omega)) ?_)
 refine zb rfl (vR (a:=i) (b:=8) (by decide) (by omega)) ?_
 refine zk 6 rfl ?_
 cases bl with
 | true =>
  obtain ⟨Db,J,e3,h4,e4,s2⟩:=lE s (i:=i/8) (b:=Nat.lor z (2^(i%8))) (by omega) (Ji hz (by omega))
  have ee:V.ptr id off=V.ptr Db J:=by rw [e1] at e3; exact bH e3
  rw [←ee] at e4
  refine zK 4 rfl (zo rfl (cI (r:=.ptr id off) rfl rfl e1) (zl rfl e2 (zm rfl (zb rfl (Q7 hz (by omega)) ?_))))
  refine zo rfl (cI (r:=.ptr id off) rfl rfl e1) (zS rfl (⟨h4,e4,s2⟩) ?_)
  rintro h s
  rw [←tD] at s
  have s:Sat h (bg u2 (Be M i)::_):=s
  refine zk 6 rfl (zc rfl (Fk (i:=0) (c:=M) hT (s.ae [1,0]) (bz _ _) (bz _ _) qM rfl Fl) ?_)
  rintro v h ⟨w3,b',rfl,I,s⟩
  refine zk 9 rfl (zh rfl (ag rfl rfl aF) (rfl) (zk 7 rfl (zo rfl (ag (r:=.int .i64 0) rfl rfl (GQ (by omega))) ?_)))
  refine zb rfl (by exact aV (aA (by omega) (by omega))) ?_
  refine zm rfl (zc rfl (yP (i:=1) hT hB kI hw (by omega) (s.ae [3,0]) (bz _ _) I) ?_)
  rintro v h ⟨w8,rfl,sk,n_,wH,s⟩
  refine zk 2 rfl (WP.ret ⟨aa,_,rfl,?_⟩)
  obtain ⟨f1,f2⟩:=fin (gS.trans n_) I (by rw [Fl]; exact hM) (fun j=>Mq R5)
  exact ⟨w8,_,rfl,sk,gS.trans n_,wH,f1,f2,((s.ae [0]).del 3 |>.del 2).del 1⟩
 | false =>
  obtain ⟨Db,J,e3,h4,e4,s2⟩:=lE s (i:=i/8) (b:=Nat.land z (255-2^(i%8))) (by omega) (AF hz)
  have ee:V.ptr id off=V.ptr Db J:=by rw [e1] at e3; exact bH e3
  rw [←ee] at e4
  refine zK 4 rfl (zo rfl (cI (r:=.ptr id off) rfl rfl e1) (zl rfl e2 (zm rfl (zb rfl (Jl hz U6) (zo rfl (cI (r:=.ptr id off) rfl rfl e1) (zS rfl (⟨h4,e4,s2⟩) ?_))))))
  rintro h s
  rw [←tD] at s
  have s:Sat h (bg u2 (yN M i)::_):=s
  refine zk 6 rfl (zc rfl (Fk (i:=0) (c:=M) hT (s.ae [1,0]) (bz _ _) (bz _ _) qM rfl Fo) ?_)
  rintro v h ⟨w3,b',rfl,I,s⟩
  refine zk 9 rfl (zh rfl (ag rfl rfl aF) (rfl) (zk 7 rfl (zo rfl (ag (r:=.int .i64 0) rfl rfl (GQ (by omega))) ?_)))
  refine zb rfl (by exact aV (aA (by omega) (by omega))) ?_
  refine zm rfl (zc rfl (yP (i:=1) hT hB kI hw (by omega) (s.ae [3,0]) (bz _ _) I) ?_)
  rintro v h ⟨w8,rfl,sk,n_,wH,s⟩
  refine zk 2 rfl (WP.ret ⟨aa,_,rfl,?_⟩)
  obtain ⟨f1,f2⟩:=fin (gS.trans n_) I (by rw [Fo]; exact hM) (fun j=>GP R5)
  exact ⟨w8,_,rfl,sk,gS.trans n_,wH,f1,f2,((s.ae [0]).del 3 |>.del 2).del 1⟩
theorem Dc (hT:W told)(hB:B≤2000)(gU:EI N B ε)(hw:NW N now)(hp:fq N R M (eS now ε)){lo:Nat}(oA:lo<N)(h0:bt M lo=false)(h1:∀j,j<lo→bt M j=true)(s:Sat h (GA g a p q r data bA now ε::S)):
  Call ⟨Tryz.prog,told⟩ 22 [.ptr g 0] h fun v h'=>∃ε' b_,v=.aX [.int .i64 (lo:Int),.int .i64 0]∧EI N B ε'∧Sm N ε ε'∧NW N b_∧fq N R (Be M lo) (eS b_ ε')∧(∀m,m≠1→m≠(lo:Int)→eS b_ ε' m=eS now ε m)∧dA (eS b_ ε' lo) 0 0 0 [] ∧
   Sat h' (GA g a p q r data bA b_ ε'::S):=by
 have wu:=hp.n1
 have ow:=hp.n2
 have h2:2≤lo:=by
  rcases iR lo 2 with hq | hq
  ·rw [hp.own lo hq] at h0; cases h0
  ·exact hq
 refine Call.of_wp (hT.free _ rfl) Tryz.func22 rfl rfl (zK 8 rfl (zo rfl (nJ rfl (lC jG rfl)) (zc rfl (Jp hT (w6 hT hB hw) gU (by omega) hp oA h0 h1 s) ?_)))
 rintro v h ⟨qs,rfl,m4,gX,s⟩
 have qM:fq N R M (eS now qs):=by rw [g9 gX]; exact hp
 refine zk 7 rfl (WP.block (zK 3 rfl (zh rfl (ag rfl rfl aF) (rfl) (zk 6 rfl (zh rfl (ag rfl rfl aO) (by simp) ?_)))))
 refine za rfl (zv (zj rfl (WP.skip (zw (zg rfl (zk 2 rfl (zc rfl (Fs (bl:=true) hT hB m4 hw qM oA h2 s) ?_)))))))
 rintro v h ⟨mu,Li,rfl,kI,gS,Jr,I,mZ,s⟩
 refine za rfl (zv (zg rfl (zm rfl (zh rfl (ag rfl rfl aF) (rfl) (zv (zj rfl (WP.skip (zg rfl (zc rfl (C3 (kd:=0) hT s (by decide)) ?_)))))))))
 rintro v h ⟨u,b',rfl,mW,s⟩
 refine zk 12 rfl (zc rfl (yP (i:=lo) hT hB kI Jr oA (s.ae [1,0]) (bz _ _) mW) ?_)
 rintro v h ⟨w8,rfl,sk,J,wH,s⟩
 refine zk 5 rfl (zh rfl (ag rfl rfl aF) (rfl) (zk 9 rfl (WP.ret ⟨aa,_,rfl,?_⟩)))
 have I:fq N R (Be M lo) (eS Li mu):=I
 refine ⟨w8,_,rfl,sk,(gX.trans gS).trans J,wH,I.put (by rw [j4,ai (by omega),g9 J]) ?_ I.ml I.own I.hi,fun m A0 LG=>by rw [j4,ai (by omega),g9 J,mZ m A0,g9 gX],by rw [j4,aq rfl]; exact mW,s.del 1⟩
 rw [j4,ai (by omega),g9 J]
 exact I.marks
theorem GS (J:W told)(hB:B≤2000)(gU:EI N B ε)(hw:NW N now)(hp:fq N R M (eS now ε))(h1:∀j,j<N→bt M j=true)(s:Sat h (GA g a p q r data bA now ε::S)):
  Call ⟨Tryz.prog,told⟩ 22 [.ptr g 0] h fun v h'=>∃ε',v=.aX [.int .i64 0,.int .i64 7]∧EI N B ε'∧Sm N ε ε'∧Sat h' (GA g a p q r data bA now ε'::S):=by
 have wu:=hp.n1
 refine Call.of_wp (J.free _ rfl) Tryz.func22 rfl rfl (zK 8 rfl (zo rfl (nJ rfl (lC jG rfl)) (zc rfl (D8 J (w6 J hB hw) gU (by omega) hp h1 s) ?_)))
 rintro v h ⟨qs,rfl,I,gX,s⟩
 refine zk 7 rfl (WP.block (zK 3 rfl (zh rfl (ag rfl rfl aF) (rfl) (zk 6 rfl (zt rfl (ag rfl rfl aO) (by decide) ?_)))))
 exact zk 8 rfl (WP.ret ⟨aa,_,rfl,qs,rfl,I,gX,s⟩)
theorem Dd (hT:W told)(hB:B≤2000)(gU:EI N B ε)(hw:NW N now)(hp:fq N R M (eS now ε)){i:Int}(s:Sat h (GA g a p q r data bA now ε::S)):
  Call ⟨Tryz.prog,told⟩ 24 [.ptr g 0,.int .i64 i] h fun v h'=>∃ε' b_,EI N B ε'∧Sm N ε ε'∧NW N b_∧Sat h' (GA g a p q r data bA b_ ε'::S) ∧
   ((¬(2≤i∧i<N∧bt M i.toNat=true)∧v=.int .i64 18∧b_=now)∨(2≤i∧i<N∧bt M i.toNat=true∧v=.int .i64 0∧fq N R (yN M i.toNat) (eS b_ ε')∧∀m,m≠1→eS b_ ε' m=eS now ε m)):=by
 obtain ⟨ex,mY⟩:=hp.head
 have wu:=hp.n1
 have ow:=hp.n2
 refine Call.of_wp (hT.free _ rfl) Tryz.func24 rfl rfl (zK 7 rfl (zo rfl (nJ rfl (lC jG rfl)) (zc rfl (nE hT (w6 hT hB hw) gU (by omega) mY hp.rl s) ?_)))
 rintro v h ⟨u,qs,rfl,J,I,s⟩
 have qM:fq N R M (eS now qs):=by rw [g9 I]; exact hp
 refine zk 9 rfl (WP.block (zK 3 rfl (zh rfl (ag rfl rfl aF) (rfl) (zk 7 rfl (zc rfl (qq hT (by omega) (by omega)) ?_)))))
 rintro v h' ⟨rfl,rfl⟩
 by_cases oA:i<2
 ·skip
  refine zt rfl (ag rfl rfl aO) (by simp; omega) ?_
  exact zk 12 rfl (WP.ret ⟨aa,_,rfl,qs,now,J,I,hw,s.drop,.inl ⟨by omega,rfl,rfl⟩⟩)
 ·skip
  refine zh rfl (ag rfl rfl aO) (by simp; omega) ?_
  refine zk 3 rfl ?_
  by_cases WH:(N:Int)≤i
  ·skip
   refine zt rfl (ag rfl rfl od) (by simp; omega) ?_
   exact zk 8 rfl (WP.ret ⟨aa,_,rfl,qs,now,J,I,hw,s.drop,.inl ⟨by omega,rfl,rfl⟩⟩)
  ·skip
   refine zh rfl (ag rfl rfl od) (by simp; omega) ?_
   obtain ⟨k,rfl⟩:∃k:Nat,i=k:=⟨i.toNat,by omega⟩
   refine zk 2 rfl (zv (zj rfl (WP.skip (zg rfl (zm rfl (zo rfl (nJ rfl (lC jG rfl)) (zm rfl (zc rfl (NH (i:=k) hT (w6 hT hB hw) J (by omega) qM (by omega) (s.ae [1])) ?_))))))))
   rintro v h ⟨mu,rfl,kI,gS,s⟩
   have CT:fq N R M (eS now mu):=by rw [g9 gS]; exact qM
   refine zk 7 rfl (WP.block (zK 3 rfl (zh rfl (ag rfl rfl aF) (rfl) (zk 6 rfl (zo rfl (eP rfl rfl) (zk 2 rfl ?_))))))
   cases hb:bt M k with
   | false =>
    exact zK 5 rfl (WP.ret ⟨aa,_,rfl,mu,now,kI,I.trans gS,hw,s.del 1,.inl ⟨fun ⟨_,_,q⟩=>(by rw [cg,hb] at q; cases q),rfl,rfl⟩⟩)
   | true =>
    refine zj rfl (WP.skip (zg rfl (zk 2 rfl (zc rfl (Fs (bl:=false) hT hB kI hw CT (i:=k) (by omega) (by omega) s) ?_))))
    rintro v h ⟨w8,PZ,rfl,sk,n_,wH,Js,U7,s⟩
    refine zk 2 rfl (WP.ret ⟨aa,_,rfl,?_⟩)
    have Js:fq N R (yN M k) (eS PZ w8):=Js
    exact ⟨w8,PZ,sk,(I.trans gS).trans n_,wH,s.del 1,.inr ⟨by omega,by omega,by rw [cg]; exact hb,rfl,by rw [cg]; exact Js,fun m hm=>by rw [U7 m hm,g9 gS,g9 I]⟩⟩
end
theorem GU : fW (List.replicate 512 0)=0:=by rw [fW,aq rfl]
def fresh (n m f:Nat): aH:=(Pl.fresh f,(Lg.fresh,Dk.fresh n m))
theorem De {n m:Nat}(k:Int): (Dk.fresh n m).at k=List.replicate 512 0:=by
 rw [Dk.at,show lookL k (Dk.fresh n m).now=none from rfl]
 simp only [Dk.fresh]
 cases I:(List.replicate n (none:Option (List Nat)))[k.toNat]? with
 | none=>rfl
 | some o =>
  have:=qY (aU I)
  subst this
  rfl
theorem Bf {n m f:Nat}(k:Int): pgA (fresh n m f) k=List.replicate 512 0:=by
 rw [kF (by rfl)]
 exact De k
theorem Df {f i:Nat}{x:Fm}(h:(Pl.fresh f).ah[i]?=some x): x=dx:=qY (aU h)
theorem EI.fresh {n m f:Nat}(hn:n≤65536)(hm:m≤16777216)(hf:1≤f)(U8:f≤1024): EI n 1 (fresh n m f):=by
 have J:∀x∈(Pl.fresh f).ah,x=dx:=fun x I=>qY I
 have hlen:(Pl.fresh f).ah.length=f:=c8
 refine ⟨⟨⟨⟨(show 0<(Pl.fresh f).ah.length by rw [hlen]; omega),(show (Pl.fresh f).ah.length≤1024 by rw [hlen]; exact U8),fun e he=>(by cases he),fun x I=>by rw [J x I]; decide,fun x I=>by rw [J x I]; decide⟩,Lg.CX,?_⟩,fun x I=>by rw [J x I]; rfl,⟨rE,fun k i hk=>(by cases hk)⟩⟩,⟨?_,rE,fun k i hk=>(by cases hk),fun i x I=>.inl (by rw [Df I]; decide),fun k hk=>(by cases hk),rE⟩,⟨rfl,aE _,(show (1:Nat)+0≤1*1048600 by decide)⟩,?_⟩
 ·exact ⟨(show (-1:Int)<4294967296 by decide),eO _,hm,fun e he=>(by cases he),fun i b hb=>(by have h1:some b=none:=qY (aU hb); cases h1),aE _,(show (List.replicate n (none:Option (List Nat))).length≤65536 by rw [c8]; exact hn)⟩
 ·exact ⟨rfl,(show (-1:Int)<0 by decide),c8,fun k hk=>(by cases hk),rE,fun k h0 h1=>by show fW ((Dk.fresh n m).at k)=0; rw [De]; exact GU⟩
 ·have e:fP (Pl.fresh f).ah=0:=by
   rw [fP,List.count_eq_zero]
   intro hh
   obtain ⟨x,I,hc⟩:=List.mem_map.1 hh
   rw [J x I] at hc
   cases hc
  show ([]:List Wr).length+fP (Pl.fresh f).ah≤_
  rw [e]; decide
theorem Ft {n:Nat}(h:n<128): (digits 9 n).length=1:=by
 show (if n<128 then [n] else (n%128+128)::digits 8 (n/128)).length=1
 rw [aq h]; rfl
theorem vU {n:Nat}(h:n<16384): (digits 9 n).length≤2:=by
 show (if n<128 then [n] else (n%128+128)::(if n/128<128 then [n/128] else (n/128%128+128)::digits 7 (n/128/128))).length≤2
 split
 ·exact o_ 1
 ·rw [aq (by omega)]; exact aE 2
theorem w9 {c:cY}(I:c.aS.toNat<16384)(J:c.pos.toNat<16384)(h3:c.b.length<16384): (kC c).length≤7+c.b.length:=by
 have e1:=vU I
 have e2:=vU J
 have e3:=vU h3
 simp only [kC,bK,bf,bR]
 omega
theorem NI {pg:Int}{cR now:List Nat}{i:Nat}{l:List cY}(J:tF pg cR now i l)(hn:now.length=512)(hp:pg.toNat<16384): ∀j,(∀k,i≤k→k<j→cR[k]?=now[k]?)→j≤520→(l.flatMap kC).length≤520-max i j:=by
 induction J with
 | done i h=>intro j _ _; simp
 | skip i l h he J ih =>
  intro j hj I
  have:=ih j (fun k h1 h2=>hj k (by omega) h2) I
  omega
 | take i e l h1 h2 h3 h4 J ih =>
  intro j hj I
  have tw:j≤i:=oY fun br=>h3 (hj i (aE _) br)
  have h5:=ih (e+8) h4 (by omega)
  have hl:((now.take e).drop i).length=e-i:=by rw [oZ,gM]; omega
  have h6:=w9 (c:=⟨pg,i,false,(now.take e).drop i⟩) hp (by show (i:Int).toNat<_; omega) (by show ((now.take e).drop i).length<_; omega)
  rw [rA,bK]
  simp only [hl] at h6
  omega
theorem NJ {pg:Int}{cR now:List Nat}{c:List cY}(hr:IW pg cR now c)(hn:now.length=512)(I:pg.toNat<16384): (c.flatMap kC).length≤520:=by
 obtain ⟨l,hl,rfl⟩:=hr
 have:=NI hl hn I 0 (fun k _ h=>absurd h (by omega)) (by omega)
 by_cases J:l=[]
 ·rw [aq J]
  have h6:=w9 (c:=⟨pg,0,false,[]⟩) I (show (0:Int).toNat<16384 by decide) (show ([]:List Nat).length<16384 by decide)
  simp only [rA,List.flatMap_nil,fH]
  simp only [bR] at h6
  omega
 ·rw [ai J]; omega
theorem jh.U9 {N:Nat}{now:List (Int×List Nat)}{l:List Int}{ε ε':aH}{e:Int}{cs:List cY}(hr:jh now l ε e cs ε')(hn:NW N now): (∀n∈l,n.toNat<16384)→(cs.flatMap kC).length≤520*l.length:=by
 induction hr with
 | nil ε=>intro _; simp
 | err n l ε e b ε' hr he=>intro _; simp
 | part n l ε cR b ε' c e cs I hr hb tE hc kq ht ih =>
  intro J
  have h1:=NJ hc (gx (hn.look hb).1) (J n c9)
  have h2:=ih fun m hm=>J m (cJ _ hm)
  rw [List.flatMap_append,bK,bf]
  omega
 | whole n l ε cR b ε' e cs I hr hb tE ht ih =>
  intro J
  have mW:=gx (hn.look hb).1
  have h1:=w9 (c:=⟨n,0,true,b⟩) (J n c9) (show (0:Int).toNat<16384 by decide) (by show b.length<_; omega)
  have h2:=ih fun m hm=>J m (cJ _ hm)
  rw [rA,bK,bf]
  simp only at h1
  omega
theorem Dg {N:Nat}{now:List (Int×List Nat)}{ε ε':aH}{e:Int}{cs:List cY}{kd:Int}{tx:Nat}(hr:jh now (dO now) ε e cs ε')(I:NW N now)(hN:N≤16384)(ht:tx<16384): (ei kd tx 0 0 [] cs).length≤520*N+20:=by
 have h2:=vU ht
 have h1:=Ft (n:=0) (by decide)
 have h4:=Ft (n:=([]:List Nat).length) (by decide)
 have h5:=D7 cs.length
 have h6:=hr.U9 I fun n hm=>by have:=I.keys n (nY.1 hm); omega
 have J:(dO now).length≤N:=by
  have:=I.len
  rw [dO,(eX _).length_eq,eM]; exact this
 have J:=Nat.mul_le_mul_left 520 J
 simp only [ei,bK,bf,bR] at h4 ⊢
 omega
theorem tf (K M:Nat): jN fun x=>x.2.log.length=K∧x.2.room=M:=by
 refine ⟨fun x n h => ?_,fun x n b h => ?_⟩
 ·unfold bL Dk.fO
  split
  ·exact h
  ·split
   ·exact h
   ·split
    ·exact h
    ·split <;> first | exact h | exact h
 ·unfold Dk.cH
  split
  ·exact h
  ·split
   ·exact h
   ·split <;> exact h
def oa (K M:Nat)(ε:aH): Prop:=ε.2.2.log.length≤K∧ε.2.2.room=M
theorem oa.sm {N K M:Nat}{ε ε':aH}(h:oa K M ε)(hs:Sm N ε ε'): oa K M ε':=by
 have:=hs.2 _ ((tf ε.2.2.log.length ε.2.2.room).Td N) ⟨rfl,rfl⟩
 have this:ε'.2.2.log.length=ε.2.2.log.length∧ε'.2.2.room=ε.2.2.room:=this
 exact ⟨by rw [this.1]; exact h.1,by rw [this.2]; exact h.2⟩
theorem uT.fits {N B K M kd tx aL:Nat}{now:List (Int×List Nat)}{ε ε':aH}{e:Int}{cl:Bool}(hr:uT ε now kd tx 0 0 [] 0 aL e cl ε')(J:EI N B ε)(hB:B≤1000)(hw:NW N now)(hN:N≤1024)(h1:1≤kd)(h2:kd≤7)(IJ:tx<16384)(hd:oa K M ε)(hf:K+520*N+28≤M):
  cl=true∧e=0∧oa (K+520*N+28) M ε':=by
 have I:∀n∈dO now,0≤n∧n<N:=fun n hq=>hw.keys n (nY.1 hq)
 obtain ⟨hK,hM⟩:=hd
 have Q8:=J.done hB hw (by omega) (by omega) hr
 cases hr with
 | arg hh=>omega
 | dead _ _ _ hd=>rw [J.ec.dk.alive] at hd; cases hd
 | nX e c ε' _ _ _ _ hc Fb=>exact absurd (hc.ec J.ec J.ok I).2.2 Fb
 | app c mu _ _ _ _ hc Fb =>
  exfalso
  have BR:=Dg (kd:=kd) hc hw (by omega) IJ
  have hP:=(tf ε.2.2.log.length ε.2.2.room).ch hc ⟨rfl,rfl⟩
  obtain ⟨c1,c2,c3⟩:=hc.ec J.ec J.ok I
  have tD:dM kd c=true:=by
   refine CU ⟨by omega,by omega⟩ (hc.fit (fun x hx=>gx (hw.good x hx).1) fun n hq => ?_)
   have:=I n hq
   omega
  rcases kZ mu.2 kd tx 0 0 [] c with ⟨e,he,tv,hq⟩ | ⟨_,I6,hq⟩ | ⟨_,hb,tV,eU,I6,hq⟩
  ·rcases tv with ⟨rfl,hg⟩ | ⟨_,hb⟩ | ⟨rfl,tV⟩ | ⟨rfl,hb⟩
   ·rw [tD] at hg; cases hg
   ·omega
   ·rw [c1.dk.alive] at tV; cases tV
   ·rw [c_,sV,hP.1,hP.2] at hb; omega
  ·have:=c1.dk.bJ; omega
  ·rw [hq] at Fb; exact absurd rfl Fb
 | put c mu e w8 _ _ _ _ hc ha hp =>
  rcases Q8 with ⟨kq,_⟩ | ⟨_,he,_⟩
  ·cases kq
  ·refine ⟨rfl,he,?_⟩
   have BR:=Dg (kd:=kd) hc hw (by omega) IJ
   have hP:=(tf ε.2.2.log.length ε.2.2.room).ch hc ⟨rfl,rfl⟩
   rcases kZ mu.2 kd tx 0 0 [] c with ⟨e,he,tv,hq⟩ | ⟨_,I6,hq⟩ | ⟨_,hb,tV,eU,I6,hq⟩
   ·rw [hq] at ha; exact absurd ha he
   ·rw [hq] at ha; cases ha
   ·rw [hq] at hp
    have gE:=(tf (ε.2.2.log.length+(c_ mu.2.1 kd tx 0 0 [] c).length) ε.2.2.room).pt hp ⟨by show (mu.2.2.log++_).length=_; rw [bK,hP.1],hP.2⟩
    have h3:(c_ mu.2.1 kd tx 0 0 [] c).length≤520*N+28:=by rw [c_,sV]; omega
    exact ⟨by rw [gE.1]; omega,by rw [gE.2]; exact hM⟩
end Go.Proofs.YtefepnnfphdkpaaGreat.Am
