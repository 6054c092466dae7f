/- ChainFull: a part of its proof; conditions: its statement's. -/
import Derived.Test.YtefepnnfphdkpaaGreatD29
import Derived.Test.YtefepnnfphdkpaaGreatD28
namespace Go.Proofs.YtefepnnfphdkpaaGreat.Am
open Go
section
variable {told:cz} {h:H} {S:List aq} {X Y:aq} {N B n:Nat} {v x y rv:V} {b l c R M:List Nat} {kd link extra kB:Nat} {cs:List (List Nat)} {A:aF→aq} {pg:aF→Int→List Nat} {ε:aF}
theorem Nk (I:W told){a:Nat}(J:a<256): Call ⟨Tryz.prog,told⟩ 56 [.int .u8 (a:Int)] h fun r h'=>r=.int .i64 (qi a:Nat)∧h'=h:=by
 have hle:qi a≤8:=by unfold qi; exact cg (wL _ _) (by simp)
 refine Call.of_wp (I.free _ rfl) Tryz.func56 rfl rfl (zK 7 rfl (zo rfl (DC rfl rfl (Lf (f:=qi) oX (by decide +kernel) J)) ?_))
 refine zo rfl (cN rfl (by exact kn Tryz.underlying5 bR (aA (by omega) (by omega)))) ?_
 exact zk 2 rfl (WP.ret ⟨aa,_,rfl,rfl,rfl⟩)
theorem ED (I:W told){a:Nat}(J:a<256): Call ⟨Tryz.prog,told⟩ 109 [.int .u8 ((255-a:Nat):Int)] h fun r h'=>r=.int .i64 (jT a:Nat)∧h'=h:=by
 have hle:∀a,a<256→jT a≤8:=by decide +kernel
 have hle:=hle a J
 have he:jT (255-(255-a))=jT a:=by rw [show 255-(255-a)=a by omega]
 refine Call.of_wp (I.free _ rfl) Tryz.func109 rfl rfl (zK 7 rfl (zo rfl (DC rfl rfl (Lf (f:=fun x=>jT (255-x)) oX (by decide +kernel) (by omega))) ?_))
 rw [he]
 refine zo rfl (cN rfl (by exact kn Tryz.underlying5 bR (aA (by omega) (by omega)))) ?_
 exact zk 2 rfl (WP.ret ⟨aa,_,rfl,rfl,rfl⟩)
noncomputable def U3 : Code:=eC [1,1,1,0,1,0,0,1,1,0,0,1,1,1,1,0,0] ((Tryz.f51.body).getD .skip)
theorem Nl (hT:W told){u:V}{lo:Nat}(hv:View h u M)(hM:M.length=375)(hn:n≤3000)(pS:lo<n)(h0:bt M lo=false)(h1:∀j,j<lo→bt M j=true): ∀(m k:Nat) (E:List (Nat×V)) (Q:Ex→List (Nat×V)→H→Prop),k+m=lo/8 →
  Has E [(5,.int .i64 (n:Int)),(7,.int .i64 0),(39,u),(40,.int .i64 375),(41,.int .i64 (k:Int))] →
  (∀E',look E' 2=some (.int .i64 (lo:Int))→look E' 3=some (.int .i64 0)→Q .ret E' h)→WP ⟨Tryz.prog,told⟩ 65 (.loop U3) E h Q:=by
 intro m
 induction m with
 | zero =>
  intro k E Q hk hE hq
  have J:M[k]?=some (M[k]'(by omega)):=aM _
  have I:M.getD k 0=M[k]'(by omega):=by rw [dN,J]; rfl
  generalize (M[k]'(by omega))=x at J I
  have hx:x<256:=hv.1 x (aV J)
  obtain ⟨id,off,e1,e2⟩:=dI hv J
  have Gs:x≠255:=fun e=>by
   have:=xJ (M:=M) (k:=k) (j:=lo%8) (by omega)
   rw [show 8*k+lo%8=lo by omega,h0,I,e] at this
   have q:∀j,j<8→(255:Nat).testBit j=true:=by decide
   rw [q _ (by omega)] at this; cases this
  obtain ⟨w1,w2,w3⟩:=Hh x (by omega)
  have hl:8*k+jT x=lo:=by
   have a1:=xJ (M:=M) (k:=k) (j:=jT x) w1
   rw [I,w2] at a1
   rcases iD (8*k+jT x) lo with q | q
   ·rw [h1 _ q] at a1; cases a1
   ·by_cases q2:lo%8<jT x
    ·have:=w3 _ q2
     have a2:=xJ (M:=M) (k:=k) (j:=lo%8) (by omega)
     rw [show 8*k+lo%8=lo by omega,h0,I,this] at a2; cases a2
    ·omega
  refine WP.loop (WP.has hE (zg rfl (zt rfl (ag rfl rfl aR) (by simp; omega) ?_)))
  refine zk 5 rfl (WP.block (zK 3 rfl (zo rfl (cn (r:=.ptr id off) rfl rfl e1) (zl rfl e2 (zk 6 rfl (zb rfl (by exact jQ (aA (by omega) (by omega))) ?_))))))
  refine zm rfl (zb rfl (by exact jQ (aA (by omega) (by omega))) ?_)
  refine zb rfl (by exact bp (aA (by omega) (by omega))) ?_
  refine zm rfl (zo rfl (eY rfl (EB hx)) (zc rfl (ED hT hx) ?_))
  rintro v h' ⟨rfl,rfl⟩
  refine zo rfl (ag (r:=.int .i64 (lo:Int)) rfl rfl (by rw [←hl,show (((8*k+jT x:Nat):Int))=(3000*0+8*(k:Int))+(jT x:Int) by omega]; exact bp (aA (by omega) (by omega)))) ?_
  refine zk 5 rfl (zt rfl (ag rfl rfl aI) (by simp; omega) ?_)
  refine zk 3 rfl (zt rfl (ag rfl rfl aR) (by simp; omega) ?_)
  exact zk 9 rfl (WP.ret (hq _ rfl rfl))
 | succ m ih =>
  intro k E Q hk hE hq
  have J:M[k]?=some (M[k]'(by omega)):=aM _
  have I:M.getD k 0=M[k]'(by omega):=by rw [dN,J]; rfl
  generalize (M[k]'(by omega))=x at J I
  have hx:x<256:=hv.1 x (aV J)
  obtain ⟨id,off,e1,e2⟩:=dI hv J
  have Gs:x=255:=Wj x hx fun j hj=>by rw [←I,←xJ hj]; exact h1 _ (by omega)
  have Lh:∀a,a<256→jT a≤8:=by decide +kernel
  have Lh:=Lh x hx
  refine WP.loop (WP.has hE (zg rfl (zt rfl (ag rfl rfl aR) (by simp; omega) ?_)))
  refine zk 5 rfl (WP.block (zK 3 rfl (zo rfl (cn (r:=.ptr id off) rfl rfl e1) (zl rfl e2 (zk 6 rfl (zb rfl (by exact jQ (aA (by omega) (by omega))) ?_))))))
  refine zm rfl (zb rfl (by exact jQ (aA (by omega) (by omega))) ?_)
  refine zb rfl (by exact bp (aA (by omega) (by omega))) ?_
  refine zm rfl (zo rfl (eY rfl (EB hx)) (zc rfl (ED hT hx) ?_))
  rintro v h' ⟨rfl,rfl⟩
  refine zb rfl (by exact bp (aA (by omega) (by omega))) ?_
  refine zk 5 rfl (zh rfl (ag rfl rfl aI) (by simp; omega) ?_)
  refine zk 5 rfl (zv (zj rfl (WP.skip (zr rfl (zb rfl (by exact bp (aA (by omega) (by omega))) ?_)))))
  refine zm rfl (zv ?_)
  exact ih (k+1) _ Q (by omega) ⟨rfl,rfl,rfl,rfl,rfl,aa⟩ hq
theorem Li (hT:W told){u:V}(hv:View h u M)(hM:M.length=375)(hn:n≤3000)(h1:∀j,j<n→bt M j=true)(h0:∀j,n≤j→bt M j=false): ∀(m k:Nat) (E:List (Nat×V)) (Q:Ex→List (Nat×V)→H→Prop),k+m=375 →
  Has E [(5,.int .i64 (n:Int)),(7,.int .i64 0),(25,.int .i64 1),(26,.int .i64 0),(39,u),(40,.int .i64 375),(41,.int .i64 (k:Int))] →
  (∀E',Has E' [(25,.int .i64 1),(26,.int .i64 0)]→Q (.exit 2) E' h)→WP ⟨Tryz.prog,told⟩ 65 (.loop U3) E h Q:=by
 intro m
 induction m with
 | zero =>
  intro k E Q hk I hq
  refine WP.loop (WP.has I (zg rfl (zh rfl (ag rfl rfl aR) (by simp; omega) ?_)))
  exact zk 3 rfl (WP.exit (hq _ ⟨rfl,rfl,aa⟩))
 | succ m ih =>
  intro k E Q hk I hq
  have hb:M[k]?=some (M[k]'(by omega)):=aM _
  have J:M.getD k 0=M[k]'(by omega):=by rw [dN,hb]; rfl
  generalize (M[k]'(by omega))=x at hb J
  have hx:x<256:=hv.1 x (aV hb)
  obtain ⟨id,off,e1,e2⟩:=dI hv hb
  have Lh:∀a,a<256→jT a≤8:=by decide +kernel
  have Lh:=Lh x hx
  have next:=fun E I=>ih (k+1) E Q (by omega) I hq
  refine WP.loop (WP.has I (zg rfl (zt rfl (ag rfl rfl aR) (by simp; omega) ?_)))
  refine zk 5 rfl (WP.block (zK 3 rfl (zo rfl (cn (r:=.ptr id off) rfl rfl e1) (zl rfl e2 (zk 6 rfl (zb rfl (by exact jQ (aA (by omega) (by omega))) ?_))))))
  refine zm rfl (zb rfl (by exact jQ (aA (by omega) (by omega))) ?_)
  refine zb rfl (by exact bp (aA (by omega) (by omega))) ?_
  refine zm rfl (zo rfl (eY rfl (EB hx)) (zc rfl (ED hT hx) ?_))
  rintro v h' ⟨rfl,rfl⟩
  refine zb rfl (by exact bp (aA (by omega) (by omega))) ?_
  refine zk 5 rfl ?_
  by_cases Gs:x=255
  ·skip
   refine zh rfl (ag rfl rfl aI) (by simp; omega) ?_
   refine zk 5 rfl (zv (zj rfl (WP.skip (zr rfl (zb rfl (by exact bp (aA (by omega) (by omega))) ?_)))))
   refine zm rfl (zv ?_)
   exact next _ ⟨rfl,rfl,rfl,rfl,rfl,rfl,rfl,aa⟩
  ·obtain ⟨w1,w2,w3⟩:=Hh x (by omega)
   have Uv:n≤8*k+jT x:=by
    rcases iD (8*k+jT x) n with q | q
    ·have:=h1 _ q
     rw [xJ w1,J,w2] at this; cases this
    ·exact q
   refine zt rfl (ag rfl rfl aI) (by simp; omega) ?_
   refine zk 3 rfl (zh rfl (ag rfl rfl aR) (by simp; omega) ?_)
   refine zq rfl (zv (zj rfl (WP.skip (zr rfl (zb rfl (by exact bp (aA (by omega) (by omega))) ?_)))))
   refine zm rfl (zv ?_)
   exact next _ ⟨rfl,rfl,rfl,rfl,rfl,rfl,rfl,aa⟩
end
def onesL : List Nat→Nat
 | []=>0
 | x::l=>qi x+onesL l
theorem AR {M:List Nat}{k x:Nat}(I:M[k]?=some x): onesL (M.take (k+1))=onesL (M.take k)+qi x:=by
 induction M generalizing k with
 | nil=>simp at I
 | cons y M J =>
  cases k with
  | zero=>simp at I; subst I; simp [onesL]
  | succ k =>
   have:=J (k:=k) (by simpa using I)
   simp only [qm,onesL,this]; omega
theorem EE (x:Nat): qi x≤8:=by unfold qi; exact cg (wL _ _) (by simp)
theorem Nm : ∀(M:List Nat),onesL M≤8*M.length:=by
 intro M
 induction M with
 | nil=>exact aD _
 | cons x M I=>have:=EE x; simp only [onesL,aN]; omega
section
variable {P:Program} {h:H} {t:TypeId} {x y:Operand} {a k n:Nat}
theorem IZ (I:n<3000): binV P h .quo t x y (.int .i64 (n:Int)) (.int .i64 3000)=some (.int .i64 0):=by
 have:=uG (P:=P) (h:=h) (t:=t) (x:=x) (y:=y) (a:=n) (b:=3000) (by decide) (by omega)
 rw [show n/3000=0 by omega] at this; exact this
theorem I0 (I:n<3000): binV P h .rem t x y (.int .i64 (n:Int)) (.int .i64 3000)=some (.int .i64 (n:Int)):=by
 have:=BW (P:=P) (h:=h) (t:=t) (x:=x) (y:=y) (a:=n) (b:=3000) (by decide)
 rw [show n%3000=n by omega] at this; exact this
theorem EF : binV P h .eql t x y (.int .u8 ((Nat.land (a/2^k) 1:Nat):Int)) (.int .u8 1)=some (.bool (a.testBit k)):=by
 simp only [binV,ikBeq,af,intV,kJ]
 rw [Sx]
 cases h:a.testBit k <;> rfl
theorem I1 {J:Array TypeId}{k:IntKind}{a b:Int}: builtinV P h .min J [.int k a,.int k b]=some (.int k (min a b),h):=by
 simp only [builtinV,foldV,yw,cW,af,gY]
 by_cases I:b<a
 ·simp only [I,td,af]
  rw [show min a b=b by omega]
 ·simp only [I,mZ,ay]
  rw [show min a b=a by omega]
end
section
variable {told:cz} {h:H} {S:List aq} {X Y:aq} {N B n:Nat} {v x y rv:V} {b l c R M:List Nat} {kd link extra kB:Nat} {cs:List (List Nat)} {A:aF→aq} {pg:aF→Int→List Nat} {ε:aF}
structure eR (n:Nat)(R M:List Nat)(p:Int→List Nat): Prop where
 head:∃ex,dF (p 0) 201 n ex [fO,R]
 rl:R.length=64
 marks:∃kd lk ex,dF (p 1) kd lk ex [M]
 ml:M.length=375
 n1:2≤n
 n2:n≤2999
 own:∀j,j<2→bt M j=true
 hi:∀j,n≤j→bt M j=false
theorem Lj (J:W told)(hR:mo told N B rv A pg)(eB:EI N B ε)(hN:2≤N)(hp:eR n R M (pg ε)){lo:Nat}(pS:lo<n)(h0:bt M lo=false)(h1:∀j,j<lo→bt M j=true)(s:Sat h (A ε::S)):
  Call ⟨Tryz.prog,told⟩ 51 [rv] h fun v h'=>∃ε',v=.aX [.int .i64 (lo:Int),.int .i64 0]∧EI N B ε'∧Sm N ε ε'∧Sat h' (A ε'::S):=by
 obtain ⟨ex,ny⟩:=hp.head
 obtain ⟨kd,lk,kB,I⟩:=hp.marks
 have hM:=hp.ml
 have mj:=hp.n2
 refine Call.of_wp (J.free _ rfl) Tryz.func51 rfl rfl (zK 8 rfl (zc rfl (qN J hR eB (by omega) ny hp.rl s) ?_))
 rintro v h ⟨u,kY,rfl,kO,gi,s⟩
 refine zk 12 rfl (zh rfl (ag rfl rfl aI) (rfl) (zk 7 rfl (zc rfl (rK J (by omega) (by omega)) ?_)))
 rintro v h' ⟨rfl,rfl⟩
 refine zb rfl (by exact jj (aA (by omega) (by omega))) ?_
 refine zk 2 rfl (WP.block (WP.loop (zg rfl (zt rfl (ag rfl rfl aR) (by decide) ?_))))
 have I:dF (pg kY 1) kd lk kB [M]:=by rw [hR.same gi]; exact I
 refine zk 5 rfl (WP.block (zK 9 rfl (zc rfl (oH J hR kO hN I hM (s.ae [1])) ?_)))
 rintro v h ⟨w2,u2,iI,rfl,jW,gu,s⟩
 refine zk 12 rfl (zh rfl (ag rfl rfl aI) (rfl) (zk 6 rfl (zo rfl (aO rfl rfl rfl (aW aJ (s.aG (k:=0) rfl (bj _ _)))) ?_)))
 rw [hM]
 refine zk 2 rfl (WP.block ?_)
 refine Nl J (s.buf (k:=0) rfl).view hM (by omega) pS h0 h1 (lo/8) 0 _ _ (by omega) ⟨rfl,rfl,rfl,rfl,rfl,aa⟩ (fun E' l2 l3=>⟨aa,_,IL l2 l3,iI,rfl,jW,gi.trans gu,?_⟩)
 exact ((s.ae [2]).del 3 |>.del 2).del 1
theorem FW (hT:W told)(hR:mo told N B rv A pg)(eB:EI N B ε)(hN:2≤N)(I:eR n R M (pg ε))(h1:∀j,j<n→bt M j=true)(s:Sat h (A ε::S)):
  Call ⟨Tryz.prog,told⟩ 51 [rv] h fun v h'=>∃ε',v=.aX [.int .i64 (-1),.int .i64 0]∧EI N B ε'∧Sm N ε ε'∧Sat h' (A ε'::S):=by
 obtain ⟨ex,ny⟩:=I.head
 obtain ⟨kd,lk,kB,J⟩:=I.marks
 have hM:=I.ml
 have mj:=I.n2
 have vT:=I.n1
 refine Call.of_wp (hT.free _ rfl) Tryz.func51 rfl rfl (zK 8 rfl (zc rfl (qN hT hR eB (by omega) ny I.rl s) ?_))
 rintro v h ⟨u,kY,rfl,kO,gi,s⟩
 refine zk 12 rfl (zh rfl (ag rfl rfl aI) (rfl) (zk 7 rfl (zc rfl (rK hT (by omega) (by omega)) ?_)))
 rintro v h' ⟨rfl,rfl⟩
 refine zb rfl (by exact jj (aA (by omega) (by omega))) ?_
 refine zk 2 rfl (WP.block (WP.loop (zg rfl (zt rfl (ag rfl rfl aR) (by decide) ?_))))
 have J:dF (pg kY 1) kd lk kB [M]:=by rw [hR.same gi]; exact J
 refine zk 5 rfl (WP.block (zK 9 rfl (zc rfl (oH hT hR kO hN J hM (s.ae [1])) ?_)))
 rintro v h ⟨w2,u2,iI,rfl,jW,gu,s⟩
 refine zk 12 rfl (zh rfl (ag rfl rfl aI) (rfl) (zk 6 rfl (zo rfl (aO rfl rfl rfl (aW aJ (s.aG (k:=0) rfl (bj _ _)))) ?_)))
 rw [hM]
 refine zk 2 rfl (WP.block ?_)
 refine Li hT (s.buf (k:=0) rfl).view hM (by omega) h1 I.hi 375 0 _ _ (by omega) ⟨rfl,rfl,rfl,rfl,rfl,rfl,rfl,aa⟩ (fun E' hE => ?_)
 refine WP.has hE (zr rfl (zb rfl (by exact bp (aA (by omega) (by omega))) ?_))
 refine zm rfl (zv (WP.loop (zg rfl (zh rfl (ag rfl rfl aR) (by decide) ?_))))
 exact zk 3 rfl (WP.exit (zK 5 rfl (WP.ret ⟨aa,_,rfl,iI,rfl,jW,gi.trans gu,((s.ae [2]).del 3 |>.del 2).del 1⟩)))
noncomputable def Wk : Code:=eC [1,1,1,1,0,1,0,0,1,1,0,0,1,1,1,1,0,0] ((Tryz.f23.body).getD .skip)
theorem Lk (hT:W told){u:V}(hv:View h u M)(hM:M.length=375)(hn:n≤3000): ∀(m k:Nat) (E:List (Nat×V)) (Q:Ex→List (Nat×V)→H→Prop),k+m=375 →
  Has E [(7,.int .i64 ((n:Int)-(onesL (M.take k):Nat))),(26,.int .i64 1),(27,.int .i64 0),(40,u),(41,.int .i64 375),(42,.int .i64 (k:Int))] →
  (∀E',Has E' [(7,.int .i64 ((n:Int)-(onesL M:Nat))),(26,.int .i64 1),(27,.int .i64 0)]→Q (.exit 2) E' h)→WP ⟨Tryz.prog,told⟩ 53 (.loop Wk) E h Q:=by
 intro m
 induction m with
 | zero =>
  intro k E Q hk J hq
  refine WP.loop (WP.has J (zg rfl (zh rfl (ag rfl rfl aR) (by simp; omega) ?_)))
  refine zk 3 rfl (WP.exit ?_)
  refine hq _ ⟨?_,rfl,rfl,aa⟩
  rw [show M.take k=M from dG (by omega)]
  rfl
 | succ m ih =>
  intro k E Q hk J hq
  have I:M[k]?=some (M[k]'(by omega)):=aM _
  generalize (M[k]'(by omega))=x at I
  have hx:x<256:=hv.1 x (aV I)
  obtain ⟨id,off,e1,e2⟩:=dI hv I
  have ht:=AR I
  have hle:=Nm (M.take k)
  have js:(M.take k).length≤375:=by rw [fe]; omega
  have h8:=EE x
  refine WP.loop (WP.has J (zg rfl (zt rfl (ag rfl rfl aR) (by simp; omega) ?_)))
  refine zk 5 rfl (WP.block (zg rfl (zo rfl (cn (r:=.ptr id off) rfl rfl e1) (zl rfl e2 (zk 5 rfl (zc rfl (Nk hT hx) ?_))))))
  rintro v h' ⟨rfl,rfl⟩
  refine zb rfl (by exact jj (aA (by omega) (by omega))) ?_
  refine za rfl (zv (zr rfl (zb rfl (by exact bp (aA (by omega) (by omega))) ?_)))
  refine zm rfl (zv ?_)
  refine ih (k+1) _ Q (by omega) ⟨?_,rfl,rfl,rfl,rfl,rfl,aa⟩ hq
  exact fo (fun z=>some (V.int .i64 z)) (by omega)
theorem Qj (hT:W told)(hR:mo told N B rv A pg)(eB:EI N B ε)(hN:2≤N)(J:eR n R M (pg ε))(s:Sat h (A ε::S)):
  Call ⟨Tryz.prog,told⟩ 23 [rv] h fun v h'=>∃ε',v=.aX [.int .i64 ((n:Int)-(onesL M:Nat)),.int .i64 0]∧EI N B ε'∧Sm N ε ε'∧Sat h' (A ε'::S):=by
 obtain ⟨ex,ny⟩:=J.head
 obtain ⟨kd,lk,kB,I⟩:=J.marks
 have hM:=J.ml
 have mj:=J.n2
 have vT:=J.n1
 refine Call.of_wp (hT.free _ rfl) Tryz.func23 rfl rfl (zK 8 rfl (zc rfl (qN hT hR eB (by omega) ny J.rl s) ?_))
 rintro v h ⟨u,kY,rfl,kO,gi,s⟩
 refine zk 12 rfl (zh rfl (ag rfl rfl aI) (rfl) (zk 12 rfl (zc rfl (rK hT (by omega) (by omega)) ?_)))
 rintro v h' ⟨rfl,rfl⟩
 refine zb rfl (by exact jj (aA (by omega) (by omega))) ?_
 refine zk 2 rfl (WP.block (WP.loop (zg rfl (zt rfl (ag rfl rfl aR) (by decide) ?_))))
 have I:dF (pg kY 1) kd lk kB [M]:=by rw [hR.same gi]; exact I
 refine zk 5 rfl (WP.block (zK 9 rfl (zc rfl (oH hT hR kO hN I hM (s.ae [1])) ?_)))
 rintro v h ⟨w2,u2,iI,rfl,jW,gu,s⟩
 refine zk 12 rfl (zh rfl (ag rfl rfl aI) (rfl) (zk 6 rfl (zo rfl (aO rfl rfl rfl (aW aJ (s.aG (k:=0) rfl (bj _ _)))) ?_)))
 rw [hM]
 refine zk 2 rfl (WP.block ?_)
 refine Lk hT (n:=n) (s.buf (k:=0) rfl).view hM (by omega) 375 0 _ _ (by omega) ⟨?_,rfl,rfl,rfl,rfl,rfl,aa⟩ (fun E' hE => ?_)
 ·exact fo (fun z=>some (V.int .i64 z)) (by have:onesL (M.take 0)=0:=rfl; omega)
 refine WP.has hE (zr rfl (zb rfl (by exact bp (aA (by omega) (by omega))) ?_))
 refine zm rfl (zv (WP.loop (zg rfl (zh rfl (ag rfl rfl aR) (by decide) ?_))))
 exact zk 3 rfl (WP.exit (zK 6 rfl (WP.ret ⟨aa,_,rfl,iI,rfl,jW,gi.trans gu,((s.ae [2]).del 3 |>.del 2).del 1⟩)))
theorem Qk (hT:W told)(hR:mo told N B rv A pg)(eB:EI N B ε)(hN:2≤N)(hp:eR n R M (pg ε)){i:Nat}(hi:i<n)(s:Sat h (A ε::S)):
  Call ⟨Tryz.prog,told⟩ 57 [rv,.int .i64 (i:Int)] h fun v h'=>∃ε',v=.aX [.bool (bt M i),.int .i64 0]∧EI N B ε'∧Sm N ε ε'∧Sat h' (A ε'::S):=by
 obtain ⟨kd,lk,kB,o9⟩:=hp.marks
 have hM:=hp.ml
 have mj:=hp.n2
 refine Call.of_wp (hT.free _ rfl) Tryz.func57 rfl rfl (zK 9 rfl (zo rfl (ag (r:=.int .i64 0) rfl rfl (IZ (by omega))) ?_))
 refine zc rfl (oH hT hR eB hN o9 hM s) ?_
 rintro v h ⟨w2,u2,iI,rfl,I,gu,s⟩
 have hb:M[i/8]?=some (M[i/8]'(by omega)):=aM _
 have J:M.getD (i/8) 0=M[i/8]'(by omega):=by rw [dN,hb]; rfl
 generalize (M[i/8]'(by omega))=x at hb J
 have hv:=(s.buf (k:=0) rfl).view
 have hx:x<256:=hv.1 x (aV hb)
 have wB:x.testBit (i%8)=bt M i:=by rw [bt,J]
 obtain ⟨id,off,e1,e2⟩:=dI hv hb
 have GL:x/2^(i%8)<256:=A8 (sY _ _) hx
 refine zk 12 rfl (zh rfl (ag rfl rfl aI) (rfl) (zk 7 rfl (zb rfl (I0 (by omega)) ?_)))
 refine zb rfl (uG (a:=i) (b:=8) (by decide) (by omega)) ?_
 refine zo rfl (cn (r:=.ptr id off) rfl rfl e1) (zl rfl e2 (zm rfl (zb rfl (I0 (by omega)) ?_)))
 refine zb rfl (BW (a:=i) (b:=8) (by decide)) ?_
 refine zb rfl (Lc (a:=x) (k:=i%8) (by omega)) ?_
 refine zb rfl (Ld (b:=1) GL (by decide)) ?_
 refine zo rfl (ag (r:=.bool (bt M i)) rfl rfl (by rw [←wB]; exact EF)) ?_
 exact zk 3 rfl (WP.ret ⟨aa,_,rfl,iI,rfl,I,gu,(s.ae [2]).del 2 |>.del 1⟩)
end
def SA (a p q r:Nat)(op:V)(data:List Nat)(bf:Nat)(ε:aF): aq:=star [dR a p q r op data bf,dQ r p q ε.1,cf q p ε.2.1,bz p ε.2.2]
def GA (g a p q r:Nat)(data:List Nat)(bf:Nat)(now:List (Int×List Nat))(ε:aF): aq:=star [fy g a now false,dR a p q r (.ptr g 0) data bf,dQ r p q ε.1,cf q p ε.2.1,bz p ε.2.2]
def dh (now:List (Int×List Nat))(ε:aF)(n:Int): List Nat:=match lookL n now with
 | some b=>b
 | none=>pgA ε n
theorem gV {N:Nat}{now:List (Int×List Nat)}{ε ε':aF}(h:Sm N ε ε'): dh now ε'=dh now ε:=by
 funext n
 unfold dh
 rw [h.1]
theorem g_ {now:List (Int×List Nat)}{ε:aF}{i n:Int}{b:List Nat}: dh (dc i b now) ε n=if i=n then b else dh now ε n:=by
 unfold dh
 rw [oU]
 by_cases h:i=n
 ·rw [ax h,ax h]
 ·rw [ai h,ai h]
section
variable {told:cz} {h:H} {S:List aq} {X Y:aq} {N B n g a p q r bf:Nat} {v x y rv op:V} {b l c R M data:List Nat} {kd link extra kB:Nat} {cs:List (List Nat)} {ε:aF} {now:List (Int×List Nat)}
theorem EG (hT:W told)(hB:B≤2000): mo told N B (.iface 24 (.ptr a 0)) (SA a p q r op data bf) pgA:=by
 refine ⟨⟨_,_,_,rfl,P7,fun {h S ε n} I h0 h1 s => ?_⟩,fun hs=>hs.1⟩
 have wj:=I.cA
 have U4:=rG (ε:=ε)
 have s:=cR.1 s
 refine (yL hT (n:=n) s I.ok.ok I.ok.pins (by omega)).mono ?_
 rintro v h ⟨e,b,ε',J,hs⟩
 obtain ⟨k1,k2,k3,k4⟩:=J.ec I.ec I.ok.pins
 obtain ⟨rfl,rfl⟩:=k3 h0 h1
 rcases hs with ⟨he,_⟩ | ⟨_,u,rfl,s⟩
 ·exact absurd rfl he
 ·have s2:Sat h (SA a p q r op data bf ε'::aU u (pgA ε n)::S):=cR.2 (s.ae [1,1,1,1,0])
  exact ⟨u,ε',rfl,I.rd J,⟨k2,fun P hP hv=>hP.rd J I.ec hv⟩,s2.ae [1]⟩
theorem wC (hT:W told)(hB:B≤2000)(hw:NW N now): mo told N B (.iface 26 (.ptr g 0)) (GA g a p q r data bf now) (dh now):=by
 refine ⟨⟨_,_,_,rfl,GZ,fun {h S ε n} I h0 h1 s => ?_⟩,fun hs m=>by rw [gV hs]⟩
 have wj:=I.cA
 have U4:=rG (ε:=ε)
 have s:=cR.1 s
 refine (Ei hT (n:=n) s I.ok (by omega) (fun e he=>g9 (hw.good e he).1)).mono ?_
 rintro v h ⟨e,b,ε',J,hs⟩
 obtain ⟨k1,k2,k3,k4⟩:=J.ec I.ec I.ok.pins
 obtain ⟨rfl,hb⟩:=k3 h0 h1
 have hb:b=dh now ε n:=hb
 subst hb
 rcases hs with ⟨he,_⟩ | ⟨_,u,rfl,s⟩
 ·exact absurd rfl he
 ·have s2:Sat h (GA g a p q r data bf now ε'::aU u (dh now ε n)::S):=cR.2 (s.ae [1,1,1,1,1,0])
  exact ⟨u,ε',rfl,I.wm J,⟨k2,fun P hP hv=>hP.wm J I.ec hv⟩,s2.ae [1]⟩
theorem xL (hT:W told)(hB:B≤2000)(I:EI N B ε)(hw:NW N now){i:Nat}(hi:i<N)(s:Sat h (GA g a p q r data bf now ε::X::S))(hX:cT X (cY x b))(J:dF b kd link extra cs):
  Call ⟨Tryz.prog,told⟩ 49 [.ptr g 0,.int .i64 (i:Int),x] h fun v h'=>∃ε',v=.int .i64 0∧EI N B ε'∧Sm N ε ε'∧NW N (dc (i:Int) b now)∧Sat h' (GA g a p q r data bf (dc (i:Int) b now) ε'::X::S):=by
 have wj:=I.cA
 have U4:=rG (ε:=ε)
 have hlen:=J.len
 have hb:=(s.aG (k:=1) rfl hX).1
 have s:=cR.1 s
 refine (KM hT (n:=(i:Int)) s hX (by omega) I.ok (by omega) (fun e he=>g9 (hw.good e he).1)).mono ?_
 rintro v h ⟨e,bI,ε',hr,rfl,s⟩
 obtain ⟨k1,k2,k3,k4,k5⟩:=hr.ec I.ec I.ok.pins
 obtain ⟨rfl,rfl⟩:=k5 (by omega) (by omega) J.good
 exact ⟨ε',rfl,I.KS hr,⟨k2,fun P hP hv=>hP.KS hr I.ec hv⟩,hw.put (by omega) (by omega) J.good hb,cR.2 s⟩
theorem eR.put {P:Int→List Nat}(h:eR N R M P){I:List Nat}{J:Int→List Nat}(h0:J 0=P 0)(h1:∃kd lk ex,dF (J 1) kd lk ex [I])(hl:I.length=375)(ho:∀j,j<2→bt I j=true)(hh:∀j,N≤j→bt I j=false): eR N R I J :=
 ⟨by rw [h0]; exact h.head,h.rl,h1,hl,h.n1,h.n2,ho,hh⟩
theorem Hi (hT:W told)(hB:B≤2000)(eB:EI N B ε)(hw:NW N now)(hp:eR N R M (dh now ε)){i:Nat}(hi:i<N)(fF:2≤i){bl:Bool}(s:Sat h (GA g a p q r data bf now ε::S)):
  Call ⟨Tryz.prog,told⟩ 52 [.ptr g 0,.int .i64 (i:Int),.bool bl] h fun v h'=>∃ε' bI,v=.int .i64 0∧EI N B ε'∧Sm N ε ε'∧NW N bI∧eR N R (if bl then AQ M i else Ez M i) (dh bI ε')∧(∀m,m≠1→dh bI ε' m=dh now ε m) ∧
   Sat h' (GA g a p q r data bf bI ε'::S):=by
 obtain ⟨kd,lk,kB,o9⟩:=hp.marks
 have hM:=hp.ml
 have vT:=hp.n1
 have mj:=hp.n2
 have U5:i/8<M.length:=by omega
 have hb:M[i/8]?=some (M[i/8]'(by omega)):=aM _
 have oY:M.getD (i/8) 0=M[i/8]'(by omega):=by rw [dN,hb]; rfl
 generalize (M[i/8]'(by omega))=z at hb oY
 -- what is so behind it
 have fin:∀ {ε':aF} {b':List Nat} {M':List Nat},Sm N ε ε'→dF b' kd lk kB [M']→M'.length=375→(∀j,bt M' j=if j=i then bl else bt M j)→eR N R M' (dh (dc 1 b' now) ε')∧(∀m,m≠1→dh (dc 1 b' now) ε' m=dh now ε m):=fun {ε' b' M'} hs I hl wB =>
  ⟨hp.put (by rw [g_,ai (by decide),gV hs]) ⟨_,_,_,by rw [g_,ax rfl]; exact I⟩ hl (fun j hj=>by rw [wB,ai (by omega)]; exact hp.own j hj) (fun j hj=>by rw [wB,ai (by omega)]; exact hp.hi j hj),
   fun m hm=>by rw [g_,ai (by omega),gV hs]⟩
 refine Call.of_wp (hT.free _ rfl) Tryz.func52 rfl rfl (zK 7 rfl (zo rfl (l7 rfl (ko jo rfl)) (zm rfl (zo rfl (ag (r:=.int .i64 0) rfl rfl (IZ (by omega))) ?_))))
 refine zc rfl (oH hT (wC hT hB hw) eB (by omega) o9 hM s) ?_
 rintro v h ⟨w2,u2,iI,rfl,jW,gu,s⟩
 have hv:=(s.buf (k:=0) rfl).view
 have hz:z<256:=hv.1 z (aV hb)
 have Yh:2^(i%8)<256:=sL (a:=2) (n:=8) (by decide) (by omega)
 obtain ⟨id,off,e1,e2⟩:=dI hv hb
 refine zk 12 rfl (zh rfl (ag rfl rfl aI) (rfl) (zk 6 rfl (zb rfl (I0 (by omega)) ?_)))
 refine zb rfl (BW (a:=i) (b:=8) (by decide)) ?_
 refine zb rfl (Sw (k:=i%8) (by omega)) ?_
 refine zk 6 rfl (zb rfl (I0 (by omega)) ?_)
 refine zb rfl (uG (a:=i) (b:=8) (by decide) (by omega)) ?_
 refine zk 6 rfl ?_
 cases bl with
 | true =>
  obtain ⟨Ll,J,e3,h4,e4,s2⟩:=kR s (i:=i/8) (b:=Nat.lor z (2^(i%8))) (by omega) (Lb hz (by omega))
  have ee:V.ptr id off=V.ptr Ll J:=by rw [e1] at e3; exact bE e3
  rw [←ee] at e4
  refine zK 4 rfl (zo rfl (cn (r:=.ptr id off) rfl rfl e1) (zl rfl e2 (zm rfl (zb rfl (T7 hz (by omega)) ?_))))
  refine zo rfl (cn (r:=.ptr id off) rfl rfl e1) (zS rfl (⟨h4,e4,s2⟩) ?_)
  rintro h s
  rw [←oY] at s
  have s:Sat h (aU u2 (AQ M i)::_):=s
  refine zk 6 rfl (zc rfl (G_ (i:=0) (c:=M) hT (s.ae [1,0]) (bj _ _) (bj _ _) o9 rfl Hf) ?_)
  rintro v h ⟨w3,b',rfl,I,s⟩
  refine zk 9 rfl (zh rfl (ag rfl rfl aI) (rfl) (zk 7 rfl (zo rfl (ag (r:=.int .i64 0) rfl rfl (IZ (by omega))) ?_)))
  refine zb rfl (by exact bp (aA (by omega) (by omega))) ?_
  refine zm rfl (zc rfl (xL (i:=1) hT hB jW hw (by omega) (s.ae [3,0]) (bj _ _) I) ?_)
  rintro v h ⟨u7,rfl,o_,pn,pT,s⟩
  refine zk 2 rfl (WP.ret ⟨aa,_,rfl,?_⟩)
  obtain ⟨f1,f2⟩:=fin (gu.trans pn) I (by rw [Hf]; exact hM) (fun j=>OH U5)
  exact ⟨u7,_,rfl,o_,gu.trans pn,pT,f1,f2,((s.ae [0]).del 3 |>.del 2).del 1⟩
 | false =>
  obtain ⟨Ll,J,e3,h4,e4,s2⟩:=kR s (i:=i/8) (b:=Nat.land z (255-2^(i%8))) (by omega) (B2 hz)
  have ee:V.ptr id off=V.ptr Ll J:=by rw [e1] at e3; exact bE e3
  rw [←ee] at e4
  refine zK 4 rfl (zo rfl (cn (r:=.ptr id off) rfl rfl e1) (zl rfl e2 (zm rfl (zb rfl (Le hz Yh) (zo rfl (cn (r:=.ptr id off) rfl rfl e1) (zS rfl (⟨h4,e4,s2⟩) ?_))))))
  rintro h s
  rw [←oY] at s
  have s:Sat h (aU u2 (Ez M i)::_):=s
  refine zk 6 rfl (zc rfl (G_ (i:=0) (c:=M) hT (s.ae [1,0]) (bj _ _) (bj _ _) o9 rfl Hg) ?_)
  rintro v h ⟨w3,b',rfl,I,s⟩
  refine zk 9 rfl (zh rfl (ag rfl rfl aI) (rfl) (zk 7 rfl (zo rfl (ag (r:=.int .i64 0) rfl rfl (IZ (by omega))) ?_)))
  refine zb rfl (by exact bp (aA (by omega) (by omega))) ?_
  refine zm rfl (zc rfl (xL (i:=1) hT hB jW hw (by omega) (s.ae [3,0]) (bj _ _) I) ?_)
  rintro v h ⟨u7,rfl,o_,pn,pT,s⟩
  refine zk 2 rfl (WP.ret ⟨aa,_,rfl,?_⟩)
  obtain ⟨f1,f2⟩:=fin (gu.trans pn) I (by rw [Hg]; exact hM) (fun j=>OI U5)
  exact ⟨u7,_,rfl,o_,gu.trans pn,pT,f1,f2,((s.ae [0]).del 3 |>.del 2).del 1⟩
theorem Nn (hT:W told)(hB:B≤2000)(eB:EI N B ε)(hw:NW N now)(hp:eR N R M (dh now ε)){lo:Nat}(pS:lo<N)(h0:bt M lo=false)(h1:∀j,j<lo→bt M j=true)(s:Sat h (GA g a p q r data bf now ε::S)):
  Call ⟨Tryz.prog,told⟩ 22 [.ptr g 0] h fun v h'=>∃ε' bI,v=.aX [.int .i64 (lo:Int),.int .i64 0]∧EI N B ε'∧Sm N ε ε'∧NW N bI∧eR N R (AQ M lo) (dh bI ε')∧(∀m,m≠1→m≠(lo:Int)→dh bI ε' m=dh now ε m)∧dF (dh bI ε' lo) 0 0 0 [] ∧
   Sat h' (GA g a p q r data bf bI ε'::S):=by
 have vT:=hp.n1
 have mj:=hp.n2
 have h2:2≤lo:=by
  rcases iD lo 2 with hq | hq
  ·rw [hp.own lo hq] at h0; cases h0
  ·exact hq
 refine Call.of_wp (hT.free _ rfl) Tryz.func22 rfl rfl (zK 8 rfl (zo rfl (l7 rfl (ko jo rfl)) (zc rfl (Lj hT (wC hT hB hw) eB (by omega) hp pS h0 h1 s) ?_)))
 rintro v h ⟨kY,rfl,kO,gi,s⟩
 have o9:eR N R M (dh now kY):=by rw [gV gi]; exact hp
 refine zk 7 rfl (WP.block (zK 3 rfl (zh rfl (ag rfl rfl aI) (rfl) (zk 6 rfl (zh rfl (ag rfl rfl aR) (by simp) ?_)))))
 refine za rfl (zv (zj rfl (WP.skip (zw (zg rfl (zk 2 rfl (zc rfl (Hi (bl:=true) hT hB kO hw o9 pS h2 s) ?_)))))))
 rintro v h ⟨iI,nQ,rfl,jW,gu,nY,I,nV,s⟩
 refine za rfl (zv (zg rfl (zm rfl (zh rfl (ag rfl rfl aI) (rfl) (zv (zj rfl (WP.skip (zg rfl (zc rfl (yS (kd:=0) hT s (by decide)) ?_)))))))))
 rintro v h ⟨u,b',rfl,m5,s⟩
 refine zk 12 rfl (zc rfl (xL (i:=lo) hT hB jW nY pS (s.ae [1,0]) (bj _ _) m5) ?_)
 rintro v h ⟨u7,rfl,o_,J,pT,s⟩
 refine zk 5 rfl (zh rfl (ag rfl rfl aI) (rfl) (zk 9 rfl (WP.ret ⟨aa,_,rfl,?_⟩)))
 have I:eR N R (AQ M lo) (dh nQ iI):=I
 refine ⟨u7,_,rfl,o_,(gi.trans gu).trans J,pT,I.put (by rw [g_,ai (by omega),gV J]) ?_ I.ml I.own I.hi,fun m An NU=>by rw [g_,ai (by omega),gV J,nV m An,gV gi],by rw [g_,ax rfl]; exact m5,s.del 1⟩
 rw [g_,ai (by omega),gV J]
 exact I.marks
theorem I2 (J:W told)(hB:B≤2000)(eB:EI N B ε)(hw:NW N now)(hp:eR N R M (dh now ε))(h1:∀j,j<N→bt M j=true)(s:Sat h (GA g a p q r data bf now ε::S)):
  Call ⟨Tryz.prog,told⟩ 22 [.ptr g 0] h fun v h'=>∃ε',v=.aX [.int .i64 0,.int .i64 7]∧EI N B ε'∧Sm N ε ε'∧Sat h' (GA g a p q r data bf now ε'::S):=by
 have vT:=hp.n1
 refine Call.of_wp (J.free _ rfl) Tryz.func22 rfl rfl (zK 8 rfl (zo rfl (l7 rfl (ko jo rfl)) (zc rfl (FW J (wC J hB hw) eB (by omega) hp h1 s) ?_)))
 rintro v h ⟨kY,rfl,I,gi,s⟩
 refine zk 7 rfl (WP.block (zK 3 rfl (zh rfl (ag rfl rfl aI) (rfl) (zk 6 rfl (zt rfl (ag rfl rfl aR) (by decide) ?_)))))
 exact zk 8 rfl (WP.ret ⟨aa,_,rfl,kY,rfl,I,gi,s⟩)
theorem No (hT:W told)(hB:B≤2000)(eB:EI N B ε)(hw:NW N now)(hp:eR N R M (dh now ε)){i:Int}(s:Sat h (GA g a p q r data bf now ε::S)):
  Call ⟨Tryz.prog,told⟩ 24 [.ptr g 0,.int .i64 i] h fun v h'=>∃ε' bI,EI N B ε'∧Sm N ε ε'∧NW N bI∧Sat h' (GA g a p q r data bf bI ε'::S) ∧
   ((¬(2≤i∧i<N∧bt M i.toNat=true)∧v=.int .i64 18∧bI=now)∨(2≤i∧i<N∧bt M i.toNat=true∧v=.int .i64 0∧eR N R (Ez M i.toNat) (dh bI ε')∧∀m,m≠1→dh bI ε' m=dh now ε m)):=by
 obtain ⟨ex,ny⟩:=hp.head
 have vT:=hp.n1
 have mj:=hp.n2
 refine Call.of_wp (hT.free _ rfl) Tryz.func24 rfl rfl (zK 7 rfl (zo rfl (l7 rfl (ko jo rfl)) (zc rfl (qN hT (wC hT hB hw) eB (by omega) ny hp.rl s) ?_)))
 rintro v h ⟨u,kY,rfl,J,I,s⟩
 have o9:eR N R M (dh now kY):=by rw [gV I]; exact hp
 refine zk 9 rfl (WP.block (zK 3 rfl (zh rfl (ag rfl rfl aI) (rfl) (zk 7 rfl (zc rfl (rK hT (by omega) (by omega)) ?_)))))
 rintro v h' ⟨rfl,rfl⟩
 by_cases pS:i<2
 ·skip
  refine zt rfl (ag rfl rfl aR) (by simp; omega) ?_
  exact zk 12 rfl (WP.ret ⟨aa,_,rfl,kY,now,J,I,hw,s.drop,.inl ⟨by omega,rfl,rfl⟩⟩)
 ·skip
  refine zh rfl (ag rfl rfl aR) (by simp; omega) ?_
  refine zk 3 rfl ?_
  by_cases Z9:(N:Int)≤i
  ·skip
   refine zt rfl (ag rfl rfl sB) (by simp; omega) ?_
   exact zk 8 rfl (WP.ret ⟨aa,_,rfl,kY,now,J,I,hw,s.drop,.inl ⟨by omega,rfl,rfl⟩⟩)
  ·skip
   refine zh rfl (ag rfl rfl sB) (by simp; omega) ?_
   obtain ⟨k,rfl⟩:∃k:Nat,i=k:=⟨i.toNat,by omega⟩
   refine zk 2 rfl (zv (zj rfl (WP.skip (zg rfl (zm rfl (zo rfl (l7 rfl (ko jo rfl)) (zm rfl (zc rfl (Qk (i:=k) hT (wC hT hB hw) J (by omega) o9 (by omega) (s.ae [1])) ?_))))))))
   rintro v h ⟨iI,rfl,jW,gu,s⟩
   have Cx:eR N R M (dh now iI):=by rw [gV gu]; exact o9
   refine zk 7 rfl (WP.block (zK 3 rfl (zh rfl (ag rfl rfl aI) (rfl) (zk 6 rfl (zo rfl (eY rfl rfl) (zk 2 rfl ?_))))))
   cases hb:bt M k with
   | false =>
    exact zK 5 rfl (WP.ret ⟨aa,_,rfl,iI,now,jW,I.trans gu,hw,s.del 1,.inl ⟨fun ⟨_,_,q⟩=>(by rw [bZ,hb] at q; cases q),rfl,rfl⟩⟩)
   | true =>
    refine zj rfl (WP.skip (zg rfl (zk 2 rfl (zc rfl (Hi (bl:=false) hT hB jW hw Cx (i:=k) (by omega) (by omega) s) ?_))))
    rintro v h ⟨u7,Np,rfl,o_,pn,pT,Lm,Yi,s⟩
    refine zk 2 rfl (WP.ret ⟨aa,_,rfl,?_⟩)
    have Lm:eR N R (Ez M k) (dh Np u7):=Lm
    exact ⟨u7,Np,o_,(I.trans gu).trans pn,pT,s.del 1,.inr ⟨by omega,by omega,by rw [bZ]; exact hb,rfl,by rw [bZ]; exact Lm,fun m hm=>by rw [Yi m hm,gV gu,gV I]⟩⟩
end
theorem I3 : gD (List.replicate 512 0)=0:=by rw [gD,ax rfl]
def fresh (n m f:Nat): aF:=(Pl.fresh f,(Lg.fresh,Dk.fresh n m))
theorem EH {n m:Nat}(k:Int): (Dk.fresh n m).at k=List.replicate 512 0:=by
 rw [Dk.at,show lookL k (Dk.fresh n m).now=none from rfl]
 simp only [Dk.fresh]
 cases I:(List.replicate n (none:Option (List Nat)))[k.toNat]? with
 | none=>rfl
 | some o =>
  have:=sJ (aV I)
  subst this
  rfl
theorem CA {n m f:Nat}(k:Int): pgA (fresh n m f) k=List.replicate 512 0:=by
 rw [lP (by rfl)]
 exact EH k
theorem EJ {f i:Nat}{x:Fm}(h:(Pl.fresh f).ah[i]?=some x): x=dL:=sJ (aV h)
theorem EI.fresh {n m f:Nat}(hn:n≤65536)(hm:m≤16777216)(hf:1≤f)(EK:f≤1024): EI n 1 (fresh n m f):=by
 have J:∀x∈(Pl.fresh f).ah,x=dL:=fun x I=>sJ I
 have hlen:(Pl.fresh f).ah.length=f:=eT
 refine ⟨⟨⟨⟨(show 0<(Pl.fresh f).ah.length by rw [hlen]; omega),(show (Pl.fresh f).ah.length≤1024 by rw [hlen]; exact EK),fun e he=>(by cases he),fun x I=>by rw [J x I]; decide,fun x I=>by rw [J x I]; decide⟩,Lg.Eo,?_⟩,fun x I=>by rw [J x I]; rfl,⟨qv,fun k i hk=>(by cases hk)⟩⟩,⟨?_,qv,fun k i hk=>(by cases hk),fun i x I=>.inl (by rw [EJ I]; decide),fun k hk=>(by cases hk),qv⟩,⟨rfl,aD _,(show (1:Nat)+0≤1*1048600 by decide)⟩,?_⟩
 ·exact ⟨(show (-1:Int)<4294967296 by decide),fh _,hm,fun e he=>(by cases he),fun i b hb=>(by have h1:some b=none:=sJ (aV hb); cases h1),aD _,(show (List.replicate n (none:Option (List Nat))).length≤65536 by rw [eT]; exact hn)⟩
 ·exact ⟨rfl,(show (-1:Int)<0 by decide),eT,fun k hk=>(by cases hk),qv,fun k h0 h1=>by show gD ((Dk.fresh n m).at k)=0; rw [EH]; exact I3⟩
 ·have e:gp (Pl.fresh f).ah=0:=by
   rw [gp,List.count_eq_zero]
   intro hh
   obtain ⟨x,I,hc⟩:=List.mem_map.1 hh
   rw [J x I] at hc
   cases hc
  show ([]:List Wr).length+gp (Pl.fresh f).ah≤_
  rw [e]; decide
theorem Hj {n:Nat}(h:n<128): (digits 9 n).length=1:=by
 show (if n<128 then [n] else (n%128+128)::digits 8 (n/128)).length=1
 rw [ax h]; rfl
theorem xM {n:Nat}(h:n<16384): (digits 9 n).length≤2:=by
 show (if n<128 then [n] else (n%128+128)::(if n/128<128 then [n/128] else (n/128%128+128)::digits 7 (n/128/128))).length≤2
 split
 ·exact qA 1
 ·rw [ax (by omega)]; exact aD 2
theorem yU {c:dr}(I:c.bg.toNat<16384)(J:c.pos.toNat<16384)(h3:c.b.length<16384): (lJ c).length≤7+c.b.length:=by
 have e1:=xM I
 have e2:=xM J
 have e3:=xM h3
 simp only [lJ,bD,aN,bG]
 omega
theorem Ql {pg:Int}{c6 now:List Nat}{i:Nat}{l:List dr}(J:uV pg c6 now i l)(hn:now.length=512)(hp:pg.toNat<16384): ∀j,(∀k,i≤k→k<j→c6[k]?=now[k]?)→j≤520→(l.flatMap lJ).length≤520-max i j:=by
 induction J with
 | done i h=>intro j _ _; simp
 | skip i l h he J ih =>
  intro j hj I
  have:=ih j (fun k h1 h2=>hj k (by omega) h2) I
  omega
 | take i e l h1 h2 h3 h4 J ih =>
  intro j hj I
  have pO:j≤i:=oa fun aY=>h3 (hj i (aD _) aY)
  have h5:=ih (e+8) h4 (by omega)
  have hl:((now.take e).drop i).length=e-i:=by rw [sX,fe]; omega
  have h6:=yU (c:=⟨pg,i,false,(now.take e).drop i⟩) hp (by show (i:Int).toNat<_; omega) (by show ((now.take e).drop i).length<_; omega)
  rw [sU,bD]
  simp only [hl] at h6
  omega
theorem Qm {pg:Int}{c6 now:List Nat}{c:List dr}(hr:KN pg c6 now c)(hn:now.length=512)(I:pg.toNat<16384): (c.flatMap lJ).length≤520:=by
 obtain ⟨l,hl,rfl⟩:=hr
 have:=Ql hl hn I 0 (fun k _ h=>absurd h (by omega)) (by omega)
 by_cases J:l=[]
 ·rw [ax J]
  have h6:=yU (c:=⟨pg,0,false,[]⟩) I (show (0:Int).toNat<16384 by decide) (show ([]:List Nat).length<16384 by decide)
  simp only [sU,List.flatMap_nil,ff]
  simp only [bG] at h6
  omega
 ·rw [ai J]; omega
theorem jN.EM {N:Nat}{now:List (Int×List Nat)}{l:List Int}{ε ε':aF}{e:Int}{cs:List dr}(hr:jN now l ε e cs ε')(hn:NW N now): (∀n∈l,n.toNat<16384)→(cs.flatMap lJ).length≤520*l.length:=by
 induction hr with
 | nil ε=>intro _; simp
 | err n l ε e b ε' hr he=>intro _; simp
 | part n l ε c6 b ε' c e cs I hr hb uU hc ik ht ih =>
  intro J
  have h1:=Qm hc (g9 (hn.look hb).1) (J n ct)
  have h2:=ih fun m hm=>J m (cr _ hm)
  rw [List.flatMap_append,bD,aN]
  omega
 | whole n l ε c6 b ε' e cs I hr hb uU ht ih =>
  intro J
  have m5:=g9 (hn.look hb).1
  have h1:=yU (c:=⟨n,0,true,b⟩) (J n ct) (show (0:Int).toNat<16384 by decide) (by show b.length<_; omega)
  have h2:=ih fun m hm=>J m (cr _ hm)
  rw [sU,bD,aN]
  simp only at h1
  omega
theorem EN {N:Nat}{now:List (Int×List Nat)}{ε ε':aF}{e:Int}{cs:List dr}{kd:Int}{tx:Nat}(hr:jN now (ei now) ε e cs ε')(I:NW N now)(hN:N≤16384)(ht:tx<16384): (eD kd tx 0 0 [] cs).length≤520*N+20:=by
 have h2:=xM ht
 have h1:=Hj (n:=0) (by decide)
 have h4:=Hj (n:=([]:List Nat).length) (by decide)
 have h5:=FU cs.length
 have h6:=hr.EM I fun n hm=>by have:=I.keys n (o7.1 hm); omega
 have J:(ei now).length≤N:=by
  have:=I.len
  rw [ei,(fG _).length_eq,er]; exact this
 have J:=Nat.mul_le_mul_left 520 J
 simp only [eD,bD,aN,bG] at h4 ⊢
 omega
theorem uH (K M:Nat): kL fun x=>x.2.log.length=K∧x.2.room=M:=by
 refine ⟨fun x n h => ?_,fun x n b h => ?_⟩
 ·unfold bT Dk.gn
  split
  ·exact h
  ·split
   ·exact h
   ·split
    ·exact h
    ·split <;> first | exact h | exact h
 ·unfold Dk.cU
  split
  ·exact h
  ·split
   ·exact h
   ·split <;> exact h
def sk (K M:Nat)(ε:aF): Prop:=ε.2.2.log.length≤K∧ε.2.2.room=M
theorem sk.sm {N K M:Nat}{ε ε':aF}(h:sk K M ε)(hs:Sm N ε ε'): sk K M ε':=by
 have:=hs.2 _ ((uH ε.2.2.log.length ε.2.2.room).Wh N) ⟨rfl,rfl⟩
 have this:ε'.2.2.log.length=ε.2.2.log.length∧ε'.2.2.room=ε.2.2.room:=this
 exact ⟨by rw [this.1]; exact h.1,by rw [this.2]; exact h.2⟩
theorem wk.fits {N B K M kd tx aP:Nat}{now:List (Int×List Nat)}{ε ε':aF}{e:Int}{cl:Bool}(hr:wk ε now kd tx 0 0 [] 0 aP e cl ε')(J:EI N B ε)(hB:B≤1000)(hw:NW N now)(hN:N≤1024)(h1:1≤kd)(h2:kd≤7)(KE:tx<16384)(hd:sk K M ε)(hf:K+520*N+28≤M):
  cl=true∧e=0∧sk (K+520*N+28) M ε':=by
 have I:∀n∈ei now,0≤n∧n<N:=fun n hq=>hw.keys n (o7.1 hq)
 obtain ⟨hK,hM⟩:=hd
 have T8:=J.done hB hw (by omega) (by omega) hr
 cases hr with
 | arg hh=>omega
 | dead _ _ _ hd=>rw [J.ec.dk.alive] at hd; cases hd
 | o5 e c ε' _ _ _ _ hc G1=>exact absurd (hc.ec J.ec J.ok I).2.2 G1
 | app c iI _ _ _ _ hc G1 =>
  exfalso
  have qT:=EN (kd:=kd) hc hw (by omega) KE
  have hP:=(uH ε.2.2.log.length ε.2.2.room).ch hc ⟨rfl,rfl⟩
  obtain ⟨c1,c2,c3⟩:=hc.ec J.ec J.ok I
  have oY:dZ kd c=true:=by
   refine Em ⟨by omega,by omega⟩ (hc.fit (fun x hx=>g9 (hw.good x hx).1) fun n hq => ?_)
   have:=I n hq
   omega
  rcases mc iI.2 kd tx 0 0 [] c with ⟨e,he,lz,hq⟩ | ⟨_,KX,hq⟩ | ⟨_,hb,vm,eS,KX,hq⟩
  ·rcases lz with ⟨rfl,hg⟩ | ⟨_,hb⟩ | ⟨rfl,vm⟩ | ⟨rfl,hb⟩
   ·rw [oY] at hg; cases hg
   ·omega
   ·rw [c1.dk.alive] at vm; cases vm
   ·rw [dB,uz,hP.1,hP.2] at hb; omega
  ·have:=c1.dk.bS; omega
  ·rw [hq] at G1; exact absurd rfl G1
 | put c iI e u7 _ _ _ _ hc ha hp =>
  rcases T8 with ⟨ik,_⟩ | ⟨_,he,_⟩
  ·cases ik
  ·refine ⟨rfl,he,?_⟩
   have qT:=EN (kd:=kd) hc hw (by omega) KE
   have hP:=(uH ε.2.2.log.length ε.2.2.room).ch hc ⟨rfl,rfl⟩
   rcases mc iI.2 kd tx 0 0 [] c with ⟨e,he,lz,hq⟩ | ⟨_,KX,hq⟩ | ⟨_,hb,vm,eS,KX,hq⟩
   ·rw [hq] at ha; exact absurd ha he
   ·rw [hq] at ha; cases ha
   ·rw [hq] at hp
    have gv:=(uH (ε.2.2.log.length+(dB iI.2.1 kd tx 0 0 [] c).length) ε.2.2.room).pt hp ⟨by show (iI.2.2.log++_).length=_; rw [bD,hP.1],hP.2⟩
    have h3:(dB iI.2.1 kd tx 0 0 [] c).length≤520*N+28:=by rw [dB,uz]; omega
    exact ⟨by rw [gv.1]; omega,by rw [gv.2]; exact hM⟩
end Go.Proofs.YtefepnnfphdkpaaGreat.Am
