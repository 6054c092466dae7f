/- TxBare: a part of its proof; conditions: its statement's. -/
import Derived.Test.YtiojppeahfoiaaaGreatN05
set_option linter.defProp false
namespace Go.Proofs.YtiojppeahfoiaaaGreat.Am
open Go
def JF:=@Tryz.underlying345
variable {X Y:aI} {ε:bA} {A:bA→aI} {pg:bA→Int→List Nat} {Q:Ex→List (Nat×V)→H→Prop} {h:H} {z:Int} {E:List (Nat×V)} {S:List aI} {U:List Bool} {b l c R M data L:List Nat} {Rt:List V} {N B n i g a q r aH d acc tx pv nx:Nat} {P:Program} {x y rv uv:V}
def AM (R:List Nat)(i p:Nat): List Nat:=a_ R (4*i) (le 4 p)
theorem JG {p:Nat}(I:R.length=64)(hi:i<16): (AM R i p).length=64:=by
 rw[AM,cI (by rw[cO];omega),I]
theorem kB.roots {P:Int→List Nat}(h:kB N R M P){I:List Nat}{J:Int→List Nat}(h1:J 1=P 1)(h0:∃ex,eD (J 0) 201 N ex [gj,I])(hl:I.length=64): kB N I M J :=
 ⟨h0,hl,by rw[h1];exact h.marks,h.ml,h.n1,h.n2,h.own,h.hi⟩
theorem Hz (I:n<18446744073709551616): convV Tryz.prog h 3 32 (.int .i64 (n:Int))=some (.int .u64 (n:Int),h):=by
 simp only[convV,br,bR,wrap_u64 I]
section
variable {told:cJ} {p:Nat} {v:V} {now:List (Int×List Nat)} {lv dd:bA→Prop} {sm:bA→bA→Prop}
theorem ac4 (J:Mo told N lv dd sm)(I:lv ε)(hw:NW N now){n:Int}(h0:0≤n)(h1:n<N)(s:Sat h (GA g a p q r data aH now ε::S)):
  Call ⟨Tryz.prog,told⟩ 207 [.ptr g 0,.int .i64 n] h fun v h'=>(∃aj,v=.aQ [.aY,.int .i64 9]∧dd aj∧Sat h' (GA g a p q r data aH now aj::S))∨∃w aj,v=.aQ [w,.int .i64 0]∧lv aj∧sm ε aj∧Sat h' (aZ w (pgG now ε n)::GA g a p q r data aH now aj::S):=by
 obtain⟨ty,u,f,e,hm,hr⟩:=(J.gr (g:=g) (a:=a) (p:=p) (q:=q) (r:=r) (data:=data) (aH:=aH) hw).iface
 injection e with e1 e2
 subst e1
 subst e2
 rw[FP] at hm
 obtain rfl:=cg hm
 exact hr I h0 h1 s
set_option maxHeartbeats 1000000 in
theorem Rl (hT:W told)(hM:Mo told N lv dd sm)(mS:lv ε)(hw:NW N now)(hp:kB N R M (pgG now ε)){i:Int}(s:Sat h (GA g a p q r data aH now ε::S)):
  Call ⟨Tryz.prog,told⟩ 153 [.ptr g 0,.int .i64 i,.int .i64 z] h fun v h'=>(v=.int .i64 9∧DdG N g a p q r data aH dd S h')∨∃aj dM,lv aj∧sm ε aj∧NW N dM∧dM.length≤now.length+1∧Sat h' (GA g a p q r data aH dM aj::S) ∧
   ((¬(0≤i∧i<16∧0≤z∧z<N)∧v=.int .i64 1∧dM=now)∨(0≤i∧i<16∧0≤z∧z<N∧v=.int .i64 0∧kB N (AM R i.toNat z.toNat) M (pgG dM aj)∧∀m,m≠0→pgG dM aj m=pgG now ε m)):=by
 obtain⟨ex,uw⟩:=hp.head
 have vo:=hp.n1
 have yS:=hp.n2
 have Ei:=hp.rl
 refine Call.of_wp (hT.free _ rfl) Tryz.func153 rfl rfl (zK 7 rfl (zo rfl (rU rfl (mki_of qG rfl)) (zc rfl (Jz hT (hM.gr hw) mS (by omega) uw hp.rl s) ?_)))
 rintro v h (⟨I,rfl,s,hd⟩|⟨u,I,rfl,oB,g_,s⟩)
 ·skip
  refine zk 9 rfl (WP.block (zK 3 rfl (zB rfl aD (by decide) ?_)))
  exact zk 8 rfl (WP.ret ⟨aa,_,rfl,.inl ⟨rfl,I,now,hw,s,hd⟩⟩)
 have gP:pgG now I=pgG now ε:=hM.pgG g_
 have bad:∀ {h':H},¬(0≤i∧i<16∧0≤z∧z<N)→Sat h' (aZ u R::GA g a p q r data aH now I::S)→∃aj dM,lv aj∧sm ε aj∧NW N dM∧dM.length≤now.length+1∧Sat h' (GA g a p q r data aH dM aj::S) ∧
   ((¬(0≤i∧i<16∧0≤z∧z<N)∧V.int .i64 1=.int .i64 1∧dM=now)∨(0≤i∧i<16∧0≤z∧z<N∧V.int .i64 1=.int .i64 0∧kB N (AM R i.toNat z.toNat) M (pgG dM aj)∧∀m,m≠0→pgG dM aj m=pgG now ε m)) :=
  fun B2 s=>⟨I,now,oB,g_,hw,tP _,s.drop,.inl ⟨B2,rfl,rfl⟩⟩
 refine zk 9 rfl (WP.block (zK 3 rfl (zC rfl aD (rfl) (zk 6 rfl ?_))))
 by_cases h1:i<0
 ·skip
  refine zB rfl aT (by simp;omega) ?_
  exact zk 20 rfl (WP.ret ⟨aa,_,rfl,.inr (bad (by omega) s)⟩)
 ·skip
  refine zC rfl aT (by simp;omega) ?_
  refine zk 2 rfl ?_
  by_cases h2:16≤i
  ·skip
   refine zB rfl jg (by simp;omega) ?_
   exact zk 17 rfl (WP.ret ⟨aa,_,rfl,.inr (bad (by omega) s)⟩)
  ·skip
   refine zC rfl jg (by simp;omega) ?_
   refine zk 3 rfl ?_
   by_cases h3:z<0
   ·skip
    refine zB rfl aT (by simp;omega) ?_
    exact zk 13 rfl (WP.ret ⟨aa,_,rfl,.inr (bad (by omega) s)⟩)
   ·skip
    refine zC rfl aT (by simp;omega) ?_
    refine zk 4 rfl ?_
    by_cases h4:(N:Int)≤z
    ·skip
     refine zB rfl jg (by simp;omega) ?_
     exact zk 8 rfl (WP.ret ⟨aa,_,rfl,.inr (bad (by omega) s)⟩)
    ·obtain⟨k,rfl⟩:∃k:Nat,i=k:=⟨i.toNat,by omega⟩
     obtain⟨w,rfl⟩:∃w:Nat,z=w:=⟨z.toNat,by omega⟩
     have h4k:4*(k:Int)=((4*k:Nat):Int):=by omega
     have aah:4*((k:Int)+1)=((4*k+4:Nat):Int):=by omega
     refine zC rfl jg (by simp;omega) ?_
     refine zk 2 rfl (zv (zj rfl (WP.skip (zw ?_))))
     have yT:=cX (s.buf (k:=0) rfl).view
     have Jk:=dc (s.buf (k:=0) rfl).view (a:=4*k) (b:=4*k+4) (by omega) (by omega)
     have uM:=cX Jk.2.1
     have s0:=s
     refine WP.drawn [some (0,2),some (0,2),some (0,2),some (0,2),some (0,2),some (0,2),some (0,2),af,af,af,af] rfl (by kernel_rfl) (by kernel_rfl) ?_
     refine zM rfl (zM rfl (zO rfl (ay (r:=.int .i64 ((4*k:Nat):Int)) rfl rfl (by rw[←h4k];exact jf (aA (by omega) (by omega)))) ?_))
     refine zM rfl (zO rfl (ay (r:=.int .i64 ((k:Int)+1)) rfl rfl (bf (aA (by omega) (by omega)))) ?_)
     refine zO rfl (ay (r:=.int .i64 ((4*k+4:Nat):Int)) rfl rfl (by rw[←aah];exact jf (aA (by omega) (by omega)))) ?_
     refine zO rfl (bU (p:=some (.int .i64 ((4*k:Nat):Int))) (q:=some (.int .i64 ((4*k+4:Nat):Int))) (m:=none) (p':=some (4*k)) (q':=some (4*k+4)) (m':=none) rfl rfl rfl rfl (by rw[cW (by omega),cL]) (by rw[cW (by omega),cL]) rfl (dc (s.buf (k:=0) rfl).view (a:=4*k) (b:=4*k+4) (by omega) (by omega)).1) ?_
     refine zM rfl (az.op rfl rfl rfl (by simp only[isEff,bR]) (bT rfl (Hz (by omega))) ?_)
     have s:=s.uE
     refine az.any rfl rfl rfl rfl (OpR.call rfl rfl rfl rfl (xb (z:=4) (n:=w) hT s (by decide) (by simp))) ?_
     intro v h s
     rw[dU] at s
     have s:=s.ae [1,0]
     have s1:=s
     refine az.any rfl rfl rfl rfl (OpR.NS (p:=4*k) (q:=4*k+4) rfl s (aN _ _) rfl rfl rfl rfl (by omega) (by omega) (by rw[cO];omega)) ?_
     intro _ h s
     rw[gB (by rw[cO];omega)] at s
     have s:Sat h (aZ u (AM R k w)::_):=s
     refine az.nil ⟨⟨fun _ _=>.inr ⟨rfl,⟨_,bn rfl⟩,yT⟩,fun _ _=>.inr ⟨rfl,⟨_,bn rfl⟩,aS _ rfl⟩,fun _ _=>.inr ⟨rfl,⟨_,ay (r:=.int .i64 ((4*k:Nat):Int)) rfl rfl (by rw[←h4k];exact jf (aA (by omega) (by omega)))⟩,aS _ rfl⟩,fun _ _=>.inr ⟨rfl,⟨_,bn rfl⟩,aS _ rfl⟩,fun _ _=>.inr ⟨rfl,⟨_,ay (r:=.int .i64 ((k:Int)+1)) rfl rfl (bf (aA (by omega) (by omega)))⟩,aS _ rfl⟩,fun _ _=>.inr ⟨rfl,⟨_,ay (r:=.int .i64 ((4*k+4:Nat):Int)) rfl rfl (by rw[←aah];exact jf (aA (by omega) (by omega)))⟩,aS _ rfl⟩,dZ (.inr ⟨rfl,⟨_,bU (p:=some (.int .i64 ((4*k:Nat):Int))) (q:=some (.int .i64 ((4*k+4:Nat):Int))) (m:=none) (p':=some (4*k)) (q':=some (4*k+4)) (m':=none) rfl rfl rfl rfl (by rw[cW (by omega),cL]) (by rw[cW (by omega),cL]) rfl (dc (s0.buf (k:=0) rfl).view (a:=4*k) (b:=4*k+4) (by omega) (by omega)).1⟩,uM⟩) (.inr ⟨rfl,⟨_,bU (p:=some (.int .i64 ((4*k:Nat):Int))) (q:=some (.int .i64 ((4*k+4:Nat):Int))) (m:=none) (p':=some (4*k)) (q':=some (4*k+4)) (m':=none) rfl rfl rfl rfl (by rw[cW (by omega),cL]) (by rw[cW (by omega),cL]) rfl (dc (s1.buf (k:=0) rfl).view (a:=4*k) (b:=4*k+4) (by omega) (by omega)).1⟩,uM⟩),aa,aa,aa,aa,aa⟩,?_⟩
     have s:=s.ae [2,0]
     refine zK 3 rfl (zc rfl (ac4 (n:=0) hM oB hw (by decide) (by omega) s) ?_)
     rintro v h (⟨ki,rfl,hd,s⟩|⟨w2,ki,rfl,uX,qU,s⟩)
     ·skip
      refine zk 10 rfl (zB rfl aD (by decide) ?_)
      exact zk 7 rfl (WP.ret ⟨aa,_,rfl,.inl ⟨rfl,ki,now,hw,(s.del 2).del 1,hd⟩⟩)
     have ac5:eD (pgG now I 0) 201 N ex [gj,R]:=by rw[gP];exact uw
     have s:=s.ae [0,1]
     refine zk 10 rfl (zC rfl aD (rfl) (zk 8 rfl (zc rfl (BN (i:=1) (c:=R) hT s (aN _ _) (aN _ _) ac5 rfl (by rw[JG Ei (by omega),Ei])) ?_)))
     rintro v h ⟨w3,b',rfl,J,s⟩
     have J:eD b' 201 N ex [gj,AM R k w]:=J
     refine zk 9 rfl (zC rfl aD (rfl) (zk 7 rfl (zc rfl (hM.gw (i:=0) uX hw (by omega) (s.ae [3,0]) (aN _ _) J) ?_)))
     rintro v h (⟨uZ,rfl,s,hd⟩|⟨uZ,rfl,sY,nQ,qn,s⟩)
     ·skip
      exact zk 2 rfl (WP.ret ⟨aa,_,rfl,.inl ⟨rfl,uZ,now,hw,(((s.del 4).del 3).del 2).del 1,hd⟩⟩)
     refine zk 2 rfl (WP.ret ⟨aa,_,rfl,?_⟩)
     have FW:∀m:Int,m≠0→pgG (b8 (0:Nat) b' now) uZ m=pgG now ε m:=fun m hm=>by rw[iG,ak (by omega),hM.pgG nQ,hM.pgG qU,gP]
     refine .inr ⟨uZ,_,sY,hM.tr (hM.tr g_ qU) nQ,qn,pG,?_,.inr ⟨by omega,by omega,by omega,by omega,rfl,?_,FW⟩⟩
     ·exact(((s.del 4).del 3).del 2).del 1
     ·rw[cL,cL]
      exact hp.roots (FW 1 (by decide)) ⟨ex,by rw[iG,aC (show((0:Nat):Int)=0 from rfl)];exact J⟩ (JG Ei (by omega))
theorem On (J:W told)(hB:B≤2000)(I:EI N B ε)(hw:NW N now)(hp:kB N R M (pgG now ε)){i:Int}(s:Sat h (GA g a p q r data aH now ε::S)):
  Call ⟨Tryz.prog,told⟩ 153 [.ptr g 0,.int .i64 i,.int .i64 z] h fun v h'=>∃aj dM,EI N B aj∧Sm N ε aj∧NW N dM∧dM.length≤now.length+1∧Sat h' (GA g a p q r data aH dM aj::S) ∧
   ((¬(0≤i∧i<16∧0≤z∧z<N)∧v=.int .i64 1∧dM=now)∨(0≤i∧i<16∧0≤z∧z<N∧v=.int .i64 0∧kB N (AM R i.toNat z.toNat) M (pgG dM aj)∧∀m,m≠0→pgG dM aj m=pgG now ε m)) :=
 (Rl J (Mo.live J hB) I hw hp s).mono fun _ _ k=>k.resolve_left fun⟨_,_,_,_,_,q⟩=>q
end
theorem Le : ∀(k n:Nat),n<128^(k+1)→digits (k+1) n=digits k n:=by
 intro k
 induction k with
 |zero=>intro n I;rw[jw (by simpa using I),jw (by simpa using I)]
 |succ k J =>
  intro n I
  by_cases h:n<128
  ·rw[jw h,jw h]
  ·have hd:n/128<128^(k+1):=by
    rw[Nat.div_lt_iff_lt_mul (by omega)]
    rw[wB] at I
    exact I
   rw[digits,ak h,J _ hd,digits,ak h]
set_option maxRecDepth 10000 in
theorem aai (h:n<256): Nat.land n 127=n%128:=by
 have:∀m:Fin 256,Nat.land m.1 127=m.1%128:=by decide
 exact this ⟨n,h⟩
theorem Lf (h:n<256): intV .and .u8 (n:Int) 127=some (.int .u8 ((n%128:Nat):Int)):=by
 have I:((n:Int)%(2^(IntKind.u8).bits:Int)).toNat=n:=by simp only[IntKind.bits];omega
 have J:((127:Int)%(2^(IntKind.u8).bits:Int)).toNat=127:=by simp[IntKind.bits]
 simp only[intV,bitsV,I,J,aai h,wrap_u8]
 congr 2
 omega
theorem Lh (I:n<18446744073709551616): convV Tryz.prog h 5 32 (.int .u8 (n:Int))=some (.int .u64 (n:Int),h):=by
 simp only[convV,Tryz.underlying5,bR,wrap_u64 I]
theorem Li (I:n<9223372036854775808): convV Tryz.prog h 5 3 (.int .u8 (n:Int))=some (.int .i64 (n:Int),h):=by
 simp only[convV,Tryz.underlying5,br,wrap_i64 I]
theorem JH (I:n<9223372036854775808): convV Tryz.prog h 32 3 (.int .u64 (n:Int))=some (.int .i64 (n:Int),h):=by
 simp only[convV,bR,br,wrap_i64 I]
theorem JI (i:Nat): (128:Nat)^i=2^(7*i):=by rw[Nat.pow_mul]
theorem ac6 (hd:d<128)(hi:i≤8): shiftV .shl .u64 (d:Int) ((7*i:Nat):Int)=some (.int .u64 ((d*128^i:Nat):Int)):=by
 have J:(128:Nat)^i≤128^8:=qW (by omega) hi
 have I:d*128^i<18446744073709551616:=by
  have:d*128^i≤127*128^8:=tM (by omega) J
  omega
 simp only[shiftV,IntKind.bits,cL]
 rw[show min (7*i) 64=7*i by omega,show decide (((7*i:Nat):Int)<0)=false by simp;omega,aX]
 have:(d:Int)*2^(7*i)=((d*128^i:Nat):Int):=by rw[JI];push_cast;rfl
 simp only[this,wrap_u64 I]
theorem XU (I:a<128^i)(hd:d<128)(hi:i≤8): intV .or .u64 (a:Int) ((d*128^i:Nat):Int)=some (.int .u64 ((a+d*128^i:Nat):Int)):=by
 have J:(128:Nat)^i≤128^8:=qW (by omega) hi
 have hm:d*128^i≤127*128^8:=tM (by omega) J
 have h1:((a:Int)%(2^(IntKind.u64).bits:Int)).toNat=a:=by simp only[IntKind.bits];omega
 have h2:((d*128^i:Nat):Int)%(2^(IntKind.u64).bits:Int)=((d*128^i:Nat):Int):=by simp only[IntKind.bits];omega
 have h3:Nat.lor a (d*128^i)=a+d*128^i:=by
  have e:d*128^i=2^(7*i)*d:=by rw[←JI,tO]
  have:=Lz (i:=7*i) (b:=a) (by rw[←JI];exact I) d
  rw[←e] at this
  rw[Nat.add_comm a,this]
  exact Nat.or_comm _ _
 simp only[intV,bitsV,h1,h2,cL,h3]
 rw[wrap_u64 (by omega)]
section
variable {told:cJ} {c:Nat} {v w:V} {m:List Nat}
theorem mK (I:W told): Call ⟨Tryz.prog,told⟩ 251 [.bool true] h fun v h'=>v=.aQ []∧h'=h:=by
 refine Call.of_wp (I.free _ rfl) Tryz.func251 rfl rfl (zg rfl (zm rfl (zh rfl (eU rfl rfl) (rfl) (zv (zj rfl (WP.skip ?_))))))
 exact⟨aa,_,rfl,rfl,rfl⟩
theorem T9 (hT:W told){x:Nat}(s:Sat h (pt c (.cells 1 [v] false)::X::S))(hX:cN X (cP v (x::l))):
  Call ⟨Tryz.prog,told⟩ 247 [.ptr c 0] h fun r h'=>r=.int .u8 (x:Int)∧∃u,cN X (cP u l)∧Sat h' (pt c (.cells 1 [u] false)::X::S):=by
 have J:=s.aG (k:=1) rfl hX
 obtain⟨id,off,e1,e2⟩:=fg J (i:=0) (b:=x) rfl
 have I:=ff J (a:=1) (by simp)
 have hu:=I.2.1.cells
 refine Call.of_wp (hT.free _ rfl) Tryz.func247 rfl rfl (zK 8 rfl (zY s 0 my bJ rfl (zo rfl (aP rfl rfl rfl (aW aJ J)) (zB rfl fN (by simp) ?_))))
 refine zc rfl (mK hT) ?_
 rintro r h' ⟨rfl,rfl⟩
 refine zk 5 rfl (zY s 0 my bJ rfl (zo rfl (c8 (r:=.ptr id off) rfl rfl e1) (zl rfl e2 (zk 7 rfl (zY s 0 my bJ rfl (zo rfl (bU (p:=some (.int .i64 1)) (q:=none) (m:=none) (p':=some 1) (q':=none) (m':=none) rfl rfl rfl rfl rfl rfl rfl I.1) (zn rfl (zf rfl (my _ _) (zS rfl (s.dK (k:=0) rfl gY rfl (by decide) hu.1 hu.2) ?_)))))))))
 rintro h s
 exact zk 6 rfl (WP.ret ⟨aa,_,rfl,rfl,_,rH hX (by simp),s⟩)
def Cu (h:H)(c:Nat)(X:aI)(S:List aI)(l:List Nat): Prop:=∃v,cN X (cP v l)∧Sat h (pt c (.cells 1 [v] false)::X::S)
theorem FX (I:W told){x:Nat}(J:Cu h c X S (x::l)): Call ⟨Tryz.prog,told⟩ 247 [.ptr c 0] h fun r h'=>r=.int .u8 (x:Int)∧Cu h' c X S l:=by
 obtain⟨v,hX,s⟩:=J
 exact(T9 I s hX).mono fun r h' ⟨e,u,hU,s'⟩=>⟨e,u,hU,s'⟩
noncomputable def nbX : Code:=cU [1,1,0,0] ((Tryz.f248.body).getD .skip)
noncomputable def Wc : Code:=unblk (leftC nbX)
noncomputable def nbC : Code:=cS (cS (cS Wc))
theorem Ct (hT:W told){x:Nat}(hx:x<256)(hi:i≤8)(ha:acc<128^i)
 (hc:Cu h c X S (x::l))(h0:look E 0=some (.ptr c 0))(h2:look E 2=some (.int .u64 (acc:Int)))(I:look E 3=some (.int .i64 (i:Int)))
 (hq:∀E' h',look E' 0=some (.ptr c 0)→look E' 2=some (.int .u64 ((acc+x%128*128^i:Nat):Int))→look E' 3=some (.int .i64 (i:Int))→look E' 4=some (.int .u8 (x:Int))→Cu h' c X S l→WP ⟨Tryz.prog,told⟩ 38 nbC E' h' Q):
  WP ⟨Tryz.prog,told⟩ 38 Wc E h Q:=by
 refine WP.seq (WP.region rfl ?_)
 refine zo rfl (bn h0) ?_
 refine zc rfl (FX hT hc) (fun v h₁ ⟨e1,c1⟩ => ?_)
 subst e1
 refine au.op rfl rfl rfl (fq rfl) (au.nil ?_)
 refine WP.seq (WP.region rfl ?_)
 refine zo rfl (bn I) (zo rfl (ay (v:=.int .i64 (i:Int)) (u:=.int .i64 9) (r:=.bool true) rfl rfl (by simp only[binV,ikBeq,ah,intV];congr 2<;>simp<;>omega)) ?_)
 refine zk 8 rfl ?_
 refine zc rfl (mK hT) (fun v J ⟨e2,sD⟩=>au.nil ?_)
 subst e2;subst sD
 refine WP.seq (WP.region rfl ?_)
 refine zo rfl (bn h2) (zm rfl (zo rfl (ay (v:=.int .u8 (x:Int)) (u:=.int .u8 127) rfl rfl (by simp only[binV,ikBeq,ah];exact Lf hx)) ?_))
 refine zo rfl (bT (v:=.int .u8 ((x%128:Nat):Int)) rfl (Lh (by omega))) ?_
 refine zo rfl (bn I) ?_
 refine au.op rfl rfl rfl (ay (v:=.int .i64 7) (u:=.int .i64 (i:Int)) (r:=.int .i64 ((7*i:Nat):Int)) rfl rfl (by
  simp only[binV,ikBeq,ah,intV]
  rw[show(7:Int)*(i:Int)=((7*i:Nat):Int) by push_cast;rfl,wrap_i64 (by omega)])) ?_
 refine zo rfl (ay (v:=.int .u64 ((x%128:Nat):Int)) (u:=.int .i64 ((7*i:Nat):Int)) rfl rfl (by simp only[binV];exact ac6 (by omega) hi)) ?_
 refine zo rfl (ay (v:=.int .u64 (acc:Int)) rfl rfl (by simp only[binV,ikBeq,ah];exact XU ha (by omega) hi)) ?_
 refine au.op rfl rfl rfl (fq rfl) (au.nil ?_)
 exact hq _ _ h0 rfl I rfl c1
set_option maxRecDepth 4000 in
theorem Em (hT:W told){m:Nat}(hi:i≤8)(hm:m<128)(hz:i=0∨0<m)(ha:acc<128^i)
 (hc:Cu h c X S (m::l))(h0:look E 0=some (.ptr c 0))(h2:look E 2=some (.int .u64 (acc:Int)))(h3:look E 3=some (.int .i64 (i:Int)))
 (hq:∀E' h',look E' 2=some (.int .u64 ((acc+m*128^i:Nat):Int))→Cu h' c X S l→Q .ret E' h'): WP ⟨Tryz.prog,told⟩ 38 (.loop nbX) E h Q:=by
 refine WP.loop (WP.seq (WP.block ?_))
 refine Ct hT (x:=m) (by omega) hi ha hc h0 h2 h3 (fun E1 h₁ q0 q2 q3 q4 c1 => ?_)
 rw[nX hm] at q2
 refine WP.seq (WP.region rfl ?_)
 refine zo rfl (bn q4) ?_
 refine au.op rfl rfl rfl (ay (v:=.int .u8 (m:Int)) (u:=.int .u8 128) (r:=.bool true) rfl rfl (by simp only[binV,ikBeq,ah,intV];congr 2<;>simp<;>omega)) (au.nil ?_)
 refine WP.cond (t:=true) rfl (WP.seq (WP.region rfl ?_))
 refine zo rfl (bn q4) ?_
 by_cases F8:0<m
 ·refine au.op rfl rfl rfl (ay (v:=.int .u8 (m:Int)) (u:=.int .u8 0) (r:=.bool true) rfl rfl (by simp only[binV,ikBeq,ah,intV];congr 2<;>simp<;>omega)) ?_
  refine zk 4 rfl ?_
  refine zc rfl (mK hT) (fun v I ⟨e2,J⟩=>au.nil ?_)
  subst e2;subst J
  refine WP.seq (WP.region rfl ?_)
  exact zo rfl (bn q2) (au.op rfl rfl rfl (fq rfl) (au.nil (WP.ret (hq _ _ rfl c1))))
 ·have hi0:i=0:=by omega
  have ac7:m=0:=by omega
  subst hi0;subst ac7
  refine zo rfl (ay (v:=.int .u8 0) (u:=.int .u8 0) (r:=.bool false) rfl rfl rfl) (zm rfl (zo rfl (bn q3) (zo rfl (ay (v:=.int .i64 0) (u:=.int .i64 0) (r:=.bool true) rfl rfl rfl) (zp rfl ?_))))
  refine zc rfl (mK hT) (fun v I ⟨e2,J⟩=>au.nil ?_)
  subst e2;subst J
  refine WP.seq (WP.region rfl ?_)
  exact zo rfl (bn q2) (au.op rfl rfl rfl (fq rfl) (au.nil (WP.ret (hq _ _ rfl c1))))
set_option maxRecDepth 4000 in
theorem Lj (hT:W told): ∀(k m i acc:Nat) (h:H) (E:List (Nat×V)) (Q:Ex→List (Nat×V)→H→Prop),i+k≤8→m<128^(k+1)→(i=0∨0<m)→acc<128^i →
  Cu h c X S (digits k m++l)→look E 0=some (.ptr c 0)→look E 2=some (.int .u64 (acc:Int))→look E 3=some (.int .i64 (i:Int)) →
  (∀E' h',look E' 2=some (.int .u64 ((acc+m*128^i:Nat):Int))→Cu h' c X S l→Q .ret E' h')→WP ⟨Tryz.prog,told⟩ 38 (.loop nbX) E h Q:=by
 intro k
 induction k with
 |zero =>
  intro m i acc h E Q hi hm hz ha hc h0 h2 h3 hq
  have I:m<128:=by simpa using hm
  rw[jw I] at hc
  exact Em hT (by omega) I hz ha hc h0 h2 h3 hq
 |succ k ih =>
  intro m i acc h E Q hi hm hz ha hc h0 h2 h3 hq
  by_cases I:m<128
  ·rw[jw I] at hc
   exact Em hT (by omega) I hz ha hc h0 h2 h3 hq
  ·have hd:m/128<128^(k+1):=by
    rw[Nat.div_lt_iff_lt_mul (by omega)]
    rw[wB] at hm
    exact hm
   rw[digits,ak I] at hc
   refine WP.loop (WP.seq (WP.block ?_))
   refine Ct hT (x:=m%128+128) (by omega) (by omega) ha hc h0 h2 h3 (fun E1 h₁ q0 q2 q3 q4 c1 => ?_)
   refine WP.seq (WP.region rfl ?_)
   refine zo rfl (bn q4) ?_
   refine au.op rfl rfl rfl (ay (v:=.int .u8 ((m%128+128:Nat):Int)) (u:=.int .u8 128) (r:=.bool false) rfl rfl (by simp only[binV,ikBeq,ah,intV];congr 2<;>simp<;>omega)) (au.nil ?_)
   refine WP.cond (t:=false) rfl (WP.skip ?_)
   refine zr rfl (zo rfl (bn q3) (zo rfl (ay (v:=.int .i64 (i:Int)) (u:=.int .i64 1) (r:=.int .i64 ((i+1:Nat):Int)) rfl rfl (by exact bf (aA (by omega) (by omega)))) ?_))
   refine au.op rfl rfl rfl (fq rfl) (au.nil ?_)
   have e1:(m%128+128)%128=m%128:=by omega
   rw[e1] at q2
   have J:128^(i+1)=128^i*128:=wB 128 i
   refine ih (m/128) (i+1) (acc+m%128*128^i) h₁ _ Q (by omega) hd (.inr (by omega)) ?_ c1 q0 q2 rfl (fun E' h' p1 p3=>hq E' h' ?_ p3)
   ·have:m%128*128^i≤127*128^i:=qV _ (by omega)
    rw[J];omega
   ·rw[p1]
    have:acc+m%128*128^i+m/128*128^(i+1)=acc+m*128^i:=by
     rw[J,tO (128^i) 128,←Nat.mul_assoc,j6,←pN]
     congr 2
     omega
    rw[this]
theorem vD (I:W told)(J:n<9223372036854775808)(hc:Cu h c X S (digits 9 n++l)):
  Call ⟨Tryz.prog,told⟩ 248 [.ptr c 0] h fun v h'=>v=.int .u64 (n:Int)∧Cu h' c X S l:=by
 rw[Le 8 n (by simpa using J)] at hc
 refine Call.of_wp (I.free _ rfl) Tryz.func248 rfl rfl (zK 8 rfl (WP.block ?_))
 refine Lj I 8 n 0 0 h _ _ (by omega) (by simpa using J) (.inl rfl) (by simp) hc rfl rfl rfl (fun E' h' q1 q2=>⟨aa,_,?_,rfl,q2⟩)
 have:0+n*128^0=n:=by simp
 rw[this] at q1
 show resLE _ E' h' [.tmp 2]=_
 simp only[resLE,mapO,resE,q1]
theorem yu (I:W told)(hn:n≤1048576)(J:Cu h c X S (digits 9 n++l)):
  Call ⟨Tryz.prog,told⟩ 250 [.ptr c 0] h fun v h'=>v=.int .i64 (n:Int)∧Cu h' c X S l:=by
 refine Call.of_wp (I.free _ rfl) Tryz.func250 rfl rfl (zK 7 rfl (zc rfl (vD I (by omega) J) ?_))
 rintro v h' ⟨rfl,J⟩
 refine zk 5 rfl (zB rfl CG (by simp;omega) ?_)
 refine zc rfl (mK I) ?_
 rintro v h' ⟨rfl,rfl⟩
 refine zk 4 rfl (zo rfl (bT rfl (JH (by omega))) ?_)
 exact zk 2 rfl (WP.ret ⟨aa,_,rfl,rfl,J⟩)
theorem JJ (hT:W told)(hm:m.length≤1048576)(hc:Cu h c X S (digits 9 m.length++m++l)):
  Call ⟨Tryz.prog,told⟩ 249 [.ptr c 0] h fun v h'=>Cu h' c X (aZ v m::S) l:=by
 rw[cT] at hc
 refine Call.of_wp (hT.free _ rfl) Tryz.func249 rfl rfl (zK 7 rfl (zc rfl (yu hT hm hc) ?_))
 rintro v h ⟨rfl,v,I,s⟩
 have hv:=s.aG (k:=1) rfl I
 have J:=cX hv
 refine zk 7 rfl (zY s 0 my bJ rfl (zo rfl (aP rfl rfl rfl (aW aJ hv)) (zB rfl CG (by simp<;>omega) ?_)))
 refine zc rfl (mK hT) ?_
 rintro r h' ⟨rfl,rfl⟩
 refine zk 2 rfl ?_
 have s0:=s
 have hto:=iy hv (b:=m.length) (by simp)
 have Gn:=cX hto.2.1
 refine WP.drawn [none,none,some (0,2),some (0,2),some (0,2),some (0,2),some (0,2),some (0,2),none,none] rfl (by kernel_rfl) (by kernel_rfl) ?_
 refine zM rfl (az.any rfl rfl rfl rfl (OpR.uF rfl s rfl rfl rfl rfl (by omega)) ?_)
 intro v2 h s
 have s:=s.ae [1,1,0]
 have qy:=cX (s.buf (k:=2) rfl).view
 have s1:=s
 have hto:=iy (s.aG (k:=1) rfl I) (b:=m.length) (by simp)
 refine zM rfl (zN rfl (zF rfl (my _ _) (zL rfl (s.ld (k:=0) rfl bJ rfl) (zM rfl (zO rfl (bU (p:=none) (q:=some (.int .i64 (m.length:Int))) (m:=none) (p':=none) (q':=some m.length) (m':=none) rfl rfl rfl rfl rfl (by rw[cW (by omega)];rfl) rfl (iy (s.aG (k:=1) rfl I) (b:=m.length) (by simp)).1) ?_)))))
 refine az.any rfl rfl rfl rfl (OpR.rJ rfl (s.ae [2,1]) (xS I (b:=m.length) (by simp)) rfl rfl rfl rfl (by rw[mZ rfl];simp only[cG];omega)) ?_
 intro v3 h s
 have s:=s.ae [2,1,0]
 rw[mZ rfl] at s
 have Rm:=cX (s.buf (k:=2) rfl).view
 refine zA rfl ?_
 refine az.nil ⟨⟨aa,aa,fun _ _=>.inr ⟨rfl,⟨_,bn rfl⟩,aS _ rfl⟩,fun _ _=>.inr ⟨rfl,⟨_,kT rfl⟩,aS _ rfl⟩,fun _ _=>.inr ⟨rfl,⟨_,jH rfl (my _ _)⟩,aS _ rfl⟩,dZ (.inr ⟨rfl,⟨_,o_load rfl (s0.ld (k:=0) rfl bJ rfl)⟩,J⟩) (.inr ⟨rfl,⟨_,o_load rfl (s1.ld (k:=0) rfl bJ rfl)⟩,J⟩),fun _ _=>.inr ⟨rfl,⟨_,bn rfl⟩,aS _ rfl⟩,dZ (.inr ⟨rfl,⟨_,bU (p:=none) (q:=some (.int .i64 (m.length:Int))) (m:=none) (p':=none) (q':=some m.length) (m':=none) rfl rfl rfl rfl rfl (by rw[cW (by omega)];rfl) rfl (iy (s0.aG (k:=1) rfl I) (b:=m.length) (by simp)).1⟩,Gn⟩) (.inr ⟨rfl,⟨_,bU (p:=none) (q:=some (.int .i64 (m.length:Int))) (m:=none) (p':=none) (q':=some m.length) (m':=none) rfl rfl rfl rfl rfl (by rw[cW (by omega)];rfl) rfl (iy (s1.aG (k:=1) rfl I) (b:=m.length) (by simp)).1⟩,Gn⟩),aa,aa,aa⟩,?_⟩
 have kx:=ff (s.aG (k:=1) rfl I) (a:=m.length) (by simp)
 have hu:=kx.2.1.cells
 refine zK 5 rfl (zY s 0 my bJ rfl (zm rfl (zo rfl (bU (p:=some (.int .i64 (m.length:Int))) (q:=none) (m:=none) (p':=some m.length) (q':=none) (m':=none) rfl rfl rfl rfl (by rw[cW (by omega)];rfl) rfl rfl kx.1) ?_)))
 refine zn rfl (zf rfl (my _ _) (zS rfl (s.dK (k:=0) rfl gY rfl (by decide) hu.1 hu.2) ?_))
 rintro h s
 refine zk 6 rfl (WP.ret ⟨aa,_,rfl,?_⟩)
 have hr:=rH I (a:=m.length) (by simp)
 rw[wu rfl] at hr
 exact⟨_,hr,s⟩
end
theorem Wd {t:Nat}{p v:V}(I:look E a=some p)(hd:loadV P h t p=some v): resLE P E h [.cell a t]=some v:=by simp only[resLE,mapO,resE,I,hd]
section
variable {told:cJ} {c:Nat} {v w:V} {m:List Nat}
theorem Oo (J:W told){x:bZ}(hx:x.Ok)(hc:Cu h c X S (jK x++l)):
  Call ⟨Tryz.prog,told⟩ 252 [.ptr c 0] h fun r h'=>∃u,r=.agg [.int .i64 x.aK,.int .i64 x.pos,.bool x.whole,u]∧Cu h' c X (aZ u x.b::S) l:=by
 obtain⟨x1,x2,x3,x4,x5,x6⟩:=hx
 obtain⟨pg,ps,wh,b⟩:=x
 dsimp only at x1 x2 x3 x4 x5 x6 hc
 obtain⟨pg,rfl⟩:=Int.eq_ofNat_of_zero_le x1
 obtain⟨ps,rfl⟩:=Int.eq_ofNat_of_zero_le x3
 simp only[jK,cL,cT,iS,dU] at hc
 generalize Qk:(if wh=true then 1 else 0)=wb at hc
 have wO:wb≤1:=by rw[←Qk];cases wh<;>decide
 have uY:decide ((wb:Int)=1)=wh:=by rw[←Qk];cases wh<;>rfl
 obtain⟨v,I,s⟩:=hc
 refine Call.of_wp (J.free _ rfl) Tryz.func252 rfl rfl (zg rfl ?_)
 refine au.bD s rfl rfl rfl (bI nj) (fun p2 h s => ?_)
 refine zk 4 rfl (zc rfl (yu J (by omega) ⟨v,I,s.ae [1,1,0]⟩) ?_)
 rintro v h ⟨rfl,v,I,s⟩
 refine zm rfl (zc rfl (yu J (by omega) ⟨v,I,s⟩) ?_)
 rintro v h ⟨rfl,v,I,s⟩
 refine zf rfl (oh _ _) ?_
 refine zS rfl (by exact s.dK (k:=2) rfl lR rfl (by decide) rfl rfl) (fun h s => ?_)
 refine zf rfl (pZ _ _) ?_
 refine zS rfl (by exact s.dK (k:=2) rfl lR rfl (by decide) rfl rfl) (fun h s => ?_)
 refine zk 4 rfl (zc rfl (FX J ⟨v,I,s⟩) ?_)
 rintro v h ⟨rfl,v,I,s⟩
 refine zk 5 rfl (zB rfl CG (by simp;omega) ?_)
 refine zc rfl (mK J) ?_
 rintro r h' ⟨rfl,rfl⟩
 refine zk 4 rfl (zo rfl (ay (r:=.bool wh) rfl rfl (by rw[←uY];exact dm)) ?_)
 refine zf rfl (uc _ _) ?_
 refine zS rfl (by exact s.dK (k:=2) rfl yR rfl (by decide) rfl rfl) (fun h s => ?_)
 refine zk 4 rfl ?_
 rw[←cT] at I
 refine zc rfl (JJ J (by omega) ⟨v,I,s⟩) ?_
 rintro u h ⟨v,I,s⟩
 have hu:=(s.buf (k:=2) rfl).view.cells
 refine zf rfl (mw _ _) (zS rfl (s.dK (k:=3) rfl gY rfl (by decide) hu.1 hu.2) ?_)
 rintro h s
 dsimp only[V.cells,List.length_cons,List.length_nil,Nat.reduceAdd,aE,bringA,getA,List.set,setA] at s
 refine zk 3 rfl (zl rfl (s.cV (k:=3) rfl HQ og) (zS rfl (s.eS (j:=3) rfl og rfl (by simp only[iU,jd,hu.2];rfl)) ?_))
 rintro h s
 refine zv ?_
 refine WP.ret ⟨aa,_,Wd rfl (s.cV (k:=3) rfl HQ og),?_⟩
 exact⟨u,rfl,v,I,s.del 3⟩
structure yw (tx pv nx:Nat)(data:List Nat)(aR:List bZ): Prop where
 tx:tx<9223372036854775808
 pv:pv<9223372036854775808
 nx:nx<9223372036854775808
 data:data.length≤1048576
 many:aR.length≤1048576
theorem Oq (k n:Nat): 1≤(digits k n).length:=by
 cases k with
 |zero=>simp[digits]
 |succ k=>rw[digits];split<;>simp
theorem T_ (x:bZ): 1≤(jK x).length:=by simp only[jK,b7,bz];omega
theorem JK : ∀l:List bZ,l.length≤(l.flatMap jK).length:=by
 intro l
 induction l with
 |nil=>simp
 |cons x l I=>have:=T_ x;simp only[pM,b7,bz];omega
noncomputable def rdL : Code:=cU [1,1,1,1,1,1,1,1,0,1,0,0] ((Tryz.f221.body).getD .skip)
theorem XV (hT:W told){kd:Nat}{p2:Nat}{dt:V}{aR:List bZ}(iO:∀x∈aR,x.Ok)(hn:aR.length≤1048576): ∀(j i:Nat) (av:V) (cs:List V) (h:H) (E:List (Nat×V)) (Q:Ex→List (Nat×V)→H→Prop),
  i+j=aR.length→Cu h c X (pt p2 (.cells 6 (dx kd tx pv nx dt av) false)::.arr 4 av cs::c9 cs (aR.take i)::S) ((aR.drop i).flatMap jK)→Has E [(0,.ptr c 0),(2,.ptr p2 0),(41,.int .i64 aR.length),(42,.int .i64 i)] →
  (∀E' h' av cs,Has E' [(0,.ptr c 0),(2,.ptr p2 0)]→Cu h' c X (pt p2 (.cells 6 (dx kd tx pv nx dt av) false)::.arr 4 av cs::c9 cs aR::S) []→Q (.exit 2) E' h')→WP ⟨Tryz.prog,told⟩ 64 (.loop rdL) E h Q:=by
 intro j
 induction j with
 |zero =>
  intro i av cs h E Q hi hc hE hq
  refine WP.loop (WP.has hE (zg rfl (zC rfl aT (by simp;omega) ?_)))
  refine zk 3 rfl (WP.exit ?_)
  rw[gB (by omega),v7 (by omega)] at hc
  exact hq _ _ _ _ ⟨rfl,rfl,aa⟩ hc
 |succ j ih =>
  intro i av cs h E Q hi hc hE hq
  have hx:aR[i]?=some (aR[i]'(by omega)):=bw _
  generalize (aR[i]'(by omega))=x at hx
  have hxo:=iO x (bK hx)
  have I:aR.drop i=x::aR.drop (i+1):=by
   obtain⟨h1,rfl⟩:=List.getElem?_eq_some_iff.1 hx
   exact pJ h1
  have J:aR.take (i+1)=aR.take i++[x]:=by rw[EX,hx];rfl
  rw[I,pM] at hc
  obtain⟨v,hX,s⟩:=hc
  refine WP.loop (WP.has hE (zg rfl (zB rfl aT (by simp;omega) ?_)))
  refine zk 5 rfl (WP.block ?_)
  have s0:=s
  have GJ:=(s.iz (j:=3) rfl).2.2
  refine WP.drawn [some (0,3),some (0,3),af,af,af,af,af,af] rfl (by kernel_rfl) (by kernel_rfl) ?_
  refine zF rfl (ji _ _) (zL rfl (s.ld (k:=2) rfl o5 rfl) (zM rfl (az.any rfl rfl rfl rfl (OpR.call rfl rfl rfl rfl (Oo hT hxo ⟨v,hX,s⟩)) ?_)))
  rintro w h ⟨u,rfl,v,hX,s⟩
  dsimp only[dx] at s
  have hu:=(s.buf (k:=2) rfl).view.cells
  have yT:=cX (s.buf (k:=2) rfl).view
  have s1:=s
  have s:=(s.ae [2]).gu
  dsimp only[bringA,getA,aE] at s
  obtain⟨rv,h1,xj,s2⟩:=kI (P:=Tryz.prog) (k:=4) (x:=.agg [.int .i64 x.aK,.int .i64 x.pos,.bool x.whole,u]) s iF nj og rfl (by decide) (by decide) rfl (by simp only[V.cells,iU,jd,hu.2];rfl)
  dsimp only[V.cells] at s2
  refine az.any rfl rfl rfl rfl (OpR.of (R:=fun v h'=>v=rv∧h'=h1) (oF rfl xj) ⟨rfl,rfl⟩) ?_
  rintro v' h' ⟨rfl,rfl⟩
  obtain⟨i1,kA,jE,qg⟩:=uU
  have TM:cs.length=(aR.take i).length*4:=by
   obtain⟨a,b,q1,q2,q3⟩:=s2.at (k:=6) rfl
   exact nI q3
  rw[gR] at TM
  obtain⟨qT,h2,sD,s3⟩:=gU (s2.ae [5,0]) iF kA nj jE (by omega) rfl (by decide) (by simp only[bz,cG];omega)
  dsimp only[bringA,getA,aE] at s3
  refine az.any rfl rfl rfl rfl (OpR.of (R:=fun v h'=>v=qT∧h'=h2) (mI rfl rfl sD) ⟨rfl,rfl⟩) ?_
  rintro v' h' ⟨rfl,rfl⟩
  have s:=s3
  have yV:=s.iz (j:=0) rfl
  refine zF rfl (ji _ _) (az.gh rfl rfl rfl (OpR.fM rfl rfl rfl (s.dK (k:=5) rfl Bt rfl (by decide) yV.1 yV.2.1)) ?_)
  rintro v' h ⟨rfl,s⟩
  dsimp only[Nat.reduceAdd,List.set,setA] at s
  refine az.nil ⟨⟨fun _ _=>.inr ⟨rfl,⟨_,jH rfl (ji _ _)⟩,aS _ rfl⟩,sA (.inr ⟨rfl,⟨_,o_load rfl (s0.ld (k:=2) rfl o5 rfl)⟩,GJ⟩) (.inr ⟨rfl,⟨_,o_load rfl (s1.ld (k:=3) rfl o5 rfl)⟩,GJ⟩) (.inr ⟨rfl,⟨_,o_load rfl (s2.ld (k:=4) rfl o5 rfl)⟩,GJ⟩),aa,aa,aa,aa,aa,aa,aa⟩,?_⟩
  refine zr rfl (zb rfl (by exact bf (aA (by omega) (by omega))) ?_)
  refine zm rfl (zv ?_)
  have s4:Sat _ (c9 cs (aR.take i)::.cD u x.b::_):=s.ae [6,2]
  have s5:=s4.two (C:=c9 (cs++[.int .i64 x.aK,.int .i64 x.pos,.bool x.whole,u]) (aR.take i++[x])) (bg.nq _ _) (bg.cD _ _) fun a b q1 q2=>xZ q1 ⟨⟨⟨rfl,rfl,rfl⟩,q2⟩,aa⟩
  rw[←J] at s5
  have s6:=(s5.ae [3,3,3,1,0]).del 5
  exact ih (i+1) _ _ h _ Q (by omega) ⟨v,hX,s6⟩ ⟨rfl,rfl,rfl,rfl,aa⟩ hq
set_option maxHeartbeats 1000000 in
theorem XW (J:W told){kd:Nat}{aR:List bZ}(hg:dV kd aR=true)(hk:kd<256)(hr:yw tx pv nx data aR)(hc:Cu h c X S (c_ kd tx pv nx data aR)):
  Call ⟨Tryz.prog,told⟩ 221 [.ptr c 0] h fun r h'=>∃dt ch cs,r=.agg (dx kd tx pv nx dt ch)∧Sat h' (X::aZ dt data::.arr 4 ch cs::c9 cs aR::S):=by
 simp only[c_,cL,cT,iS,dU] at hc
 obtain⟨v,I,s⟩:=hc
 refine Call.of_wp (J.free _ rfl) Tryz.func221 rfl rfl (zg rfl ?_)
 refine au.bD s rfl rfl rfl (bI jC) (fun p2 h s => ?_)
 dsimp only[V.cells,List.length_cons,List.length_nil,Nat.reduceAdd] at s
 refine zk 4 rfl (zc rfl (FX J ⟨v,I,s.ae [1,1,0]⟩) ?_)
 rintro v h ⟨rfl,v,I,s⟩
 dsimp only[aE,bringA,getA] at s
 refine zo rfl (bT rfl (Li (by omega))) ?_
 refine zf rfl (jh _ _) ?_
 refine zS rfl (by exact s.dK (k:=2) rfl lR rfl (by decide) rfl rfl) (fun h s => ?_)
 dsimp only[Nat.reduceAdd,List.set,setA] at s
 refine zk 4 rfl (zo rfl (xQ rfl rfl) (zk 5 rfl (zf rfl (kH _ _) (zf rfl (Fw _ _) (zf rfl (LZ _ _) (zo rfl (cj rfl (by rw[abr];rfl)) ?_))))))
 refine zk 2 rfl (WP.block (WP.loop (zg rfl (zB rfl aT (rfl) (zk 5 rfl (WP.block (zg rfl (zo rfl (xP rfl rfl (r:=.ptr p2 (0+1)) (by simp only[indexV,JF,NP,oZ,NQ];rfl)) ?_))))))))
 refine zk 5 rfl (zc rfl (vD J hr.tx ⟨v,I,s⟩) ?_)
 rintro v h ⟨rfl,v,I,s⟩
 refine zn rfl ?_
 refine zS rfl (by exact s.dK (k:=2) rfl kD rfl (by decide) rfl rfl) (fun h s => ?_)
 dsimp only[Nat.reduceAdd,List.set,setA] at s
 refine zv (zr rfl (zb rfl (by exact bf (aA (by omega) (by omega))) ?_))
 refine zm rfl (zv (WP.loop (zg rfl (zt rfl (ay rfl rfl aT) (rfl) (zv (zw (zi rfl (WP.skip (zw (WP.block (zg rfl (zo rfl (xP rfl rfl (r:=.ptr p2 (0+2)) (by simp only[indexV,JF,NP,oZ,NQ];rfl)) ?_))))))))))))
 refine zk 5 rfl (zc rfl (vD J hr.pv ⟨v,I,s⟩) ?_)
 rintro v h ⟨rfl,v,I,s⟩
 refine zn rfl ?_
 refine zS rfl (by exact s.dK (k:=2) rfl kD rfl (by decide) rfl rfl) (fun h s => ?_)
 dsimp only[Nat.reduceAdd,List.set,setA] at s
 refine zv (zr rfl (zb rfl (by exact bf (aA (by omega) (by omega))) ?_))
 refine zk 2 rfl (WP.loop (zg rfl (zB rfl aT (rfl) (zk 5 rfl (WP.block (zg rfl (zo rfl (xP rfl rfl (r:=.ptr p2 (0+3)) (by simp only[indexV,JF,NP,oZ,NQ];rfl)) ?_)))))))
 refine zk 5 rfl (zc rfl (vD J hr.nx ⟨v,I,s⟩) ?_)
 rintro v h ⟨rfl,v,I,s⟩
 refine zn rfl ?_
 refine zS rfl (by exact s.dK (k:=2) rfl kD rfl (by decide) rfl rfl) (fun h s => ?_)
 dsimp only[Nat.reduceAdd,List.set,setA] at s
 refine zv (zr rfl (zb rfl (by exact bf (aA (by omega) (by omega))) ?_))
 refine zm rfl (zv (WP.loop (zg rfl (zh rfl (ay rfl rfl aT) (rfl) (zv (zw (zj rfl (WP.exit (zg rfl (zm rfl ?_))))))))))
 rw[←cT] at I
 refine zc rfl (JJ J hr.data ⟨v,I,s⟩) ?_
 rintro dt h ⟨v,I,s⟩
 have iP:=(s.buf (k:=2) rfl).view.cells
 refine zf rfl (tW _ _) (zS rfl (s.dK (k:=3) rfl gY rfl (by decide) iP.1 iP.2) ?_)
 rintro h s
 refine zk 4 rfl (zc rfl (yu J hr.many ⟨v,I,s⟩) ?_)
 rintro v h ⟨rfl,v,I,s⟩
 have hv:=s.aG (k:=1) rfl I
 refine zk 7 rfl (zY s 0 my bJ rfl (zo rfl (aP rfl rfl rfl (aW aJ hv)) (zB rfl CG (by have:=JK aR;simp only[ie];omega) ?_)))
 refine zc rfl (mK J) ?_
 rintro r h' ⟨rfl,rfl⟩
 refine zk 4 rfl ?_
 obtain⟨i1,kA,jE,qg⟩:=uU
 have DW:=hr.many
 obtain⟨nv,Vi,e1,s1⟩:=Gy (P:=Tryz.prog) s iF kA nj jE (by omega) rfl (by decide) (by decide) (n:=0) (c:=aR.length) (by omega) (by omega)
 dsimp only[repeatL] at s1
 refine au.any rfl rfl rfl (OpR.of (R:=fun v h'=>v=nv∧h'=Vi) (tu rfl rfl e1) ⟨rfl,rfl⟩) ?_
 rintro v h' ⟨rfl,rfl⟩
 have s:=s1.ae [1,1,2,0]
 have hnv:=s.iz (j:=3) rfl
 refine zf rfl (ji _ _) (zS rfl (s.dK (k:=2) rfl Bt rfl (by decide) hnv.1 hnv.2.1) ?_)
 rintro h s
 have iO:∀x∈aR,x.Ok:=fun x hx=>by
  simp only[dV,bH,tK,ie] at hg
  exact hg.2 x hx
 have s2:=((s.fB (φ:=True) aa).iu (B:=c9 [] []) fun _ _ h=>h).ae [1,1,1,1,0]
 refine zk 7 rfl (WP.block ?_)
 refine XV J iO hr.many aR.length 0 _ [] h _ _ (by omega) ⟨_,I,s2⟩ ⟨rfl,rfl,rfl,rfl,aa⟩ (fun E h av cs hE hc => ?_)
 obtain⟨v,I,s⟩:=hc
 refine WP.has hE ?_
 have hv:=s.aG (k:=1) rfl I
 have iP:=(s.buf (k:=5) rfl).view.cells
 have yV:=s.iz (j:=3) rfl
 have fo:[V.int .i64 (kd:Int),V.int .u64 (tx:Int),V.int .u64 (pv:Int),V.int .u64 (nx:Int),dt,av].all storable=true:=jc iP.2 yV.2.1
 have fG:Ap aR:=⟨by omega,fun x hx=>by have:=iO x hx;unfold bZ.Ok at this;omega,fun x hx=>by have:=iO x hx;unfold bZ.Ok at this;omega⟩
 refine zK 4 rfl (zY s 0 my bJ rfl (zo rfl (aP rfl rfl rfl (aW aJ hv)) (zB rfl dm (rfl) (zm rfl (zl rfl (s.cV (k:=2) rfl iJ dD) (zc rfl (I3 J (s.ae [3,3]) iP.2 fG) ?_))))))
 rintro r h ⟨rfl,s⟩
 rw[hg]
 refine zq rfl (zc rfl (mK J) ?_)
 rintro r h' ⟨rfl,rfl⟩
 refine zk 3 rfl (zl rfl (s.cV (k:=4) rfl iJ dD) (zS rfl (s.eS (j:=4) rfl dD rfl fo) ?_))
 rintro h s
 refine zv ?_
 refine WP.ret ⟨aa,_,Wd rfl (s.cV (k:=4) rfl iJ dD),?_⟩
 exact⟨dt,av,cs,rfl,((s.ae [3,4,0,0]).del 4).del 4⟩
end
end Go.Proofs.YtiojppeahfoiaaaGreat.Am
