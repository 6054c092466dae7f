/- After a crash the log has the records of the groups that are there and no others, with their numbers and data; the conditions are those of the given statement, for arguments that a machine can hold. Part 44 of 54. -/
import Derived.Test.YtconhghphklfjaaGreatL43
namespace Go.Proofs.YtconhghphklfjaaGreat.Am
open Go
section
variable {told:Nat→Option (List V→H→Option (V×H))} {h:H} {S:List ah} {X:ah} {v w:V} {l m:List Nat} {a g p q r aK:Nat} {op:V} {data:List Nat} {now:List (Int×List Nat)}
end
end Go.Proofs.YtconhghphklfjaaGreat.Am
namespace Go.Proofs.YtconhghphklfjaaGreat.Am
open Go
def pgA (ε:aM)(n:Int): List Nat:=match lookL n ε.1.aZ with
 | some i=>match ε.1.ag[i.toNat]? with
  | some f=>f.b
  | none=>ε.2.2.at n
 | none=>ε.2.2.at n
structure Jb (N:Nat)(δ:Dk)(aZ:List (Int×Int))(i:Nat)(f:Fm): Prop where
 lt:f.aO<N
 here:lookL f.aO aZ=some (i:Int)
 aK:dQ f.b=0
 same:f.changed=false→f.b=δ.at f.aO
 lK:f.changed=true→bu f.b=true
structure EC (N:Nat)(ε:aM): Prop where
 dk:DA N ε.2.2
 nodup:(ε.1.aZ.map (·.1)).Nodup
 jy:∀(n i:Int),lookL n ε.1.aZ=some i→0≤n∧∃(j:Nat) (f:Fm),i=j∧ε.1.ag[j]?=some f∧f.aO=n
 back:∀(i:Nat) (f:Fm),ε.1.ag[i]?=some f→f.aO<0∨Jb N ε.2.2 ε.1.aZ i f
 uE:∀k:Int,k∈ε.1.cC.map (·.1)→0≤k∧k<N
 A2:(ε.1.cC.map (·.1)).Nodup
theorem kq {ε:aM}{n:Int}{j:Nat}{f:Fm}(h:lookL n ε.1.aZ=some (j:Int))(I:ε.1.ag[j]?=some f): pgA ε n=f.b:=by
 simp only [pgA,h,Int.toNat_natCast,I]
theorem jz {ε:aM}{n:Int}(h:lookL n ε.1.aZ=none): pgA ε n=ε.2.2.at n:=by simp only [pgA,h]
theorem EC.cases {N:Nat}{ε:aM}(h:EC N ε)(n:Int): (∃(j:Nat) (f:Fm),lookL n ε.1.aZ=some (j:Int)∧ε.1.ag[j]?=some f∧f.aO=n∧0≤n∧Jb N ε.2.2 ε.1.aZ j f∧pgA ε n=f.b)∨(lookL n ε.1.aZ=none∧pgA ε n=ε.2.2.at n):=by
 cases I:lookL n ε.1.aZ with
 | none=>exact .inr ⟨rfl,jz I⟩
 | some i =>
  obtain ⟨h0,j,f,rfl,J,hp⟩:=h.jy n i I
  refine .inl ⟨j,f,rfl,J,hp,h0,?_,kq I J⟩
  rcases h.back j f J with U | U
  ·omega
  ·exact U
theorem sg {m:List Fm}{i j:Nat}{f g x:Fm}(U:m[i]?=some f)(J:(m.set i g)[j]?=some x): (i=j∧x=g)∨(i≠j∧m[j]?=some x):=by
 by_cases I:i=j
 ·subst I
  rw [List.getElem?_set_self (List.getElem?_eq_some_iff.1 U).1] at J
  exact .inl ⟨rfl,(Option.some.inj J).symm⟩
 ·rw [List.getElem?_set_ne I] at J
  exact .inr ⟨I,J⟩
theorem EC.set {N:Nat}{ε:aM}{i:Nat}{f g:Fm}{y:Lg}{δ:Dk}{d:List (Int×(Nat×Bool))}(h:EC N ε)(hf:ε.1.ag[i]?=some f)(hp:g.aO=f.aO)(qO:DA N δ)
 (hg:g.aO<0∨Jb N δ ε.1.aZ i g)(ho:∀(j:Nat) (x:Fm),i≠j→ε.1.ag[j]?=some x→0≤x.aO→δ.at x.aO=ε.2.2.at x.aO)(hd:∀k:Int,k∈d.map (·.1)→0≤k∧k<N)(Um:(d.map (·.1)).Nodup):
  EC N ({ ε.1 with ag:=ε.1.ag.set i g,cC:=d },(y,δ)):=by
 have hi:=(List.getElem?_eq_some_iff.1 hf).1
 refine ⟨qO,h.nodup,fun n k hk => ?_,fun j x J => ?_,hd,Um⟩
 ·obtain ⟨h0,j,x,rfl,J,si⟩:=h.jy n k hk
  refine ⟨h0,j,?_⟩
  by_cases I:i=j
  ·subst I
   rw [hf] at J
   have:=Option.some.inj J
   subst this
   exact ⟨g,rfl,List.getElem?_set_self hi,hp.trans si⟩
  ·exact ⟨x,rfl,by show (ε.1.ag.set i g)[j]?=some x; rw [List.getElem?_set_ne I]; exact J,si⟩
 ·rcases sg hf J with ⟨rfl,rfl⟩ | ⟨I,J⟩
  ·exact hg
  ·rcases h.back j x J with U | U
   ·exact .inl U
   ·by_cases h2:x.aO<0
    ·exact .inl h2
    ·refine .inr ⟨U.lt,U.here,U.aK,fun hc => ?_,U.lK⟩
     rw [ho j x I J (by omega)]; exact U.same hc
theorem C4 {ε:aM}{i:Nat}{f g:Fm}{x:LD}{d:List (Int×(Nat×Bool))}(U:ε.1.ag[i]?=some f)(hb:g.b=f.b){n:Int}(hx:lookL n ε.1.aZ=none→x.2.at n=ε.2.2.at n)(hy:∀j:Int,lookL n ε.1.aZ=some j→∃f',ε.1.ag[j.toNat]?=some f'):
  pgA ({ ε.1 with ag:=ε.1.ag.set i g,cC:=d },x) n=pgA ε n:=by
 unfold pgA
 simp only
 cases hl:lookL n ε.1.aZ with
 | none=>exact hx hl
 | some j =>
  simp only
  obtain ⟨f',J⟩:=hy j hl
  by_cases I:i=j.toNat
  ·subst I
   rw [List.getElem?_set_self (List.getElem?_eq_some_iff.1 U).1,U]
   exact hb
  ·rw [List.getElem?_set_ne I,J]
theorem EC.there {N:Nat}{ε:aM}(h:EC N ε){n:Int}: ∀j:Int,lookL n ε.1.aZ=some j→∃f',ε.1.ag[j.toNat]?=some f':=fun j I=>by
 obtain ⟨_,k,f,rfl,J,_⟩:=h.jy n j I
 exact ⟨f,by rw [Int.toNat_natCast]; exact J⟩
theorem EC.out {N:Nat}{ε:aM}{i:Nat}{f:Fm}(h:EC N ε)(I:ε.1.ag[i]?=some f):
  (outF ε i).1=0∧EC N (outF ε i).2∧(∀n,pgA (outF ε i).2 n=pgA ε n)∧(outF ε i).2.1.aZ=ε.1.aZ∧∃g,(outF ε i).2.1.ag[i]?=some g∧g.aO=f.aO∧(0≤g.aO→g.changed=false):=by
 have hi:=(List.getElem?_eq_some_iff.1 I).1
 unfold outF
 rw [I]
 simp only
 by_cases hc:f.aO<0∨f.changed=false
 ·rw [if_pos hc]
  exact ⟨rfl,h,fun n=>rfl,rfl,f,I,rfl,fun h0=>hc.resolve_left (by omega)⟩
 ·rw [if_neg hc]
  have J:0≤f.aO:=by omega
  have tJ:f.changed=true:=by cases hq:f.changed <;> simp [hq] at hc ⊢
  have ho:=(h.back i f I).resolve_left (by omega)
  have hg:=ho.lK tJ
  rw [if_neg (by rw [hg]; decide)]
  obtain ⟨e1,k1⟩:=GW (x:=ε.2) (n:=dm f.b 4 8) h.dk
  rw [if_neg (by rw [e1]; decide)]
  obtain ⟨e2,k2,k3⟩:=Ja (h.dk.of k1) J ho.lt (fJ hg) ho.aK
  rw [if_neg (by rw [e2]; decide)]
  have U:∀m,f.aO≠m→((bD ε.2 (dm f.b 4 8)).2.2.bF f.aO f.b).2.at m=ε.2.2.at m:=fun m hm=>by rw [k3,if_neg hm,k1.at]
  refine ⟨rfl,h.set I rfl k2 (.inr ⟨ho.lt,ho.here,ho.aK,fun _ => ?_,fun hq=>(by cases hq)⟩) (fun j x tD hx h0=>U _ fun Un => ?_) (fun k hk => ?_) (fQ h.A2),fun n => ?_,rfl,_,List.getElem?_set_self hi,rfl,fun _=>rfl⟩
  ·simp only; rw [k3,if_pos rfl]
  ·rcases h.back j x hx with h1 | h1
   ·omega
   ·have:=h1.here
    rw [←Un,ho.here] at this
    have:=Option.some.inj this
    omega
  ·rcases lV.1 hk with rfl | hk
   ·exact ⟨J,ho.lt⟩
   ·exact h.uE k hk
  ·exact C4 I (by rfl) (fun hn=>U n fun e=>by rw [←e,ho.here] at hn; cases hn) h.there
end Go.Proofs.YtconhghphklfjaaGreat.Am
namespace Go.Proofs.YtconhghphklfjaaGreat.Am
open Go
theorem dU.back {π I:Pl}(J:dU π I){i:Nat}{x:Fm}(U:I.ag[i]?=some x): ∃f t,π.ag[i]?=some f∧x={ f with dn:=t }:=by
 have hi:=(List.getElem?_eq_some_iff.1 U).1
 rw [J.len] at hi
 have hf:π.ag[i]?=some (π.ag[i]'hi):=List.getElem?_eq_getElem _
 obtain ⟨t,ht⟩:=J.get i _ hf
 rw [U] at ht
 exact ⟨_,t,hf,Option.some.inj ht⟩
theorem EC.qn {N:Nat}{ε:aM}{J:Pl}(h:EC N ε)(I:dU ε.1 J): EC N (J,ε.2)∧∀n,pgA (J,ε.2) n=pgA ε n:=by
 refine ⟨⟨h.dk,by rw [I.aZ]; exact h.nodup,fun n i hi => ?_,fun i x hx => ?_,by rw [I.cC]; exact h.uE,by rw [I.cC]; exact h.A2⟩,fun n => ?_⟩
 ·rw [I.aZ] at hi
  obtain ⟨h0,j,f,rfl,hf,hp⟩:=h.jy n i hi
  obtain ⟨t,ht⟩:=I.get j f hf
  exact ⟨h0,j,_,rfl,ht,hp⟩
 ·obtain ⟨f,t,hf,rfl⟩:=I.back hx
  rcases h.back i f hf with U | U
  ·exact .inl U
  ·exact .inr ⟨U.lt,by rw [I.aZ]; exact U.here,U.aK,U.same,U.lK⟩
 ·unfold pgA
  simp only [I.aZ]
  cases hl:lookL n ε.1.aZ with
  | none=>rfl
  | some i =>
   obtain ⟨h0,j,f,rfl,hf,hp⟩:=h.jy n i hl
   obtain ⟨t,ht⟩:=I.get j f hf
   simp only [Int.toNat_natCast,ht,hf]
theorem EC.cD {N:Nat}{ε:aM}{i:Nat}{f g:Fm}(h:EC N ε)(hg:ε.1.ag[i]?=some g)(hp:g.aO=f.aO)(hc:0≤g.aO→g.changed=false): EC N (cD ε.1 i f,ε.2)∧(∀n,pgA (cD ε.1 i f,ε.2) n=pgA ε n) ∧
  (cD ε.1 i f).ag[i]?=some c7∧∀n,lookL n ε.1.aZ=none→lookL n (cD ε.1 i f).aZ=none:=by
 have hi:=(List.getElem?_eq_some_iff.1 hg).1
 have Ps:(ε.1.ag.set i c7)[i]?=some c7:=List.getElem?_set_self hi
 have I:∀n,lookL n (Am.cD ε.1 i f).aZ=if 0≤f.aO∧f.aO=n then none else lookL n ε.1.aZ:=fun n=>by
  rw [Am.cD]
  by_cases h0:f.aO<0
  ·rw [if_pos h0,if_neg (by omega)]
  ·rw [if_neg h0,xH h.nodup]
   by_cases hn:f.aO=n
   ·rw [if_pos hn,if_pos ⟨by omega,hn⟩]
   ·rw [if_neg hn,if_neg (by omega)]
 refine ⟨⟨h.dk,?_,fun n k hk => ?_,fun j x J => ?_,h.uE,h.A2⟩,fun n => ?_,Ps,fun n hn => ?_⟩
 ·rw [Am.cD]
  by_cases h0:f.aO<0
  ·rw [if_pos h0]; exact h.nodup
  ·rw [if_neg h0]; exact p_ h.nodup
 ·rw [I] at hk
  split at hk
  ·cases hk
  ·rename_i ep
   obtain ⟨h0,j,x,rfl,J,si⟩:=h.jy n k hk
   refine ⟨h0,j,x,rfl,?_,si⟩
   show (ε.1.ag.set i c7)[j]?=some x
   rw [List.getElem?_set_ne]
   ·exact J
   ·rintro rfl
    rw [hg] at J
    have:=Option.some.inj J
    subst this
    omega
 ·rcases sg hg J with ⟨rfl,rfl⟩ | ⟨tD,J⟩
  ·exact .inl (by decide)
  ·rcases h.back j x J with h1 | h1
   ·exact .inl h1
   ·by_cases Uo:x.aO<0
    ·exact .inl Uo
    refine .inr ⟨h1.lt,?_,h1.aK,h1.same,h1.lK⟩
    rw [I,if_neg]
    ·exact h1.here
    ·rintro ⟨h0,U⟩
     rcases h.back i g hg with h2 | h2
     ·omega
     ·have e:=h2.here
      rw [hp,U,h1.here] at e
      have:=Option.some.inj e
      omega
 ·rcases h.cases n with ⟨j,x,hl,J,si,h0,ho,e⟩ | ⟨hl,e⟩
  ·rw [e]
   by_cases U:f.aO=n
   ·have tD:i=j:=by
     rcases h.back i g hg with h2 | h2
     ·omega
     ·have e:=h2.here
      rw [hp,U,hl] at e
      have:=Option.some.inj e
      omega
    subst tD
    rw [hg] at J
    have:=Option.some.inj J
    subst this
    rw [jz (by rw [I,if_pos ⟨by omega,U⟩])]
    rw [ho.same (hc (by omega)),hp,U]
   ·refine kq (j:=j) (by rw [I,if_neg (by omega)]; exact hl) ?_
    show (ε.1.ag.set i c7)[j]?=some x
    rw [List.getElem?_set_ne]
    ·exact J
    ·rintro rfl
     rw [hg] at J
     have:=Option.some.inj J
     subst this
     omega
  ·rw [e,jz (by rw [I]; split; rfl; exact hl)]
 ·rw [I]; split; rfl; exact hn
theorem EC.gR {N:Nat}{ε:aM}{i:Nat}{e:Fm}{n:Int}(h:EC N ε)(he:ε.1.ag[i]?=some e)(hp:e.aO<0)(hl:lookL n ε.1.aZ=none)(h0:0≤n)(h1:n<N): EC N (gR ε.1 i n (ε.2.2.at n),ε.2)∧∀m,pgA (gR ε.1 i n (ε.2.2.at n),ε.2) m=pgA ε m:=by
 have hi:=(List.getElem?_eq_some_iff.1 he).1
 have J:(ε.1.ag.set i ⟨n,ε.2.2.at n,1,true,false⟩)[i]?=some ⟨n,ε.2.2.at n,1,true,false⟩:=List.getElem?_set_self hi
 have I:∀m,lookL m (Am.gR ε.1 i n (ε.2.2.at n)).aZ=if n=m then some (i:Int) else lookL m ε.1.aZ:=fun m=>mw _
 refine ⟨⟨h.dk,fQ h.nodup,fun m k hk => ?_,fun j x U => ?_,h.uE,h.A2⟩,fun m => ?_⟩
 ·rw [I] at hk
  split at hk
  ·rename_i AF
   have:=Option.some.inj hk
   subst this
   subst AF
   exact ⟨h0,i,_,rfl,J,rfl⟩
  ·rename_i ep
   obtain ⟨h0,j,x,rfl,U,si⟩:=h.jy m k hk
   refine ⟨h0,j,x,rfl,?_,si⟩
   show (ε.1.ag.set i _)[j]?=some x
   rw [List.getElem?_set_ne]
   ·exact U
   ·rintro rfl
    rw [he] at U
    have:=Option.some.inj U
    subst this
    omega
 ·rcases sg he U with ⟨rfl,rfl⟩ | ⟨tD,U⟩
  ·exact .inr ⟨h1,by rw [I,if_pos rfl],h.dk.good n h0 h1,fun _=>rfl,fun hq=>(by cases hq)⟩
  ·rcases h.back j x U with h2 | h2
   ·exact .inl h2
   ·refine .inr ⟨h2.lt,?_,h2.aK,h2.same,h2.lK⟩
    rw [I,if_neg]
    ·exact h2.here
    ·rintro rfl
     rw [h2.here] at hl; cases hl
 ·by_cases AF:n=m
  ·subst AF
   rw [kq (j:=i) (by rw [I,if_pos rfl]) J,jz hl]
  ·rcases h.cases m with ⟨j,x,iq,U,si,_,ho,e2⟩ | ⟨iq,e2⟩
   ·rw [e2]
    refine kq (j:=j) (by rw [I,if_neg AF]; exact iq) ?_
    show (ε.1.ag.set i _)[j]?=some x
    rw [List.getElem?_set_ne]
    ·exact U
    ·rintro rfl
     rw [he] at U
     have:=Option.some.inj U
     subst this
     omega
   ·rw [e2,jz (by rw [I,if_neg AF]; exact iq)]
theorem EC.frame {N:Nat}{ε:aM}{i:Nat}{f g:Fm}(h:EC N ε)(hf:ε.1.ag[i]?=some f)(J:g.aO=f.aO)(U:g.b=f.b)(hc:g.changed=f.changed): EC N ({ ε.1 with ag:=ε.1.ag.set i g },ε.2)∧∀n,pgA ({ ε.1 with ag:=ε.1.ag.set i g },ε.2) n=pgA ε n:=by
 refine ⟨h.set (y:=ε.2.1) (δ:=ε.2.2) hf J h.dk ?_ (fun _ _ _ _ _=>rfl) h.uE h.A2,fun n=>C4 hf U (fun _=>rfl) h.there⟩
 rcases h.back i f hf with I | I
 ·exact .inl (by omega)
 ·exact .inr ⟨by rw [J]; exact I.lt,by rw [J]; exact I.here,by rw [U]; exact I.aK,by rw [J,U,hc]; exact I.same,by rw [U,hc]; exact I.lK⟩
theorem dV.ec {N:Nat}{ε ε':aM}{n e:Int}{b:List Nat}(hr:dV ε n e b ε')(h:EC N ε): EC N ε'∧(∀m,pgA ε' m=pgA ε m)∧(0≤n→n<N→e=0∧b=pgA ε n)∧(¬(0≤n∧n<N)→e=1∧ε'=ε):=by
 have U:=h.dk.aj
 cases hr with
 | arg I=>rw [U] at I; exact ⟨h,fun _=>rfl,fun a b=>absurd ⟨a,b⟩ I,fun _=>⟨rfl,rfl⟩⟩
 | xV i f h1 J hl hf =>
  rw [U] at J
  obtain ⟨k1,k2⟩:=h.frame (g:={ f with dn:=true,pins:=f.pins+1 }) hf rfl rfl rfl
  exact ⟨k1,k2,fun _ _=>⟨rfl,(kq hl hf).symm⟩,fun I=>absurd ⟨h1,J⟩ I⟩
 | out eG i f h1 J hl I hf hh he=>exact absurd ((h.qn I).1.out hf).1 he
 | read eG i f h1 J hl I hf hh he hr =>
  obtain ⟨k1,k2,k3,k4,g,k5,k6,k7⟩:=(h.qn I).1.out hf
  refine absurd ?_ hr
  rw [U] at J
  rw [Dk.m4,if_neg (by rw [k2.dk.alive]; decide),if_neg (by rw [k2.dk.aj]; exact not_not_intro ⟨h1,J⟩)]
 | bad eG i f h1 J hl I hf hh he hr hc =>
  obtain ⟨k1,k2,k3,k4,g,k5,k6,k7⟩:=(h.qn I).1.out hf
  rw [U] at J
  exact absurd (k2.dk.good n h1 J) hc
 | load eG i f h1 J hl I hf hh he hr hc =>
  obtain ⟨n1,n2⟩:=h.qn I
  obtain ⟨k1,k2,k3,k4,g,k5,k6,k7⟩:=n1.out hf
  rw [U] at J
  obtain ⟨f1,f2,f3,f4⟩:=k2.cD k5 k6 k7
  have iq:lookL n (outF (eG,ε.2) i).2.1.aZ=none:=by rw [k4]; show lookL n eG.aZ=none; rw [I.aZ]; exact hl
  obtain ⟨l1,l2⟩:=f1.gR f3 (by decide) (f4 n iq) h1 J
  exact ⟨l1,fun m=>by rw [l2,f2,k3,n2],fun _ _=>⟨rfl,by rw [←n2,←k3,jz iq]⟩,fun I=>absurd ⟨h1,J⟩ I⟩
theorem GY {N:Nat}{π:Pl}{x:LD}{n:Int}(h:EC N (π,x)): EC N ((unpinF π n).2,x)∧∀m,pgA ((unpinF π n).2,x) m=pgA (π,x) m:=by
 unfold unpinF
 split
 ·exact ⟨h,fun _=>rfl⟩
 ·split
  ·exact ⟨h,fun _=>rfl⟩
  ·rename_i i hi f I
   exact h.frame (g:={ f with pins:=f.pins-1 }) I rfl rfl rfl
theorem kK.ec {N:Nat}{ε ε':aM}{n e:Int}{b:List Nat}(I:kK ε n e b ε')(h:EC N ε)(hp:∀f∈ε.1.ag,f.pins=0): EC N ε'∧(∀m,pgA ε' m=pgA ε m)∧(0≤n→n<N→e=0∧b=pgA ε n)∧(¬(0≤n∧n<N)→e=1∧ε'=ε):=by
 cases I with
 | dead J=>rw [h.dk.alive] at J; cases J
 | gS e b ε' J I he =>
  obtain ⟨k1,k2,U,k4⟩:=I.ec h
  exact ⟨k1,k2,fun a b=>absurd (U a b).1 he,k4⟩
 | oB b ε' J I he=>exact absurd (I.uB hp).1 he
 | read b ε' J I he =>
  obtain ⟨k1,k2,U,k4⟩:=I.ec h
  obtain ⟨u1,u2⟩:=GY (n:=n) k1
  refine ⟨u1,fun m=>by rw [u2]; exact k2 m,U,fun hn=>absurd (k4 hn).1 (by decide)⟩
theorem kM.ec {N:Nat}{ε ε':aM}{now:List (Int×List Nat)}{n e:Int}{b:List Nat}(hr:kM ε now false n e b ε')(h:EC N ε)(hp:∀f∈ε.1.ag,f.pins=0): EC N ε'∧(∀m,pgA ε' m=pgA ε m) ∧
  (0≤n→n<N→e=0∧b=(match lookL n now with | some b=>b | none=>pgA ε n))∧(¬(0≤n∧n<N)→e=1):=by
 have I:=h.dk.aj
 cases hr with
 | arg J=>rw [I] at J; exact ⟨h,fun _=>rfl,fun a b=>absurd ⟨a,b⟩ J,fun _=>rfl⟩
 | bq _ _ ho=>cases ho
 | own b h1 U _ hl=>rw [I] at U; exact ⟨h,fun _=>rfl,fun _ _=>⟨rfl,by rw [hl]⟩,fun J=>absurd ⟨h1,U⟩ J⟩
 | read e b ε' h1 U _ hl hr =>
  rw [I] at U
  obtain ⟨k1,k2,k3,k4⟩:=hr.ec h hp
  exact ⟨k1,k2,fun a b=>by rw [hl]; exact k3 a b,fun J=>absurd ⟨h1,U⟩ J⟩
end Go.Proofs.YtconhghphklfjaaGreat.Am
namespace Go.Proofs.YtconhghphklfjaaGreat.Am
open Go
theorem yb : ∀(N:Nat) (l:List Int),l.Nodup→(∀n∈l,0≤n∧n<N)→l.length≤N:=by
 intro N
 induction N with
 | zero =>
  intro l _ h
  cases l with
  | nil=>exact Nat.le_refl _
  | cons n l=>have:=h n List.mem_cons_self; omega
 | succ N U =>
  intro l J h
  have h1:=U (l.erase (N:Int)) (J.erase _) fun n hn=>by
   have I:=(J.mem_erase_iff).1 hn
   have:=h n I.2
   have:=I.1
   omega
  have I:l.length≤(l.erase (N:Int)).length+1:=by
   rw [List.length_erase]; split <;> omega
  omega
structure NW (N:Nat)(now:List (Int×List Nat)): Prop where
 good:∀e∈now,bu e.2=true∧∀x∈e.2,x<256
 keys:∀k:Int,k∈now.map (·.1)→0≤k∧k<N
 nodup:(now.map (·.1)).Nodup
theorem NW.nil (N:Nat): NW N []:=⟨fun e h=>(by cases h),fun k h=>(by cases h),List.nodup_nil⟩
theorem vV {α:Type}{n:Int}{a:α}: ∀ {l:List (Int×α)} {e:Int×α},e∈cA n a l→e=(n,a)∨e∈l:=by
 intro l
 induction l with
 | nil=>intro e h; simp only [cA,List.mem_singleton] at h; exact .inl h
 | cons x l I =>
  intro e h
  simp only [cA] at h
  split at h
  ·rcases List.mem_cons.1 h with h | h
   ·exact .inl h
   ·exact .inr (List.mem_cons_of_mem _ h)
  ·rcases List.mem_cons.1 h with h | h
   ·exact .inr (by rw [h]; exact List.mem_cons_self)
   ·rcases I h with h | h
    ·exact .inl h
    ·exact .inr (List.mem_cons_of_mem _ h)
theorem NW.put {N:Nat}{now:List (Int×List Nat)}{n:Int}{b:List Nat}(h:NW N now)(J:0≤n)(U:n<N)(hg:bu b=true)(hb:∀x∈b,x<256): NW N (cA n b now):=by
 refine ⟨fun e he => ?_,fun k I => ?_,fQ h.nodup⟩
 ·rcases vV he with rfl | he
  ·exact ⟨hg,hb⟩
  ·exact h.good e he
 ·rcases lV.1 I with rfl | I
  ·exact ⟨J,U⟩
  ·exact h.keys k I
theorem NW.len {N:Nat}{now:List (Int×List Nat)}(h:NW N now): now.length≤N:=by
 have:=yb N _ h.nodup h.keys
 rwa [List.length_map] at this
theorem NW.look {N:Nat}{now:List (Int×List Nat)}(h:NW N now){n:Int}{b:List Nat}(I:lookL n now=some b): bu b=true∧∀x∈b,x<256:=h.good _ (fc I)
theorem oE.ec {N:Nat}{ε ε':aM}{now eY:List (Int×List Nat)}{n e:Int}{b:List Nat}(I:oE ε now false n b e eY ε')(h:EC N ε)(hp:∀f∈ε.1.ag,f.pins=0): EC N ε'∧(∀m,pgA ε' m=pgA ε m) ∧
  (¬(0≤n∧n<N)→e=1∧eY=now)∧(0≤n→n<N→bu b=false→e=4∧eY=now)∧(0≤n→n<N→bu b=true→e=0∧eY=cA n b now):=by
 cases I with
 | may e c ε' I he =>
  obtain ⟨k1,k2,k3,J⟩:=I.ec h hp
  exact ⟨k1,k2,fun U=>⟨J U,rfl⟩,fun a b _=>absurd (k3 a b).1 he,fun a b _=>absurd (k3 a b).1 he⟩
 | bad c ε' I hg =>
  obtain ⟨k1,k2,k3,J⟩:=I.ec h hp
  exact ⟨k1,k2,fun U=>absurd (J U) (by decide),fun _ _ _=>⟨rfl,rfl⟩,fun _ _ hq=>by rw [hg] at hq; cases hq⟩
 | done c ε' I hg =>
  obtain ⟨k1,k2,k3,J⟩:=I.ec h hp
  exact ⟨k1,k2,fun U=>absurd (J U) (by decide),fun _ _ hq=>(by rw [hg] at hq; cases hq),fun _ _ _=>⟨rfl,rfl⟩⟩
theorem iu.ec {N:Nat}{now:List (Int×List Nat)}{l:List Int}{ε ε':aM}{e:Int}{cs:List bV}(I:iu now l ε e cs ε'): EC N ε→ga ε→(∀n∈l,0≤n∧n<N)→EC N ε'∧(∀m,pgA ε' m=pgA ε m)∧e=0:=by
 induction I with
 | nil ε=>intro h _ _; exact ⟨h,fun _=>rfl,rfl⟩
 | err n l ε e b ε' I he =>
  intro h J U
  obtain ⟨k1,k2,k3,k4⟩:=I.ec h J.pins
  have:=U n List.mem_cons_self
  exact absurd (k3 this.1 this.2).1 he
 | part n l ε c8 b ε' c e cs mA I hb hd hc nW ht ih =>
  intro h J U
  obtain ⟨k1,k2,k3,k4⟩:=I.ec h J.pins
  obtain ⟨i1,i2,i3⟩:=ih k1 (I.kL J) fun m hm=>U m (List.mem_cons_of_mem _ hm)
  exact ⟨i1,fun m=>by rw [i2,k2],i3⟩
 | whole n l ε c8 b ε' e cs mA I hb hd ht ih =>
  intro h J U
  obtain ⟨k1,k2,k3,k4⟩:=I.ec h J.pins
  obtain ⟨i1,i2,i3⟩:=ih k1 (I.kL J) fun m hm=>U m (List.mem_cons_of_mem _ hm)
  exact ⟨i1,fun m=>by rw [i2,k2],i3⟩
theorem EC.log {N:Nat}{ε:aM}{x:LD}(h:EC N ε)(k:DK ε.2.2 x.2): EC N (ε.1,x)∧∀m,pgA (ε.1,x) m=pgA ε m:=by
 refine ⟨⟨h.dk.of k,h.nodup,h.jy,fun i f J => ?_,h.uE,h.A2⟩,fun m => ?_⟩
 ·rcases h.back i f J with I | I
  ·exact .inl I
  ·exact .inr ⟨I.lt,I.here,I.aK,fun U=>by rw [k.at]; exact I.same U,I.lK⟩
 ·unfold pgA
  simp only [k.at]
theorem EC.put {N:Nat}{ε:aM}{n:Int}{i:Nat}{f:Fm}{b:List Nat}{aD:Nat}(h:EC N ε)(hl:lookL n ε.1.aZ=some (i:Int))(U:ε.1.ag[i]?=some f)(hg:bu b=true)(hb:∀x∈b,x<256)(h0:0≤n)(h1:n<N):
  EC N (uC ε.1 n i f b aD,ε.2)∧∀m,pgA (uC ε.1 n i f b aD,ε.2) m=if m=n then cj b aD else pgA ε m:=by
 obtain ⟨s1,s2,s3⟩:=ya (n:=aD) hg hb
 have hi:=(List.getElem?_eq_some_iff.1 U).1
 have hp:f.aO=n:=by
  obtain ⟨_,j,x,tD,J,si⟩:=h.jy n i hl
  have:i=j:=by omega
  subst this
  rw [U] at J
  rw [Option.some.inj J]; exact si
 have ho:=(h.back i f U).resolve_left (by omega)
 refine ⟨h.set (y:=ε.2.1) (δ:=ε.2.2) U rfl h.dk (.inr ⟨ho.lt,ho.here,s1,fun hq=>(by cases hq),fun _=>s2⟩) (fun _ _ _ _ _=>rfl) (fun k hk => ?_) (fQ h.A2),fun m => ?_⟩
 ·rcases lV.1 hk with rfl | hk
  ·exact ⟨h0,h1⟩
  ·exact h.uE k hk
 ·by_cases hm:m=n
  ·subst hm
   rw [if_pos rfl]
   exact kq (ε:=(uC ε.1 m i f b aD,ε.2)) hl (List.getElem?_set_self hi)
  ·rw [if_neg hm]
   rcases h.cases m with ⟨j,x,I,J,si,_,_,e2⟩ | ⟨I,e2⟩
   ·rw [e2]
    refine kq (ε:=(uC ε.1 n i f b aD,ε.2)) I ?_
    show (ε.1.ag.set i _)[j]?=some x
    rw [List.getElem?_set_ne]
    ·exact J
    ·rintro rfl
     rw [U] at J
     have:=Option.some.inj J
     subst this
     omega
   ·rw [e2]
    exact jz (ε:=(uC ε.1 n i f b aD,ε.2)) I
theorem mB.ec {N:Nat}{now:List (Int×List Nat)}{aD:Nat}{l:List Int}{ε ε':aM}{e:Int}(I:mB now aD l ε e ε'): EC N ε→ga ε→NW N now→(∀n∈l,0≤n∧n<N)→EC N ε'∧e=0 ∧
  ∀m,pgA ε' m=if m∈l then (match lookL m now with | some b=>cj b aD | none=>pgA ε m) else pgA ε m:=by
 induction I with
 | nil ε=>intro h _ _ _; exact ⟨h,rfl,fun m=>by rw [if_neg (by simp)]⟩
 | gS n l ε e b ε' I he =>
  intro h U hn hl
  have:=hl n List.mem_cons_self
  exact absurd ((I.ec h).2.2.1 this.1 this.2).1 he
 | bad n l ε b0 b ε' I hb he =>
  intro h U hn hl
  exact absurd ((I.put (b:=b) (aD:=aD) U).2.2 (hn.look hb).1) he
 | put n l ε b0 b ε' e mA I hb he ht ih =>
  intro h U hn hl
  have GZ:=hl n List.mem_cons_self
  obtain ⟨k1,k2,k3,k4⟩:=I.ec h
  obtain ⟨i,f,p1,p2,p3,p4,p5⟩:=I.at U.pins
  have hg:=hn.look hb
  have e1:=vS (aD:=aD) p1 p2 p3 hg.1
  obtain ⟨q1,q2⟩:=k1.put (aD:=aD) p1 p2 hg.1 hg.2 GZ.1 GZ.2
  have JE:=(I.put (b:=b) (aD:=aD) U).1
  rw [e1] at ih JE
  obtain ⟨i1,i2,i3⟩:=ih q1 JE hn fun m hm=>hl m (List.mem_cons_of_mem _ hm)
  refine ⟨i1,i2,fun m => ?_⟩
  rw [i3,q2]
  by_cases hm:m=n
  ·subst hm
   rw [if_pos rfl,if_pos (List.mem_cons_self)]
   split
   ·rw [hb]
   ·rw [hb]
  ·rw [if_neg hm,k2]
   by_cases J:m∈l
   ·rw [if_pos J,if_pos (List.mem_cons_of_mem _ J)]
   ·rw [if_neg J,if_neg (by simp [hm,J])]
end Go.Proofs.YtconhghphklfjaaGreat.Am
namespace Go.Proofs.YtconhghphklfjaaGreat.Am
open Go
structure EL (K:Nat)(x:LD): Prop where
 log:x.1.b=x.2.log
 cert:x.1.forced≤x.2.aT
 size:x.1.base+x.1.b.length≤K
theorem EL.force {K:Nat}{x:LD}{n:Nat}(h:EL K x): EL K (bD x n).2:=by
 unfold bD Dk.ct
 split
 ·exact h
 ·by_cases I:x.2.dead=true
  ·rw [if_pos I,if_pos (show (9:Int)≠0 by decide)]; exact h
  ·rw [if_neg I]
   by_cases J:x.2.aJ=0
   ·rw [if_pos J,if_pos (show (9:Int)≠0 by decide)]; exact ⟨h.log,h.cert,h.size⟩
   ·rw [if_neg J,if_neg (show ¬(0:Int)≠0 by decide)]; exact ⟨h.log,by show x.1.b.length≤x.2.log.length; rw [h.log]; exact Nat.le_refl _,h.size⟩
theorem EL.write {K:Nat}{x:LD}{n:Int}{b:List Nat}(h:EL K x): EL K (x.1,(x.2.bF n b).2):=by
 unfold Dk.bF
 split
 ·exact h
 ·split
  ·exact h
  ·split <;> exact ⟨h.log,h.cert,h.size⟩
theorem tc (K:Nat): gA (EL K):=⟨fun _ _ h=>h.force,fun _ _ _ h=>h.write⟩
theorem kM.el {K:Nat}{ε ε':aM}{now:List (Int×List Nat)}{bq:Bool}{n e:Int}{b:List Nat}(I:kM ε now bq n e b ε')(h:EL K ε.2): EL K ε'.2:=(tc K).AQ I h
theorem oE.el {K:Nat}{ε ε':aM}{now eY:List (Int×List Nat)}{bq:Bool}{n e:Int}{b:List Nat}(I:oE ε now bq n b e eY ε')(h:EL K ε.2): EL K ε'.2:=(tc K).Ko I h
theorem iu.el {K:Nat}{now:List (Int×List Nat)}{l:List Int}{ε ε':aM}{e:Int}{cs:List bV}(I:iu now l ε e cs ε')(h:EL K ε.2): EL K ε'.2:=(tc K).ch I h
theorem mB.el {K:Nat}{now:List (Int×List Nat)}{aD:Nat}{l:List Int}{ε ε':aM}{e:Int}(I:mB now aD l ε e ε')(h:EL K ε.2): EL K ε'.2:=(tc K).pt I h
structure EI (N B:Nat)(ε:aM): Prop where
 ok:ga ε
 ec:EC N ε
 el:EL (B*1048600) ε.2
 b8:b8 ε≤B*65536
theorem EI.more {N B:Nat}{ε:aM}(h:EI N B ε){I:Nat}(J:B≤I): EI N I ε :=
 ⟨h.ok,h.ec,⟨h.el.log,h.el.cert,Nat.le_trans h.el.size (Nat.mul_le_mul_right _ J)⟩,Nat.le_trans h.b8 (Nat.mul_le_mul_right _ J)⟩
theorem EI.AQ {N B:Nat}{ε ε':aM}{now:List (Int×List Nat)}{n e:Int}{b:List Nat}(h:EI N B ε)(I:kM ε now false n e b ε'): EI N B ε' :=
 ⟨I.kL h.ok,(I.ec h.ec h.ok.pins).1,I.el h.el,Nat.le_trans I.b8 h.b8⟩
theorem EI.Ko {N B:Nat}{ε ε':aM}{now eY:List (Int×List Nat)}{n e:Int}{b:List Nat}(h:EI N B ε)(I:oE ε now false n b e eY ε'): EI N B ε' :=
 ⟨I.kL h.ok,(I.ec h.ec h.ok.pins).1,I.el h.el,Nat.le_trans I.b8 h.b8⟩
theorem EI.many {N B:Nat}{ε:aM}(h:EI N B ε): N≤65536:=by
 have:=h.ok.ok.dk.many
 rwa [h.ec.dk.aj] at this
theorem EI.app {N B:Nat}{ε:aM}{kd:Int}{tx pv nx:Nat}{data:List Nat}{c:List bV}(h:EI N B ε)(hB:B≤1000)(hg:cx kd c=true):
  EI N (B+1) (ε.1,(aS ε.2 kd tx pv nx data c).2)∧(∀m,pgA (ε.1,(aS ε.2 kd tx pv nx data c).2) m=pgA ε m) ∧
  (((aS ε.2 kd tx pv nx data c).1.2=0∧aS ε.2 kd tx pv nx data c=((ε.2.1.base+ε.2.1.b.length,0),(ε.2.1.app (cK ε.2.1 kd tx pv nx data c),{ ε.2.2 with log:=ε.2.2.log++cK ε.2.1 kd tx pv nx data c }))) ∨
   (aS ε.2 kd tx pv nx data c).1.2=7∨((aS ε.2 kd tx pv nx data c).1.2=2∧1048576<(cy kd tx pv nx data c).length)):=by
 have hs:=h.el.size
 have I:=tW (kd:=kd) (tx:=tx) (pv:=pv) (nx:=nx) (data:=data) (c:=c) h.ok.ok.lg h.ok.ok.dk h.el.log (by omega)
 have Eo:Am.b8 (ε.1,(aS ε.2 kd tx pv nx data c).2)≤(B+1)*65536:=by
  have e:Am.b8 (ε.1,(aS ε.2 kd tx pv nx data c).2)=Am.b8 ε:=by simp only [Am.b8,I.2.2.2.2.2.1]
  rw [e]
  exact Nat.le_trans h.b8 (Nat.mul_le_mul_right _ (Nat.le_succ B))
 have ee:(aS ε.2 kd tx pv nx data c).2.1.base+(aS ε.2 kd tx pv nx data c).2.1.b.length≤(B+1)*1048600:=by
  have h1:=I.2.2.2.1
  have h2:=I.2.2.2.2.1
  omega
 have main:∀(hk:DK ε.2.2 (aS ε.2 kd tx pv nx data c).2.2) (hc:(aS ε.2 kd tx pv nx data c).2.1.forced≤(aS ε.2 kd tx pv nx data c).2.2.aT),EI N (B+1) (ε.1,(aS ε.2 kd tx pv nx data c).2)∧∀m,pgA (ε.1,(aS ε.2 kd tx pv nx data c).2) m=pgA ε m:=fun hk hc=>by
  obtain ⟨l1,l2⟩:=h.ec.log hk
  exact ⟨⟨⟨⟨h.ok.ok.pl,I.1,I.2.1⟩,h.ok.pins,h.ok.full⟩,l1,⟨I.2.2.1,hc,ee⟩,Eo⟩,l2⟩
 rcases jL ε.2 kd tx pv nx data c with ⟨e,he,hc,J⟩ | ⟨hd,hf,J⟩ | ⟨_,_,hd,gV,hf,J⟩
 ·obtain ⟨m1,m2⟩:=main (by rw [J]; exact DK.refl _) (by rw [J]; exact h.el.cert)
  refine ⟨m1,m2,.inr ?_⟩
  rw [J]
  rcases hc with ⟨_,U⟩ | ⟨rfl,U⟩ | ⟨_,U⟩ | ⟨rfl,U⟩
  ·rw [hg] at U; cases U
  ·exact .inr ⟨rfl,U⟩
  ·rw [h.ec.dk.alive] at U; cases U
  ·exact .inl rfl
 ·have:=h.ec.dk.aJ; omega
 ·rw [j7 h.ec.dk.aJ] at J
  obtain ⟨m1,m2⟩:=main (by rw [J]; exact ⟨rfl,rfl,rfl,rfl⟩) (by rw [J]; exact h.el.cert)
  exact ⟨m1,m2,.inl ⟨by rw [J],J⟩⟩
theorem EI.done {N B:Nat}{ε ε':aM}{now:List (Int×List Nat)}{kd:Int}{tx pv nx aD:Nat}{data:List Nat}{e:Int}{cl:Bool}(h:EI N B ε)(hB:B≤1000)(hn:NW N now)(h1:1≤kd)(h2:kd≤7)(hr:pH ε now kd tx pv nx data 0 aD e cl ε'):
  (cl=false∧(e=7∨e=2)∧EI N (B+2) ε'∧∀m,pgA ε' m=pgA ε m) ∨
  (cl=true∧e=0∧EI N (B+2) ε'∧∀m,pgA ε' m=match lookL m now with | some b=>cj b aD | none=>pgA ε m):=by
 have I:∀n∈ck now,0≤n∧n<N:=fun n U=>hn.keys n (oz.1 U)
 have hN:=h.many
 have gV:∀ {c:List bV} {ε':aM} {e:Int},iu now (ck now) ε e c ε'→cx kd c=true:=fun J=>by
  refine AO ⟨h1,by omega⟩ (J.fit (fun x hx=>fJ (hn.good x hx).1) fun n U => ?_)
  have:=I n U
  omega
 cases hr with
 | arg U=>omega
 | dead _ _ _ hd=>rw [h.ec.dk.alive] at hd; cases hd
 | lK e c ε' _ _ _ hd J he=>exact absurd (J.ec h.ec h.ok I).2.2 he
 | app c ε' _ _ _ hd J he =>
  obtain ⟨c1,c2,c3⟩:=J.ec h.ec h.ok I
  have hi:EI N B ε':=⟨J.kL h.ok,c1,J.el h.el,Nat.le_trans J.b8 h.b8⟩
  obtain ⟨a1,a2,a3⟩:=hi.app (kd:=kd) (tx:=tx) (pv:=pv) (nx:=nx) (data:=data) (c:=c) hB (gV J)
  refine .inl ⟨rfl,?_,a1.more (by omega),fun m=>by rw [a2,c2]⟩
  rcases a3 with a3 | a3 | a3
  ·exact absurd a3.1 he
  ·exact .inl a3
  ·exact .inr a3.1
 | put c ε' e mA _ _ _ hd J ha hp =>
  obtain ⟨c1,c2,c3⟩:=J.ec h.ec h.ok I
  have hi:EI N B ε':=⟨J.kL h.ok,c1,J.el h.el,Nat.le_trans J.b8 h.b8⟩
  obtain ⟨a1,a2,a3⟩:=hi.app (kd:=kd) (tx:=tx) (pv:=pv) (nx:=nx) (data:=data) (c:=c) hB (gV J)
  obtain ⟨p1,p2,p3⟩:=hp.ec a1.ec a1.ok hn I
  have hl:(ck now).length≤N:=by
   have:=hn.len
   rw [ck,(en _).length_eq,List.length_map]; exact this
  have Qj:=hp.b8 a1.ok
  have JL:=a1.b8
  refine .inr ⟨rfl,p2,⟨hp.kL a1.ok,p1,?_,by omega⟩,fun m => ?_⟩
  ·have:=hp.el a1.el
   exact ⟨this.log,this.cert,Nat.le_trans this.size (Nat.mul_le_mul_right _ (by omega))⟩
  ·rw [if_pos p2,p3]
   by_cases hm:m∈ck now
   ·rw [if_pos hm]
    cases U:lookL m now with
    | some b=>rfl
    | none=>exact absurd (oz.1 hm) (jI.1 U)
   ·rw [if_neg hm,a2,c2]
    have:lookL m now=none:=jI.2 fun U=>hm (oz.2 U)
    rw [this]
end Go.Proofs.YtconhghphklfjaaGreat.Am
