/- AtomSame: a part of its proof; conditions: its statement's. -/
import Derived.Test.YtconhghphklfjaaGreatS33
set_option linter.defProp false
namespace Go.Proofs.YtconhghphklfjaaGreat.Am
open Go
def oz:=@Tryz.underlying57
def CW:=@Tryz.underlying60
def eo (l:List (List Nat)): List V:=l.map V.str
theorem j_ (l:List (List Nat)): (eo l).length=l.length:=by simp [eo]
theorem E_ {l:List (List Nat)}{i:Nat}{w:List Nat}(h:l[i]?=some w): (eo l)[i]?=some (.str w):=by simp [eo,h]
def kK (ε:aM)(ps:List (List Nat)): Prop:=∀(n:Nat) (w:List Nat),ps[n]?=some w→jO (pgA ε n)=w
theorem kK.of {ε ε':aM}{ps:List (List Nat)}(h:kK ε ps)(I:∀m,0≤m→pgA ε' m=pgA ε m): kK ε' ps:=fun n w J=>by rw [I _ (by omega)]; exact h n w J
theorem EI.reads {N B:Nat}{ε ε':aM}{n e:Int}{b w:List Nat}(h:EI N B ε)(I:mD ε n e b ε')(J:0≤n)(U:n<N)(hw:jO (pgA ε n)=w): m7 e b w=true∧EI N B ε'∧∀m,pgA ε' m=pgA ε m:=by
 obtain ⟨k1,k2,k3,k4⟩:=I.ec h.ec h.ok.pins
 obtain ⟨rfl,rfl⟩:=k3 J U
 refine ⟨?_,h.rd I,k2⟩
 have hc:=h.ec.aD J U
 rw [m7,dN hw,show decide (dI (pgA ε n)≠4)=true from dN (by rw [hc]; decide)]
 rfl
theorem LS {b:List Nat}(h:bU b=true): jO b=b.drop 12∧dI b≠4:=by
 have J:=fq h
 have U:bU (List.replicate 512 0)=false:=by decide +kernel
 have I:b≠List.replicate 512 0:=fun e=>by rw [e,U] at h; cases h
 refine ⟨by rw [jO,af (by rintro (q | q); exact q J; exact I q)],?_⟩
 rw [dI,af I,af (by rw [h]; decide)]
 split <;> decide
def j7 (k:Nat)(v:V)(cs:List V): ax:=.xs fun o:Option (Nat×Nat×Nat)=>match o with
 | none=>.pu ((v=.bA∨∃a,v=.sle a)∧cs=[])
 | some (id,len,cap)=>.an (.ro id (.cells cs.length cs true)) (.pu (v=.sl id 0 len (.exact cap)∧cs.length=len*k))
theorem aE.j7 (k:Nat)(v:V)(cs:List V): aE (Am.j7 k v cs):=aE.xs fun o=>by
 cases o with
 | none=>exact aE.pu _
 | some x=>exact aE.an (aE.ro _ _) (aE.pu _)
section
variable {P:Program} {h:H} {S:List ax} {k j:Nat} {v:V} {cs:List V}
theorem Sat.rowAt (s:Sat h S)(J:getA S j=some (j7 k v cs)): ((v=.bA∨∃a,v=.sle a)∧cs=[])∨∃id len cap,v=.sl id 0 len (.exact cap)∧cs.length=len*k∧T.get h.tr id=some (.cells cs.length cs true):=by
 obtain ⟨m,r,h1,U,o,I⟩:=s.at J
 cases o with
 | none=>exact .inl I
 | some x=>exact .inr ⟨x.1,x.2.1,x.2.2,I.2.1,I.2.2,U _ _ I.1⟩
theorem Sat.zB {n:Nat}{t e:TypeId}(s:Sat h S)(J:getA S j=some (j7 k v cs))(I:cs.length=n*k)(hk:1≤k)(hu:P.underlying t=some (.slice e)): lenV P h t v=some (.int .i64 n):=by
 rcases s.rowAt J with ⟨U,rfl⟩ | ⟨id,len,cap,rfl,hl,_⟩
 ·have:n=0:=by
   cases n with
   | zero=>rfl
   | succ n=>simp only [bY,ir,vB] at I; omega
  subst this
  rcases U with rfl | ⟨a,rfl⟩
  ·exact SQ hu
  ·simp only [lenV,hu]; rfl
 ·have:n=len:=by
   rw [hl] at I
   exact (Jv (by omega) I).symm
  subst this
  exact GA hu
theorem Sat.Xx {t e:TypeId}{i:Nat}(s:Sat h S)(J:getA S j=some (j7 k v cs))(hi:i*k+k≤cs.length)(U:1≤k)(hu:P.underlying t=some (.slice e))(I:bF P e=some k)(ha:cj P e=some true):
  ∃id off,indexAddrV P t v (.int .i64 (i:Int))=some (.ptr id off)∧loadV P h e (.ptr id off)=some (.agg ((cs.drop (i*k)).take k)):=by
 rcases s.rowAt J with ⟨_,rfl⟩ | ⟨id,len,cap,rfl,hl,hg⟩
 ·simp at hi; omega
 ·refine ⟨id,i*k,?_,RM ha I hg rfl hi⟩
  simp only [indexAddrV,hu,I,cQ]
  have:i<len:=by
   have h4:i*k+k=(i+1)*k:=by rw [ir,vB]
   rw [h4,hl] at hi
   exact Dn (Da hi U)
  rw [show (decide ((0:Int)≤(i:Int))&&decide ((i:Int)<(len:Int)))=true by simp; omega,ah]
  simp
theorem Sat.Z7 (s:Sat h S)(I:getA S j=some (j7 k v cs)): v.cells=[v]∧storable v=true∧v.beq v=true:=by
 rcases s.rowAt I with ⟨rfl | ⟨a,rfl⟩,_⟩ | ⟨id,len,cap,rfl,_⟩
 ·exact ⟨rfl,rfl,rfl⟩
 ·exact ⟨rfl,rfl,by simp [V.beq]⟩
 ·exact ⟨rfl,rfl,Cb _ _ _ _⟩
end
def n4 : List V→List (Int×List Nat)→ax
 | [],[]=>.pu True
 | a::v::l,x::m=>.an (.an (.pu (a=.int .i64 x.1)) (.ct v x.2)) (n4 l m)
 | _,_=>.pu False
theorem aE.n4 : ∀(m:List (Int×List Nat)) (l:List V),aE (Am.n4 l m):=by
 intro m
 induction m with
 | nil=>intro l; rcases l with _ | ⟨a,_ | ⟨b,l⟩⟩ <;> exact aE.pu _
 | cons x m I=>intro l; rcases l with _ | ⟨a,_ | ⟨b,l⟩⟩ <;> first | exact aE.pu _ | exact aE.an (aE.an (aE.pu _) (aE.ct _ _)) (I l)
theorem TM {a b:PM}: ∀ {m:List (Int×List Nat)} {l:List V},(n4 l m).p a b→l.length=m.length*2:=by
 intro m
 induction m with
 | nil=>intro l h; rcases l with _ | ⟨x,_ | ⟨y,l⟩⟩ <;> first | rfl | exact h.elim
 | cons x m I=>intro l h; rcases l with _ | ⟨x,_ | ⟨y,l⟩⟩ <;> first | exact h.elim | (have:=I h.2; simp only [bj]; omega)
theorem Km {a b:PM}: ∀ {m:List (Int×List Nat)} {l:List V} {i:Nat} {x:Int×List Nat},(n4 l m).p a b→m[i]?=some x→∃u,(l.drop (i*2)).take 2=[.int .i64 x.1,u]∧(ax.ct u x.2).p a b:=by
 intro m
 induction m with
 | nil=>intro l i x h I; simp at I
 | cons y m J =>
  intro l i x h I
  rcases l with _ | ⟨p,_ | ⟨q,l⟩⟩
  ·exact h.elim
  ·exact h.elim
  ·cases i with
   | zero =>
    simp at I; subst I
    exact ⟨q,by rw [show p=.int .i64 y.1 from h.1.1]; rfl,h.1.2⟩
   | succ i =>
    rw [kg] at I
    obtain ⟨u,U,h2⟩:=J h.2 I
    exact ⟨u,by rw [show (i+1)*2=i*2+2 by omega]; exact U,h2⟩
structure iC where
 act:Int
 cS:Int
 w:List (Int×List Nat)
 data:List Nat
def nX (wv dv:V)(D:iC): ax:=.an (.xs fun cs:List V=>.an (j7 2 wv cs) (n4 cs D.w)) (.ct dv D.data)
theorem aE.nX (wv dv:V)(D:iC): aE (Am.nX wv dv D):=aE.an (aE.xs fun _=>aE.an (aE.j7 _ _ _) (aE.n4 _ _)) (aE.ct _ _)
def jW : List V→List iC→ax
 | [],[]=>.pu True
 | a::b::w::d::l,x::m=>.an (.an (.pu (a=.int .i64 x.act∧b=.int .i64 x.cS)) (nX w d x)) (jW l m)
 | _,_=>.pu False
theorem aE.jW : ∀(m:List iC) (l:List V),aE (Am.jW l m):=by
 intro m
 induction m with
 | nil=>intro l; rcases l with _ | ⟨a,_ | ⟨b,_ | ⟨c,_ | ⟨d,l⟩⟩⟩⟩ <;> exact aE.pu _
 | cons x m I=>intro l; rcases l with _ | ⟨a,_ | ⟨b,_ | ⟨c,_ | ⟨d,l⟩⟩⟩⟩ <;> first | exact aE.pu _ | exact aE.an (aE.an (aE.pu _) (aE.nX _ _ _)) (I l)
theorem LU {a b:PM}: ∀ {m:List iC} {l:List V},(jW l m).p a b→l.length=m.length*4:=by
 intro m
 induction m with
 | nil=>intro l h; rcases l with _ | ⟨x,_ | ⟨y,_ | ⟨z,_ | ⟨u,l⟩⟩⟩⟩ <;> first | rfl | exact h.elim
 | cons x m I=>intro l h; rcases l with _ | ⟨x,_ | ⟨y,_ | ⟨z,_ | ⟨u,l⟩⟩⟩⟩ <;> first | exact h.elim | (have:=I h.2; simp only [bj]; omega)
theorem CX {a b:PM}: ∀ {m:List iC} {l:List V} {i:Nat} {x:iC},(jW l m).p a b→m[i]?=some x→∃w d,(l.drop (i*4)).take 4=[.int .i64 x.act,.int .i64 x.cS,w,d]∧(nX w d x).p a b:=by
 intro m
 induction m with
 | nil=>intro l i x h I; simp at I
 | cons y m J =>
  intro l i x h I
  rcases l with _ | ⟨p,_ | ⟨q,_ | ⟨w,_ | ⟨d,l⟩⟩⟩⟩
  ·exact h.elim
  ·exact h.elim
  ·exact h.elim
  ·exact h.elim
  ·cases i with
   | zero =>
    simp at I; subst I
    exact ⟨w,d,by rw [show p=.int .i64 y.act from h.1.1.1,show q=.int .i64 y.cS from h.1.1.2]; rfl,h.1.2⟩
   | succ i =>
    rw [kg] at I
    obtain ⟨u,v,U,h2⟩:=J h.2 I
    exact ⟨u,v,by rw [show (i+1)*4=i*4+4 by omega]; exact U,h2⟩
section
variable {told:dF} {h:H} {S:List ax} {X:ax} {r k q p a g aD N B:Nat} {op v x pv:V} {l data:List Nat} {ε:aM} {ps:List (List Nat)}
noncomputable def smL : Code:=cJ [1,0,1,0,0] ((Tryz.f29.body).getD .skip)
theorem Ot (hT:W told)(hN:ps.length=N)(hN2:N≤65536)(hB:B≤2000): ∀(j i:Nat) (ε:aM) (h:H) (E:List (Nat×V)) (Q:Ex→List (Nat×V)→H→Prop),i+j=N→EI N B ε→kK ε ps →
  Sat h (cx a p q r op data aD::bZ r p q ε.1::bf q p ε.2.1::aC p ε.2.2::.arr 1 pv (eo ps)::S)→Has E [(0,.ptr a 0),(1,pv),(5,.int .i64 (i:Int))] →
  (∀ε' E' h',EI N B ε'→((∀m,pgA ε' m=pgA ε m)∧∀P:VP,jR N P→vw P ε→vw P ε')→Sat h' (cx a p q r op data aD::bZ r p q ε'.1::bf q p ε'.2.1::aC p ε'.2.2::.arr 1 pv (eo ps)::S)→Q (.exit 0) E' h') →
  WP ⟨Tryz.prog,told⟩ 21 (.loop smL) E h Q:=by
 intro j
 induction j with
 | zero =>
  intro i ε h E Q hi I U s hE hx
  refine WP.loop (WP.has hE (zK 5 rfl (zo rfl (a_ rfl rfl rfl (s.iH (n:=N) (j:=4) rfl (by rw [j_,hN,dO]) (by decide) oz)) ?_)))
  refine zh rfl (ag rfl rfl bx) (by simp <;> omega) ?_
  exact zk 2 rfl (WP.exit (hx ε _ _ I ⟨fun _=>rfl,fun _ _ hv=>hv⟩ s))
 | succ j ih =>
  intro i ε h E Q hi I U s hE hx
  have hw:ps[i]?=some (ps[i]'(by omega)):=bg _
  generalize (ps[i]'(by omega))=w at hw
  obtain ⟨id,off,e1,e2⟩:=kR (P:=Tryz.prog) s (k:=4) rfl (E_ hw) oz Rz
  have zy:=I.cu
  have J6:=mH (ε:=ε)
  refine WP.loop (WP.has hE (zK 5 rfl (zo rfl (a_ rfl rfl rfl (s.iH (n:=N) (j:=4) rfl (by rw [j_,hN,dO]) (by decide) oz)) ?_)))
  refine zt rfl (ag rfl rfl bx) (by simp <;> omega) ?_
  refine zk 4 rfl (WP.block (zK 3 rfl (zo rfl (K7 rfl (GB y8 rfl)) (zk 3 rfl (zo rfl (dG (r:=.ptr id off) rfl rfl e1) (zl rfl (e2 _ Ye) (zc rfl (TD (n:=(i:Int)) (w:=w) hT s I.ok (by omega)) ?_)))))))
  rintro v h ⟨e,b,ε',hr,rfl,s⟩
  obtain ⟨r1,r2,r3⟩:=I.reads hr (by omega) (by omega) (U i w hw)
  rw [r1]
  refine zh rfl (dA rfl rfl) (rfl) (zv (zj rfl (WP.skip (zr rfl (zm rfl (zb rfl (by exact bO (aT (by omega) (by omega))) ?_))))))
  refine za rfl (zv ?_)
  exact ih (i+1) ε' _ _ Q (by omega) r2 (U.of fun m _=>r3 m) s ⟨rfl,rfl,rfl,aa⟩ fun J E' h' g1 g2 g3=>hx J E' h' g1 ⟨fun m=>by rw [g2.1,r3],fun P hP hv=>g2.2 P hP (hP.rd hr I.ec hv)⟩ g3
theorem Ef (U:W told)(hN:ps.length=N)(I:N≤65536)(hB:B≤2000)(J:EI N B ε)(hp:kK ε ps)(s:Sat h (cx a p q r op data aD::bZ r p q ε.1::bf q p ε.2.1::aC p ε.2.2::.arr 1 pv (eo ps)::S)):
  Call ⟨Tryz.prog,told⟩ 29 [.ptr a 0,pv] h fun v h'=>v=.bool true∧∃ε',EI N B ε'∧((∀m,pgA ε' m=pgA ε m)∧∀P:VP,jR N P→vw P ε→vw P ε') ∧
   Sat h' (cx a p q r op data aD::bZ r p q ε'.1::bf q p ε'.2.1::aC p ε'.2.2::.arr 1 pv (eo ps)::S):=by
 refine Call.of_wp (U.free _ rfl) Tryz.func29 rfl rfl (zK 9 rfl (WP.block ?_))
 refine Ot U hN I hB N 0 ε _ _ _ (by omega) J hp s ⟨rfl,rfl,rfl,aa⟩ (fun ε' E' h' g1 g2 s' => ?_)
 have s:=s'
 exact WP.has (F:=[]) aa (zK 4 rfl (WP.ret ⟨aa,_,rfl,rfl,ε',g1,g2,s⟩))
end
theorem Xy {h:H}{S:List ax}{cs:List V}{m:List (Int×List Nat)}{i:Nat}{x:Int×List Nat}(s:Sat h (n4 cs m::S))(U:m[i]?=some x):
  ∃u,(cs.drop (i*2)).take 2=[.int .i64 x.1,u]∧u.cells=[u]∧storable u=true∧u.beq u=true∧(∀b∈x.2,b<256)∧Sat h (.ct u x.2::n4 cs m::S):=by
 obtain ⟨a,b,q1,q2,q3⟩:=s.at (k:=0) rfl
 obtain ⟨u,e1,e2⟩:=Km q3 U
 have s3:=(s.dup (aE.n4 _ _)).ga (B:=.ct u x.2) fun a b h=>by
  obtain ⟨u',I,J⟩:=Km h U
  rw [e1] at I
  injection I with _ I
  injection I with I _
  subst I
  exact J
 have hu:=(s3.aG (k:=0) rfl (cL _ _))
 exact ⟨u,e1,hu.cells.1,hu.cells.2,cY hu,hu.1,s3⟩
theorem Ou {h:H}{S:List ax}{cs:List V}{m:List (Int×List Nat)}{k:Nat}(s:Sat h S)(I:getA S k=some (n4 cs m)): cs.length=m.length*2:=by
 obtain ⟨a,b,U,q2,J⟩:=s.at I
 exact TM J
structure NX (N:Nat)(ps:List (List Nat))(now:List (Int×List Nat))(nx:List (List Nat)): Prop where
 len:nx.length=N
 old:ps.length=N
 is:∀(n:Nat) (w:List Nat),nx[n]?=some w→(match lookL (n:Int) now with | some b=>w=b.drop 12 | none=>ps[n]?=some w)
theorem NX.put {N:Nat}{ps nx:List (List Nat)}{now:List (Int×List Nat)}{n:Nat}{b:List Nat}(h:NX N ps now nx)(I:n<N): NX N ps (cK (n:Int) b now) (nx.set n (b.drop 12)):=by
 refine ⟨by rw [dn]; exact h.len,h.old,fun m w hm => ?_⟩
 rw [gM]
 by_cases e:(n:Int)=(m:Int)
 ·have:n=m:=by omega
  subst this
  rw [aj rfl]
  rw [iL (by rw [h.len]; exact I)] at hm
  exact (bt hm).symm
 ·rw [af e]
  rw [iM (by omega)] at hm
  exact h.is m w hm
section
variable {told:dF} {h:H} {S:List ax} {X:ax} {r k q p a g aD N B:Nat} {op v x pv wv dv:V} {l data:List Nat} {ε:aM} {ps:List (List Nat)}
def okW (N:Nat)(x:Int×List Nat): Prop:=0≤x.1∧x.1<N∧bU x.2=true
instance (N:Nat) (x:Int×List Nat):Decidable (okW N x):=by unfold okW; infer_instance
def nxW (N:Nat): List (Int×List Nat)→List (List Nat)→List (List Nat)
 | [],nx=>nx
 | x::l,nx=>nxW N l (if okW N x then nx.set x.1.toNat (x.2.drop 12) else nx)
def nowW (N:Nat): List (Int×List Nat)→List (Int×List Nat)→List (Int×List Nat)
 | [],now=>now
 | x::l,now=>nowW N l (if okW N x then cK x.1 x.2 now else now)
theorem TN {P:Program}{n:Nat}{v:V}{l:List (List Nat)}{w:List Nat}{t J:TypeId}(s:Sat h (.arr 1 v (eo l)::S))(hn:n<l.length)(hu:P.underlying t=some (.slice J))(I:bF P J=some 1):
  ∃id off h',indexAddrV P t v (.int .i64 (n:Int))=some (.ptr id off)∧gP P h J (.ptr id off) (.str w)=some h'∧Sat h' (.arr 1 v (eo (l.set n w))::S):=by
 have U:eo l≠[]:=fun e=>by have:=ja List.length e; rw [j_,bY] at this; omega
 have gn:=s.Lj (j:=0) rfl
 obtain ⟨id,m,cap,M,rest,rfl,hl,hM,s1,hc⟩:=s.SW U
 rw [j_,dO] at hl
 obtain ⟨h',e1,e2⟩:=s1.dZ (P:=P) (t:=J) (k:=0) (off:=n) (v:=.str w) rfl I (by rw [bC,hM]) (by rw [hM,j_]; omega) rfl rfl
 refine ⟨id,n,h',?_,e1,hc h' (eo (l.set n w)) S ?_ ?_ ?_⟩
 ·simp only [indexAddrV,hu,I,cQ]
  rw [show (decide ((0:Int)≤(n:Int))&&decide ((n:Int)<(m:Int)))=true by simp; omega,ah]
  simp
 ·rw [j_,j_,dn]
 ·rw [oY]; intro v hv; obtain ⟨x,_,rfl⟩:=List.mem_map.1 hv; rfl
 ·have e3:(eo l++rest).set n (.str w)=eo (l.set n w)++rest:=by
   rw [List.set_append_left _ _ (by rw [j_]; exact hn)]
   simp [eo,List.map_set]
  dsimp only [setA] at e2
  rw [e3] at e2
  exact e2
noncomputable def YP : Code:=cJ [1,1,1,1,1,0,1,0,0] ((Tryz.f28.body).getD .skip)
theorem Ov (hT:W told){p5:Nat}{cs:List V}{D:iC}(hN2:N≤65536)(hB:B≤2000)(hD:D.w.length≤1048576∧∀x∈D.w,x.2.length≤1048576): ∀(j i:Nat) (ε:aM) (now:List (Int×List Nat)) (nx:List (List Nat)) (nv:V) (h:H) (E:List (Nat×V)) (Q:Ex→List (Nat×V)→H→Prop),i+j=D.w.length→EI N B ε→NW N now→NX N ps now nx →
  Sat h (gK g a now false::cx a p q r (.ptr g 0) data aD::bZ r p q ε.1::bf q p ε.2.1::aC p ε.2.2::.arr 1 nv (eo nx)::.arr 1 pv (eo ps)::pt p5 (.cells 4 [.int .i64 D.act,.int .i64 D.cS,wv,dv] false)::j7 2 wv cs::n4 cs D.w::S) →
  Has E [(0,.ptr a 0),(1,pv),(5,.ptr p5 0),(18,.ptr g 0),(20,nv),(21,.int .i64 (i:Int))] →
  (∀ε' gL Bd E' h',EI N B ε'→(∀m,pgA ε' m=pgA ε m)→NW N gL→NX N ps gL Bd→(Bd=nxW N (D.w.drop i) nx∧gL=nowW N (D.w.drop i) now∧∀P:VP,jR N P→vw P ε→vw P ε')→Has E' [(0,.ptr a 0),(1,pv),(5,.ptr p5 0),(18,.ptr g 0),(20,nv)] →
   Sat h' (gK g a gL false::cx a p q r (.ptr g 0) data aD::bZ r p q ε'.1::bf q p ε'.2.1::aC p ε'.2.2::.arr 1 nv (eo Bd)::.arr 1 pv (eo ps)::pt p5 (.cells 4 [.int .i64 D.act,.int .i64 D.cS,wv,dv] false)::j7 2 wv cs::n4 cs D.w::S)→Q (.exit 1) E' h') →
  WP ⟨Tryz.prog,told⟩ 262 (.loop YP) E h Q:=by
 intro j
 induction j with
 | zero =>
  intro i ε now nx nv h E Q hi rf hw hx s hE hq
  have hlen:=Ou s (k:=9) rfl
  refine WP.loop (WP.has hE (zK 4 rfl (zf rfl (GF _ _) (zl rfl (s.ld (k:=7) rfl PA rfl) (zo rfl (a_ rfl rfl rfl (s.zB (n:=D.w.length) (j:=8) rfl hlen (by decide) CW)) ?_)))))
  refine zh rfl (ag rfl rfl bx) (by simp <;> omega) ?_
  exact zk 2 rfl (WP.exit (hq ε now nx _ _ rf (fun _=>rfl) hw hx (by rw [sK (by omega)]; exact ⟨rfl,rfl,fun _ _ h=>h⟩) ⟨rfl,rfl,rfl,rfl,rfl,aa⟩ s))
 | succ j ih =>
  intro i ε now nx nv h E Q hi rf hw hx s hE hq
  have hlen:=Ou s (k:=9) rfl
  have Fa:D.w[i]?=some (D.w[i]'(by omega)):=bg _
  generalize (D.w[i]'(by omega))=y at Fa
  obtain ⟨pg,b⟩:=y
  have lQ:D.w.drop i=(pg,b)::D.w.drop (i+1):=by
   obtain ⟨h1,h2⟩:=List.getElem?_eq_some_iff.1 Fa
   rw [kM h1,h2]
  have xD:b.length≤1048576:=hD.2 _ (bq Fa)
  obtain ⟨u,c1,u1,u2,u3,Xz,s⟩:=Xy (s.ae [9]) Fa
  dsimp only [bringA,getA,aU] at s
  obtain ⟨id,off,g1,g2⟩:=s.Xx (P:=Tryz.prog) (i:=i) (j:=10) rfl (by omega) (by decide) CW RF WT
  rw [c1] at g2
  have s:=s.ae [9,2,2,2,2,2,0,1,1,1,0]
  dsimp only [bringA,getA,aU] at s
  have nu:∀e∈now,e.2.length=512:=fun e he=>fq (hw.good e he).1
  have zy:=rf.cu
  have J6:=mH (ε:=ε)
  refine WP.loop (WP.has hE (zK 4 rfl (zf rfl (GF _ _) (zl rfl (s.ld (k:=0) rfl PA rfl) (zo rfl (a_ rfl rfl rfl (s.zB (n:=D.w.length) (j:=9) rfl hlen (by decide) CW)) ?_)))))
  refine zt rfl (ag rfl rfl bx) (by simp <;> omega) ?_
  refine zk 4 rfl (WP.block (zg rfl (zf rfl (GF _ _) (zl rfl (s.ld (k:=0) rfl PA rfl) (zm rfl (zo rfl (dG (r:=.ptr id off) rfl rfl g1) (zl rfl g2 ?_)))))))
  refine aB.cO s rfl rfl rfl (cH WU) (fun p22 h s => ?_)
  dsimp only [V.cells,List.length_cons,List.length_nil,Nat.reduceAdd] at s
  refine zS rfl (s.gX (j:=0) rfl RF rfl (by simp only [iZ,jH,u2]; rfl)) ?_
  intro h s
  dsimp only [setA] at s
  refine zk 4 rfl (zf rfl (tB _ _) (zl rfl (s.ld (k:=0) rfl c7 rfl) (zf rfl (Ar _ _) (zl rfl (s.ld (k:=0) rfl bL rfl) (zc rfl (NV (n:=pg) hT (s.ae [2,2,2,2,2,2]) (cL _ _) (by omega) rf.ok (by omega) nu) ?_)))))
  rintro v h ⟨e,gL,ε',hr,rfl,s⟩
  dsimp only [bringA,getA,aU] at s
  obtain ⟨k1,k2,k3,k4,k5⟩:=hr.ec rf.ec rf.ok.pins
  have J:=rf.N5 hr
  have next:∀(h:H) (E:List (Nat×V)) (Bd:List (List Nat)) (I:aM),EI N B I→(∀m,pgA I m=pgA ε' m)→NW N gL→NX N ps gL Bd→(Bd=(if okW N (pg,b) then nx.set pg.toNat (b.drop 12) else nx)∧gL=(if okW N (pg,b) then cK pg b now else now)∧∀P:VP,jR N P→vw P ε'→vw P I) →
    Sat h (gK g a gL false::cx a p q r (.ptr g 0) data aD::bZ r p q I.1::bf q p I.2.1::aC p I.2.2::.arr 1 nv (eo Bd)::.arr 1 pv (eo ps)::pt p5 (.cells 4 [.int .i64 D.act,.int .i64 D.cS,wv,dv] false)::j7 2 wv cs::n4 cs D.w::S) →
    Has E [(0,.ptr a 0),(1,pv),(5,.ptr p5 0),(18,.ptr g 0),(20,nv),(21,.int .i64 ((i:Int)+1))]→WP ⟨Tryz.prog,told⟩ 262 (.loop YP) E h Q:=fun h E Bd I a1 a2 a3 a4 a7 a5 a6 =>
   ih (i+1) I gL Bd nv h E Q (by omega) a1 a3 a4 a5 a6 fun Z8 Z9 nx3 E3 h3 b1 b2 b3 b4 b7 b5 b6=>hq Z8 Z9 nx3 E3 h3 b1 (fun m=>by rw [b2,a2,k2]) b3 b4
    ⟨by rw [lQ,nxW,←a7.1]; exact b7.1,by rw [lQ,nowW,←a7.2.1]; exact b7.2.1,fun R hR AQ=>b7.2.2 R hR (a7.2.2 R hR (hR.N5 hr rf.ec AQ))⟩ b5 b6
  have Rb:¬okW N (pg,b)→gL=now→nx=(if okW N (pg,b) then nx.set pg.toNat (b.drop 12) else nx)∧gL=(if okW N (pg,b) then cK pg b now else now)∧∀P:VP,jR N P→vw P ε'→vw P ε':=fun q U=>⟨(if_neg q).symm,by rw [af q,U],fun _ _ h=>h⟩
  refine zk 2 rfl (WP.block (zg rfl (zf rfl (tB _ _) (zl rfl (s.ld (k:=6) rfl c7 rfl) ?_))))
  by_cases abi:pg<0
  ·skip
   refine zt rfl (ag rfl rfl bx) (by simp; omega) ?_
   obtain ⟨rfl,U⟩:=k3 (by omega)
   have no:=Rb (fun q=>by have:=q.1; omega)
   refine zk 13 rfl (zh rfl (ag rfl rfl aX) (by simp) ?_)
   refine zk 4 rfl (zv (zj rfl (WP.skip (zr rfl (zm rfl (zb rfl (by exact bO (aT (by omega) (by omega))) ?_))))))
   refine za rfl (zv ?_)
   exact next _ _ nx ε' J (fun _=>rfl) (by rw [U]; exact hw) (by rw [U]; exact hx) (no U) (((s.ae [0,0,0,0,0,3,3,2,2,2]).del 11).del 10) ⟨rfl,rfl,rfl,rfl,rfl,rfl,aa⟩
  ·skip
   refine zh rfl (ag rfl rfl bx) (by simp; omega) ?_
   refine zm rfl (zf rfl (tB _ _) (zl rfl (s.ld (k:=6) rfl c7 rfl) (zm rfl (zo rfl (a_ rfl rfl rfl (s.iH (n:=N) (j:=9) rfl (by rw [j_,hx.old,dO]) (by decide) oz)) ?_))))
   by_cases D3:(N:Int)≤pg
   ·skip
    refine zt rfl (ag rfl rfl ng) (by simp; omega) ?_
    obtain ⟨rfl,U⟩:=k3 (by omega)
    have no:=Rb (fun q=>by have:=q.2.1; omega)
    refine zk 7 rfl (zh rfl (ag rfl rfl aX) (by simp) ?_)
    refine zk 4 rfl (zv (zj rfl (WP.skip (zr rfl (zm rfl (zb rfl (by exact bO (aT (by omega) (by omega))) ?_))))))
    refine za rfl (zv ?_)
    exact next _ _ nx ε' J (fun _=>rfl) (by rw [U]; exact hw) (by rw [U]; exact hx) (no U) (((s.ae [0,0,0,0,0,3,3,2,2,2]).del 11).del 10) ⟨rfl,rfl,rfl,rfl,rfl,rfl,aa⟩
   ·skip
    refine zh rfl (ag rfl rfl ng) (by simp; omega) ?_
    obtain ⟨n,rfl⟩:∃n:Nat,pg=n:=⟨pg.toNat,by omega⟩
    have V_:n<N:=by omega
    refine zk 7 rfl ?_
    cases hg:bU b with
    | false =>
     obtain ⟨rfl,U⟩:=k4 (by omega) (by omega) hg
     have no:=Rb (fun q=>by have:=q.2.2; rw [hg] at this; cases this)
     refine zh rfl (ag rfl rfl bR) (by decide) ?_
     refine zk 5 rfl (zf rfl (Ar _ _) (zl rfl (s.ld (k:=6) rfl bL rfl) (zc rfl (HE hT (s.ae [5]) (cL _ _)) ?_)))
     rintro v h ⟨rfl,s⟩
     dsimp only [bringA,getA,aU] at s
     rw [hg]
     refine zt rfl (dA rfl rfl) (rfl) (zk 6 rfl (zh rfl (ag rfl rfl aX) (by decide) ?_))
     refine zv (zj rfl (WP.skip (zr rfl (zm rfl (zb rfl (by exact bO (aT (by omega) (by omega))) ?_)))))
     refine za rfl (zv ?_)
     exact next _ _ nx ε' J (fun _=>rfl) (by rw [U]; exact hw) (by rw [U]; exact hx) (no U) (((s.ae [1,1,1,1,1,3,3,2,2,2]).del 11).del 10) ⟨rfl,rfl,rfl,rfl,rfl,rfl,aa⟩
    | true =>
     obtain ⟨rfl,rfl⟩:=k5 (by omega) (by omega) hg
     have qy:=hw.put (n:=(n:Int)) (by omega) (by omega) hg Xz
     have lY:=hx.put (b:=b) V_
     have aaR:=J.cu
     have abj:=mH (ε:=ε')
     refine zh rfl (ag rfl rfl bR) (by decide) ?_
     refine zk 5 rfl (zf rfl (Ar _ _) (zl rfl (s.ld (k:=6) rfl bL rfl) (zc rfl (HE hT (s.ae [5]) (cL _ _)) ?_)))
     rintro v h ⟨rfl,s⟩
     dsimp only [bringA,getA,aU] at s
     rw [hg]
     refine zh rfl (dA rfl rfl) (rfl) (zk 6 rfl (zh rfl (ag rfl rfl aX) (by decide) ?_))
     refine zk 4 rfl ?_
     have s:=s.ae [8,0]
     dsimp only [bringA,getA,aU] at s
     have lJ:=ej (s.aG (k:=1) rfl (cL _ _)) (a:=12) (by rw [fq hg]; decide)
     obtain ⟨nk,Z_,h2,f1,f2,f3⟩:=TN (P:=Tryz.prog) (w:=b.drop 12) s (by rw [hx.len]; exact V_) oz Rz
     refine WP.drawn [ai,ai,ai,ai,ai,ai,ai,ai,ai] rfl (by kernel_rfl) (by kernel_rfl) ?_
     refine zM rfl (zF rfl (tB _ _) (zL rfl (s.ld (k:=7) rfl c7 rfl) (zF rfl (Ar _ _) (zL rfl (s.ld (k:=7) rfl bL rfl) (zO rfl (cC (p:=some (.int .i64 12)) (q:=none) (m:=none) (p':=some 12) (q':=none) (m':=none) rfl rfl rfl rfl rfl rfl rfl lJ.1) (aA.op rfl rfl rfl (by simp only [isEff,jA]) (b8 rfl (xQ lJ.2.1)) ?_))))))
     refine zO rfl (dG (r:=.ptr nk Z_) rfl rfl f1) (aA.gV rfl rfl rfl (OpR.eU rfl rfl rfl (⟨h2,f2,f3⟩)) ?_)
     rintro v h ⟨rfl,s⟩
     refine aA.nil ⟨⟨aa,aa,aa,aa,aa,aa,aa,aa,aa,aa⟩,?_⟩
     obtain ⟨id3,aaa,f4,f5⟩:=kR (P:=Tryz.prog) s (k:=0) (i:=n) (c:=.str (b.drop 12)) rfl (E_ (iL (by rw [hx.len]; exact V_))) oz Rz
     refine zw (WP.drawn [ai,ai,ai,ai,ai,ai,ai,ai,ai,ai,ai] rfl (by kernel_rfl) (by kernel_rfl) ?_)
     refine zM rfl (zO rfl (K7 rfl (GB uq rfl)) (zF rfl (tB _ _) (zL rfl (s.ld (k:=7) rfl c7 rfl) (zM rfl (zF rfl (tB _ _) (zL rfl (s.ld (k:=7) rfl c7 rfl) (zO rfl (dG (r:=.ptr id3 aaa) rfl rfl f4) (zL rfl (f5 _ Ye) (aA.any rfl rfl rfl rfl (OpR.call rfl rfl rfl rfl (TE (n:=(n:Int)) (w:=b.drop 12) hT (s.ae [2,2,2,2,2]) J.ok (by omega) (fun e he=>fq (qy.good e he).1))) ?_)))))))))
     rintro v h ⟨e2,b2,I,AX,rfl,s⟩
     dsimp only [bringA,getA,aU] at s
     obtain ⟨r1,r2,r3,r4⟩:=AX.ec J.ec J.ok.pins
     obtain ⟨rfl,rb⟩:=r3 (by omega) (by omega)
     rw [Ho] at rb
     simp only at rb
     subst rb
     have lI:m7 0 b2 (b2.drop 12)=true:=by
      obtain ⟨q1,q2⟩:=LS hg
      rw [m7,dN q1,dN q2]; rfl
     rw [lI]
     refine aA.nh rfl rfl rfl rfl (dA rfl rfl) (rfl) ?_
     refine aA.nil ⟨⟨aa,aa,aa,aa,aa,aa,aa,aa,aa,aa,aa,aa⟩,?_⟩
     refine zj rfl (WP.skip (zr rfl (zm rfl (zb rfl (by exact bO (aT (by omega) (by omega))) ?_))))
     refine za rfl (zv ?_)
     exact next _ _ _ I (J.y6 AX) r2 qy lY ⟨(if_pos (show okW N ((n:Int),b2) from ⟨by omega,by omega,hg⟩)).symm,(if_pos (show okW N ((n:Int),b2) from ⟨by omega,by omega,hg⟩)).symm,fun R hR h=>hR.y6 AX J.ec h⟩ (((s.ae [0,0,0,0,0,0,3,2,2,2]).del 11).del 10) ⟨rfl,rfl,rfl,rfl,rfl,rfl,aa⟩
end
theorem aab {P:Program}{E:List (Nat×V)}{h:H}{a b c d:Nat}{v w x y:V}(I:look E a=some v)(J:look E b=some w)(U:look E c=some x)(h4:look E d=some y): jl P E h [.tmp a,.tmp b,.tmp c,.tmp d]=some (.bD [v,w,x,y]):=by simp only [jl,mapO,resE,I,J,U,h4]
theorem HP {P:Program}{h:H}{t:TypeId}{x y:Operand}{k:Int}{m:Nat}(hm:m<65536): binV P h .and t x y (.int .i64 k) (.int .i64 (m:Int))=some (.int .i64 ((Nat.land ((k%(2^(IntKind.i64).bits:Int)).toNat) m:Nat):Int)):=by
 have I:(((m:Nat):Int)%(2^(IntKind.i64).bits:Int)).toNat=m:=by simp only [IntKind.bits]; omega
 simp only [binV,ikBeq,ah,intV,bitsV,I]
 have hle:Nat.land ((k%(2^(IntKind.i64).bits:Int)).toNat) m≤m:=Dt
 rw [wrap_i64 (n:=Nat.land ((k%(2^(IntKind.i64).bits:Int)).toNat) m) (by omega)]
theorem Ow {h:H}{l:List Nat}{kd:Int}{tx:Nat}{dv:V}(I:View h dv l): buildV Tryz.prog 40 [(0,.int .i64 kd),(1,.int .u64 (tx:Int)),(4,dv)]=some (.agg (iy kd tx 0 0 dv .bA)):=by
 rcases I.2 with ⟨rfl | ⟨J,rfl⟩,_⟩ | ⟨id,off,cap,n,cs,st,rfl,_⟩
 ·rw [wK]; rfl
 ·rw [wK]; rfl
 ·rw [wK]; rfl
theorem NX.XA {N:Nat}{ε ε':aM}{ps nx:List (List Nat)}{now:List (Int×List Nat)}{aF:Nat}(h:NX N ps now nx)(hw:NW N now)(hp:kK ε ps)(hd:∀m,pgA ε' m=match lookL m now with | some b=>cM b aF | none=>pgA ε m): kK ε' nx:=fun n w hn=>by
 have I:=h.is n w hn
 rw [hd]
 cases J:lookL (n:Int) now with
 | some b =>
  rw [J] at I
  simp only at I ⊢
  have U:=hw.look J
  rw [I]
  exact (y_ U.1 U.2).2.2
 | none =>
  rw [J] at I
  exact hp n w I
def oO (k:Int): Nat:=Nat.land ((k%(2^(IntKind.i64).bits:Int)).toNat) 3+1
def xo (k:Int): Nat:=Nat.land ((k%(2^(IntKind.i64).bits:Int)).toNat) 255
theorem Kn {k:Int}: 1≤oO k∧oO k≤4:=by
 have:Nat.land ((k%(2^(IntKind.i64).bits:Int)).toNat) 3≤3:=Dt
 unfold oO; omega
theorem Ko {k:Int}: xo k≤255:=Dt
inductive qA (N:Nat)(D:iC)(ε:aM)(ps:List (List Nat)): Int→List (List Nat)→Nat→aM→Prop where
 | drop (ε':aM) (ha:D.act=2) (hp:∀P:VP,jR N P→vw P ε→vw P ε') (hg:∀m,pgA ε' m=pgA ε m):qA N D ε ps 0 ps 0 ε'
 | fail (v8 ε':aM) (aF:Nat) (e:Int) (ha:D.act≠2) (hp:∀P:VP,jR N P→vw P ε→vw P v8) (hg:∀m,pgA v8 m=pgA ε m) (hw:NW N (nowW N D.w [])) (hi:∃B,B≤900∧EI N B v8)
  (hr:rV v8 (nowW N D.w []) (oO D.cS) (xo D.cS) 0 0 D.data 0 aF e false ε') (he:e=7∨e=2):qA N D ε ps e ps 0 ε'
 | done (v8 ε':aM) (aF:Nat) (ha:D.act≠2) (hp:∀P:VP,jR N P→vw P ε→vw P v8) (hg:∀m,pgA v8 m=pgA ε m) (hw:NW N (nowW N D.w [])) (hi:∃B,B≤900∧EI N B v8)
  (hr:rV v8 (nowW N D.w []) (oO D.cS) (xo D.cS) 0 0 D.data 0 aF 0 true ε'):qA N D ε ps 0 (nxW N D.w ps) aF ε'
section
variable {told:dF} {h:H} {S:List ax} {X:ax} {r k q p a g aD N B:Nat} {op v x pv nv wv dv:V} {l data:List Nat} {ε Wa:aM} {ps nx:List (List Nat)} {now:List (Int×List Nat)}
noncomputable def pgE : Code:=cJ [1,1,1,1,1,1] ((Tryz.f28.body).getD .skip)
theorem Ox (hT:W told){p5:Nat}{D:iC}(hB:B≤900)(I:EI N B ε)(hw:NW N now)(hx:NX N ps now nx)(hp:kK ε ps)(hD:D.data.length≤1048576)
 (nu:now=nowW N D.w [])(EU:nx=nxW N D.w ps)(Wb:∀P:VP,jR N P→vw P Wa→vw P ε)(mC:∀m,pgA ε m=pgA Wa m)
 (s:Sat h (gK g a now false::cx a p q r (.ptr g 0) data aD::bZ r p q ε.1::bf q p ε.2.1::aC p ε.2.2::.ct dv D.data::.arr 1 nv (eo nx)::.arr 1 pv (eo ps)::pt p5 (.cells 4 [.int .i64 D.act,.int .i64 D.cS,wv,dv] false)::S))
 {E:List (Nat×V)}(hE:Has E [(0,.ptr a 0),(1,pv),(5,.ptr p5 0),(18,.ptr g 0),(20,nv)]){Q:Ex→List (Nat×V)→H→Prop}
 (hq:∀(e:Int) (ji:List (List Nat)) (m8:V) (aF:Nat) (ε':aM) (E':List (Nat×V)) (h':H),qA N D Wa ps e ji aF ε'→EI N (B+2) ε'→ji.length=N→kK ε' ji →
   look E' 6=some m8→look E' 7=some (.int .u64 (aF:Int))→look E' 8=some (.bool true)→look E' 9=some (.int .i64 e) →
   Sat h' (cx a p q r .cD data aD::bZ r p q ε'.1::bf q p ε'.2.1::aC p ε'.2.2::.arr 1 m8 (eo ji)::S)→Q .ret E' h'):
  WP ⟨Tryz.prog,told⟩ 262 pgE E h Q:=by
 have hN:=I.many
 have zy:=I.cu
 have fc:=I.el.size
 have hv:=s.aG (k:=5) rfl (cL _ _)
 have s:=s.ae [8]
 refine WP.has hE (zK 3 rfl (zf rfl (yz _ _) (zl rfl (s.ld (k:=0) rfl c7 rfl) ?_)))
 by_cases J:D.act=2
 ·skip
  refine zt rfl (ag rfl rfl bR) (by simp; exact J) ?_
  refine zk 5 rfl (zc rfl (Hq hT (s.ae [1,1])) ?_)
  rintro v h ⟨rfl,s⟩
  exact zk 9 rfl (WP.ret (hq 0 ps pv 0 ε _ _ (.drop ε J Wb mC) (I.more (by omega)) hx.old hp rfl rfl rfl rfl (((((s.ae [1,2,2,2,4]).del 8).del 7).del 6).del 5)))
 ·have Oy:=Kn (k:=D.cS)
  have NC:=Ko (k:=D.cS)
  refine zh rfl (ag rfl rfl bR) (by simp; exact J) ?_
  refine zk 6 rfl (zf rfl (GD _ _) (zl rfl (s.ld (k:=0) rfl c7 rfl) (zb rfl (HP (m:=3) (by decide)) ?_)))
  refine zo rfl (ag (r:=.int .i64 (oO D.cS:Int)) rfl rfl (by rw [show ((oO D.cS:Nat):Int)=1+((Nat.land ((D.cS%(2^(IntKind.i64).bits:Int)).toNat) 3:Nat):Int) by unfold oO; omega]; exact bO (aT (by unfold oO at Oy; omega) (by unfold oO at Oy; omega)))) ?_
  refine zf rfl (GD _ _) (zl rfl (s.ld (k:=0) rfl c7 rfl) (zb rfl (HP (m:=255) (by decide)) ?_))
  refine zo rfl (b8 (r:=.int .u64 (xo D.cS:Int)) rfl (jx bE cq (eR (by omega) (by unfold xo at NC; omega)))) ?_
  refine zf rfl (Cf _ _) (zl rfl (s.ld (k:=0) rfl bL rfl) (zo rfl (cX rfl (Ow hv)) ?_))
  have s:=s.qg (k:=4)
  refine zc rfl (Tt (pQ:=0) hT (s.ae [2,2,2,2,2,2,0]) (cL _ _) rfl I.ok (by omega) (fun e he=>fq (hw.good e he).1) (by have:=hw.len; omega) (fun n hn=>by have:=hw.keys n hn; omega) (by omega) (by decide) (by decide) (by omega) I.el.log (by omega)) ?_
  rintro v h ⟨aF,e,cl,ε',hr,rfl,s⟩
  have xZ:=hr
  rw [nu] at xZ
  rcases I.done (by omega) hw (by omega) (by omega) hr with ⟨rfl,he,U,LV⟩ | ⟨rfl,rfl,U,LV⟩
  ·have s:Sat h (gK g a now false::cx a p q r (.ptr g 0) data aD::_):=s
   have he9:e≠9:=by omega
   have out:qA N D Wa ps e ps 0 ε':=.fail ε ε' aF e J Wb mC (by rw [←nu]; exact hw) ⟨B,hB,I⟩ xZ he
   refine zk 10 rfl (zh rfl (ag rfl rfl bR) (by simp; exact he9) ?_)
   refine zk 7 rfl (zt rfl (ag rfl rfl aX) (by simp; omega) ?_)
   refine zk 5 rfl (zc rfl (Hq hT s) ?_)
   rintro v h ⟨rfl,s⟩
   refine zk 5 rfl ?_
   have fin:=(((((s.ae [1,1,1,1,4]).del 8).del 7).del 6).del 5)
   rcases he with rfl | rfl
   ·skip
    refine zt rfl (ag rfl rfl bR) (by decide) ?_
    exact zk 10 rfl (WP.ret (hq 7 ps pv 0 ε' _ _ out U hx.old (hp.of fun m _=>LV m) rfl rfl rfl rfl fin))
   ·skip
    refine zh rfl (ag rfl rfl bR) (by decide) ?_
    refine zk 2 rfl (zt rfl (ag rfl rfl bR) (by decide) ?_)
    exact zk 7 rfl (WP.ret (hq 2 ps pv 0 ε' _ _ out U hx.old (hp.of fun m _=>LV m) rfl rfl rfl rfl fin))
  ·have s:Sat h (gK g a now true::cx a p q r .cD data aD::_):=s
   refine zk 10 rfl (zh rfl (ag rfl rfl bR) (by decide) ?_)
   refine zk 7 rfl (zh rfl (ag rfl rfl aX) (by decide) ?_)
   exact zk 12 rfl (WP.ret (hq 0 nx nv aF ε' _ _ (by rw [EU]; exact .done ε ε' aF J Wb mC (by rw [←nu]; exact hw) ⟨B,hB,I⟩ xZ) U hx.len (hx.XA hw hp LV) rfl rfl rfl rfl (((((s.ae [1,1,1,1,3]).del 8).del 7).del 6).del 5)))
end
theorem HQ : ∃i,Tryz.prog.info? 9=some i∧i.size=1∧i.bytes=16 :=
 ⟨_,(show Tryz.prog.info? 9=some ((Tryz.prog.info? 9).getD default) by kernel_rfl),by kernel_rfl,by kernel_rfl⟩
inductive zC (N:Nat)(D:iC)(ε:aM)(ps:List (List Nat))(data:List Nat)(aD:Nat): Int→List (List Nat)→Nat→aM→List Nat→Nat→Prop where
 | Sa (e:Int) (ji:List (List Nat)) (aF:Nat) (ε':aM) (h:¬(3≤D.act∧D.act≤7)) (ho:qA N D ε ps e ji aF ε'):zC N D ε ps data aD e ji aF ε' data aD
 | ck (e:Int) (lo:Nat) (ε':aM) (jN:List Nat) (jD:Nat) (h:D.act=3) (Od:lo=0∨lo=ε.2.1.base) (hr:E6 ε lo D.data data aD e ε' jN jD):zC N D ε ps data aD e ps 0 ε' jN jD
 | all (h:D.act=4):zC N D ε ps data aD 0 ps 0 (writeAllF (aJ ε.1.aH) ε).2 data aD
 | sync (h:D.act=5):zC N D ε ps data aD 0 ps 0 ((dK ε.1 ε.2.2).2.1,(ε.2.1,(dK ε.1 ε.2.2).2.2)) data aD
 | clean (h:D.act=6):zC N D ε ps data aD 0 ps 0 (fH ε).2 data aD
 | force (h:D.act=7):zC N D ε ps data aD 0 ps 0 (ε.1,(bB ε.2 (ε.2.1.base+ε.2.1.b.length)).2) data aD
def Wc (N B a p q r:Nat)(D:iC)(ε:aM)(ps:List (List Nat))(data:List Nat)(aD:Nat)(S:List ax)(Q:Ex→List (Nat×V)→H→Prop): Prop :=
 ∀(e:Int) (J:List (List Nat)) (m8:V) (aF:Nat) (ε':aM) (I:List Nat) (U:Nat) (E':List (Nat×V)) (h':H),zC N D ε ps data aD e J aF ε' I U→e≠9→EI N (B+2) ε'→J.length=N→kK ε' J→I.length≤1048576 →
   look E' 6=some m8→look E' 7=some (.int .u64 (aF:Int))→look E' 8=some (.bool true)→look E' 9=some (.int .i64 e) →
   Sat h' (cx a p q r .cD I U::bZ r p q ε'.1::bf q p ε'.2.1::aC p ε'.2.2::.arr 1 m8 (eo J)::S)→Q .ret E' h'
section
variable {told:dF} {h:H} {S:List ax} {X:ax} {r k q p a g aD N B:Nat} {op v x pv nv wv dv:V} {l data:List Nat} {ε:aM} {ps nx:List (List Nat)} {now:List (Int×List Nat)} {Q:Ex→List (Nat×V)→H→Prop}
noncomputable def plK : Code:=cJ [1,0,1,0,1,0,1,1] ((Tryz.f28.body).getD .skip)
theorem Kp (hT:W told){p5 lo:Nat}{D:iC}(hB:B≤900)(I:EI N B ε)(hN:ps.length=N)(hp:kK ε ps)(vT:data.length≤1048576)(hD:D.data.length≤1048576)(Od:lo<18446744073709551616)(ha:D.act=3)(xE:lo=0∨lo=ε.2.1.base)
 (s:Sat h (pt p5 (.cells 4 [.int .i64 D.act,.int .i64 D.cS,wv,dv] false)::cx a p q r .cD data aD::bZ r p q ε.1::bf q p ε.2.1::aC p ε.2.2::.ct dv D.data::.arr 1 pv (eo ps)::S))
 {E:List (Nat×V)}(hE:Has E [(0,.ptr a 0),(1,pv),(5,.ptr p5 0),(10,.int .u64 (lo:Int))])(hq:Wc N B a p q r D ε ps data aD S Q):
  WP ⟨Tryz.prog,told⟩ 262 plK E h Q:=by
 have Wd:=I.many
 have fc:=I.el.size
 have abk:=I.aQ
 refine WP.has hE (zK 4 rfl (zf rfl (Cf _ _) (zl rfl (s.ld (k:=0) rfl bL rfl) (zc rfl (Tz (lo:=lo) hT (s.ae [1,1,1,1,1]) (cL _ _) I.ok.ok Od (by omega) (fun n hn=>wf_i64 (I.ec.rq n hn).1 (by have:=(I.ec.rq n hn).2; omega)) I.el.log (by omega)) ?_))))
 rintro v h ⟨e,ε',J,U,hr,rfl,s⟩
 obtain ⟨i1,i2,i3⟩:=I.Z5 (by omega) hr
 have BV:J.length≤1048576:=by rcases i3 with ⟨_,_,rfl⟩ | ⟨_,rfl⟩ | ⟨_,rfl⟩ <;> assumption
 refine zk 5 rfl (zc rfl (LJ hT s (by omega)) ?_)
 rintro v h ⟨w,rfl,s⟩
 have uk:=s.aG (k:=0) rfl (bI _ _)
 have ot:=s.aG (k:=5) rfl (cL _ _)
 have s:=s.ae [6]
 have fin:=(((s.ae [2,2,2,2,3]).del 7).del 6).del 5
 dsimp only [bringA,getA,aU] at fin
 rcases i3 with ⟨rfl,D3,_⟩ | ⟨rfl,_⟩ | ⟨rfl,rfl⟩
 ·skip
  refine zk 7 rfl (WP.drawn [ai,ai,ai,ai,ai,ai,ai,ai,ai,ai,ai,ai,ai,ai,ai,ai,ai,ai,ai,ai,ai,ai,ai,ai,ai,ai,ai,ai,ai,ai,ai,ai,ai,ai] rfl (by kernel_rfl) (by kernel_rfl) ?_)
  refine zM rfl (zM rfl (aA.nh rfl rfl rfl rfl (ag rfl rfl bR) (by decide) ?_))
  refine zM rfl (zM rfl (aA.nh rfl rfl rfl rfl (ag rfl rfl bR) (by decide) ?_))
  refine zO rfl (kr rfl rfl) (zM rfl (zM rfl (aA.nh rfl rfl rfl rfl (ag rfl rfl bR) (by decide) ?_)))
  refine zM rfl (aA.no (e:=false) rfl rfl rfl rfl (aA.no (e:=false) rfl rfl rfl (by simp only [isEff,jA]) ?_))
  refine aA.no (e:=false) rfl rfl rfl rfl (aA.no (e:=false) rfl rfl rfl rfl (aA.no (e:=false) rfl rfl rfl (by simp only [isEff,jA]) ?_))
  refine aA.no (e:=false) rfl rfl rfl rfl (zO rfl (kr rfl rfl) (zO rfl (kr rfl rfl) (zM rfl (zM rfl (aA.qb rfl rfl rfl rfl (ag rfl rfl bR) (by decide) ?_)))))
  refine zM rfl (zF rfl (Cf _ _) (zL rfl (s.ld (k:=0) rfl bL rfl) (zO rfl (a_ rfl rfl rfl (bh aS ot)) (aA.qb rfl rfl rfl rfl (ag rfl rfl dR) (by simp; omega) ?_))))
  refine zO rfl (kP rfl rfl) (zO rfl (kr rfl rfl) (zM rfl (zA rfl (zA rfl (zA rfl (zA rfl ?_))))))
  refine aA.nil ⟨⟨aa,aa,aa,aa,aa,aa,aa,aa,aa,aa,aa,aa,aa,aa,aa,aa,aa,aa,aa,aa,aa,aa,aa,aa,aa,aa,aa,aa,aa,aa,aa,aa,aa,aa,aa⟩,?_⟩
  exact WP.ret (hq 2 ps pv 0 ε' J U _ _ (.ck _ lo _ _ _ ha xE hr) (by decide) (i1.more (by omega)) hN (hp.of fun m _=>i2 m) BV rfl rfl rfl rfl fin)
 ·skip
  refine zk 7 rfl (WP.drawn [ai,ai,ai,ai,ai,ai,ai,ai,ai,ai,ai,ai,ai,ai,ai,ai,ai,ai,ai,ai,ai,ai,ai,ai,ai,ai,ai,ai,ai,ai,ai,ai,ai,ai] rfl (by kernel_rfl) (by kernel_rfl) ?_)
  refine zM rfl (zM rfl (aA.nh rfl rfl rfl rfl (ag rfl rfl bR) (by decide) ?_))
  refine zM rfl (zM rfl (aA.qb rfl rfl rfl rfl (ag rfl rfl bR) (by decide) ?_))
  refine zO rfl (kr rfl rfl) (zM rfl (aA.no (e:=false) rfl rfl rfl rfl (aA.no (e:=false) rfl rfl rfl rfl (aA.no (e:=false) rfl rfl rfl rfl (aA.no (e:=false) rfl rfl rfl rfl (aA.no (e:=false) rfl rfl rfl (by simp only [isEff,jA]) ?_))))))
  refine aA.no (e:=false) rfl rfl rfl rfl (aA.no (e:=false) rfl rfl rfl rfl (aA.no (e:=false) rfl rfl rfl (by simp only [isEff,jA]) ?_))
  refine aA.no (e:=false) rfl rfl rfl rfl (aA.no (e:=false) rfl rfl rfl rfl (zO rfl (kP rfl rfl) (zM rfl (aA.no (e:=false) rfl rfl rfl rfl (aA.no (e:=false) rfl rfl rfl rfl (aA.no (e:=false) rfl rfl rfl rfl (aA.no (e:=false) rfl rfl rfl rfl (aA.no (e:=false) rfl rfl rfl rfl (aA.no (e:=false) rfl rfl rfl rfl (aA.no (e:=false) rfl rfl rfl rfl (aA.no (e:=false) rfl rfl rfl rfl (zO rfl (kP rfl rfl) (zM rfl (zA rfl (zA rfl (zA rfl (zA rfl ?_)))))))))))))))))
  refine aA.nil ⟨⟨aa,aa,aa,aa,aa,aa,aa,aa,aa,aa,aa,aa,aa,aa,aa,aa,aa,aa,aa,aa,aa,aa,aa,aa,aa,aa,aa,aa,aa,aa,aa,aa,aa,aa,aa⟩,?_⟩
  exact WP.ret (hq 7 ps pv 0 ε' J U _ _ (.ck _ lo _ _ _ ha xE hr) (by decide) (i1.more (by omega)) hN (hp.of fun m _=>i2 m) BV rfl rfl rfl rfl fin)
 ·skip
  refine zk 7 rfl (WP.drawn [ai,ai,ai,ai,ai,ai,ai,ai,ai,ai,ai,ai,ai,ai,ai,ai,ai,ai,ai,ai,ai,ai,ai,ai,ai,ai,ai,ai,ai,ai,ai,ai,ai,ai] rfl (by kernel_rfl) (by kernel_rfl) ?_)
  refine zM rfl (zM rfl (aA.nh rfl rfl rfl rfl (ag rfl rfl bR) (by decide) ?_))
  refine zM rfl (zM rfl (aA.nh rfl rfl rfl rfl (ag rfl rfl bR) (by decide) ?_))
  refine zO rfl (kr rfl rfl) (zM rfl (zM rfl (aA.qb rfl rfl rfl rfl (ag rfl rfl bR) (by decide) ?_)))
  refine zM rfl (zM rfl (aA.op rfl rfl rfl (by simp only [isEff,jA]) (b8 rfl (xQ uk)) ?_))
  refine zF rfl (Cf _ _) (zL rfl (s.ld (k:=0) rfl bL rfl) (aA.op rfl rfl rfl (by simp only [isEff,jA]) (b8 rfl (xQ ot)) ?_))
  refine aA.qb rfl rfl rfl rfl (ag rfl rfl wJ) (decide_eq_true rfl) (zO rfl (kP rfl rfl) (zO rfl (kr rfl rfl) (zM rfl (aA.no (e:=false) rfl rfl rfl rfl (aA.no (e:=false) rfl rfl rfl rfl (aA.no (e:=false) rfl rfl rfl rfl (aA.no (e:=false) rfl rfl rfl rfl (aA.no (e:=false) rfl rfl rfl rfl (aA.no (e:=false) rfl rfl rfl rfl (aA.no (e:=false) rfl rfl rfl rfl (aA.no (e:=false) rfl rfl rfl rfl (zO rfl (kP rfl rfl) (zM rfl (zA rfl (zA rfl (zA rfl (zA rfl ?_)))))))))))))))))
  refine aA.nil ⟨⟨aa,aa,aa,aa,aa,aa,aa,aa,aa,aa,aa,aa,aa,aa,aa,aa,aa,aa,aa,aa,aa,aa,aa,aa,aa,aa,aa,aa,aa,aa,aa,aa,aa,aa,aa⟩,?_⟩
  exact WP.ret (hq 0 ps pv 0 ε' _ U _ _ (.ck _ lo _ _ _ ha xE hr) (by decide) (i1.more (by omega)) hN (hp.of fun m _=>i2 m) BV rfl rfl rfl rfl fin)
noncomputable def plG : Code:=cJ [1,1] ((Tryz.f28.body).getD .skip)
theorem TO (U:W told){p5:Nat}{cs:List V}{D:iC}(hB:B≤900)(I:EI N B ε)(hN:ps.length=N)(hp:kK ε ps)(vT:data.length≤1048576)(hD:D.data.length≤1048576∧D.w.length≤1048576∧∀x∈D.w,x.2.length≤1048576)(ha:¬(3≤D.act∧D.act≤7))
 (s:Sat h (cx a p q r .cD data aD::bZ r p q ε.1::bf q p ε.2.1::aC p ε.2.2::.arr 1 pv (eo ps)::pt p5 (.cells 4 [.int .i64 D.act,.int .i64 D.cS,wv,dv] false)::j7 2 wv cs::n4 cs D.w::.ct dv D.data::S))
 {E:List (Nat×V)}(hE:Has E [(0,.ptr a 0),(1,pv),(5,.ptr p5 0)])(hq:Wc N B a p q r D ε ps data aD S Q):
  WP ⟨Tryz.prog,told⟩ 262 plG E h Q:=by
 have Wd:=I.many
 refine WP.has hE (zK 3 rfl (zc rfl (NU U s) ?_))
 rintro v h ⟨g,rfl,s⟩
 refine zk 10 rfl (zh rfl (ag rfl rfl aX) (by decide) ?_)
 refine zk 2 rfl (zh rfl (ag rfl rfl (CJ uq)) (rfl) (zk 6 rfl ?_))
 obtain ⟨h1,e1,s1⟩:=Ea (P:=Tryz.prog) s oz RA Rz rfl (by decide)
 refine aB.any rfl rfl rfl (OpR.of (R:=fun v h'=>v=.sl h.next 0 0 (.exact 0)∧h'=h1) (p_ rfl e1) ⟨rfl,rfl⟩) ?_
 rintro v h' ⟨rfl,rfl⟩
 have s:=(Tu (q:=1) s1).ae [0,5]
 obtain ⟨i1,lp,jL,sn⟩:=HQ
 obtain ⟨nv,h2,e2,s2⟩:=jo (P:=Tryz.prog) s oz lp RA jL (by omega) rfl (by decide) (by rw [j_,hN]; simp; omega)
 refine zm rfl (aB.any rfl rfl rfl (OpR.of (R:=fun v h'=>v=nv∧h'=h2) (oB rfl rfl e2) ⟨rfl,rfl⟩) ?_)
 rintro v h ⟨rfl,rfl⟩
 rw [cU] at s2
 refine zk 7 rfl (WP.block ?_)
 refine Ov U (N:=N) (ps:=ps) Wd (by omega) hD.2 D.w.length 0 ε [] ps _ _ _ _ (by omega) I (NW.nil N) ⟨hN,hN,fun n w h=>h⟩ (s2.ae [2,2,2,2,2,0,0,0,0,0]) ⟨rfl,rfl,rfl,rfl,rfl,rfl,aa⟩ (fun ε' gL Bd E' h' g1 g2 g3 g4 J g5 s' => ?_)
 rw [dS] at J
 have s:=s'
 exact Ox U (B:=B) (Wa:=ε) hB g1 g3 g4 (hp.of fun m _=>g2 m) hD.1 J.2.1 J.1 J.2.2 g2 (((s.ae [0,0,0,0,0,5,0,0,0]).del 10).del 9) g5 fun e ji m8 aF ε' E' h' ho b1 b2 b3 l6 l7 l8 l9 s' =>
  hq e ji m8 aF ε' data aD E' h' (.Sa _ _ _ _ ha ho) (by cases ho with | drop=>decide | fail _ _ _ _ _ _ _ _ _ _ he=>omega | done=>decide) b1 b2 b3 vT l6 l7 l8 l9 s'
theorem Kq (hT:W2 told){D:iC}(hB:B≤900)(U:EI N B ε)(hN:ps.length=N)(hp:kK ε ps)(vT:data.length≤1048576)(hD:D.data.length≤1048576∧D.w.length≤1048576∧∀x∈D.w,x.2.length≤1048576)
 (s:Sat h (cx a p q r .cD data aD::bZ r p q ε.1::bf q p ε.2.1::aC p ε.2.2::.arr 1 pv (eo ps)::nX wv dv D::S)):
  Call ⟨Tryz.prog,told⟩ 28 [.ptr a 0,pv,.agg [.int .i64 D.act,.int .i64 D.cS,wv,dv]] h fun v h'=>∃(e:Int) (ji:List (List Nat)) (m8:V) (aF:Nat) (ε':aM) (jN:List Nat) (jD:Nat),
   zC N D ε ps data aD e ji aF ε' jN jD∧e≠9∧EI N (B+2) ε'∧ji.length=N∧kK ε' ji∧jN.length≤1048576∧v=.bD [m8,.int .u64 (aF:Int),.bool true,.int .i64 e] ∧
   Sat h' (cx a p q r .cD jN jD::bZ r p q ε'.1::bf q p ε'.2.1::aC p ε'.2.2::.arr 1 m8 (eo ji)::S):=by
 have Wd:=U.many
 have zy:=U.cu
 have J6:=mH (ε:=ε)
 have fc:=U.el.size
 obtain ⟨q1,q2⟩:=U.aH
 have wQ:∀n∈ε.1.aH.map (·.1),(Lit.int .i64 n).wf=true:=fun n hn=>wf_i64 (q1 n hn).1 (by have:=(q1 n hn).2; omega)
 -- the deed's parts
 have s:=((s.ae [5]).dup (aE.nX _ _ _)).ga (B:=.ct dv D.data) (fun _ _ h=>h.2) |>.ae [1] |>.ga (B:=.xs fun cs:List V=>.an (j7 2 wv cs) (n4 cs D.w)) (fun _ _ h=>h.1)
 obtain ⟨cs,s⟩:=gW.1 s
 have s:=(s.dup (aE.an (aE.j7 _ _ _) (aE.n4 _ _))).ga (B:=j7 2 wv cs) (fun _ _ h=>h.1) |>.ae [1] |>.ga (B:=n4 cs D.w) (fun _ _ h=>h.2)
 have s:Sat h (n4 cs D.w::j7 2 wv cs::.ct dv D.data::cx a p q r .cD data aD::bZ r p q ε.1::bf q p ε.2.1::aC p ε.2.2::.arr 1 pv (eo ps)::S):=s
 have tU:=s.Z7 (j:=1) rfl
 have hdv:=(s.aG (k:=2) rfl (cL _ _)).cells
 have gn:(V.agg [.int .i64 D.act,.int .i64 D.cS,wv,dv]).cells.all storable=true:=by
  simp only [V.cells,iZ,jH,tU.2.1,hdv.2]; rfl
 refine Call.of_wp (hT.w.free _ rfl) Tryz.func28 rfl rfl (zg rfl (aB.cO s rfl rfl rfl (gw rfl gn) ?_))
 intro p5 h s
 have s:Sat h (pt p5 (.cells 4 [.int .i64 D.act,.int .i64 D.cS,wv,dv] false)::_):=s
 have s:=s.ae [0,3,3,3,3,3,2,1,0]
 have hq:Wc N B a p q r D ε ps data aD S fun ex E' h'=>(match ex with | .exit _=>False | _=>True)∧∃v,jl Tryz.prog E' h' [.tmp 6,.tmp 7,.tmp 8,.tmp 9]=some v∧∃(e:Int) (ji:List (List Nat)) (m8:V) (aF:Nat) (ε':aM) (jN:List Nat) (jD:Nat),
   zC N D ε ps data aD e ji aF ε' jN jD∧e≠9∧EI N (B+2) ε'∧ji.length=N∧kK ε' ji∧jN.length≤1048576∧v=.bD [m8,.int .u64 (aF:Int),.bool true,.int .i64 e] ∧
   Sat h' (cx a p q r .cD jN jD::bZ r p q ε'.1::bf q p ε'.2.1::aC p ε'.2.2::.arr 1 m8 (eo ji)::S) :=
  fun e ji m8 aF ε' jN jD E' h' h0 h1 h2 h3 h4 h5 l6 l7 l8 l9 s'=>⟨aa,_,aab l6 l7 l8 l9,e,ji,m8,aF,ε',jN,jD,h0,h1,h2,h3,h4,h5,rfl,s'⟩
 have FT:∀ {h:H} {A B C D E F G I J:ax},Sat h (A::B::C::D::E::F::G::I::J::S)→Sat h (A::B::C::D::E::S):=fun s=>(((s.del 8).del 7).del 6).del 5
 refine zk 8 rfl (zf rfl (yz _ _) (zl rfl (s.ld (k:=0) rfl c7 rfl) (zv (WP.block (zg rfl ?_)))))
 by_cases h3:D.act=3
 ·skip
  refine zt rfl (ag rfl rfl bR) (by simp; exact h3) ?_
  refine zk 10 rfl (zf rfl (GD _ _) (zl rfl (s.ld (k:=0) rfl c7 rfl) ?_))
  by_cases hk:0<D.cS
  ·skip
   refine zt rfl (ag rfl rfl dR) (by simp; exact hk) ?_
   refine zk 4 rfl (zc rfl (Ke hT.w (s.ae [1])) ?_)
   rintro v h' ⟨rfl,rfl⟩
   refine zc rfl (uO hT.w (s.ae [3])) ?_
   rintro v h' ⟨rfl,rfl⟩
   exact zk 2 rfl (Kp hT.w hB U hN hp vT hD.1 (by omega) h3 (.inr rfl) (((s.ae [0,0,0,0,0,1,0]).del 8).del 7) ⟨rfl,rfl,rfl,rfl,aa⟩ hq)
  ·skip
   refine zh rfl (ag rfl rfl dR) (by simp; omega) ?_
   exact zk 2 rfl (WP.skip (Kp hT.w (lo:=0) hB U hN hp vT hD.1 (by decide) h3 (.inl rfl) (((s.ae [0,0,0,0,0,1,0]).del 8).del 7) ⟨rfl,rfl,rfl,rfl,aa⟩ hq))
 ·skip
  refine zh rfl (ag rfl rfl bR) (by simp; exact h3) ?_
  refine zk 5 rfl ?_
  by_cases h4:D.act=4
  ·skip
   refine zt rfl (ag rfl rfl bR) (by simp; exact h4) ?_
   refine zk 6 rfl (zc rfl (HB hT.w (s.ae [1])) ?_)
   rintro v h' ⟨rfl,rfl⟩
   refine zc rfl (A9 hT.w (s.ae [2,2,2]) U.ok.ok (by omega) (by omega) wQ) ?_
   rintro v h ⟨rfl,s⟩
   obtain ⟨w1,w2,w3⟩:=U.writeAll
   have We:(writeAllF (aJ ε.1.aH) (ε.1,ε.2.1,ε.2.2)).1=0:=w1
   rw [We]
   refine zk 6 rfl (zt rfl (ag rfl rfl bR) (by decide) ?_)
   exact zk 10 rfl (WP.ret ⟨aa,_,rfl,0,ps,pv,0,_,data,aD,.all h4,by decide,w2.more (by omega),hN,(hp.of fun m _=>w3 m),vT,rfl,(FT (s.ae [4,0,0,0,1]))⟩)
  ·skip
   refine zh rfl (ag rfl rfl bR) (by simp; exact h4) ?_
   refine zk 5 rfl ?_
   by_cases h5:D.act=5
   ·skip
    refine zt rfl (ag rfl rfl bR) (by simp; exact h5) ?_
    refine zk 6 rfl (zc rfl (HB hT.w (s.ae [1])) ?_)
    rintro v h' ⟨rfl,rfl⟩
    refine zc rfl (Hj hT (s.ae [2,3]) U.ok.ok.dk (fun e he=>by rw [U.ec.dk.aq]; exact U.ec.dk.keys _ (iX he))) ?_
    rintro v h ⟨rfl,s⟩
    obtain ⟨w1,w2,w3⟩:=U.sync
    rw [w1]
    refine zk 6 rfl (zt rfl (ag rfl rfl bR) (by decide) ?_)
    exact zk 10 rfl (WP.ret ⟨aa,_,rfl,0,ps,pv,0,_,data,aD,.sync h5,by decide,w2.more (by omega),hN,(hp.of w3),vT,rfl,(FT (s.ae [3,0,2,0,1]))⟩)
   ·skip
    refine zh rfl (ag rfl rfl bR) (by simp; exact h5) ?_
    refine zk 5 rfl ?_
    by_cases h6:D.act=6
    ·skip
     refine zt rfl (ag rfl rfl bR) (by simp; exact h6) ?_
     refine zk 6 rfl ?_
     obtain ⟨w1,w2,w3⟩:=U.clean
     obtain ⟨v1,v2,v3⟩:=U.writeAll
     refine zc rfl (HC hT (s.ae [1,1,1,1]) U.ok.ok (by omega) (by omega) wQ v2.ok.ok.dk (fun e he=>by rw [v2.ec.dk.aq]; exact v2.ec.dk.keys _ (iX he))) ?_
     rintro v h ⟨rfl,s⟩
     rw [w1]
     refine zk 6 rfl (zt rfl (ag rfl rfl bR) (by decide) ?_)
     exact zk 10 rfl (WP.ret ⟨aa,_,rfl,0,ps,pv,0,_,data,aD,.clean h6,by decide,w2.more (by omega),hN,(hp.of w3),vT,rfl,(FT (s.ae [0,0,0,0,1]))⟩)
    ·skip
     refine zh rfl (ag rfl rfl bR) (by simp; exact h6) ?_
     refine zk 5 rfl ?_
     by_cases h7:D.act=7
     ·skip
      refine zt rfl (ag rfl rfl bR) (by simp; exact h7) ?_
      refine zk 7 rfl (zc rfl (Ke hT.w (s.ae [1])) ?_)
      rintro v h' ⟨rfl,rfl⟩
      refine zc rfl (nQ hT.w (s.ae [3]) (by omega)) ?_
      rintro v h' ⟨rfl,rfl⟩
      have ec:(ε.2.1.base:Int)+(ε.2.1.b.length:Int)=((ε.2.1.base+ε.2.1.b.length:Nat):Int):=by omega
      rw [ec]
      refine zc rfl (N8 hT.w (s.ae [1,2,2]) U.ok.ok.lg U.ok.ok.dk.aI) ?_
      rintro v h ⟨rfl,s⟩
      obtain ⟨w1,w2,w3⟩:=U.force (n:=ε.2.1.base+ε.2.1.b.length)
      have We:(bB (ε.2.1,ε.2.2) (ε.2.1.base+ε.2.1.b.length)).1=0:=w1
      rw [We]
      refine zk 6 rfl (zt rfl (ag rfl rfl bR) (by decide) ?_)
      exact zk 10 rfl (WP.ret ⟨aa,_,rfl,0,ps,pv,0,_,data,aD,.force h7,by decide,w2.more (by omega),hN,(hp.of fun m _=>w3 m),vT,rfl,(FT (s.ae [0,3,0,0,1]))⟩)
     ·skip
      refine zh rfl (ag rfl rfl bR) (by simp; exact h7) ?_
      exact zk 3 rfl (WP.skip (TO hT.w hB U hN hp vT hD (by omega) (s.ae [1,1,1,1,1,0,1,1,0]) ⟨rfl,rfl,rfl,aa⟩ hq))
end
end Go.Proofs.YtconhghphklfjaaGreat.Am
