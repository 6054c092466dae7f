/- AtomCuts: a part of its proof; conditions: its statement's. -/
import Derived.Test.YtconhghphklfjaaGreatC33
set_option linter.defProp false
namespace Go.Proofs.YtconhghphklfjaaGreat.Am
open Go
def qB:=@Tryz.underlying57
def Di:=@Tryz.underlying60
def eH (l:List (List Nat)): List V:=l.map V.str
theorem kg (l:List (List Nat)): (eH l).length=l.length:=by simp [eH]
theorem Fw {l:List (List Nat)}{i:Nat}{w:List Nat}(h:l[i]?=some w): (eH l)[i]?=some (.str w):=by simp [eH,h]
def lP (ε:aM)(ps:List (List Nat)): Prop:=∀(n:Nat) (w:List Nat),ps[n]?=some w→jQ (pgA ε n)=w
theorem lP.of {ε ε':aM}{ps:List (List Nat)}(h:lP ε ps)(I:∀m,0≤m→pgA ε' m=pgA ε m): lP ε' ps:=fun n w J=>by rw [I _ (by omega)]; exact h n w J
theorem EI.reads {N B:Nat}{ε ε':aM}{n e:Int}{b w:List Nat}(h:EI N B ε)(I:mD ε n e b ε')(J:0≤n)(U:n<N)(hw:jQ (pgA ε n)=w): nh e b w=true∧EI N B ε'∧∀m,pgA ε' m=pgA ε m:=by
 obtain ⟨k1,k2,k3,k4⟩:=I.ec h.ec h.ok.pins
 obtain ⟨rfl,rfl⟩:=k3 J U
 refine ⟨?_,h.rd I,k2⟩
 have hc:=h.ec.aC J U
 rw [nh,dM hw,show decide (dA (pgA ε n)≠4)=true from dM (by rw [hc]; decide)]
 rfl
theorem L7 {b:List Nat}(h:bU b=true): jQ b=b.drop 12∧dA b≠4:=by
 have J:=fA h
 have U:bU (List.replicate 512 0)=false:=by decide +kernel
 have I:b≠List.replicate 512 0:=fun e=>by rw [e,U] at h; cases h
 refine ⟨by rw [jQ,af (by rintro (q | q); exact q J; exact I q)],?_⟩
 rw [dA,af I,af (by rw [h]; decide)]
 split <;> decide
def ja (k:Nat)(v:V)(cs:List V): ax:=.xs fun o:Option (Nat×Nat×Nat)=>match o with
 | none=>.pu ((v=.bz∨∃a,v=.sle a)∧cs=[])
 | some (id,len,cap)=>.an (.ro id (.cells cs.length cs true)) (.pu (v=.sl id 0 len (.exact cap)∧cs.length=len*k))
theorem aE.ja (k:Nat)(v:V)(cs:List V): aE (Am.ja k v cs):=aE.xs fun o=>by
 cases o with
 | none=>exact aE.pu _
 | some x=>exact aE.an (aE.ro _ _) (aE.pu _)
section
variable {P:Program} {h:H} {S:List ax} {k j:Nat} {v:V} {cs:List V}
theorem Sat.rowAt (s:Sat h S)(J:getA S j=some (ja k v cs)): ((v=.bz∨∃a,v=.sle a)∧cs=[])∨∃id len cap,v=.sl id 0 len (.exact cap)∧cs.length=len*k∧T.get h.tr id=some (.cells cs.length cs true):=by
 obtain ⟨m,r,h1,U,o,I⟩:=s.at J
 cases o with
 | none=>exact .inl I
 | some x=>exact .inr ⟨x.1,x.2.1,x.2.2,I.2.1,I.2.2,U _ _ I.1⟩
theorem Sat.zU {n:Nat}{t e:TypeId}(s:Sat h S)(J:getA S j=some (ja k v cs))(I:cs.length=n*k)(hk:1≤k)(hu:P.underlying t=some (.slice e)): lenV P h t v=some (.int .i64 n):=by
 rcases s.rowAt J with ⟨U,rfl⟩ | ⟨id,len,cap,rfl,hl,_⟩
 ·have:n=0:=by
   cases n with
   | zero=>rfl
   | succ n=>simp only [bY,iz,vT] at I; omega
  subst this
  rcases U with rfl | ⟨a,rfl⟩
  ·exact Tm hu
  ·simp only [lenV,hu]; rfl
 ·have:n=len:=by
   rw [hl] at I
   exact (JL (by omega) I).symm
  subst this
  exact GS hu
theorem Sat.Ya {t e:TypeId}{i:Nat}(s:Sat h S)(J:getA S j=some (ja k v cs))(hi:i*k+k≤cs.length)(U:1≤k)(hu:P.underlying t=some (.slice e))(I:bG P e=some k)(ha:cg P e=some true):
  ∃id off,indexAddrV P t v (.int .i64 (i:Int))=some (.ptr id off)∧loadV P h e (.ptr id off)=some (.agg ((cs.drop (i*k)).take k)):=by
 rcases s.rowAt J with ⟨_,rfl⟩ | ⟨id,len,cap,rfl,hl,hg⟩
 ·simp at hi; omega
 ·refine ⟨id,i*k,?_,Se ha I hg rfl hi⟩
  simp only [indexAddrV,hu,I,cP]
  have:i<len:=by
   have h4:i*k+k=(i+1)*k:=by rw [iz,vT]
   rw [h4,hl] at hi
   exact DO (Dz hi U)
  rw [show (decide ((0:Int)≤(i:Int))&&decide ((i:Int)<(len:Int)))=true by simp; omega,ag]
  simp
theorem Sat.WG (s:Sat h S)(I:getA S j=some (ja k v cs)): v.cells=[v]∧storable v=true∧v.beq v=true:=by
 rcases s.rowAt I with ⟨rfl | ⟨a,rfl⟩,_⟩ | ⟨id,len,cap,rfl,_⟩
 ·exact ⟨rfl,rfl,rfl⟩
 ·exact ⟨rfl,rfl,by simp [V.beq]⟩
 ·exact ⟨rfl,rfl,CC _ _ _ _⟩
end
def nF : List V→List (Int×List Nat)→ax
 | [],[]=>.pu True
 | a::v::l,x::m=>.an (.an (.pu (a=.int .i64 x.1)) (.cm v x.2)) (nF l m)
 | _,_=>.pu False
theorem aE.nF : ∀(m:List (Int×List Nat)) (l:List V),aE (Am.nF l m):=by
 intro m
 induction m with
 | nil=>intro l; rcases l with _ | ⟨a,_ | ⟨b,l⟩⟩ <;> exact aE.pu _
 | cons x m I=>intro l; rcases l with _ | ⟨a,_ | ⟨b,l⟩⟩ <;> first | exact aE.pu _ | exact aE.an (aE.an (aE.pu _) (aE.cm _ _)) (I l)
theorem Ug {a b:PM}: ∀ {m:List (Int×List Nat)} {l:List V},(nF l m).p a b→l.length=m.length*2:=by
 intro m
 induction m with
 | nil=>intro l h; rcases l with _ | ⟨x,_ | ⟨y,l⟩⟩ <;> first | rfl | exact h.elim
 | cons x m I=>intro l h; rcases l with _ | ⟨x,_ | ⟨y,l⟩⟩ <;> first | exact h.elim | (have:=I h.2; simp only [bj]; omega)
theorem KE {a b:PM}: ∀ {m:List (Int×List Nat)} {l:List V} {i:Nat} {x:Int×List Nat},(nF l m).p a b→m[i]?=some x→∃u,(l.drop (i*2)).take 2=[.int .i64 x.1,u]∧(ax.cm u x.2).p a b:=by
 intro m
 induction m with
 | nil=>intro l i x h I; simp at I
 | cons y m J =>
  intro l i x h I
  rcases l with _ | ⟨p,_ | ⟨q,l⟩⟩
  ·exact h.elim
  ·exact h.elim
  ·cases i with
   | zero =>
    simp at I; subst I
    exact ⟨q,by rw [show p=.int .i64 y.1 from h.1.1]; rfl,h.1.2⟩
   | succ i =>
    rw [kn] at I
    obtain ⟨u,U,h2⟩:=J h.2 I
    exact ⟨u,by rw [show (i+1)*2=i*2+2 by omega]; exact U,h2⟩
structure jb where
 act:Int
 cG:Int
 w:List (Int×List Nat)
 data:List Nat
def oa (wv dv:V)(D:jb): ax:=.an (.xs fun cs:List V=>.an (ja 2 wv cs) (nF cs D.w)) (.cm dv D.data)
theorem aE.oa (wv dv:V)(D:jb): aE (Am.oa wv dv D):=aE.an (aE.xs fun _=>aE.an (aE.ja _ _ _) (aE.nF _ _)) (aE.cm _ _)
def jc : List V→List jb→ax
 | [],[]=>.pu True
 | a::b::w::d::l,x::m=>.an (.an (.pu (a=.int .i64 x.act∧b=.int .i64 x.cG)) (oa w d x)) (jc l m)
 | _,_=>.pu False
theorem aE.jc : ∀(m:List jb) (l:List V),aE (Am.jc l m):=by
 intro m
 induction m with
 | nil=>intro l; rcases l with _ | ⟨a,_ | ⟨b,_ | ⟨c,_ | ⟨d,l⟩⟩⟩⟩ <;> exact aE.pu _
 | cons x m I=>intro l; rcases l with _ | ⟨a,_ | ⟨b,_ | ⟨c,_ | ⟨d,l⟩⟩⟩⟩ <;> first | exact aE.pu _ | exact aE.an (aE.an (aE.pu _) (aE.oa _ _ _)) (I l)
theorem L8 {a b:PM}: ∀ {m:List jb} {l:List V},(jc l m).p a b→l.length=m.length*4:=by
 intro m
 induction m with
 | nil=>intro l h; rcases l with _ | ⟨x,_ | ⟨y,_ | ⟨z,_ | ⟨u,l⟩⟩⟩⟩ <;> first | rfl | exact h.elim
 | cons x m I=>intro l h; rcases l with _ | ⟨x,_ | ⟨y,_ | ⟨z,_ | ⟨u,l⟩⟩⟩⟩ <;> first | exact h.elim | (have:=I h.2; simp only [bj]; omega)
theorem Dj {a b:PM}: ∀ {m:List jb} {l:List V} {i:Nat} {x:jb},(jc l m).p a b→m[i]?=some x→∃w d,(l.drop (i*4)).take 4=[.int .i64 x.act,.int .i64 x.cG,w,d]∧(oa w d x).p a b:=by
 intro m
 induction m with
 | nil=>intro l i x h I; simp at I
 | cons y m J =>
  intro l i x h I
  rcases l with _ | ⟨p,_ | ⟨q,_ | ⟨w,_ | ⟨d,l⟩⟩⟩⟩
  ·exact h.elim
  ·exact h.elim
  ·exact h.elim
  ·exact h.elim
  ·cases i with
   | zero =>
    simp at I; subst I
    exact ⟨w,d,by rw [show p=.int .i64 y.act from h.1.1.1,show q=.int .i64 y.cG from h.1.1.2]; rfl,h.1.2⟩
   | succ i =>
    rw [kn] at I
    obtain ⟨u,v,U,h2⟩:=J h.2 I
    exact ⟨u,v,by rw [show (i+1)*4=i*4+4 by omega]; exact U,h2⟩
section
variable {told:dH} {h:H} {S:List ax} {X:ax} {r k q p a g aC N B:Nat} {op v x pv:V} {l data:List Nat} {ε:aM} {ps:List (List Nat)}
noncomputable def smL : Code:=cK [1,0,1,0,0] ((Tryz.f29.body).getD .skip)
theorem OO (hT:W told)(hN:ps.length=N)(hN2:N≤65536)(hB:B≤2000): ∀(j i:Nat) (ε:aM) (h:H) (E:List (Nat×V)) (Q:Ex→List (Nat×V)→H→Prop),i+j=N→EI N B ε→lP ε ps →
  Sat h (cu a p q r op data aC::b8 r p q ε.1::bf q p ε.2.1::aD p ε.2.2::.arr 1 pv (eH ps)::S)→Has E [(0,.ptr a 0),(1,pv),(5,.int .i64 (i:Int))] →
  (∀ε' E' h',EI N B ε'→((∀m,pgA ε' m=pgA ε m)∧∀P:VP,jS N P→vw P ε→vw P ε')→Sat h' (cu a p q r op data aC::b8 r p q ε'.1::bf q p ε'.2.1::aD p ε'.2.2::.arr 1 pv (eH ps)::S)→Q (.exit 0) E' h') →
  WP ⟨Tryz.prog,told⟩ 21 (.loop smL) E h Q:=by
 intro j
 induction j with
 | zero =>
  intro i ε h E Q hi I U s hE hx
  refine WP.loop (WP.has hE (zK 5 rfl (zo rfl (a_ rfl rfl rfl (s.iK (n:=N) (j:=4) rfl (by rw [kg,hN,dN]) (by decide) qB)) ?_)))
  refine zh rfl (ah rfl rfl bu) (by simp <;> omega) ?_
  exact zk 2 rfl (WP.exit (hx ε _ _ I ⟨fun _=>rfl,fun _ _ hv=>hv⟩ s))
 | succ j ih =>
  intro i ε h E Q hi I U s hE hx
  have hw:ps[i]?=some (ps[i]'(by omega)):=bh _
  generalize (ps[i]'(by omega))=w at hw
  obtain ⟨id,off,e1,e2⟩:=kV (P:=Tryz.prog) s (k:=4) rfl (Fw hw) qB R3
  have xG:=I.ct
  have Hy:=mL (ε:=ε)
  refine WP.loop (WP.has hE (zK 5 rfl (zo rfl (a_ rfl rfl rfl (s.iK (n:=N) (j:=4) rfl (by rw [kg,hN,dN]) (by decide) qB)) ?_)))
  refine zt rfl (ah rfl rfl bu) (by simp <;> omega) ?_
  refine zk 4 rfl (WP.block (zK 3 rfl (zo rfl (Lk rfl (GU Db rfl)) (zk 3 rfl (zo rfl (dY (r:=.ptr id off) rfl rfl e1) (zl rfl (e2 _ YV) (zc rfl (T8 (n:=(i:Int)) (w:=w) hT s I.ok (by omega)) ?_)))))))
  rintro v h ⟨e,b,ε',hr,rfl,s⟩
  obtain ⟨r1,r2,r3⟩:=I.reads hr (by omega) (by omega) (U i w hw)
  rw [r1]
  refine zh rfl (dX rfl rfl) (rfl) (zv (zj rfl (WP.skip (zr rfl (zm rfl (zb rfl (by exact bQ (aU (by omega) (by omega))) ?_))))))
  refine za rfl (zv ?_)
  exact ih (i+1) ε' _ _ Q (by omega) r2 (U.of fun m _=>r3 m) s ⟨rfl,rfl,rfl,aa⟩ fun J E' h' g1 g2 g3=>hx J E' h' g1 ⟨fun m=>by rw [g2.1,r3],fun P hP hv=>g2.2 P hP (hP.rd hr I.ec hv)⟩ g3
theorem Uh (U:W told)(hN:ps.length=N)(I:N≤65536)(hB:B≤2000)(J:EI N B ε)(hp:lP ε ps)(s:Sat h (cu a p q r op data aC::b8 r p q ε.1::bf q p ε.2.1::aD p ε.2.2::.arr 1 pv (eH ps)::S)):
  Call ⟨Tryz.prog,told⟩ 29 [.ptr a 0,pv] h fun v h'=>v=.bool true∧∃ε',EI N B ε'∧((∀m,pgA ε' m=pgA ε m)∧∀P:VP,jS N P→vw P ε→vw P ε') ∧
   Sat h' (cu a p q r op data aC::b8 r p q ε'.1::bf q p ε'.2.1::aD p ε'.2.2::.arr 1 pv (eH ps)::S):=by
 refine Call.of_wp (U.free _ rfl) Tryz.func29 rfl rfl (zK 9 rfl (WP.block ?_))
 refine OO U hN I hB N 0 ε _ _ _ (by omega) J hp s ⟨rfl,rfl,rfl,aa⟩ (fun ε' E' h' g1 g2 s' => ?_)
 have s:=s'
 exact WP.has (F:=[]) aa (zK 4 rfl (WP.ret ⟨aa,_,rfl,rfl,ε',g1,g2,s⟩))
end
theorem Yb {h:H}{S:List ax}{cs:List V}{m:List (Int×List Nat)}{i:Nat}{x:Int×List Nat}(s:Sat h (nF cs m::S))(U:m[i]?=some x):
  ∃u,(cs.drop (i*2)).take 2=[.int .i64 x.1,u]∧u.cells=[u]∧storable u=true∧u.beq u=true∧(∀b∈x.2,b<256)∧Sat h (.cm u x.2::nF cs m::S):=by
 obtain ⟨a,b,q1,q2,q3⟩:=s.at (k:=0) rfl
 obtain ⟨u,e1,e2⟩:=KE q3 U
 have s3:=(s.dup (aE.nF _ _)).fP (B:=.cm u x.2) fun a b h=>by
  obtain ⟨u',I,J⟩:=KE h U
  rw [e1] at I
  injection I with _ I
  injection I with I _
  subst I
  exact J
 have hu:=(s3.aG (k:=0) rfl (cJ _ _))
 exact ⟨u,e1,hu.cells.1,hu.cells.2,c8 hu,hu.1,s3⟩
theorem OP {h:H}{S:List ax}{cs:List V}{m:List (Int×List Nat)}{k:Nat}(s:Sat h S)(I:getA S k=some (nF cs m)): cs.length=m.length*2:=by
 obtain ⟨a,b,U,q2,J⟩:=s.at I
 exact Ug J
structure NX (N:Nat)(ps:List (List Nat))(now:List (Int×List Nat))(nx:List (List Nat)): Prop where
 len:nx.length=N
 old:ps.length=N
 is:∀(n:Nat) (w:List Nat),nx[n]?=some w→(match lookL (n:Int) now with | some b=>w=b.drop 12 | none=>ps[n]?=some w)
theorem NX.put {N:Nat}{ps nx:List (List Nat)}{now:List (Int×List Nat)}{n:Nat}{b:List Nat}(h:NX N ps now nx)(I:n<N): NX N ps (cM (n:Int) b now) (nx.set n (b.drop 12)):=by
 refine ⟨by rw [dw]; exact h.len,h.old,fun m w hm => ?_⟩
 rw [gQ]
 by_cases e:(n:Int)=(m:Int)
 ·have:n=m:=by omega
  subst this
  rw [aj rfl]
  rw [iO (by rw [h.len]; exact I)] at hm
  exact (bw hm).symm
 ·rw [af e]
  rw [iP (by omega)] at hm
  exact h.is m w hm
section
variable {told:dH} {h:H} {S:List ax} {X:ax} {r k q p a g aC N B:Nat} {op v x pv wv dv:V} {l data:List Nat} {ε:aM} {ps:List (List Nat)}
def okW (N:Nat)(x:Int×List Nat): Prop:=0≤x.1∧x.1<N∧bU x.2=true
instance (N:Nat) (x:Int×List Nat):Decidable (okW N x):=by unfold okW; infer_instance
def nxW (N:Nat): List (Int×List Nat)→List (List Nat)→List (List Nat)
 | [],nx=>nx
 | x::l,nx=>nxW N l (if okW N x then nx.set x.1.toNat (x.2.drop 12) else nx)
def nowW (N:Nat): List (Int×List Nat)→List (Int×List Nat)→List (Int×List Nat)
 | [],now=>now
 | x::l,now=>nowW N l (if okW N x then cM x.1 x.2 now else now)
theorem Ui {P:Program}{n:Nat}{v:V}{l:List (List Nat)}{w:List Nat}{t J:TypeId}(s:Sat h (.arr 1 v (eH l)::S))(hn:n<l.length)(hu:P.underlying t=some (.slice J))(I:bG P J=some 1):
  ∃id off h',indexAddrV P t v (.int .i64 (n:Int))=some (.ptr id off)∧gV P h J (.ptr id off) (.str w)=some h'∧Sat h' (.arr 1 v (eH (l.set n w))::S):=by
 have U:eH l≠[]:=fun e=>by have:=jh List.length e; rw [kg,bY] at this; omega
 have fW:=s.Lz (j:=0) rfl
 obtain ⟨id,m,cap,M,rest,rfl,hl,hM,s1,hc⟩:=s.Tr U
 rw [kg,dN] at hl
 obtain ⟨h',e1,e2⟩:=s1.dQ (P:=P) (t:=J) (k:=0) (off:=n) (v:=.str w) rfl I (by rw [bA,hM]) (by rw [hM,kg]; omega) rfl rfl
 refine ⟨id,n,h',?_,e1,hc h' (eH (l.set n w)) S ?_ ?_ ?_⟩
 ·simp only [indexAddrV,hu,I,cP]
  rw [show (decide ((0:Int)≤(n:Int))&&decide ((n:Int)<(m:Int)))=true by simp; omega,ag]
  simp
 ·rw [kg,kg,dw]
 ·rw [o_]; intro v hv; obtain ⟨x,_,rfl⟩:=List.mem_map.1 hv; rfl
 ·have e3:(eH l++rest).set n (.str w)=eH (l.set n w)++rest:=by
   rw [List.set_append_left _ _ (by rw [kg]; exact hn)]
   simp [eH,List.map_set]
  dsimp only [setA] at e2
  rw [e3] at e2
  exact e2
noncomputable def Zt : Code:=cK [1,1,1,1,1,0,1,0,0] ((Tryz.f28.body).getD .skip)
theorem OQ (hT:W told){p5:Nat}{cs:List V}{D:jb}(hN2:N≤65536)(hB:B≤2000)(hD:D.w.length≤1048576∧∀x∈D.w,x.2.length≤1048576): ∀(j i:Nat) (ε:aM) (now:List (Int×List Nat)) (nx:List (List Nat)) (nv:V) (h:H) (E:List (Nat×V)) (Q:Ex→List (Nat×V)→H→Prop),i+j=D.w.length→EI N B ε→NW N now→NX N ps now nx →
  Sat h (gO g a now false::cu a p q r (.ptr g 0) data aC::b8 r p q ε.1::bf q p ε.2.1::aD p ε.2.2::.arr 1 nv (eH nx)::.arr 1 pv (eH ps)::pt p5 (.cells 4 [.int .i64 D.act,.int .i64 D.cG,wv,dv] false)::ja 2 wv cs::nF cs D.w::S) →
  Has E [(0,.ptr a 0),(1,pv),(5,.ptr p5 0),(18,.ptr g 0),(20,nv),(21,.int .i64 (i:Int))] →
  (∀ε' gP Bu E' h',EI N B ε'→(∀m,pgA ε' m=pgA ε m)→NW N gP→NX N ps gP Bu→(Bu=nxW N (D.w.drop i) nx∧gP=nowW N (D.w.drop i) now∧∀P:VP,jS N P→vw P ε→vw P ε')→Has E' [(0,.ptr a 0),(1,pv),(5,.ptr p5 0),(18,.ptr g 0),(20,nv)] →
   Sat h' (gO g a gP false::cu a p q r (.ptr g 0) data aC::b8 r p q ε'.1::bf q p ε'.2.1::aD p ε'.2.2::.arr 1 nv (eH Bu)::.arr 1 pv (eH ps)::pt p5 (.cells 4 [.int .i64 D.act,.int .i64 D.cG,wv,dv] false)::ja 2 wv cs::nF cs D.w::S)→Q (.exit 1) E' h') →
  WP ⟨Tryz.prog,told⟩ 262 (.loop Zt) E h Q:=by
 intro j
 induction j with
 | zero =>
  intro i ε now nx nv h E Q hi oc hw hx s hE hq
  have hlen:=OP s (k:=9) rfl
  refine WP.loop (WP.has hE (zK 4 rfl (zf rfl (GY _ _) (zl rfl (s.ld (k:=7) rfl P6 rfl) (zo rfl (a_ rfl rfl rfl (s.zU (n:=D.w.length) (j:=8) rfl hlen (by decide) Di)) ?_)))))
  refine zh rfl (ah rfl rfl bu) (by simp <;> omega) ?_
  exact zk 2 rfl (WP.exit (hq ε now nx _ _ oc (fun _=>rfl) hw hx (by rw [tu (by omega)]; exact ⟨rfl,rfl,fun _ _ h=>h⟩) ⟨rfl,rfl,rfl,rfl,rfl,aa⟩ s))
 | succ j ih =>
  intro i ε now nx nv h E Q hi oc hw hx s hE hq
  have hlen:=OP s (k:=9) rfl
  have Fx:D.w[i]?=some (D.w[i]'(by omega)):=bh _
  generalize (D.w[i]'(by omega))=y at Fx
  obtain ⟨pg,b⟩:=y
  have j8:D.w.drop i=(pg,b)::D.w.drop (i+1):=by
   obtain ⟨h1,h2⟩:=List.getElem?_eq_some_iff.1 Fx
   rw [kR h1,h2]
  have sK:b.length≤1048576:=hD.2 _ (br Fx)
  obtain ⟨u,c1,u1,u2,u3,Yc,s⟩:=Yb (s.ae [9]) Fx
  dsimp only [bringA,getA,aT] at s
  obtain ⟨id,off,g1,g2⟩:=s.Ya (P:=Tryz.prog) (i:=i) (j:=10) rfl (by omega) (by decide) Di R8 XA
  rw [c1] at g2
  have s:=s.ae [9,2,2,2,2,2,0,1,1,1,0]
  dsimp only [bringA,getA,aT] at s
  have mK:∀e∈now,e.2.length=512:=fun e he=>fA (hw.good e he).1
  have xG:=oc.ct
  have Hy:=mL (ε:=ε)
  refine WP.loop (WP.has hE (zK 4 rfl (zf rfl (GY _ _) (zl rfl (s.ld (k:=0) rfl P6 rfl) (zo rfl (a_ rfl rfl rfl (s.zU (n:=D.w.length) (j:=9) rfl hlen (by decide) Di)) ?_)))))
  refine zt rfl (ah rfl rfl bu) (by simp <;> omega) ?_
  refine zk 4 rfl (WP.block (zg rfl (zf rfl (GY _ _) (zl rfl (s.ld (k:=0) rfl P6 rfl) (zm rfl (zo rfl (dY (r:=.ptr id off) rfl rfl g1) (zl rfl g2 ?_)))))))
  refine aB.cQ s rfl rfl rfl (cC XB) (fun p22 h s => ?_)
  dsimp only [V.cells,List.length_cons,List.length_nil,Nat.reduceAdd] at s
  refine zS rfl (s.g9 (j:=0) rfl R8 rfl (by simp only [iR,jg,u2]; rfl)) ?_
  intro h s
  dsimp only [setA] at s
  refine zk 4 rfl (zf rfl (tZ _ _) (zl rfl (s.ld (k:=0) rfl dr rfl) (zf rfl (AG _ _) (zl rfl (s.ld (k:=0) rfl bL rfl) (zc rfl (Oi (n:=pg) hT (s.ae [2,2,2,2,2,2]) (cJ _ _) (by omega) oc.ok (by omega) mK) ?_)))))
  rintro v h ⟨e,gP,ε',hr,rfl,s⟩
  dsimp only [bringA,getA,aT] at s
  obtain ⟨k1,k2,k3,k4,k5⟩:=hr.ec oc.ec oc.ok.pins
  have J:=oc.Oo hr
  have next:∀(h:H) (E:List (Nat×V)) (Bu:List (List Nat)) (I:aM),EI N B I→(∀m,pgA I m=pgA ε' m)→NW N gP→NX N ps gP Bu→(Bu=(if okW N (pg,b) then nx.set pg.toNat (b.drop 12) else nx)∧gP=(if okW N (pg,b) then cM pg b now else now)∧∀P:VP,jS N P→vw P ε'→vw P I) →
    Sat h (gO g a gP false::cu a p q r (.ptr g 0) data aC::b8 r p q I.1::bf q p I.2.1::aD p I.2.2::.arr 1 nv (eH Bu)::.arr 1 pv (eH ps)::pt p5 (.cells 4 [.int .i64 D.act,.int .i64 D.cG,wv,dv] false)::ja 2 wv cs::nF cs D.w::S) →
    Has E [(0,.ptr a 0),(1,pv),(5,.ptr p5 0),(18,.ptr g 0),(20,nv),(21,.int .i64 ((i:Int)+1))]→WP ⟨Tryz.prog,told⟩ 262 (.loop Zt) E h Q:=fun h E Bu I a1 a2 a3 a4 a7 a5 a6 =>
   ih (i+1) I gP Bu nv h E Q (by omega) a1 a3 a4 a5 a6 fun ε3 aaI nx3 E3 h3 b1 b2 b3 b4 b7 b5 b6=>hq ε3 aaI nx3 E3 h3 b1 (fun m=>by rw [b2,a2,k2]) b3 b4
    ⟨by rw [j8,nxW,←a7.1]; exact b7.1,by rw [j8,nowW,←a7.2.1]; exact b7.2.1,fun R hR A3=>b7.2.2 R hR (a7.2.2 R hR (hR.Oo hr oc.ec A3))⟩ b5 b6
  have Gr:¬okW N (pg,b)→gP=now→nx=(if okW N (pg,b) then nx.set pg.toNat (b.drop 12) else nx)∧gP=(if okW N (pg,b) then cM pg b now else now)∧∀P:VP,jS N P→vw P ε'→vw P ε':=fun q U=>⟨(if_neg q).symm,by rw [af q,U],fun _ _ h=>h⟩
  refine zk 2 rfl (WP.block (zg rfl (zf rfl (tZ _ _) (zl rfl (s.ld (k:=6) rfl dr rfl) ?_))))
  by_cases ab0:pg<0
  ·skip
   refine zt rfl (ah rfl rfl bu) (by simp; omega) ?_
   obtain ⟨rfl,U⟩:=k3 (by omega)
   have no:=Gr (fun q=>by have:=q.1; omega)
   refine zk 13 rfl (zh rfl (ah rfl rfl aX) (by simp) ?_)
   refine zk 4 rfl (zv (zj rfl (WP.skip (zr rfl (zm rfl (zb rfl (by exact bQ (aU (by omega) (by omega))) ?_))))))
   refine za rfl (zv ?_)
   exact next _ _ nx ε' J (fun _=>rfl) (by rw [U]; exact hw) (by rw [U]; exact hx) (no U) (((s.ae [0,0,0,0,0,3,3,2,2,2]).del 11).del 10) ⟨rfl,rfl,rfl,rfl,rfl,rfl,aa⟩
  ·skip
   refine zh rfl (ah rfl rfl bu) (by simp; omega) ?_
   refine zm rfl (zf rfl (tZ _ _) (zl rfl (s.ld (k:=6) rfl dr rfl) (zm rfl (zo rfl (a_ rfl rfl rfl (s.iK (n:=N) (j:=9) rfl (by rw [kg,hx.old,dN]) (by decide) qB)) ?_))))
   by_cases Ep:(N:Int)≤pg
   ·skip
    refine zt rfl (ah rfl rfl nq) (by simp; omega) ?_
    obtain ⟨rfl,U⟩:=k3 (by omega)
    have no:=Gr (fun q=>by have:=q.2.1; omega)
    refine zk 7 rfl (zh rfl (ah rfl rfl aX) (by simp) ?_)
    refine zk 4 rfl (zv (zj rfl (WP.skip (zr rfl (zm rfl (zb rfl (by exact bQ (aU (by omega) (by omega))) ?_))))))
    refine za rfl (zv ?_)
    exact next _ _ nx ε' J (fun _=>rfl) (by rw [U]; exact hw) (by rw [U]; exact hx) (no U) (((s.ae [0,0,0,0,0,3,3,2,2,2]).del 11).del 10) ⟨rfl,rfl,rfl,rfl,rfl,rfl,aa⟩
   ·skip
    refine zh rfl (ah rfl rfl nq) (by simp; omega) ?_
    obtain ⟨n,rfl⟩:∃n:Nat,pg=n:=⟨pg.toNat,by omega⟩
    have WH:n<N:=by omega
    refine zk 7 rfl ?_
    cases hg:bU b with
    | false =>
     obtain ⟨rfl,U⟩:=k4 (by omega) (by omega) hg
     have no:=Gr (fun q=>by have:=q.2.2; rw [hg] at this; cases this)
     refine zh rfl (ah rfl rfl cI) (by decide) ?_
     refine zk 5 rfl (zf rfl (AG _ _) (zl rfl (s.ld (k:=6) rfl bL rfl) (zc rfl (HY hT (s.ae [5]) (cJ _ _)) ?_)))
     rintro v h ⟨rfl,s⟩
     dsimp only [bringA,getA,aT] at s
     rw [hg]
     refine zt rfl (dX rfl rfl) (rfl) (zk 6 rfl (zh rfl (ah rfl rfl aX) (by decide) ?_))
     refine zv (zj rfl (WP.skip (zr rfl (zm rfl (zb rfl (by exact bQ (aU (by omega) (by omega))) ?_)))))
     refine za rfl (zv ?_)
     exact next _ _ nx ε' J (fun _=>rfl) (by rw [U]; exact hw) (by rw [U]; exact hx) (no U) (((s.ae [1,1,1,1,1,3,3,2,2,2]).del 11).del 10) ⟨rfl,rfl,rfl,rfl,rfl,rfl,aa⟩
    | true =>
     obtain ⟨rfl,rfl⟩:=k5 (by omega) (by omega) hg
     have qI:=hw.put (n:=(n:Int)) (by omega) (by omega) hg Yc
     have kP:=hx.put (b:=b) WH
     have abz:=J.ct
     have ab1:=mL (ε:=ε')
     refine zh rfl (ah rfl rfl cI) (by decide) ?_
     refine zk 5 rfl (zf rfl (AG _ _) (zl rfl (s.ld (k:=6) rfl bL rfl) (zc rfl (HY hT (s.ae [5]) (cJ _ _)) ?_)))
     rintro v h ⟨rfl,s⟩
     dsimp only [bringA,getA,aT] at s
     rw [hg]
     refine zh rfl (dX rfl rfl) (rfl) (zk 6 rfl (zh rfl (ah rfl rfl aX) (by decide) ?_))
     refine zk 4 rfl ?_
     have s:=s.ae [8,0]
     dsimp only [bringA,getA,aT] at s
     have lK:=er (s.aG (k:=1) rfl (cJ _ _)) (a:=12) (by rw [fA hg]; decide)
     obtain ⟨ny,aaJ,h2,f1,f2,f3⟩:=Ui (P:=Tryz.prog) (w:=b.drop 12) s (by rw [hx.len]; exact WH) qB R3
     refine WP.drawn [ai,ai,ai,ai,ai,ai,ai,ai,ai] rfl (by kernel_rfl) (by kernel_rfl) ?_
     refine zM rfl (zF rfl (tZ _ _) (zL rfl (s.ld (k:=7) rfl dr rfl) (zF rfl (AG _ _) (zL rfl (s.ld (k:=7) rfl bL rfl) (zO rfl (cD (p:=some (.int .i64 12)) (q:=none) (m:=none) (p':=some 12) (q':=none) (m':=none) rfl rfl rfl rfl rfl rfl rfl lK.1) (aA.op rfl rfl rfl (by simp only [isEff,jI]) (bV rfl (sP lK.2.1)) ?_))))))
     refine zO rfl (dY (r:=.ptr ny aaJ) rfl rfl f1) (aA.g8 rfl rfl rfl (OpR.d_ rfl rfl rfl (⟨h2,f2,f3⟩)) ?_)
     rintro v h ⟨rfl,s⟩
     refine aA.nil ⟨⟨aa,aa,aa,aa,aa,aa,aa,aa,aa,aa⟩,?_⟩
     obtain ⟨id3,aaK,f4,f5⟩:=kV (P:=Tryz.prog) s (k:=0) (i:=n) (c:=.str (b.drop 12)) rfl (Fw (iO (by rw [hx.len]; exact WH))) qB R3
     refine zw (WP.drawn [ai,ai,ai,ai,ai,ai,ai,ai,ai,ai,ai] rfl (by kernel_rfl) (by kernel_rfl) ?_)
     refine zM rfl (zO rfl (Lk rfl (GU uL rfl)) (zF rfl (tZ _ _) (zL rfl (s.ld (k:=7) rfl dr rfl) (zM rfl (zF rfl (tZ _ _) (zL rfl (s.ld (k:=7) rfl dr rfl) (zO rfl (dY (r:=.ptr id3 aaK) rfl rfl f4) (zL rfl (f5 _ YV) (aA.any rfl rfl rfl rfl (OpR.call rfl rfl rfl rfl (T9 (n:=(n:Int)) (w:=b.drop 12) hT (s.ae [2,2,2,2,2]) J.ok (by omega) (fun e he=>fA (qI.good e he).1))) ?_)))))))))
     rintro v h ⟨e2,b2,I,Co,rfl,s⟩
     dsimp only [bringA,getA,aT] at s
     obtain ⟨r1,r2,r3,r4⟩:=Co.ec J.ec J.ok.pins
     obtain ⟨rfl,rb⟩:=r3 (by omega) (by omega)
     rw [HJ] at rb
     simp only at rb
     subst rb
     have lJ:nh 0 b2 (b2.drop 12)=true:=by
      obtain ⟨q1,q2⟩:=L7 hg
      rw [nh,dM q1,dM q2]; rfl
     rw [lJ]
     refine aA.nr rfl rfl rfl rfl (dX rfl rfl) (rfl) ?_
     refine aA.nil ⟨⟨aa,aa,aa,aa,aa,aa,aa,aa,aa,aa,aa,aa⟩,?_⟩
     refine zj rfl (WP.skip (zr rfl (zm rfl (zb rfl (by exact bQ (aU (by omega) (by omega))) ?_))))
     refine za rfl (zv ?_)
     exact next _ _ _ I (J.zJ Co) r2 qI kP ⟨(if_pos (show okW N ((n:Int),b2) from ⟨by omega,by omega,hg⟩)).symm,(if_pos (show okW N ((n:Int),b2) from ⟨by omega,by omega,hg⟩)).symm,fun R hR h=>hR.zJ Co J.ec h⟩ (((s.ae [0,0,0,0,0,0,3,2,2,2]).del 11).del 10) ⟨rfl,rfl,rfl,rfl,rfl,rfl,aa⟩
end
theorem aaL {P:Program}{E:List (Nat×V)}{h:H}{a b c d:Nat}{v w x y:V}(I:look E a=some v)(J:look E b=some w)(U:look E c=some x)(h4:look E d=some y): ju P E h [.tmp a,.tmp b,.tmp c,.tmp d]=some (.bD [v,w,x,y]):=by simp only [ju,mapO,resE,I,J,U,h4]
theorem BS {P:Program}{h:H}{t:TypeId}{x y:Operand}{k:Int}{m:Nat}(hm:m<65536): binV P h .and t x y (.int .i64 k) (.int .i64 (m:Int))=some (.int .i64 ((Nat.land ((k%(2^(IntKind.i64).bits:Int)).toNat) m:Nat):Int)):=by
 have I:(((m:Nat):Int)%(2^(IntKind.i64).bits:Int)).toNat=m:=by simp only [IntKind.bits]; omega
 simp only [binV,ikBeq,ag,intV,bitsV,I]
 have hle:Nat.land ((k%(2^(IntKind.i64).bits:Int)).toNat) m≤m:=Af
 rw [wrap_i64 (n:=Nat.land ((k%(2^(IntKind.i64).bits:Int)).toNat) m) (by omega)]
theorem OR {h:H}{l:List Nat}{kd:Int}{tx:Nat}{dv:V}(I:View h dv l): buildV Tryz.prog 40 [(0,.int .i64 kd),(1,.int .u64 (tx:Int)),(4,dv)]=some (.agg (iC kd tx 0 0 dv .bz)):=by
 rcases I.2 with ⟨rfl | ⟨J,rfl⟩,_⟩ | ⟨id,off,cap,n,cs,st,rfl,_⟩
 ·rw [w5]; rfl
 ·rw [w5]; rfl
 ·rw [w5]; rfl
theorem NX.Yd {N:Nat}{ε ε':aM}{ps nx:List (List Nat)}{now:List (Int×List Nat)}{aI:Nat}(h:NX N ps now nx)(hw:NW N now)(hp:lP ε ps)(hd:∀m,pgA ε' m=match lookL m now with | some b=>cO b aI | none=>pgA ε m): lP ε' nx:=fun n w hn=>by
 have I:=h.is n w hn
 rw [hd]
 cases J:lookL (n:Int) now with
 | some b =>
  rw [J] at I
  simp only at I ⊢
  have U:=hw.look J
  rw [I]
  exact (zQ U.1 U.2).2.2
 | none =>
  rw [J] at I
  exact hp n w I
def nG (k:Int): Nat:=Nat.land ((k%(2^(IntKind.i64).bits:Int)).toNat) 3+1
def vF (k:Int): Nat:=Nat.land ((k%(2^(IntKind.i64).bits:Int)).toNat) 255
theorem KF {k:Int}: 1≤nG k∧nG k≤4:=by
 have:Nat.land ((k%(2^(IntKind.i64).bits:Int)).toNat) 3≤3:=Af
 unfold nG; omega
theorem EG {k:Int}: vF k≤255:=Af
inductive vp (N:Nat)(D:jb)(ε:aM)(ps:List (List Nat)): Int→List (List Nat)→Nat→aM→Prop where
 | drop (ε':aM) (ha:D.act=2) (hp:∀P:VP,jS N P→vw P ε→vw P ε') (hg:∀m,pgA ε' m=pgA ε m):vp N D ε ps 0 ps 0 ε'
 | fail (Ih ε':aM) (aI:Nat) (e:Int) (ha:D.act≠2) (hp:∀P:VP,jS N P→vw P ε→vw P Ih) (hg:∀m,pgA Ih m=pgA ε m) (hw:NW N (nowW N D.w [])) (hi:∃B,B≤900∧EI N B Ih)
  (hr:sq Ih (nowW N D.w []) (nG D.cG) (vF D.cG) 0 0 D.data 0 aI e false ε') (he:e=7∨e=2):vp N D ε ps e ps 0 ε'
 | done (Ih ε':aM) (aI:Nat) (ha:D.act≠2) (hp:∀P:VP,jS N P→vw P ε→vw P Ih) (hg:∀m,pgA Ih m=pgA ε m) (hw:NW N (nowW N D.w [])) (hi:∃B,B≤900∧EI N B Ih)
  (hr:sq Ih (nowW N D.w []) (nG D.cG) (vF D.cG) 0 0 D.data 0 aI 0 true ε'):vp N D ε ps 0 (nxW N D.w ps) aI ε'
section
variable {told:dH} {h:H} {S:List ax} {X:ax} {r k q p a g aC N B:Nat} {op v x pv nv wv dv:V} {l data:List Nat} {ε WI:aM} {ps nx:List (List Nat)} {now:List (Int×List Nat)}
noncomputable def pgE : Code:=cK [1,1,1,1,1,1] ((Tryz.f28.body).getD .skip)
theorem OS (hT:W told){p5:Nat}{D:jb}(hB:B≤900)(I:EI N B ε)(hw:NW N now)(hx:NX N ps now nx)(hp:lP ε ps)(hD:D.data.length≤1048576)
 (mK:now=nowW N D.w [])(Fi:nx=nxW N D.w ps)(WJ:∀P:VP,jS N P→vw P WI→vw P ε)(mC:∀m,pgA ε m=pgA WI m)
 (s:Sat h (gO g a now false::cu a p q r (.ptr g 0) data aC::b8 r p q ε.1::bf q p ε.2.1::aD p ε.2.2::.cm dv D.data::.arr 1 nv (eH nx)::.arr 1 pv (eH ps)::pt p5 (.cells 4 [.int .i64 D.act,.int .i64 D.cG,wv,dv] false)::S))
 {E:List (Nat×V)}(hE:Has E [(0,.ptr a 0),(1,pv),(5,.ptr p5 0),(18,.ptr g 0),(20,nv)]){Q:Ex→List (Nat×V)→H→Prop}
 (hq:∀(e:Int) (mT:List (List Nat)) (oC:V) (aI:Nat) (ε':aM) (E':List (Nat×V)) (h':H),vp N D WI ps e mT aI ε'→EI N (B+2) ε'→mT.length=N→lP ε' mT →
   look E' 6=some oC→look E' 7=some (.int .u64 (aI:Int))→look E' 8=some (.bool true)→look E' 9=some (.int .i64 e) →
   Sat h' (cu a p q r .cF data aC::b8 r p q ε'.1::bf q p ε'.2.1::aD p ε'.2.2::.arr 1 oC (eH mT)::S)→Q .ret E' h'):
  WP ⟨Tryz.prog,told⟩ 262 pgE E h Q:=by
 have hN:=I.many
 have xG:=I.ct
 have eO:=I.el.size
 have hv:=s.aG (k:=5) rfl (cJ _ _)
 have s:=s.ae [8]
 refine WP.has hE (zK 3 rfl (zf rfl (GW _ _) (zl rfl (s.ld (k:=0) rfl dr rfl) ?_)))
 by_cases J:D.act=2
 ·skip
  refine zt rfl (ah rfl rfl cI) (by simp; exact J) ?_
  refine zk 5 rfl (zc rfl (HL hT (s.ae [1,1])) ?_)
  rintro v h ⟨rfl,s⟩
  exact zk 9 rfl (WP.ret (hq 0 ps pv 0 ε _ _ (.drop ε J WJ mC) (I.more (by omega)) hx.old hp rfl rfl rfl rfl (((((s.ae [1,2,2,2,4]).del 8).del 7).del 6).del 5)))
 ·have OT:=KF (k:=D.cG)
  have Fh:=EG (k:=D.cG)
  refine zh rfl (ah rfl rfl cI) (by simp; exact J) ?_
  refine zk 6 rfl (zf rfl (GX _ _) (zl rfl (s.ld (k:=0) rfl dr rfl) (zb rfl (BS (m:=3) (by decide)) ?_)))
  refine zo rfl (ah (r:=.int .i64 (nG D.cG:Int)) rfl rfl (by rw [show ((nG D.cG:Nat):Int)=1+((Nat.land ((D.cG%(2^(IntKind.i64).bits:Int)).toNat) 3:Nat):Int) by unfold nG; omega]; exact bQ (aU (by unfold nG at OT; omega) (by unfold nG at OT; omega)))) ?_
  refine zf rfl (GX _ _) (zl rfl (s.ld (k:=0) rfl dr rfl) (zb rfl (BS (m:=255) (by decide)) ?_))
  refine zo rfl (bV (r:=.int .u64 (vF D.cG:Int)) rfl (jF bF cq (eW (by omega) (by unfold vF at Fh; omega)))) ?_
  refine zf rfl (yN _ _) (zl rfl (s.ld (k:=0) rfl bL rfl) (zo rfl (c7 rfl (OR hv)) ?_))
  have s:=s.qq (k:=4)
  refine zc rfl (TZ (pW:=0) hT (s.ae [2,2,2,2,2,2,0]) (cJ _ _) rfl I.ok (by omega) (fun e he=>fA (hw.good e he).1) (by have:=hw.len; omega) (fun n hn=>by have:=hw.keys n hn; omega) (by omega) (by decide) (by decide) (by omega) I.el.log (by omega)) ?_
  rintro v h ⟨aI,e,cl,ε',hr,rfl,s⟩
  have yq:=hr
  rw [mK] at yq
  rcases I.done (by omega) hw (by omega) (by omega) hr with ⟨rfl,he,U,L9⟩ | ⟨rfl,rfl,U,L9⟩
  ·have s:Sat h (gO g a now false::cu a p q r (.ptr g 0) data aC::_):=s
   have he9:e≠9:=by omega
   have out:vp N D WI ps e ps 0 ε':=.fail ε ε' aI e J WJ mC (by rw [←mK]; exact hw) ⟨B,hB,I⟩ yq he
   refine zk 10 rfl (zh rfl (ah rfl rfl cI) (by simp; exact he9) ?_)
   refine zk 7 rfl (zt rfl (ah rfl rfl aX) (by simp; omega) ?_)
   refine zk 5 rfl (zc rfl (HL hT s) ?_)
   rintro v h ⟨rfl,s⟩
   refine zk 5 rfl ?_
   have fin:=(((((s.ae [1,1,1,1,4]).del 8).del 7).del 6).del 5)
   rcases he with rfl | rfl
   ·skip
    refine zt rfl (ah rfl rfl cI) (by decide) ?_
    exact zk 10 rfl (WP.ret (hq 7 ps pv 0 ε' _ _ out U hx.old (hp.of fun m _=>L9 m) rfl rfl rfl rfl fin))
   ·skip
    refine zh rfl (ah rfl rfl cI) (by decide) ?_
    refine zk 2 rfl (zt rfl (ah rfl rfl cI) (by decide) ?_)
    exact zk 7 rfl (WP.ret (hq 2 ps pv 0 ε' _ _ out U hx.old (hp.of fun m _=>L9 m) rfl rfl rfl rfl fin))
  ·have s:Sat h (gO g a now true::cu a p q r .cF data aC::_):=s
   refine zk 10 rfl (zh rfl (ah rfl rfl cI) (by decide) ?_)
   refine zk 7 rfl (zh rfl (ah rfl rfl aX) (by decide) ?_)
   exact zk 12 rfl (WP.ret (hq 0 nx nv aI ε' _ _ (by rw [Fi]; exact .done ε ε' aI J WJ mC (by rw [←mK]; exact hw) ⟨B,hB,I⟩ yq) U hx.len (hx.Yd hw hp L9) rfl rfl rfl rfl (((((s.ae [1,1,1,1,3]).del 8).del 7).del 6).del 5)))
end
theorem Ii : ∃i,Tryz.prog.info? 9=some i∧i.size=1∧i.bytes=16 :=
 ⟨_,(show Tryz.prog.info? 9=some ((Tryz.prog.info? 9).getD default) by kernel_rfl),by kernel_rfl,by kernel_rfl⟩
inductive Dl (N:Nat)(D:jb)(ε:aM)(ps:List (List Nat))(data:List Nat)(aC:Nat): Int→List (List Nat)→Nat→aM→List Nat→Nat→Prop where
 | SH (e:Int) (mT:List (List Nat)) (aI:Nat) (ε':aM) (h:¬(3≤D.act∧D.act≤7)) (ho:vp N D ε ps e mT aI ε'):Dl N D ε ps data aC e mT aI ε' data aC
 | ck (e:Int) (lo:Nat) (ε':aM) (iN:List Nat) (j_:Nat) (h:D.act=3) (OC:lo=0∨lo=ε.2.1.base) (hr:Bp ε lo D.data data aC e ε' iN j_):Dl N D ε ps data aC e ps 0 ε' iN j_
 | all (h:D.act=4):Dl N D ε ps data aC 0 ps 0 (writeAllF (aJ ε.1.aH) ε).2 data aC
 | sync (h:D.act=5):Dl N D ε ps data aC 0 ps 0 ((dP ε.1 ε.2.2).2.1,(ε.2.1,(dP ε.1 ε.2.2).2.2)) data aC
 | clean (h:D.act=6):Dl N D ε ps data aC 0 ps 0 (fD ε).2 data aC
 | force (h:D.act=7):Dl N D ε ps data aC 0 ps 0 (ε.1,(bC ε.2 (ε.2.1.base+ε.2.1.b.length)).2) data aC
def WK (N B a p q r:Nat)(D:jb)(ε:aM)(ps:List (List Nat))(data:List Nat)(aC:Nat)(S:List ax)(Q:Ex→List (Nat×V)→H→Prop): Prop :=
 ∀(e:Int) (J:List (List Nat)) (oC:V) (aI:Nat) (ε':aM) (I:List Nat) (U:Nat) (E':List (Nat×V)) (h':H),Dl N D ε ps data aC e J aI ε' I U→e≠9→EI N (B+2) ε'→J.length=N→lP ε' J→I.length≤1048576 →
   look E' 6=some oC→look E' 7=some (.int .u64 (aI:Int))→look E' 8=some (.bool true)→look E' 9=some (.int .i64 e) →
   Sat h' (cu a p q r .cF I U::b8 r p q ε'.1::bf q p ε'.2.1::aD p ε'.2.2::.arr 1 oC (eH J)::S)→Q .ret E' h'
section
variable {told:dH} {h:H} {S:List ax} {X:ax} {r k q p a g aC N B:Nat} {op v x pv nv wv dv:V} {l data:List Nat} {ε:aM} {ps nx:List (List Nat)} {now:List (Int×List Nat)} {Q:Ex→List (Nat×V)→H→Prop}
noncomputable def plK : Code:=cK [1,0,1,0,1,0,1,1] ((Tryz.f28.body).getD .skip)
theorem KG (hT:W told){p5 lo:Nat}{D:jb}(hB:B≤900)(I:EI N B ε)(hN:ps.length=N)(hp:lP ε ps)(qu:data.length≤1048576)(hD:D.data.length≤1048576)(OC:lo<18446744073709551616)(ha:D.act=3)(xS:lo=0∨lo=ε.2.1.base)
 (s:Sat h (pt p5 (.cells 4 [.int .i64 D.act,.int .i64 D.cG,wv,dv] false)::cu a p q r .cF data aC::b8 r p q ε.1::bf q p ε.2.1::aD p ε.2.2::.cm dv D.data::.arr 1 pv (eH ps)::S))
 {E:List (Nat×V)}(hE:Has E [(0,.ptr a 0),(1,pv),(5,.ptr p5 0),(10,.int .u64 (lo:Int))])(hq:WK N B a p q r D ε ps data aC S Q):
  WP ⟨Tryz.prog,told⟩ 262 plK E h Q:=by
 have WL:=I.many
 have eO:=I.el.size
 have aaM:=I.aN
 refine WP.has hE (zK 4 rfl (zf rfl (yN _ _) (zl rfl (s.ld (k:=0) rfl bL rfl) (zc rfl (KB (lo:=lo) hT (s.ae [1,1,1,1,1]) (cJ _ _) I.ok.ok OC (by omega) (fun n hn=>wf_i64 (I.ec.oR n hn).1 (by have:=(I.ec.oR n hn).2; omega)) I.el.log (by omega)) ?_))))
 rintro v h ⟨e,ε',J,U,hr,rfl,s⟩
 obtain ⟨i1,i2,i3⟩:=I.zT (by omega) hr
 have Ch:J.length≤1048576:=by rcases i3 with ⟨_,_,rfl⟩ | ⟨_,rfl⟩ | ⟨_,rfl⟩ <;> assumption
 refine zk 5 rfl (zc rfl (xB hT s (by omega)) ?_)
 rintro v h ⟨w,rfl,s⟩
 have r_:=s.aG (k:=0) rfl (bE _ _)
 have ng:=s.aG (k:=5) rfl (cJ _ _)
 have s:=s.ae [6]
 have fin:=(((s.ae [2,2,2,2,3]).del 7).del 6).del 5
 dsimp only [bringA,getA,aT] at fin
 rcases i3 with ⟨rfl,Ep,_⟩ | ⟨rfl,_⟩ | ⟨rfl,rfl⟩
 ·skip
  refine zk 7 rfl (WP.drawn [ai,ai,ai,ai,ai,ai,ai,ai,ai,ai,ai,ai,ai,ai,ai,ai,ai,ai,ai,ai,ai,ai,ai,ai,ai,ai,ai,ai,ai,ai,ai,ai,ai,ai] rfl (by kernel_rfl) (by kernel_rfl) ?_)
  refine zM rfl (zM rfl (aA.nr rfl rfl rfl rfl (ah rfl rfl cI) (by decide) ?_))
  refine zM rfl (zM rfl (aA.nr rfl rfl rfl rfl (ah rfl rfl cI) (by decide) ?_))
  refine zO rfl (kA rfl rfl) (zM rfl (zM rfl (aA.nr rfl rfl rfl rfl (ah rfl rfl cI) (by decide) ?_)))
  refine zM rfl (aA.no (e:=false) rfl rfl rfl rfl (aA.no (e:=false) rfl rfl rfl (by simp only [isEff,jI]) ?_))
  refine aA.no (e:=false) rfl rfl rfl rfl (aA.no (e:=false) rfl rfl rfl rfl (aA.no (e:=false) rfl rfl rfl (by simp only [isEff,jI]) ?_))
  refine aA.no (e:=false) rfl rfl rfl rfl (zO rfl (kA rfl rfl) (zO rfl (kA rfl rfl) (zM rfl (zM rfl (aA.qn rfl rfl rfl rfl (ah rfl rfl cI) (by decide) ?_)))))
  refine zM rfl (zF rfl (yN _ _) (zL rfl (s.ld (k:=0) rfl bL rfl) (zO rfl (a_ rfl rfl rfl (bg aS ng)) (aA.qn rfl rfl rfl rfl (ah rfl rfl dR) (by simp; omega) ?_))))
  refine zO rfl (kT rfl rfl) (zO rfl (kA rfl rfl) (zM rfl (zA rfl (zA rfl (zA rfl (zA rfl ?_))))))
  refine aA.nil ⟨⟨aa,aa,aa,aa,aa,aa,aa,aa,aa,aa,aa,aa,aa,aa,aa,aa,aa,aa,aa,aa,aa,aa,aa,aa,aa,aa,aa,aa,aa,aa,aa,aa,aa,aa,aa⟩,?_⟩
  exact WP.ret (hq 2 ps pv 0 ε' J U _ _ (.ck _ lo _ _ _ ha xS hr) (by decide) (i1.more (by omega)) hN (hp.of fun m _=>i2 m) Ch rfl rfl rfl rfl fin)
 ·skip
  refine zk 7 rfl (WP.drawn [ai,ai,ai,ai,ai,ai,ai,ai,ai,ai,ai,ai,ai,ai,ai,ai,ai,ai,ai,ai,ai,ai,ai,ai,ai,ai,ai,ai,ai,ai,ai,ai,ai,ai] rfl (by kernel_rfl) (by kernel_rfl) ?_)
  refine zM rfl (zM rfl (aA.nr rfl rfl rfl rfl (ah rfl rfl cI) (by decide) ?_))
  refine zM rfl (zM rfl (aA.qn rfl rfl rfl rfl (ah rfl rfl cI) (by decide) ?_))
  refine zO rfl (kA rfl rfl) (zM rfl (aA.no (e:=false) rfl rfl rfl rfl (aA.no (e:=false) rfl rfl rfl rfl (aA.no (e:=false) rfl rfl rfl rfl (aA.no (e:=false) rfl rfl rfl rfl (aA.no (e:=false) rfl rfl rfl (by simp only [isEff,jI]) ?_))))))
  refine aA.no (e:=false) rfl rfl rfl rfl (aA.no (e:=false) rfl rfl rfl rfl (aA.no (e:=false) rfl rfl rfl (by simp only [isEff,jI]) ?_))
  refine aA.no (e:=false) rfl rfl rfl rfl (aA.no (e:=false) rfl rfl rfl rfl (zO rfl (kT rfl rfl) (zM rfl (aA.no (e:=false) rfl rfl rfl rfl (aA.no (e:=false) rfl rfl rfl rfl (aA.no (e:=false) rfl rfl rfl rfl (aA.no (e:=false) rfl rfl rfl rfl (aA.no (e:=false) rfl rfl rfl rfl (aA.no (e:=false) rfl rfl rfl rfl (aA.no (e:=false) rfl rfl rfl rfl (aA.no (e:=false) rfl rfl rfl rfl (zO rfl (kT rfl rfl) (zM rfl (zA rfl (zA rfl (zA rfl (zA rfl ?_)))))))))))))))))
  refine aA.nil ⟨⟨aa,aa,aa,aa,aa,aa,aa,aa,aa,aa,aa,aa,aa,aa,aa,aa,aa,aa,aa,aa,aa,aa,aa,aa,aa,aa,aa,aa,aa,aa,aa,aa,aa,aa,aa⟩,?_⟩
  exact WP.ret (hq 7 ps pv 0 ε' J U _ _ (.ck _ lo _ _ _ ha xS hr) (by decide) (i1.more (by omega)) hN (hp.of fun m _=>i2 m) Ch rfl rfl rfl rfl fin)
 ·skip
  refine zk 7 rfl (WP.drawn [ai,ai,ai,ai,ai,ai,ai,ai,ai,ai,ai,ai,ai,ai,ai,ai,ai,ai,ai,ai,ai,ai,ai,ai,ai,ai,ai,ai,ai,ai,ai,ai,ai,ai] rfl (by kernel_rfl) (by kernel_rfl) ?_)
  refine zM rfl (zM rfl (aA.nr rfl rfl rfl rfl (ah rfl rfl cI) (by decide) ?_))
  refine zM rfl (zM rfl (aA.nr rfl rfl rfl rfl (ah rfl rfl cI) (by decide) ?_))
  refine zO rfl (kA rfl rfl) (zM rfl (zM rfl (aA.qn rfl rfl rfl rfl (ah rfl rfl cI) (by decide) ?_)))
  refine zM rfl (zM rfl (aA.op rfl rfl rfl (by simp only [isEff,jI]) (bV rfl (sP r_)) ?_))
  refine zF rfl (yN _ _) (zL rfl (s.ld (k:=0) rfl bL rfl) (aA.op rfl rfl rfl (by simp only [isEff,jI]) (bV rfl (sP ng)) ?_))
  refine aA.qn rfl rfl rfl rfl (ah rfl rfl s_) (decide_eq_true rfl) (zO rfl (kT rfl rfl) (zO rfl (kA rfl rfl) (zM rfl (aA.no (e:=false) rfl rfl rfl rfl (aA.no (e:=false) rfl rfl rfl rfl (aA.no (e:=false) rfl rfl rfl rfl (aA.no (e:=false) rfl rfl rfl rfl (aA.no (e:=false) rfl rfl rfl rfl (aA.no (e:=false) rfl rfl rfl rfl (aA.no (e:=false) rfl rfl rfl rfl (aA.no (e:=false) rfl rfl rfl rfl (zO rfl (kT rfl rfl) (zM rfl (zA rfl (zA rfl (zA rfl (zA rfl ?_)))))))))))))))))
  refine aA.nil ⟨⟨aa,aa,aa,aa,aa,aa,aa,aa,aa,aa,aa,aa,aa,aa,aa,aa,aa,aa,aa,aa,aa,aa,aa,aa,aa,aa,aa,aa,aa,aa,aa,aa,aa,aa,aa⟩,?_⟩
  exact WP.ret (hq 0 ps pv 0 ε' _ U _ _ (.ck _ lo _ _ _ ha xS hr) (by decide) (i1.more (by omega)) hN (hp.of fun m _=>i2 m) Ch rfl rfl rfl rfl fin)
noncomputable def plG : Code:=cK [1,1] ((Tryz.f28.body).getD .skip)
theorem Uj (U:W told){p5:Nat}{cs:List V}{D:jb}(hB:B≤900)(I:EI N B ε)(hN:ps.length=N)(hp:lP ε ps)(qu:data.length≤1048576)(hD:D.data.length≤1048576∧D.w.length≤1048576∧∀x∈D.w,x.2.length≤1048576)(ha:¬(3≤D.act∧D.act≤7))
 (s:Sat h (cu a p q r .cF data aC::b8 r p q ε.1::bf q p ε.2.1::aD p ε.2.2::.arr 1 pv (eH ps)::pt p5 (.cells 4 [.int .i64 D.act,.int .i64 D.cG,wv,dv] false)::ja 2 wv cs::nF cs D.w::.cm dv D.data::S))
 {E:List (Nat×V)}(hE:Has E [(0,.ptr a 0),(1,pv),(5,.ptr p5 0)])(hq:WK N B a p q r D ε ps data aC S Q):
  WP ⟨Tryz.prog,told⟩ 262 plG E h Q:=by
 have WL:=I.many
 refine WP.has hE (zK 3 rfl (zc rfl (Oh U s) ?_))
 rintro v h ⟨g,rfl,s⟩
 refine zk 10 rfl (zh rfl (ah rfl rfl aX) (by decide) ?_)
 refine zk 2 rfl (zh rfl (ah rfl rfl (C6 uL)) (rfl) (zk 6 rfl ?_))
 obtain ⟨h1,e1,s1⟩:=Ez (P:=Tryz.prog) s qB VG R3 rfl (by decide)
 refine aB.any rfl rfl rfl (OpR.of (R:=fun v h'=>v=.sl h.next 0 0 (.exact 0)∧h'=h1) (oJ rfl e1) ⟨rfl,rfl⟩) ?_
 rintro v h' ⟨rfl,rfl⟩
 have s:=(T0 (q:=1) s1).ae [0,5]
 obtain ⟨i1,lN,jX,sN⟩:=Ii
 obtain ⟨nv,h2,e2,s2⟩:=jx (P:=Tryz.prog) s qB lN VG jX (by omega) rfl (by decide) (by rw [kg,hN]; simp; omega)
 refine zm rfl (aB.any rfl rfl rfl (OpR.of (R:=fun v h'=>v=nv∧h'=h2) (oE rfl rfl e2) ⟨rfl,rfl⟩) ?_)
 rintro v h ⟨rfl,rfl⟩
 rw [cW] at s2
 refine zk 7 rfl (WP.block ?_)
 refine OQ U (N:=N) (ps:=ps) WL (by omega) hD.2 D.w.length 0 ε [] ps _ _ _ _ (by omega) I (NW.nil N) ⟨hN,hN,fun n w h=>h⟩ (s2.ae [2,2,2,2,2,0,0,0,0,0]) ⟨rfl,rfl,rfl,rfl,rfl,rfl,aa⟩ (fun ε' gP Bu E' h' g1 g2 g3 g4 J g5 s' => ?_)
 rw [dS] at J
 have s:=s'
 exact OS U (B:=B) (WI:=ε) hB g1 g3 g4 (hp.of fun m _=>g2 m) hD.1 J.2.1 J.1 J.2.2 g2 (((s.ae [0,0,0,0,0,5,0,0,0]).del 10).del 9) g5 fun e mT oC aI ε' E' h' ho b1 b2 b3 l6 l7 l8 l9 s' =>
  hq e mT oC aI ε' data aC E' h' (.SH _ _ _ _ ha ho) (by cases ho with | drop=>decide | fail _ _ _ _ _ _ _ _ _ _ he=>omega | done=>decide) b1 b2 b3 qu l6 l7 l8 l9 s'
theorem Uk (hT:W2 told){D:jb}(hB:B≤900)(U:EI N B ε)(hN:ps.length=N)(hp:lP ε ps)(qu:data.length≤1048576)(hD:D.data.length≤1048576∧D.w.length≤1048576∧∀x∈D.w,x.2.length≤1048576)
 (s:Sat h (cu a p q r .cF data aC::b8 r p q ε.1::bf q p ε.2.1::aD p ε.2.2::.arr 1 pv (eH ps)::oa wv dv D::S)):
  Call ⟨Tryz.prog,told⟩ 28 [.ptr a 0,pv,.agg [.int .i64 D.act,.int .i64 D.cG,wv,dv]] h fun v h'=>∃(e:Int) (mT:List (List Nat)) (oC:V) (aI:Nat) (ε':aM) (iN:List Nat) (j_:Nat),
   Dl N D ε ps data aC e mT aI ε' iN j_∧e≠9∧EI N (B+2) ε'∧mT.length=N∧lP ε' mT∧iN.length≤1048576∧v=.bD [oC,.int .u64 (aI:Int),.bool true,.int .i64 e] ∧
   Sat h' (cu a p q r .cF iN j_::b8 r p q ε'.1::bf q p ε'.2.1::aD p ε'.2.2::.arr 1 oC (eH mT)::S):=by
 have WL:=U.many
 have xG:=U.ct
 have Hy:=mL (ε:=ε)
 have eO:=U.el.size
 obtain ⟨q1,q2⟩:=U.aH
 have tf:∀n∈ε.1.aH.map (·.1),(Lit.int .i64 n).wf=true:=fun n hn=>wf_i64 (q1 n hn).1 (by have:=(q1 n hn).2; omega)
 -- the deed's parts
 have s:=((s.ae [5]).dup (aE.oa _ _ _)).fP (B:=.cm dv D.data) (fun _ _ h=>h.2) |>.ae [1] |>.fP (B:=.xs fun cs:List V=>.an (ja 2 wv cs) (nF cs D.w)) (fun _ _ h=>h.1)
 obtain ⟨cs,s⟩:=gw.1 s
 have s:=(s.dup (aE.an (aE.ja _ _ _) (aE.nF _ _))).fP (B:=ja 2 wv cs) (fun _ _ h=>h.1) |>.ae [1] |>.fP (B:=nF cs D.w) (fun _ _ h=>h.2)
 have s:Sat h (nF cs D.w::ja 2 wv cs::.cm dv D.data::cu a p q r .cF data aC::b8 r p q ε.1::bf q p ε.2.1::aD p ε.2.2::.arr 1 pv (eH ps)::S):=s
 have rj:=s.WG (j:=1) rfl
 have WM:=(s.aG (k:=2) rfl (cJ _ _)).cells
 have fW:(V.agg [.int .i64 D.act,.int .i64 D.cG,wv,dv]).cells.all storable=true:=by
  simp only [V.cells,iR,jg,rj.2.1,WM.2]; rfl
 refine Call.of_wp (hT.w.free _ rfl) Tryz.func28 rfl rfl (zg rfl (aB.cQ s rfl rfl rfl (gC rfl fW) ?_))
 intro p5 h s
 have s:Sat h (pt p5 (.cells 4 [.int .i64 D.act,.int .i64 D.cG,wv,dv] false)::_):=s
 have s:=s.ae [0,3,3,3,3,3,2,1,0]
 have hq:WK N B a p q r D ε ps data aC S fun ex E' h'=>(match ex with | .exit _=>False | _=>True)∧∃v,ju Tryz.prog E' h' [.tmp 6,.tmp 7,.tmp 8,.tmp 9]=some v∧∃(e:Int) (mT:List (List Nat)) (oC:V) (aI:Nat) (ε':aM) (iN:List Nat) (j_:Nat),
   Dl N D ε ps data aC e mT aI ε' iN j_∧e≠9∧EI N (B+2) ε'∧mT.length=N∧lP ε' mT∧iN.length≤1048576∧v=.bD [oC,.int .u64 (aI:Int),.bool true,.int .i64 e] ∧
   Sat h' (cu a p q r .cF iN j_::b8 r p q ε'.1::bf q p ε'.2.1::aD p ε'.2.2::.arr 1 oC (eH mT)::S) :=
  fun e mT oC aI ε' iN j_ E' h' h0 h1 h2 h3 h4 h5 l6 l7 l8 l9 s'=>⟨aa,_,aaL l6 l7 l8 l9,e,mT,oC,aI,ε',iN,j_,h0,h1,h2,h3,h4,h5,rfl,s'⟩
 have Gb:∀ {h:H} {A B C D E F G I J:ax},Sat h (A::B::C::D::E::F::G::I::J::S)→Sat h (A::B::C::D::E::S):=fun s=>(((s.del 8).del 7).del 6).del 5
 refine zk 8 rfl (zf rfl (GW _ _) (zl rfl (s.ld (k:=0) rfl dr rfl) (zv (WP.block (zg rfl ?_)))))
 by_cases h3:D.act=3
 ·skip
  refine zt rfl (ah rfl rfl cI) (by simp; exact h3) ?_
  refine zk 10 rfl (zf rfl (GX _ _) (zl rfl (s.ld (k:=0) rfl dr rfl) ?_))
  by_cases hk:0<D.cG
  ·skip
   refine zt rfl (ah rfl rfl dR) (by simp; exact hk) ?_
   refine zk 4 rfl (zc rfl (Kv hT.w (s.ae [1])) ?_)
   rintro v h' ⟨rfl,rfl⟩
   refine zc rfl (vf hT.w (s.ae [3])) ?_
   rintro v h' ⟨rfl,rfl⟩
   exact zk 2 rfl (KG hT.w hB U hN hp qu hD.1 (by omega) h3 (.inr rfl) (((s.ae [0,0,0,0,0,1,0]).del 8).del 7) ⟨rfl,rfl,rfl,rfl,aa⟩ hq)
  ·skip
   refine zh rfl (ah rfl rfl dR) (by simp; omega) ?_
   exact zk 2 rfl (WP.skip (KG hT.w (lo:=0) hB U hN hp qu hD.1 (by decide) h3 (.inl rfl) (((s.ae [0,0,0,0,0,1,0]).del 8).del 7) ⟨rfl,rfl,rfl,rfl,aa⟩ hq))
 ·skip
  refine zh rfl (ah rfl rfl cI) (by simp; exact h3) ?_
  refine zk 5 rfl ?_
  by_cases h4:D.act=4
  ·skip
   refine zt rfl (ah rfl rfl cI) (by simp; exact h4) ?_
   refine zk 6 rfl (zc rfl (HV hT.w (s.ae [1])) ?_)
   rintro v h' ⟨rfl,rfl⟩
   refine zc rfl (Bn hT.w (s.ae [2,2,2]) U.ok.ok (by omega) (by omega) tf) ?_
   rintro v h ⟨rfl,s⟩
   obtain ⟨w1,w2,w3⟩:=U.writeAll
   have WN:(writeAllF (aJ ε.1.aH) (ε.1,ε.2.1,ε.2.2)).1=0:=w1
   rw [WN]
   refine zk 6 rfl (zt rfl (ah rfl rfl cI) (by decide) ?_)
   exact zk 10 rfl (WP.ret ⟨aa,_,rfl,0,ps,pv,0,_,data,aC,.all h4,by decide,w2.more (by omega),hN,(hp.of fun m _=>w3 m),qu,rfl,(Gb (s.ae [4,0,0,0,1]))⟩)
  ·skip
   refine zh rfl (ah rfl rfl cI) (by simp; exact h4) ?_
   refine zk 5 rfl ?_
   by_cases h5:D.act=5
   ·skip
    refine zt rfl (ah rfl rfl cI) (by simp; exact h5) ?_
    refine zk 6 rfl (zc rfl (HV hT.w (s.ae [1])) ?_)
    rintro v h' ⟨rfl,rfl⟩
    refine zc rfl (HH hT (s.ae [2,3]) U.ok.ok.dk (fun e he=>by rw [U.ec.dk.aq]; exact U.ec.dk.keys _ (jd he))) ?_
    rintro v h ⟨rfl,s⟩
    obtain ⟨w1,w2,w3⟩:=U.sync
    rw [w1]
    refine zk 6 rfl (zt rfl (ah rfl rfl cI) (by decide) ?_)
    exact zk 10 rfl (WP.ret ⟨aa,_,rfl,0,ps,pv,0,_,data,aC,.sync h5,by decide,w2.more (by omega),hN,(hp.of w3),qu,rfl,(Gb (s.ae [3,0,2,0,1]))⟩)
   ·skip
    refine zh rfl (ah rfl rfl cI) (by simp; exact h5) ?_
    refine zk 5 rfl ?_
    by_cases h6:D.act=6
    ·skip
     refine zt rfl (ah rfl rfl cI) (by simp; exact h6) ?_
     refine zk 6 rfl ?_
     obtain ⟨w1,w2,w3⟩:=U.clean
     obtain ⟨v1,v2,v3⟩:=U.writeAll
     refine zc rfl (HW hT (s.ae [1,1,1,1]) U.ok.ok (by omega) (by omega) tf v2.ok.ok.dk (fun e he=>by rw [v2.ec.dk.aq]; exact v2.ec.dk.keys _ (jd he))) ?_
     rintro v h ⟨rfl,s⟩
     rw [w1]
     refine zk 6 rfl (zt rfl (ah rfl rfl cI) (by decide) ?_)
     exact zk 10 rfl (WP.ret ⟨aa,_,rfl,0,ps,pv,0,_,data,aC,.clean h6,by decide,w2.more (by omega),hN,(hp.of w3),qu,rfl,(Gb (s.ae [0,0,0,0,1]))⟩)
    ·skip
     refine zh rfl (ah rfl rfl cI) (by simp; exact h6) ?_
     refine zk 5 rfl ?_
     by_cases h7:D.act=7
     ·skip
      refine zt rfl (ah rfl rfl cI) (by simp; exact h7) ?_
      refine zk 7 rfl (zc rfl (Kv hT.w (s.ae [1])) ?_)
      rintro v h' ⟨rfl,rfl⟩
      refine zc rfl (nV hT.w (s.ae [3]) (by omega)) ?_
      rintro v h' ⟨rfl,rfl⟩
      have ec:(ε.2.1.base:Int)+(ε.2.1.b.length:Int)=((ε.2.1.base+ε.2.1.b.length:Nat):Int):=by omega
      rw [ec]
      refine zc rfl (Ou hT.w (s.ae [1,2,2]) U.ok.ok.lg U.ok.ok.dk.aF) ?_
      rintro v h ⟨rfl,s⟩
      obtain ⟨w1,w2,w3⟩:=U.force (n:=ε.2.1.base+ε.2.1.b.length)
      have WN:(bC (ε.2.1,ε.2.2) (ε.2.1.base+ε.2.1.b.length)).1=0:=w1
      rw [WN]
      refine zk 6 rfl (zt rfl (ah rfl rfl cI) (by decide) ?_)
      exact zk 10 rfl (WP.ret ⟨aa,_,rfl,0,ps,pv,0,_,data,aC,.force h7,by decide,w2.more (by omega),hN,(hp.of fun m _=>w3 m),qu,rfl,(Gb (s.ae [0,3,0,0,1]))⟩)
     ·skip
      refine zh rfl (ah rfl rfl cI) (by simp; exact h7) ?_
      exact zk 3 rfl (WP.skip (Uj hT.w hB U hN hp qu hD (by omega) (s.ae [1,1,1,1,1,0,1,1,0]) ⟨rfl,rfl,rfl,aa⟩ hq))
end
end Go.Proofs.YtconhghphklfjaaGreat.Am
