/- AtomTorn: a part of its proof; conditions: its statement's. -/
import Derived.Test.YtconhghphklfjaaGreatT33
set_option linter.defProp false
namespace Go.Proofs.YtconhghphklfjaaGreat.Am
open Go
def qM:=@Tryz.underlying57
def Dx:=@Tryz.underlying60
def eW (l:List (List Nat)): List V:=l.map V.str
theorem kB (l:List (List Nat)): (eW l).length=l.length:=by simp [eW]
theorem FP {l:List (List Nat)}{i:Nat}{w:List Nat}(h:l[i]?=some w): (eW l)[i]?=some (.str w):=by simp [eW,h]
def kZ (ε:aO)(ps:List (List Nat)): Prop:=∀(n:Nat) (w:List Nat),ps[n]?=some w→j6 (pgA ε n)=w
theorem kZ.of {ε ε':aO}{ps:List (List Nat)}(h:kZ ε ps)(I:∀m,0≤m→pgA ε' m=pgA ε m): kZ ε' ps:=fun n w J=>by rw [I _ (by omega)]; exact h n w J
theorem EI.reads {N B:Nat}{ε ε':aO}{n e:Int}{b w:List Nat}(h:EI N B ε)(I:mP ε n e b ε')(J:0≤n)(U:n<N)(hw:j6 (pgA ε n)=w): nr e b w=true∧EI N B ε'∧∀m,pgA ε' m=pgA ε m:=by
 obtain ⟨k1,k2,k3,k4⟩:=I.ec h.ec h.ok.pins
 obtain ⟨rfl,rfl⟩:=k3 J U
 refine ⟨?_,h.rd I,k2⟩
 have hc:=h.ec.aC J U
 rw [nr,dQ hw,show decide (dN (pgA ε n)≠4)=true from dQ (by rw [hc]; decide)]
 rfl
theorem Ms {b:List Nat}(h:bT b=true): j6 b=b.drop 12∧dN b≠4:=by
 have J:=fy h
 have U:bT (List.replicate 512 0)=false:=by decide +kernel
 have I:b≠List.replicate 512 0:=fun e=>by rw [e,U] at h; cases h
 refine ⟨by rw [j6,af (by rintro (q | q); exact q J; exact I q)],?_⟩
 rw [dN,af I,af (by rw [h]; decide)]
 split <;> decide
def iL (k:Nat)(v:V)(cs:List V): ax:=.xs fun o:Option (Nat×Nat×Nat)=>match o with
 | none=>.pu ((v=.bz∨∃a,v=.sle a)∧cs=[])
 | some (id,len,cap)=>.an (.ro id (.cells cs.length cs true)) (.pu (v=.sl id 0 len (.exact cap)∧cs.length=len*k))
theorem aH.iL (k:Nat)(v:V)(cs:List V): aH (Am.iL k v cs):=aH.xs fun o=>by
 cases o with
 | none=>exact aH.pu _
 | some x=>exact aH.an (aH.ro _ _) (aH.pu _)
section
variable {P:Program} {h:H} {S:List ax} {k j:Nat} {v:V} {cs:List V}
theorem Sat.rowAt (s:Sat h S)(J:getA S j=some (iL k v cs)): ((v=.bz∨∃a,v=.sle a)∧cs=[])∨∃id len cap,v=.sl id 0 len (.exact cap)∧cs.length=len*k∧T.get h.tr id=some (.cells cs.length cs true):=by
 obtain ⟨m,r,h1,U,o,I⟩:=s.at J
 cases o with
 | none=>exact .inl I
 | some x=>exact .inr ⟨x.1,x.2.1,x.2.2,I.2.1,I.2.2,U _ _ I.1⟩
theorem Sat.As {n:Nat}{t e:TypeId}(s:Sat h S)(J:getA S j=some (iL k v cs))(I:cs.length=n*k)(hk:1≤k)(hu:P.underlying t=some (.slice e)): lenV P h t v=some (.int .i64 n):=by
 rcases s.rowAt J with ⟨U,rfl⟩ | ⟨id,len,cap,rfl,hl,_⟩
 ·have:n=0:=by
   cases n with
   | zero=>rfl
   | succ n=>simp only [bY,iE,we] at I; omega
  subst this
  rcases U with rfl | ⟨a,rfl⟩
  ·exact TO hu
  ·simp only [lenV,hu]; rfl
 ·have:n=len:=by
   rw [hl] at I
   exact (JX (by omega) I).symm
  subst this
  exact G_ hu
theorem Sat.YO {t e:TypeId}{i:Nat}(s:Sat h S)(J:getA S j=some (iL k v cs))(hi:i*k+k≤cs.length)(U:1≤k)(hu:P.underlying t=some (.slice e))(I:bJ P e=some k)(ha:b_ P e=some true):
  ∃id off,indexAddrV P t v (.int .i64 (i:Int))=some (.ptr id off)∧loadV P h e (.ptr id off)=some (.agg ((cs.drop (i*k)).take k)):=by
 rcases s.rowAt J with ⟨_,rfl⟩ | ⟨id,len,cap,rfl,hl,hg⟩
 ·simp at hi; omega
 ·refine ⟨id,i*k,?_,SG ha I hg rfl hi⟩
  simp only [indexAddrV,hu,I,cQ]
  have:i<len:=by
   have h4:i*k+k=(i+1)*k:=by rw [iE,we]
   rw [h4,hl] at hi
   exact D2 (DP hi U)
  rw [show (decide ((0:Int)≤(i:Int))&&decide ((i:Int)<(len:Int)))=true by simp; omega,ag]
  simp
theorem Sat.Xf (s:Sat h S)(I:getA S j=some (iL k v cs)): v.cells=[v]∧storable v=true∧v.beq v=true:=by
 rcases s.rowAt I with ⟨rfl | ⟨a,rfl⟩,_⟩ | ⟨id,len,cap,rfl,_⟩
 ·exact ⟨rfl,rfl,rfl⟩
 ·exact ⟨rfl,rfl,by simp [V.beq]⟩
 ·exact ⟨rfl,rfl,CU _ _ _ _⟩
end
def l_ : List V→List (Int×List Nat)→ax
 | [],[]=>.pu True
 | a::v::l,x::m=>.an (.an (.pu (a=.int .i64 x.1)) (.ct v x.2)) (l_ l m)
 | _,_=>.pu False
theorem aH.l_ : ∀(m:List (Int×List Nat)) (l:List V),aH (Am.l_ l m):=by
 intro m
 induction m with
 | nil=>intro l; rcases l with _ | ⟨a,_ | ⟨b,l⟩⟩ <;> exact aH.pu _
 | cons x m I=>intro l; rcases l with _ | ⟨a,_ | ⟨b,l⟩⟩ <;> first | exact aH.pu _ | exact aH.an (aH.an (aH.pu _) (aH.ct _ _)) (I l)
theorem UI {a b:PM}: ∀ {m:List (Int×List Nat)} {l:List V},(l_ l m).p a b→l.length=m.length*2:=by
 intro m
 induction m with
 | nil=>intro l h; rcases l with _ | ⟨x,_ | ⟨y,l⟩⟩ <;> first | rfl | exact h.elim
 | cons x m I=>intro l h; rcases l with _ | ⟨x,_ | ⟨y,l⟩⟩ <;> first | exact h.elim | (have:=I h.2; simp only [bl]; omega)
theorem KS {a b:PM}: ∀ {m:List (Int×List Nat)} {l:List V} {i:Nat} {x:Int×List Nat},(l_ l m).p a b→m[i]?=some x→∃u,(l.drop (i*2)).take 2=[.int .i64 x.1,u]∧(ax.ct u x.2).p a b:=by
 intro m
 induction m with
 | nil=>intro l i x h I; simp at I
 | cons y m J =>
  intro l i x h I
  rcases l with _ | ⟨p,_ | ⟨q,l⟩⟩
  ·exact h.elim
  ·exact h.elim
  ·cases i with
   | zero =>
    simp at I; subst I
    exact ⟨q,by rw [show p=.int .i64 y.1 from h.1.1]; rfl,h.1.2⟩
   | succ i =>
    rw [kF] at I
    obtain ⟨u,U,h2⟩:=J h.2 I
    exact ⟨u,by rw [show (i+1)*2=i*2+2 by omega]; exact U,h2⟩
structure jh where
 act:Int
 cX:Int
 w:List (Int×List Nat)
 data:List Nat
def ow (wv dv:V)(D:jh): ax:=.an (.xs fun cs:List V=>.an (iL 2 wv cs) (l_ cs D.w)) (.ct dv D.data)
theorem aH.ow (wv dv:V)(D:jh): aH (Am.ow wv dv D):=aH.an (aH.xs fun _=>aH.an (aH.iL _ _ _) (aH.l_ _ _)) (aH.ct _ _)
def jS : List V→List jh→ax
 | [],[]=>.pu True
 | a::b::w::d::l,x::m=>.an (.an (.pu (a=.int .i64 x.act∧b=.int .i64 x.cX)) (ow w d x)) (jS l m)
 | _,_=>.pu False
theorem aH.jS : ∀(m:List jh) (l:List V),aH (Am.jS l m):=by
 intro m
 induction m with
 | nil=>intro l; rcases l with _ | ⟨a,_ | ⟨b,_ | ⟨c,_ | ⟨d,l⟩⟩⟩⟩ <;> exact aH.pu _
 | cons x m I=>intro l; rcases l with _ | ⟨a,_ | ⟨b,_ | ⟨c,_ | ⟨d,l⟩⟩⟩⟩ <;> first | exact aH.pu _ | exact aH.an (aH.an (aH.pu _) (aH.ow _ _ _)) (I l)
theorem Mt {a b:PM}: ∀ {m:List jh} {l:List V},(jS l m).p a b→l.length=m.length*4:=by
 intro m
 induction m with
 | nil=>intro l h; rcases l with _ | ⟨x,_ | ⟨y,_ | ⟨z,_ | ⟨u,l⟩⟩⟩⟩ <;> first | rfl | exact h.elim
 | cons x m I=>intro l h; rcases l with _ | ⟨x,_ | ⟨y,_ | ⟨z,_ | ⟨u,l⟩⟩⟩⟩ <;> first | exact h.elim | (have:=I h.2; simp only [bl]; omega)
theorem Dy {a b:PM}: ∀ {m:List jh} {l:List V} {i:Nat} {x:jh},(jS l m).p a b→m[i]?=some x→∃w d,(l.drop (i*4)).take 4=[.int .i64 x.act,.int .i64 x.cX,w,d]∧(ow w d x).p a b:=by
 intro m
 induction m with
 | nil=>intro l i x h I; simp at I
 | cons y m J =>
  intro l i x h I
  rcases l with _ | ⟨p,_ | ⟨q,_ | ⟨w,_ | ⟨d,l⟩⟩⟩⟩
  ·exact h.elim
  ·exact h.elim
  ·exact h.elim
  ·exact h.elim
  ·cases i with
   | zero =>
    simp at I; subst I
    exact ⟨w,d,by rw [show p=.int .i64 y.act from h.1.1.1,show q=.int .i64 y.cX from h.1.1.2]; rfl,h.1.2⟩
   | succ i =>
    rw [kF] at I
    obtain ⟨u,v,U,h2⟩:=J h.2 I
    exact ⟨u,v,by rw [show (i+1)*4=i*4+4 by omega]; exact U,h2⟩
section
variable {told:dM} {h:H} {S:List ax} {X:ax} {r k q p a g aC N B:Nat} {op v x pv:V} {l data:List Nat} {ε:aO} {ps:List (List Nat)}
noncomputable def smL : Code:=cM [1,0,1,0,0] ((Tryz.f29.body).getD .skip)
theorem Pa (hT:W told)(hN:ps.length=N)(hN2:N≤65536)(hB:B≤2000): ∀(j i:Nat) (ε:aO) (h:H) (E:List (Nat×V)) (Q:Ex→List (Nat×V)→H→Prop),i+j=N→EI N B ε→kZ ε ps →
  Sat h (cC a p q r op data aC::cj r p q ε.1::bh q p ε.2.1::aG p ε.2.2::.arr 1 pv (eW ps)::S)→Has E [(0,.ptr a 0),(1,pv),(5,.int .i64 (i:Int))] →
  (∀ε' E' h',EI N B ε'→((∀m,pgA ε' m=pgA ε m)∧∀P:VP,j7 N P→vw P ε→vw P ε')→Sat h' (cC a p q r op data aC::cj r p q ε'.1::bh q p ε'.2.1::aG p ε'.2.2::.arr 1 pv (eW ps)::S)→Q (.exit 0) E' h') →
  WP ⟨Tryz.prog,told⟩ 21 (.loop smL) E h Q:=by
 intro j
 induction j with
 | zero =>
  intro i ε h E Q hi I U s hE hx
  refine WP.loop (WP.has hE (zK 5 rfl (zo rfl (bf rfl rfl rfl (s.iP (n:=N) (j:=4) rfl (by rw [kB,hN,dW]) (by decide) qM)) ?_)))
  refine zh rfl (ah rfl rfl bB) (by simp <;> omega) ?_
  exact zk 2 rfl (WP.exit (hx ε _ _ I ⟨fun _=>rfl,fun _ _ hv=>hv⟩ s))
 | succ j ih =>
  intro i ε h E Q hi I U s hE hx
  have hw:ps[i]?=some (ps[i]'(by omega)):=bg _
  generalize (ps[i]'(by omega))=w at hw
  obtain ⟨id,off,e1,e2⟩:=lC (P:=Tryz.prog) s (k:=4) rfl (FP hw) qM Su
  have Ar:=I.cm
  have KC:=lX (ε:=ε)
  refine WP.loop (WP.has hE (zK 5 rfl (zo rfl (bf rfl rfl rfl (s.iP (n:=N) (j:=4) rfl (by rw [kB,hN,dW]) (by decide) qM)) ?_)))
  refine zt rfl (ah rfl rfl bB) (by simp <;> omega) ?_
  refine zk 4 rfl (WP.block (zK 3 rfl (zo rfl (LH rfl (He Ap rfl)) (zk 3 rfl (zo rfl (ej (r:=.ptr id off) rfl rfl e1) (zl rfl (e2 _ ZA) (zc rfl (Uz (n:=(i:Int)) (w:=w) hT s I.ok (by omega)) ?_)))))))
  rintro v h ⟨e,b,ε',hr,rfl,s⟩
  obtain ⟨r1,r2,r3⟩:=I.reads hr (by omega) (by omega) (U i w hw)
  rw [r1]
  refine zh rfl (dS rfl rfl) (rfl) (zv (zj rfl (WP.skip (zr rfl (zm rfl (zb rfl (by exact bU (aY (by omega) (by omega))) ?_))))))
  refine za rfl (zv ?_)
  exact ih (i+1) ε' _ _ Q (by omega) r2 (U.of fun m _=>r3 m) s ⟨rfl,rfl,rfl,aa⟩ fun J E' h' g1 g2 g3=>hx J E' h' g1 ⟨fun m=>by rw [g2.1,r3],fun P hP hv=>g2.2 P hP (hP.rd hr I.ec hv)⟩ g3
theorem KT (U:W told)(hN:ps.length=N)(I:N≤65536)(hB:B≤2000)(J:EI N B ε)(hp:kZ ε ps)(s:Sat h (cC a p q r op data aC::cj r p q ε.1::bh q p ε.2.1::aG p ε.2.2::.arr 1 pv (eW ps)::S)):
  Call ⟨Tryz.prog,told⟩ 29 [.ptr a 0,pv] h fun v h'=>v=.bool true∧∃ε',EI N B ε'∧((∀m,pgA ε' m=pgA ε m)∧∀P:VP,j7 N P→vw P ε→vw P ε') ∧
   Sat h' (cC a p q r op data aC::cj r p q ε'.1::bh q p ε'.2.1::aG p ε'.2.2::.arr 1 pv (eW ps)::S):=by
 refine Call.of_wp (U.free _ rfl) Tryz.func29 rfl rfl (zK 9 rfl (WP.block ?_))
 refine Pa U hN I hB N 0 ε _ _ _ (by omega) J hp s ⟨rfl,rfl,rfl,aa⟩ (fun ε' E' h' g1 g2 s' => ?_)
 have s:=s'
 exact WP.has (F:=[]) aa (zK 4 rfl (WP.ret ⟨aa,_,rfl,rfl,ε',g1,g2,s⟩))
end
theorem YP {h:H}{S:List ax}{cs:List V}{m:List (Int×List Nat)}{i:Nat}{x:Int×List Nat}(s:Sat h (l_ cs m::S))(U:m[i]?=some x):
  ∃u,(cs.drop (i*2)).take 2=[.int .i64 x.1,u]∧u.cells=[u]∧storable u=true∧u.beq u=true∧(∀b∈x.2,b<256)∧Sat h (.ct u x.2::l_ cs m::S):=by
 obtain ⟨a,b,q1,q2,q3⟩:=s.at (k:=0) rfl
 obtain ⟨u,e1,e2⟩:=KS q3 U
 have s3:=(s.dup (aH.l_ _ _)).fY (B:=.ct u x.2) fun a b h=>by
  obtain ⟨u',I,J⟩:=KS h U
  rw [e1] at I
  injection I with _ I
  injection I with I _
  subst I
  exact J
 have hu:=(s3.aL (k:=0) rfl (cJ _ _))
 exact ⟨u,e1,hu.cells.1,hu.cells.2,dc hu,hu.1,s3⟩
theorem Pb {h:H}{S:List ax}{cs:List V}{m:List (Int×List Nat)}{k:Nat}(s:Sat h S)(I:getA S k=some (l_ cs m)): cs.length=m.length*2:=by
 obtain ⟨a,b,U,q2,J⟩:=s.at I
 exact UI J
structure NX (N:Nat)(ps:List (List Nat))(now:List (Int×List Nat))(nx:List (List Nat)): Prop where
 len:nx.length=N
 old:ps.length=N
 is:∀(n:Nat) (w:List Nat),nx[n]?=some w→(match lookL (n:Int) now with | some b=>w=b.drop 12 | none=>ps[n]?=some w)
theorem NX.put {N:Nat}{ps nx:List (List Nat)}{now:List (Int×List Nat)}{n:Nat}{b:List Nat}(h:NX N ps now nx)(I:n<N): NX N ps (cN (n:Int) b now) (nx.set n (b.drop 12)):=by
 refine ⟨by rw [dD]; exact h.len,h.old,fun m w hm => ?_⟩
 rw [gY]
 by_cases e:(n:Int)=(m:Int)
 ·have:n=m:=by omega
  subst this
  rw [aj rfl]
  rw [iT (by rw [h.len]; exact I)] at hm
  exact (bx hm).symm
 ·rw [af e]
  rw [iU (by omega)] at hm
  exact h.is m w hm
section
variable {told:dM} {h:H} {S:List ax} {X:ax} {r k q p a g aC N B:Nat} {op v x pv wv dv:V} {l data:List Nat} {ε:aO} {ps:List (List Nat)}
def okW (N:Nat)(x:Int×List Nat): Prop:=0≤x.1∧x.1<N∧bT x.2=true
instance (N:Nat) (x:Int×List Nat):Decidable (okW N x):=by unfold okW; infer_instance
def nxW (N:Nat): List (Int×List Nat)→List (List Nat)→List (List Nat)
 | [],nx=>nx
 | x::l,nx=>nxW N l (if okW N x then nx.set x.1.toNat (x.2.drop 12) else nx)
def nowW (N:Nat): List (Int×List Nat)→List (Int×List Nat)→List (Int×List Nat)
 | [],now=>now
 | x::l,now=>nowW N l (if okW N x then cN x.1 x.2 now else now)
theorem UJ {P:Program}{n:Nat}{v:V}{l:List (List Nat)}{w:List Nat}{t J:TypeId}(s:Sat h (.arr 1 v (eW l)::S))(hn:n<l.length)(hu:P.underlying t=some (.slice J))(I:bJ P J=some 1):
  ∃id off h',indexAddrV P t v (.int .i64 (n:Int))=some (.ptr id off)∧g6 P h J (.ptr id off) (.str w)=some h'∧Sat h' (.arr 1 v (eW (l.set n w))::S):=by
 have U:eW l≠[]:=fun e=>by have:=iZ List.length e; rw [kB,bY] at this; omega
 have gF:=s.LW (j:=0) rfl
 obtain ⟨id,m,cap,M,rest,rfl,hl,hM,s1,hc⟩:=s.TT U
 rw [kB,dW] at hl
 obtain ⟨h',e1,e2⟩:=s1.ee (P:=P) (t:=J) (k:=0) (off:=n) (v:=.str w) rfl I (by rw [bC,hM]) (by rw [hM,kB]; omega) rfl rfl
 refine ⟨id,n,h',?_,e1,hc h' (eW (l.set n w)) S ?_ ?_ ?_⟩
 ·simp only [indexAddrV,hu,I,cQ]
  rw [show (decide ((0:Int)≤(n:Int))&&decide ((n:Int)<(m:Int)))=true by simp; omega,ag]
  simp
 ·rw [kB,kB,dD]
 ·rw [pK]; intro v hv; obtain ⟨x,_,rfl⟩:=List.mem_map.1 hv; rfl
 ·have e3:(eW l++rest).set n (.str w)=eW (l.set n w)++rest:=by
   rw [List.set_append_left _ _ (by rw [kB]; exact hn)]
   simp [eW,List.map_set]
  dsimp only [setA] at e2
  rw [e3] at e2
  exact e2
noncomputable def Z7 : Code:=cM [1,1,1,1,1,0,1,0,0] ((Tryz.f28.body).getD .skip)
theorem Pc (hT:W told){p5:Nat}{cs:List V}{D:jh}(hN2:N≤65536)(hB:B≤2000)(hD:D.w.length≤1048576∧∀x∈D.w,x.2.length≤1048576): ∀(j i:Nat) (ε:aO) (now:List (Int×List Nat)) (nx:List (List Nat)) (nv:V) (h:H) (E:List (Nat×V)) (Q:Ex→List (Nat×V)→H→Prop),i+j=D.w.length→EI N B ε→NW N now→NX N ps now nx →
  Sat h (gV g a now false::cC a p q r (.ptr g 0) data aC::cj r p q ε.1::bh q p ε.2.1::aG p ε.2.2::.arr 1 nv (eW nx)::.arr 1 pv (eW ps)::pt p5 (.cells 4 [.int .i64 D.act,.int .i64 D.cX,wv,dv] false)::iL 2 wv cs::l_ cs D.w::S) →
  Has E [(0,.ptr a 0),(1,pv),(5,.ptr p5 0),(18,.ptr g 0),(20,nv),(21,.int .i64 (i:Int))] →
  (∀ε' gX BL E' h',EI N B ε'→(∀m,pgA ε' m=pgA ε m)→NW N gX→NX N ps gX BL→(BL=nxW N (D.w.drop i) nx∧gX=nowW N (D.w.drop i) now∧∀P:VP,j7 N P→vw P ε→vw P ε')→Has E' [(0,.ptr a 0),(1,pv),(5,.ptr p5 0),(18,.ptr g 0),(20,nv)] →
   Sat h' (gV g a gX false::cC a p q r (.ptr g 0) data aC::cj r p q ε'.1::bh q p ε'.2.1::aG p ε'.2.2::.arr 1 nv (eW BL)::.arr 1 pv (eW ps)::pt p5 (.cells 4 [.int .i64 D.act,.int .i64 D.cX,wv,dv] false)::iL 2 wv cs::l_ cs D.w::S)→Q (.exit 1) E' h') →
  WP ⟨Tryz.prog,told⟩ 262 (.loop Z7) E h Q:=by
 intro j
 induction j with
 | zero =>
  intro i ε now nx nv h E Q hi nt hw hx s hE hq
  have hlen:=Pb s (k:=9) rfl
  refine WP.loop (WP.has hE (zK 4 rfl (zf rfl (Hh _ _) (zl rfl (s.ld (k:=7) rfl Qq rfl) (zo rfl (bf rfl rfl rfl (s.As (n:=D.w.length) (j:=8) rfl hlen (by decide) Dx)) ?_)))))
  refine zh rfl (ah rfl rfl bB) (by simp <;> omega) ?_
  exact zk 2 rfl (WP.exit (hq ε now nx _ _ nt (fun _=>rfl) hw hx (by rw [tA (by omega)]; exact ⟨rfl,rfl,fun _ _ h=>h⟩) ⟨rfl,rfl,rfl,rfl,rfl,aa⟩ s))
 | succ j ih =>
  intro i ε now nx nv h E Q hi nt hw hx s hE hq
  have hlen:=Pb s (k:=9) rfl
  have S3:D.w[i]?=some (D.w[i]'(by omega)):=bg _
  generalize (D.w[i]'(by omega))=y at S3
  obtain ⟨pg,b⟩:=y
  have jD:D.w.drop i=(pg,b)::D.w.drop (i+1):=by
   obtain ⟨h1,h2⟩:=List.getElem?_eq_some_iff.1 S3
   rw [lq h1,h2]
  have uq:b.length≤1048576:=hD.2 _ (bw S3)
  obtain ⟨u,c1,u1,u2,u3,YQ,s⟩:=YP (s.ae [9]) S3
  dsimp only [bringA,getA,aU] at s
  obtain ⟨id,off,g1,g2⟩:=s.YO (P:=Tryz.prog) (i:=i) (j:=10) rfl (by omega) (by decide) Dx Sz Yf
  rw [c1] at g2
  have s:=s.ae [9,2,2,2,2,2,0,1,1,1,0]
  dsimp only [bringA,getA,aU] at s
  have nM:∀e∈now,e.2.length=512:=fun e he=>fy (hw.good e he).1
  have Ar:=nt.cm
  have KC:=lX (ε:=ε)
  refine WP.loop (WP.has hE (zK 4 rfl (zf rfl (Hh _ _) (zl rfl (s.ld (k:=0) rfl Qq rfl) (zo rfl (bf rfl rfl rfl (s.As (n:=D.w.length) (j:=9) rfl hlen (by decide) Dx)) ?_)))))
  refine zt rfl (ah rfl rfl bB) (by simp <;> omega) ?_
  refine zk 4 rfl (WP.block (zg rfl (zf rfl (Hh _ _) (zl rfl (s.ld (k:=0) rfl Qq rfl) (zm rfl (zo rfl (ej (r:=.ptr id off) rfl rfl g1) (zl rfl g2 ?_)))))))
  refine aB.cT s rfl rfl rfl (cI Yg) (fun p22 h s => ?_)
  dsimp only [V.cells,List.length_cons,List.length_nil,Nat.reduceAdd] at s
  refine zS rfl (s.ia (j:=0) rfl Sz rfl (by simp only [jl,jY,u2]; rfl)) ?_
  intro h s
  dsimp only [setA] at s
  refine zk 4 rfl (zf rfl (t_ _ _) (zl rfl (s.ld (k:=0) rfl dA rfl) (zf rfl (A6 _ _) (zl rfl (s.ld (k:=0) rfl bO rfl) (zc rfl (OJ (n:=pg) hT (s.ae [2,2,2,2,2,2]) (cJ _ _) (by omega) nt.ok (by omega) nM) ?_)))))
  rintro v h ⟨e,gX,ε',hr,rfl,s⟩
  dsimp only [bringA,getA,aU] at s
  obtain ⟨k1,k2,k3,k4,k5⟩:=hr.ec nt.ec nt.ok.pins
  have J:=nt.OP hr
  have next:∀(h:H) (E:List (Nat×V)) (BL:List (List Nat)) (I:aO),EI N B I→(∀m,pgA I m=pgA ε' m)→NW N gX→NX N ps gX BL→(BL=(if okW N (pg,b) then nx.set pg.toNat (b.drop 12) else nx)∧gX=(if okW N (pg,b) then cN pg b now else now)∧∀P:VP,j7 N P→vw P ε'→vw P I) →
    Sat h (gV g a gX false::cC a p q r (.ptr g 0) data aC::cj r p q I.1::bh q p I.2.1::aG p I.2.2::.arr 1 nv (eW BL)::.arr 1 pv (eW ps)::pt p5 (.cells 4 [.int .i64 D.act,.int .i64 D.cX,wv,dv] false)::iL 2 wv cs::l_ cs D.w::S) →
    Has E [(0,.ptr a 0),(1,pv),(5,.ptr p5 0),(18,.ptr g 0),(20,nv),(21,.int .i64 ((i:Int)+1))]→WP ⟨Tryz.prog,told⟩ 262 (.loop Z7) E h Q:=fun h E BL I a1 a2 a3 a4 a7 a5 a6 =>
   ih (i+1) I gX BL nv h E Q (by omega) a1 a3 a4 a5 a6 fun ε3 aa7 nx3 E3 h3 b1 b2 b3 b4 b7 b5 b6=>hq ε3 aa7 nx3 E3 h3 b1 (fun m=>by rw [b2,a2,k2]) b3 b4
    ⟨by rw [jD,nxW,←a7.1]; exact b7.1,by rw [jD,nowW,←a7.2.1]; exact b7.2.1,fun R hR wz=>b7.2.2 R hR (a7.2.2 R hR (hR.OP hr nt.ec wz))⟩ b5 b6
  have E7:¬okW N (pg,b)→gX=now→nx=(if okW N (pg,b) then nx.set pg.toNat (b.drop 12) else nx)∧gX=(if okW N (pg,b) then cN pg b now else now)∧∀P:VP,j7 N P→vw P ε'→vw P ε':=fun q U=>⟨(if_neg q).symm,by rw [af q,U],fun _ _ h=>h⟩
  refine zk 2 rfl (WP.block (zg rfl (zf rfl (t_ _ _) (zl rfl (s.ld (k:=6) rfl dA rfl) ?_))))
  by_cases acC:pg<0
  ·skip
   refine zt rfl (ah rfl rfl bB) (by simp; omega) ?_
   obtain ⟨rfl,U⟩:=k3 (by omega)
   have no:=E7 (fun q=>by have:=q.1; omega)
   refine zk 13 rfl (zh rfl (ah rfl rfl aV) (by simp) ?_)
   refine zk 4 rfl (zv (zj rfl (WP.skip (zr rfl (zm rfl (zb rfl (by exact bU (aY (by omega) (by omega))) ?_))))))
   refine za rfl (zv ?_)
   exact next _ _ nx ε' J (fun _=>rfl) (by rw [U]; exact hw) (by rw [U]; exact hx) (no U) (((s.ae [0,0,0,0,0,3,3,2,2,2]).del 11).del 10) ⟨rfl,rfl,rfl,rfl,rfl,rfl,aa⟩
  ·skip
   refine zh rfl (ah rfl rfl bB) (by simp; omega) ?_
   refine zm rfl (zf rfl (t_ _ _) (zl rfl (s.ld (k:=6) rfl dA rfl) (zm rfl (zo rfl (bf rfl rfl rfl (s.iP (n:=N) (j:=9) rfl (by rw [kB,hx.old,dW]) (by decide) qM)) ?_))))
   by_cases EF:(N:Int)≤pg
   ·skip
    refine zt rfl (ah rfl rfl nC) (by simp; omega) ?_
    obtain ⟨rfl,U⟩:=k3 (by omega)
    have no:=E7 (fun q=>by have:=q.2.1; omega)
    refine zk 7 rfl (zh rfl (ah rfl rfl aV) (by simp) ?_)
    refine zk 4 rfl (zv (zj rfl (WP.skip (zr rfl (zm rfl (zb rfl (by exact bU (aY (by omega) (by omega))) ?_))))))
    refine za rfl (zv ?_)
    exact next _ _ nx ε' J (fun _=>rfl) (by rw [U]; exact hw) (by rw [U]; exact hx) (no U) (((s.ae [0,0,0,0,0,3,3,2,2,2]).del 11).del 10) ⟨rfl,rfl,rfl,rfl,rfl,rfl,aa⟩
   ·skip
    refine zh rfl (ah rfl rfl nC) (by simp; omega) ?_
    obtain ⟨n,rfl⟩:∃n:Nat,pg=n:=⟨pg.toNat,by omega⟩
    have Xg:n<N:=by omega
    refine zk 7 rfl ?_
    cases hg:bT b with
    | false =>
     obtain ⟨rfl,U⟩:=k4 (by omega) (by omega) hg
     have no:=E7 (fun q=>by have:=q.2.2; rw [hg] at this; cases this)
     refine zh rfl (ah rfl rfl cB) (by decide) ?_
     refine zk 5 rfl (zf rfl (A6 _ _) (zl rfl (s.ld (k:=6) rfl bO rfl) (zc rfl (Ik hT (s.ae [5]) (cJ _ _)) ?_)))
     rintro v h ⟨rfl,s⟩
     dsimp only [bringA,getA,aU] at s
     rw [hg]
     refine zt rfl (dS rfl rfl) (rfl) (zk 6 rfl (zh rfl (ah rfl rfl aV) (by decide) ?_))
     refine zv (zj rfl (WP.skip (zr rfl (zm rfl (zb rfl (by exact bU (aY (by omega) (by omega))) ?_)))))
     refine za rfl (zv ?_)
     exact next _ _ nx ε' J (fun _=>rfl) (by rw [U]; exact hw) (by rw [U]; exact hx) (no U) (((s.ae [1,1,1,1,1,3,3,2,2,2]).del 11).del 10) ⟨rfl,rfl,rfl,rfl,rfl,rfl,aa⟩
    | true =>
     obtain ⟨rfl,rfl⟩:=k5 (by omega) (by omega) hg
     have qT:=hw.put (n:=(n:Int)) (by omega) (by omega) hg YQ
     have ji:=hx.put (b:=b) Xg
     have ab4:=J.cm
     have acD:=lX (ε:=ε')
     refine zh rfl (ah rfl rfl cB) (by decide) ?_
     refine zk 5 rfl (zf rfl (A6 _ _) (zl rfl (s.ld (k:=6) rfl bO rfl) (zc rfl (Ik hT (s.ae [5]) (cJ _ _)) ?_)))
     rintro v h ⟨rfl,s⟩
     dsimp only [bringA,getA,aU] at s
     rw [hg]
     refine zh rfl (dS rfl rfl) (rfl) (zk 6 rfl (zh rfl (ah rfl rfl aV) (by decide) ?_))
     refine zk 4 rfl ?_
     have s:=s.ae [8,0]
     dsimp only [bringA,getA,aU] at s
     have lK:=eC (s.aL (k:=1) rfl (cJ _ _)) (a:=12) (by rw [fy hg]; decide)
     obtain ⟨nG,aa8,h2,f1,f2,f3⟩:=UJ (P:=Tryz.prog) (w:=b.drop 12) s (by rw [hx.len]; exact Xg) qM Su
     refine WP.drawn [ai,ai,ai,ai,ai,ai,ai,ai,ai] rfl (by kernel_rfl) (by kernel_rfl) ?_
     refine zM rfl (zF rfl (t_ _ _) (zL rfl (s.ld (k:=7) rfl dA rfl) (zF rfl (A6 _ _) (zL rfl (s.ld (k:=7) rfl bO rfl) (zO rfl (cF (p:=some (.int .i64 12)) (q:=none) (m:=none) (p':=some 12) (q':=none) (m':=none) rfl rfl rfl rfl rfl rfl rfl lK.1) (aA.op rfl rfl rfl (by simp only [isEff,jO]) (bZ rfl (yz lK.2.1)) ?_))))))
     refine zO rfl (ej (r:=.ptr nG aa8) rfl rfl f1) (aA.h_ rfl rfl rfl (OpR.eA rfl rfl rfl (⟨h2,f2,f3⟩)) ?_)
     rintro v h ⟨rfl,s⟩
     refine aA.nil ⟨⟨aa,aa,aa,aa,aa,aa,aa,aa,aa,aa⟩,?_⟩
     obtain ⟨id3,aa9,f4,f5⟩:=lC (P:=Tryz.prog) s (k:=0) (i:=n) (c:=.str (b.drop 12)) rfl (FP (iT (by rw [hx.len]; exact Xg))) qM Su
     refine zw (WP.drawn [ai,ai,ai,ai,ai,ai,ai,ai,ai,ai,ai] rfl (by kernel_rfl) (by kernel_rfl) ?_)
     refine zM rfl (zO rfl (LH rfl (He uQ rfl)) (zF rfl (t_ _ _) (zL rfl (s.ld (k:=7) rfl dA rfl) (zM rfl (zF rfl (t_ _ _) (zL rfl (s.ld (k:=7) rfl dA rfl) (zO rfl (ej (r:=.ptr id3 aa9) rfl rfl f4) (zL rfl (f5 _ ZA) (aA.any rfl rfl rfl rfl (OpR.call rfl rfl rfl rfl (UA (n:=(n:Int)) (w:=b.drop 12) hT (s.ae [2,2,2,2,2]) J.ok (by omega) (fun e he=>fy (qT.good e he).1))) ?_)))))))))
     rintro v h ⟨e2,b2,I,yX,rfl,s⟩
     dsimp only [bringA,getA,aU] at s
     obtain ⟨r1,r2,r3,r4⟩:=yX.ec J.ec J.ok.pins
     obtain ⟨rfl,rb⟩:=r3 (by omega) (by omega)
     rw [HY] at rb
     simp only at rb
     subst rb
     have lY:nr 0 b2 (b2.drop 12)=true:=by
      obtain ⟨q1,q2⟩:=Ms hg
      rw [nr,dQ q1,dQ q2]; rfl
     rw [lY]
     refine aA.nD rfl rfl rfl rfl (dS rfl rfl) (rfl) ?_
     refine aA.nil ⟨⟨aa,aa,aa,aa,aa,aa,aa,aa,aa,aa,aa,aa⟩,?_⟩
     refine zj rfl (WP.skip (zr rfl (zm rfl (zb rfl (by exact bU (aY (by omega) (by omega))) ?_))))
     refine za rfl (zv ?_)
     exact next _ _ _ I (J.An yX) r2 qT ji ⟨(if_pos (show okW N ((n:Int),b2) from ⟨by omega,by omega,hg⟩)).symm,(if_pos (show okW N ((n:Int),b2) from ⟨by omega,by omega,hg⟩)).symm,fun R hR h=>hR.An yX J.ec h⟩ (((s.ae [0,0,0,0,0,0,3,2,2,2]).del 11).del 10) ⟨rfl,rfl,rfl,rfl,rfl,rfl,aa⟩
end
theorem aa_ {P:Program}{E:List (Nat×V)}{h:H}{a b c d:Nat}{v w x y:V}(I:look E a=some v)(J:look E b=some w)(U:look E c=some x)(h4:look E d=some y): jz P E h [.tmp a,.tmp b,.tmp c,.tmp d]=some (.bE [v,w,x,y]):=by simp only [jz,mapO,resE,I,J,U,h4]
theorem xW {P:Program}{h:H}{t:TypeId}{x y:Operand}{k:Int}{m:Nat}(hm:m<65536): binV P h .and t x y (.int .i64 k) (.int .i64 (m:Int))=some (.int .i64 ((Nat.land ((k%(2^(IntKind.i64).bits:Int)).toNat) m:Nat):Int)):=by
 have I:(((m:Nat):Int)%(2^(IntKind.i64).bits:Int)).toNat=m:=by simp only [IntKind.bits]; omega
 simp only [binV,ikBeq,ag,intV,bitsV,I]
 have hle:Nat.land ((k%(2^(IntKind.i64).bits:Int)).toNat) m≤m:=AI
 rw [wrap_i64 (n:=Nat.land ((k%(2^(IntKind.i64).bits:Int)).toNat) m) (by omega)]
theorem Pd {h:H}{l:List Nat}{kd:Int}{tx:Nat}{dv:V}(I:View h dv l): buildV Tryz.prog 40 [(0,.int .i64 kd),(1,.int .u64 (tx:Int)),(4,dv)]=some (.agg (iI kd tx 0 0 dv .bz)):=by
 rcases I.2 with ⟨rfl | ⟨J,rfl⟩,_⟩ | ⟨id,off,cap,n,cs,st,rfl,_⟩
 ·rw [xq]; rfl
 ·rw [xq]; rfl
 ·rw [xq]; rfl
theorem NX.YR {N:Nat}{ε ε':aO}{ps nx:List (List Nat)}{now:List (Int×List Nat)}{aK:Nat}(h:NX N ps now nx)(hw:NW N now)(hp:kZ ε ps)(hd:∀m,pgA ε' m=match lookL m now with | some b=>cO b aK | none=>pgA ε m): kZ ε' nx:=fun n w hn=>by
 have I:=h.is n w hn
 rw [hd]
 cases J:lookL (n:Int) now with
 | some b =>
  rw [J] at I
  simp only at I ⊢
  have U:=hw.look J
  rw [I]
  exact (Aq U.1 U.2).2.2
 | none =>
  rw [J] at I
  exact hp n w I
def rR (k:Int): Nat:=Nat.land ((k%(2^(IntKind.i64).bits:Int)).toNat) 3+1
def Cf (k:Int): Nat:=Nat.land ((k%(2^(IntKind.i64).bits:Int)).toNat) 255
theorem EV {k:Int}: 1≤rR k∧rR k≤4:=by
 have:Nat.land ((k%(2^(IntKind.i64).bits:Int)).toNat) 3≤3:=AI
 unfold rR; omega
theorem EW {k:Int}: Cf k≤255:=AI
inductive uY (N:Nat)(D:jh)(ε:aO)(ps:List (List Nat)): Int→List (List Nat)→Nat→aO→Prop where
 | drop (ε':aO) (ha:D.act=2) (hp:∀P:VP,j7 N P→vw P ε→vw P ε') (hg:∀m,pgA ε' m=pgA ε m):uY N D ε ps 0 ps 0 ε'
 | fail (Bl ε':aO) (aK:Nat) (e:Int) (ha:D.act≠2) (hp:∀P:VP,j7 N P→vw P ε→vw P Bl) (hg:∀m,pgA Bl m=pgA ε m) (hw:NW N (nowW N D.w [])) (hi:∃B,B≤900∧EI N B Bl)
  (hr:sD Bl (nowW N D.w []) (rR D.cX) (Cf D.cX) 0 0 D.data 0 aK e false ε') (he:e=7∨e=2):uY N D ε ps e ps 0 ε'
 | done (Bl ε':aO) (aK:Nat) (ha:D.act≠2) (hp:∀P:VP,j7 N P→vw P ε→vw P Bl) (hg:∀m,pgA Bl m=pgA ε m) (hw:NW N (nowW N D.w [])) (hi:∃B,B≤900∧EI N B Bl)
  (hr:sD Bl (nowW N D.w []) (rR D.cX) (Cf D.cX) 0 0 D.data 0 aK 0 true ε'):uY N D ε ps 0 (nxW N D.w ps) aK ε'
section
variable {told:dM} {h:H} {S:List ax} {X:ax} {r k q p a g aC N B:Nat} {op v x pv nv wv dv:V} {l data:List Nat} {ε Xh:aO} {ps nx:List (List Nat)} {now:List (Int×List Nat)}
noncomputable def pgE : Code:=cM [1,1,1,1,1,1] ((Tryz.f28.body).getD .skip)
theorem Pe (hT:W told){p5:Nat}{D:jh}(hB:B≤900)(I:EI N B ε)(hw:NW N now)(hx:NX N ps now nx)(hp:kZ ε ps)(hD:D.data.length≤1048576)
 (nM:now=nowW N D.w [])(FB:nx=nxW N D.w ps)(Xi:∀P:VP,j7 N P→vw P Xh→vw P ε)(nJ:∀m,pgA ε m=pgA Xh m)
 (s:Sat h (gV g a now false::cC a p q r (.ptr g 0) data aC::cj r p q ε.1::bh q p ε.2.1::aG p ε.2.2::.ct dv D.data::.arr 1 nv (eW nx)::.arr 1 pv (eW ps)::pt p5 (.cells 4 [.int .i64 D.act,.int .i64 D.cX,wv,dv] false)::S))
 {E:List (Nat×V)}(hE:Has E [(0,.ptr a 0),(1,pv),(5,.ptr p5 0),(18,.ptr g 0),(20,nv)]){Q:Ex→List (Nat×V)→H→Prop}
 (hq:∀(e:Int) (ff:List (List Nat)) (wS:V) (aK:Nat) (ε':aO) (E':List (Nat×V)) (h':H),uY N D Xh ps e ff aK ε'→EI N (B+2) ε'→ff.length=N→kZ ε' ff →
   look E' 6=some wS→look E' 7=some (.int .u64 (aK:Int))→look E' 8=some (.bool true)→look E' 9=some (.int .i64 e) →
   Sat h' (cC a p q r .cK data aC::cj r p q ε'.1::bh q p ε'.2.1::aG p ε'.2.2::.arr 1 wS (eW ff)::S)→Q .ret E' h'):
  WP ⟨Tryz.prog,told⟩ 262 pgE E h Q:=by
 have hN:=I.many
 have Ar:=I.cm
 have eX:=I.el.size
 have hv:=s.aL (k:=5) rfl (cJ _ _)
 have s:=s.ae [8]
 refine WP.has hE (zK 3 rfl (zf rfl (NT _ _) (zl rfl (s.ld (k:=0) rfl dA rfl) ?_)))
 by_cases J:D.act=2
 ·skip
  refine zt rfl (ah rfl rfl cB) (by simp; exact J) ?_
  refine zk 5 rfl (zc rfl (H6 hT (s.ae [1,1])) ?_)
  rintro v h ⟨rfl,s⟩
  exact zk 9 rfl (WP.ret (hq 0 ps pv 0 ε _ _ (.drop ε J Xi nJ) (I.more (by omega)) hx.old hp rfl rfl rfl rfl (((((s.ae [1,2,2,2,4]).del 8).del 7).del 6).del 5)))
 ·have KU:=EV (k:=D.cX)
  have Kx:=EW (k:=D.cX)
  refine zh rfl (ah rfl rfl cB) (by simp; exact J) ?_
  refine zk 6 rfl (zf rfl (Hg _ _) (zl rfl (s.ld (k:=0) rfl dA rfl) (zb rfl (xW (m:=3) (by decide)) ?_)))
  refine zo rfl (ah (r:=.int .i64 (rR D.cX:Int)) rfl rfl (by rw [show ((rR D.cX:Nat):Int)=1+((Nat.land ((D.cX%(2^(IntKind.i64).bits:Int)).toNat) 3:Nat):Int) by unfold rR; omega]; exact bU (aY (by unfold rR at KU; omega) (by unfold rR at KU; omega)))) ?_
  refine zf rfl (Hg _ _) (zl rfl (s.ld (k:=0) rfl dA rfl) (zb rfl (xW (m:=255) (by decide)) ?_))
  refine zo rfl (bZ (r:=.int .u64 (Cf D.cX:Int)) rfl (jJ bG cx (fb (by omega) (by unfold Cf at Kx; omega)))) ?_
  refine zf rfl (CY _ _) (zl rfl (s.ld (k:=0) rfl bO rfl) (zo rfl (c8 rfl (Pd hv)) ?_))
  have s:=s.qC (k:=4)
  refine zc rfl (Uq (qh:=0) hT (s.ae [2,2,2,2,2,2,0]) (cJ _ _) rfl I.ok (by omega) (fun e he=>fy (hw.good e he).1) (by have:=hw.len; omega) (fun n hn=>by have:=hw.keys n hn; omega) (by omega) (by decide) (by decide) (by omega) I.el.log (by omega)) ?_
  rintro v h ⟨aK,e,cl,ε',hr,rfl,s⟩
  have yL:=hr
  rw [nM] at yL
  rcases I.done (by omega) hw (by omega) (by omega) hr with ⟨rfl,he,U,Mu⟩ | ⟨rfl,rfl,U,Mu⟩
  ·have s:Sat h (gV g a now false::cC a p q r (.ptr g 0) data aC::_):=s
   have he9:e≠9:=by omega
   have out:uY N D Xh ps e ps 0 ε':=.fail ε ε' aK e J Xi nJ (by rw [←nM]; exact hw) ⟨B,hB,I⟩ yL he
   refine zk 10 rfl (zh rfl (ah rfl rfl cB) (by simp; exact he9) ?_)
   refine zk 7 rfl (zt rfl (ah rfl rfl aV) (by simp; omega) ?_)
   refine zk 5 rfl (zc rfl (H6 hT s) ?_)
   rintro v h ⟨rfl,s⟩
   refine zk 5 rfl ?_
   have fin:=(((((s.ae [1,1,1,1,4]).del 8).del 7).del 6).del 5)
   rcases he with rfl | rfl
   ·skip
    refine zt rfl (ah rfl rfl cB) (by decide) ?_
    exact zk 10 rfl (WP.ret (hq 7 ps pv 0 ε' _ _ out U hx.old (hp.of fun m _=>Mu m) rfl rfl rfl rfl fin))
   ·skip
    refine zh rfl (ah rfl rfl cB) (by decide) ?_
    refine zk 2 rfl (zt rfl (ah rfl rfl cB) (by decide) ?_)
    exact zk 7 rfl (WP.ret (hq 2 ps pv 0 ε' _ _ out U hx.old (hp.of fun m _=>Mu m) rfl rfl rfl rfl fin))
  ·have s:Sat h (gV g a now true::cC a p q r .cK data aC::_):=s
   refine zk 10 rfl (zh rfl (ah rfl rfl cB) (by decide) ?_)
   refine zk 7 rfl (zh rfl (ah rfl rfl aV) (by decide) ?_)
   exact zk 12 rfl (WP.ret (hq 0 nx nv aK ε' _ _ (by rw [FB]; exact .done ε ε' aK J Xi nJ (by rw [←nM]; exact hw) ⟨B,hB,I⟩ yL) U hx.len (hx.YR hw hp Mu) rfl rfl rfl rfl (((((s.ae [1,1,1,1,3]).del 8).del 7).del 6).del 5)))
end
theorem Iw : ∃i,Tryz.prog.info? 9=some i∧i.size=1∧i.bytes=16 :=
 ⟨_,(show Tryz.prog.info? 9=some ((Tryz.prog.info? 9).getD default) by kernel_rfl),by kernel_rfl,by kernel_rfl⟩
inductive yB (N:Nat)(D:jh)(ε:aO)(ps:List (List Nat))(data:List Nat)(aC:Nat): Int→List (List Nat)→Nat→aO→List Nat→Nat→Prop where
 | Xj (e:Int) (ff:List (List Nat)) (aK:Nat) (ε':aO) (h:¬(3≤D.act∧D.act≤7)) (ho:uY N D ε ps e ff aK ε'):yB N D ε ps data aC e ff aK ε' data aC
 | ck (e:Int) (lo:Nat) (ε':aO) (cP:List Nat) (eE:Nat) (h:D.act=3) (FL:lo=0∨lo=ε.2.1.base) (hr:Ii ε lo D.data data aC e ε' cP eE):yB N D ε ps data aC e ps 0 ε' cP eE
 | all (h:D.act=4):yB N D ε ps data aC 0 ps 0 (writeAllF (aF ε.1.aE) ε).2 data aC
 | sync (h:D.act=5):yB N D ε ps data aC 0 ps 0 ((cH ε.1 ε.2.2).2.1,(ε.2.1,(cH ε.1 ε.2.2).2.2)) data aC
 | clean (h:D.act=6):yB N D ε ps data aC 0 ps 0 (er ε).2 data aC
 | force (h:D.act=7):yB N D ε ps data aC 0 ps 0 (ε.1,(aT ε.2 (ε.2.1.base+ε.2.1.b.length)).2) data aC
def Xk (N B a p q r:Nat)(D:jh)(ε:aO)(ps:List (List Nat))(data:List Nat)(aC:Nat)(S:List ax)(Q:Ex→List (Nat×V)→H→Prop): Prop :=
 ∀(e:Int) (ff:List (List Nat)) (I:V) (aK:Nat) (ε':aO) (cP:List Nat) (eE:Nat) (E':List (Nat×V)) (h':H),yB N D ε ps data aC e ff aK ε' cP eE→e≠9→EI N (B+2) ε'→ff.length=N→kZ ε' ff→cP.length≤1048576 →
   look E' 6=some I→look E' 7=some (.int .u64 (aK:Int))→look E' 8=some (.bool true)→look E' 9=some (.int .i64 e) →
   Sat h' (cC a p q r .cK cP eE::cj r p q ε'.1::bh q p ε'.2.1::aG p ε'.2.2::.arr 1 I (eW ff)::S)→Q .ret E' h'
section
variable {told:dM} {h:H} {S:List ax} {X:ax} {r k q p a g aC N B:Nat} {op v x pv nv wv dv:V} {l data:List Nat} {ε:aO} {ps nx:List (List Nat)} {now:List (Int×List Nat)} {Q:Ex→List (Nat×V)→H→Prop}
noncomputable def plK : Code:=cM [1,0,1,0,1,0,1,1] ((Tryz.f28.body).getD .skip)
theorem KV (hT:W told){p5 lo:Nat}{D:jh}(hB:B≤900)(I:EI N B ε)(hN:ps.length=N)(hp:kZ ε ps)(yw:data.length≤1048576)(hD:D.data.length≤1048576)(FL:lo<18446744073709551616)(ha:D.act=3)(J:lo=0∨lo=ε.2.1.base)
 (s:Sat h (pt p5 (.cells 4 [.int .i64 D.act,.int .i64 D.cX,wv,dv] false)::cC a p q r .cK data aC::cj r p q ε.1::bh q p ε.2.1::aG p ε.2.2::.ct dv D.data::.arr 1 pv (eW ps)::S))
 {E:List (Nat×V)}(hE:Has E [(0,.ptr a 0),(1,pv),(5,.ptr p5 0),(10,.int .u64 (lo:Int))])(hq:Xk N B a p q r D ε ps data aC S Q):
  WP ⟨Tryz.prog,told⟩ 262 plK E h Q:=by
 have Xl:=I.many
 have eX:=I.el.size
 have aba:=I.aN
 refine WP.has hE (zK 4 rfl (zf rfl (CY _ _) (zl rfl (s.ld (k:=0) rfl bO rfl) (zc rfl (KP (lo:=lo) hT (s.ae [1,1,1,1,1]) (cJ _ _) I.ok.ok FL (by omega) (fun n hn=>wf_i64 (I.ec.oC n hn).1 (by have:=(I.ec.oC n hn).2; omega)) I.el.log (by omega)) ?_))))
 rintro v h ⟨e,ε',cP,eE,hr,rfl,s⟩
 obtain ⟨i1,i2,i3⟩:=I.Rt (by omega) hr
 have U:cP.length≤1048576:=by rcases i3 with ⟨_,_,rfl⟩ | ⟨_,rfl⟩ | ⟨_,rfl⟩ <;> assumption
 refine zk 5 rfl (zc rfl (Ml hT s (by omega)) ?_)
 rintro v h ⟨w,rfl,s⟩
 have uN:=s.aL (k:=0) rfl (bM _ _)
 have oz:=s.aL (k:=5) rfl (cJ _ _)
 have s:=s.ae [6]
 have fin:=(((s.ae [2,2,2,2,3]).del 7).del 6).del 5
 dsimp only [bringA,getA,aU] at fin
 rcases i3 with ⟨rfl,EF,_⟩ | ⟨rfl,_⟩ | ⟨rfl,rfl⟩
 ·skip
  refine zk 7 rfl (WP.drawn [ai,ai,ai,ai,ai,ai,ai,ai,ai,ai,ai,ai,ai,ai,ai,ai,ai,ai,ai,ai,ai,ai,ai,ai,ai,ai,ai,ai,ai,ai,ai,ai,ai,ai] rfl (by kernel_rfl) (by kernel_rfl) ?_)
  refine zM rfl (zM rfl (aA.nD rfl rfl rfl rfl (ah rfl rfl cB) (by decide) ?_))
  refine zM rfl (zM rfl (aA.nD rfl rfl rfl rfl (ah rfl rfl cB) (by decide) ?_))
  refine zO rfl (kL rfl rfl) (zM rfl (zM rfl (aA.nD rfl rfl rfl rfl (ah rfl rfl cB) (by decide) ?_)))
  refine zM rfl (aA.no (e:=false) rfl rfl rfl rfl (aA.no (e:=false) rfl rfl rfl (by simp only [isEff,jO]) ?_))
  refine aA.no (e:=false) rfl rfl rfl rfl (aA.no (e:=false) rfl rfl rfl rfl (aA.no (e:=false) rfl rfl rfl (by simp only [isEff,jO]) ?_))
  refine aA.no (e:=false) rfl rfl rfl rfl (zO rfl (kL rfl rfl) (zO rfl (kL rfl rfl) (zM rfl (zM rfl (aA.qx rfl rfl rfl rfl (ah rfl rfl cB) (by decide) ?_)))))
  refine zM rfl (zF rfl (CY _ _) (zL rfl (s.ld (k:=0) rfl bO rfl) (zO rfl (bf rfl rfl rfl (bj aS oz)) (aA.qx rfl rfl rfl rfl (ah rfl rfl ep) (by simp; omega) ?_))))
  refine zO rfl (lz rfl rfl) (zO rfl (kL rfl rfl) (zM rfl (zA rfl (zA rfl (zA rfl (zA rfl ?_))))))
  refine aA.nil ⟨⟨aa,aa,aa,aa,aa,aa,aa,aa,aa,aa,aa,aa,aa,aa,aa,aa,aa,aa,aa,aa,aa,aa,aa,aa,aa,aa,aa,aa,aa,aa,aa,aa,aa,aa,aa⟩,?_⟩
  exact WP.ret (hq 2 ps pv 0 ε' cP eE _ _ (.ck _ lo _ _ _ ha J hr) (by decide) (i1.more (by omega)) hN (hp.of fun m _=>i2 m) U rfl rfl rfl rfl fin)
 ·skip
  refine zk 7 rfl (WP.drawn [ai,ai,ai,ai,ai,ai,ai,ai,ai,ai,ai,ai,ai,ai,ai,ai,ai,ai,ai,ai,ai,ai,ai,ai,ai,ai,ai,ai,ai,ai,ai,ai,ai,ai] rfl (by kernel_rfl) (by kernel_rfl) ?_)
  refine zM rfl (zM rfl (aA.nD rfl rfl rfl rfl (ah rfl rfl cB) (by decide) ?_))
  refine zM rfl (zM rfl (aA.qx rfl rfl rfl rfl (ah rfl rfl cB) (by decide) ?_))
  refine zO rfl (kL rfl rfl) (zM rfl (aA.no (e:=false) rfl rfl rfl rfl (aA.no (e:=false) rfl rfl rfl rfl (aA.no (e:=false) rfl rfl rfl rfl (aA.no (e:=false) rfl rfl rfl rfl (aA.no (e:=false) rfl rfl rfl (by simp only [isEff,jO]) ?_))))))
  refine aA.no (e:=false) rfl rfl rfl rfl (aA.no (e:=false) rfl rfl rfl rfl (aA.no (e:=false) rfl rfl rfl (by simp only [isEff,jO]) ?_))
  refine aA.no (e:=false) rfl rfl rfl rfl (aA.no (e:=false) rfl rfl rfl rfl (zO rfl (lz rfl rfl) (zM rfl (aA.no (e:=false) rfl rfl rfl rfl (aA.no (e:=false) rfl rfl rfl rfl (aA.no (e:=false) rfl rfl rfl rfl (aA.no (e:=false) rfl rfl rfl rfl (aA.no (e:=false) rfl rfl rfl rfl (aA.no (e:=false) rfl rfl rfl rfl (aA.no (e:=false) rfl rfl rfl rfl (aA.no (e:=false) rfl rfl rfl rfl (zO rfl (lz rfl rfl) (zM rfl (zA rfl (zA rfl (zA rfl (zA rfl ?_)))))))))))))))))
  refine aA.nil ⟨⟨aa,aa,aa,aa,aa,aa,aa,aa,aa,aa,aa,aa,aa,aa,aa,aa,aa,aa,aa,aa,aa,aa,aa,aa,aa,aa,aa,aa,aa,aa,aa,aa,aa,aa,aa⟩,?_⟩
  exact WP.ret (hq 7 ps pv 0 ε' cP eE _ _ (.ck _ lo _ _ _ ha J hr) (by decide) (i1.more (by omega)) hN (hp.of fun m _=>i2 m) U rfl rfl rfl rfl fin)
 ·skip
  refine zk 7 rfl (WP.drawn [ai,ai,ai,ai,ai,ai,ai,ai,ai,ai,ai,ai,ai,ai,ai,ai,ai,ai,ai,ai,ai,ai,ai,ai,ai,ai,ai,ai,ai,ai,ai,ai,ai,ai] rfl (by kernel_rfl) (by kernel_rfl) ?_)
  refine zM rfl (zM rfl (aA.nD rfl rfl rfl rfl (ah rfl rfl cB) (by decide) ?_))
  refine zM rfl (zM rfl (aA.nD rfl rfl rfl rfl (ah rfl rfl cB) (by decide) ?_))
  refine zO rfl (kL rfl rfl) (zM rfl (zM rfl (aA.qx rfl rfl rfl rfl (ah rfl rfl cB) (by decide) ?_)))
  refine zM rfl (zM rfl (aA.op rfl rfl rfl (by simp only [isEff,jO]) (bZ rfl (yz uN)) ?_))
  refine zF rfl (CY _ _) (zL rfl (s.ld (k:=0) rfl bO rfl) (aA.op rfl rfl rfl (by simp only [isEff,jO]) (bZ rfl (yz oz)) ?_))
  refine aA.qx rfl rfl rfl rfl (ah rfl rfl xp) (decide_eq_true rfl) (zO rfl (lz rfl rfl) (zO rfl (kL rfl rfl) (zM rfl (aA.no (e:=false) rfl rfl rfl rfl (aA.no (e:=false) rfl rfl rfl rfl (aA.no (e:=false) rfl rfl rfl rfl (aA.no (e:=false) rfl rfl rfl rfl (aA.no (e:=false) rfl rfl rfl rfl (aA.no (e:=false) rfl rfl rfl rfl (aA.no (e:=false) rfl rfl rfl rfl (aA.no (e:=false) rfl rfl rfl rfl (zO rfl (lz rfl rfl) (zM rfl (zA rfl (zA rfl (zA rfl (zA rfl ?_)))))))))))))))))
  refine aA.nil ⟨⟨aa,aa,aa,aa,aa,aa,aa,aa,aa,aa,aa,aa,aa,aa,aa,aa,aa,aa,aa,aa,aa,aa,aa,aa,aa,aa,aa,aa,aa,aa,aa,aa,aa,aa,aa⟩,?_⟩
  exact WP.ret (hq 0 ps pv 0 ε' _ eE _ _ (.ck _ lo _ _ _ ha J hr) (by decide) (i1.more (by omega)) hN (hp.of fun m _=>i2 m) U rfl rfl rfl rfl fin)
noncomputable def plG : Code:=cM [1,1] ((Tryz.f28.body).getD .skip)
theorem UK (U:W told){p5:Nat}{cs:List V}{D:jh}(hB:B≤900)(I:EI N B ε)(hN:ps.length=N)(hp:kZ ε ps)(yw:data.length≤1048576)(hD:D.data.length≤1048576∧D.w.length≤1048576∧∀x∈D.w,x.2.length≤1048576)(ha:¬(3≤D.act∧D.act≤7))
 (s:Sat h (cC a p q r .cK data aC::cj r p q ε.1::bh q p ε.2.1::aG p ε.2.2::.arr 1 pv (eW ps)::pt p5 (.cells 4 [.int .i64 D.act,.int .i64 D.cX,wv,dv] false)::iL 2 wv cs::l_ cs D.w::.ct dv D.data::S))
 {E:List (Nat×V)}(hE:Has E [(0,.ptr a 0),(1,pv),(5,.ptr p5 0)])(hq:Xk N B a p q r D ε ps data aC S Q):
  WP ⟨Tryz.prog,told⟩ 262 plG E h Q:=by
 have Xl:=I.many
 refine WP.has hE (zK 3 rfl (zc rfl (OI U s) ?_))
 rintro v h ⟨g,rfl,s⟩
 refine zk 10 rfl (zh rfl (ah rfl rfl aV) (by decide) ?_)
 refine zk 2 rfl (zh rfl (ah rfl rfl (Dn uQ)) (rfl) (zk 6 rfl ?_))
 obtain ⟨h1,e1,s1⟩:=EP (P:=Tryz.prog) s qM Wa Su rfl (by decide)
 refine aB.any rfl rfl rfl (OpR.of (R:=fun v h'=>v=.sl h.next 0 0 (.exact 0)∧h'=h1) (qu rfl e1) ⟨rfl,rfl⟩) ?_
 rintro v h' ⟨rfl,rfl⟩
 have s:=(Ur (q:=1) s1).ae [0,5]
 obtain ⟨i1,lZ,kf,sR⟩:=Iw
 obtain ⟨nv,h2,e2,s2⟩:=jB (P:=Tryz.prog) s qM lZ Wa kf (by omega) rfl (by decide) (by rw [kB,hN]; simp; omega)
 refine zm rfl (aB.any rfl rfl rfl (OpR.of (R:=fun v h'=>v=nv∧h'=h2) (oT rfl rfl e2) ⟨rfl,rfl⟩) ?_)
 rintro v h ⟨rfl,rfl⟩
 rw [cW] at s2
 refine zk 7 rfl (WP.block ?_)
 refine Pc U (N:=N) (ps:=ps) Xl (by omega) hD.2 D.w.length 0 ε [] ps _ _ _ _ (by omega) I (NW.nil N) ⟨hN,hN,fun n w h=>h⟩ (s2.ae [2,2,2,2,2,0,0,0,0,0]) ⟨rfl,rfl,rfl,rfl,rfl,rfl,aa⟩ (fun ε' gX BL E' h' g1 g2 g3 g4 J g5 s' => ?_)
 rw [d_] at J
 have s:=s'
 exact Pe U (B:=B) (Xh:=ε) hB g1 g3 g4 (hp.of fun m _=>g2 m) hD.1 J.2.1 J.1 J.2.2 g2 (((s.ae [0,0,0,0,0,5,0,0,0]).del 10).del 9) g5 fun e ff wS aK ε' E' h' ho b1 b2 b3 l6 l7 l8 l9 s' =>
  hq e ff wS aK ε' data aC E' h' (.Xj _ _ _ _ ha ho) (by cases ho with | drop=>decide | fail _ _ _ _ _ _ _ _ _ _ he=>omega | done=>decide) b1 b2 b3 yw l6 l7 l8 l9 s'
theorem KW (hT:W2 told){D:jh}(hB:B≤900)(U:EI N B ε)(hN:ps.length=N)(hp:kZ ε ps)(yw:data.length≤1048576)(hD:D.data.length≤1048576∧D.w.length≤1048576∧∀x∈D.w,x.2.length≤1048576)
 (s:Sat h (cC a p q r .cK data aC::cj r p q ε.1::bh q p ε.2.1::aG p ε.2.2::.arr 1 pv (eW ps)::ow wv dv D::S)):
  Call ⟨Tryz.prog,told⟩ 28 [.ptr a 0,pv,.agg [.int .i64 D.act,.int .i64 D.cX,wv,dv]] h fun v h'=>∃(e:Int) (ff:List (List Nat)) (wS:V) (aK:Nat) (ε':aO) (cP:List Nat) (eE:Nat),
   yB N D ε ps data aC e ff aK ε' cP eE∧e≠9∧EI N (B+2) ε'∧ff.length=N∧kZ ε' ff∧cP.length≤1048576∧v=.bE [wS,.int .u64 (aK:Int),.bool true,.int .i64 e] ∧
   Sat h' (cC a p q r .cK cP eE::cj r p q ε'.1::bh q p ε'.2.1::aG p ε'.2.2::.arr 1 wS (eW ff)::S):=by
 have Xl:=U.many
 have Ar:=U.cm
 have KC:=lX (ε:=ε)
 have eX:=U.el.size
 obtain ⟨q1,q2⟩:=U.aE
 have xz:∀n∈ε.1.aE.map (·.1),(Lit.int .i64 n).wf=true:=fun n hn=>wf_i64 (q1 n hn).1 (by have:=(q1 n hn).2; omega)
 -- the deed's parts
 have s:=((s.ae [5]).dup (aH.ow _ _ _)).fY (B:=.ct dv D.data) (fun _ _ h=>h.2) |>.ae [1] |>.fY (B:=.xs fun cs:List V=>.an (iL 2 wv cs) (l_ cs D.w)) (fun _ _ h=>h.1)
 obtain ⟨cs,s⟩:=gu.1 s
 have s:=(s.dup (aH.an (aH.iL _ _ _) (aH.l_ _ _))).fY (B:=iL 2 wv cs) (fun _ _ h=>h.1) |>.ae [1] |>.fY (B:=l_ cs D.w) (fun _ _ h=>h.2)
 have s:Sat h (l_ cs D.w::iL 2 wv cs::.ct dv D.data::cC a p q r .cK data aC::cj r p q ε.1::bh q p ε.2.1::aG p ε.2.2::.arr 1 pv (eW ps)::S):=s
 have uz:=s.Xf (j:=1) rfl
 have hdv:=(s.aL (k:=2) rfl (cJ _ _)).cells
 have gF:(V.agg [.int .i64 D.act,.int .i64 D.cX,wv,dv]).cells.all storable=true:=by
  simp only [V.cells,jl,jY,uz.2.1,hdv.2]; rfl
 refine Call.of_wp (hT.w.free _ rfl) Tryz.func28 rfl rfl (zg rfl (aB.cT s rfl rfl rfl (gL rfl gF) ?_))
 intro p5 h s
 have s:Sat h (pt p5 (.cells 4 [.int .i64 D.act,.int .i64 D.cX,wv,dv] false)::_):=s
 have s:=s.ae [0,3,3,3,3,3,2,1,0]
 have hq:Xk N B a p q r D ε ps data aC S fun ex E' h'=>(match ex with | .exit _=>False | _=>True)∧∃v,jz Tryz.prog E' h' [.tmp 6,.tmp 7,.tmp 8,.tmp 9]=some v∧∃(e:Int) (ff:List (List Nat)) (wS:V) (aK:Nat) (ε':aO) (cP:List Nat) (eE:Nat),
   yB N D ε ps data aC e ff aK ε' cP eE∧e≠9∧EI N (B+2) ε'∧ff.length=N∧kZ ε' ff∧cP.length≤1048576∧v=.bE [wS,.int .u64 (aK:Int),.bool true,.int .i64 e] ∧
   Sat h' (cC a p q r .cK cP eE::cj r p q ε'.1::bh q p ε'.2.1::aG p ε'.2.2::.arr 1 wS (eW ff)::S) :=
  fun e ff wS aK ε' cP eE E' h' h0 h1 h2 h3 h4 h5 l6 l7 l8 l9 s'=>⟨aa,_,aa_ l6 l7 l8 l9,e,ff,wS,aK,ε',cP,eE,h0,h1,h2,h3,h4,h5,rfl,s'⟩
 have Gt:∀ {h:H} {A B C D E F G I J:ax},Sat h (A::B::C::D::E::F::G::I::J::S)→Sat h (A::B::C::D::E::S):=fun s=>(((s.del 8).del 7).del 6).del 5
 refine zk 8 rfl (zf rfl (NT _ _) (zl rfl (s.ld (k:=0) rfl dA rfl) (zv (WP.block (zg rfl ?_)))))
 by_cases h3:D.act=3
 ·skip
  refine zt rfl (ah rfl rfl cB) (by simp; exact h3) ?_
  refine zk 10 rfl (zf rfl (Hg _ _) (zl rfl (s.ld (k:=0) rfl dA rfl) ?_))
  by_cases hk:0<D.cX
  ·skip
   refine zt rfl (ah rfl rfl ep) (by simp; exact hk) ?_
   refine zk 4 rfl (zc rfl (KK hT.w (s.ae [1])) ?_)
   rintro v h' ⟨rfl,rfl⟩
   refine zc rfl (vm hT.w (s.ae [3])) ?_
   rintro v h' ⟨rfl,rfl⟩
   exact zk 2 rfl (KV hT.w hB U hN hp yw hD.1 (by omega) h3 (.inr rfl) (((s.ae [0,0,0,0,0,1,0]).del 8).del 7) ⟨rfl,rfl,rfl,rfl,aa⟩ hq)
  ·skip
   refine zh rfl (ah rfl rfl ep) (by simp; omega) ?_
   exact zk 2 rfl (WP.skip (KV hT.w (lo:=0) hB U hN hp yw hD.1 (by decide) h3 (.inl rfl) (((s.ae [0,0,0,0,0,1,0]).del 8).del 7) ⟨rfl,rfl,rfl,rfl,aa⟩ hq))
 ·skip
  refine zh rfl (ah rfl rfl cB) (by simp; exact h3) ?_
  refine zk 5 rfl ?_
  by_cases h4:D.act=4
  ·skip
   refine zt rfl (ah rfl rfl cB) (by simp; exact h4) ?_
   refine zk 6 rfl (zc rfl (xQ hT.w (s.ae [1])) ?_)
   rintro v h' ⟨rfl,rfl⟩
   refine zc rfl (vI hT.w (s.ae [2,2,2]) U.ok.ok (by omega) (by omega) xz) ?_
   rintro v h ⟨rfl,s⟩
   obtain ⟨w1,w2,w3⟩:=U.writeAll
   have Xm:(writeAllF (aF ε.1.aE) (ε.1,ε.2.1,ε.2.2)).1=0:=w1
   rw [Xm]
   refine zk 6 rfl (zt rfl (ah rfl rfl cB) (by decide) ?_)
   exact zk 10 rfl (WP.ret ⟨aa,_,rfl,0,ps,pv,0,_,data,aC,.all h4,by decide,w2.more (by omega),hN,(hp.of fun m _=>w3 m),yw,rfl,(Gt (s.ae [4,0,0,0,1]))⟩)
  ·skip
   refine zh rfl (ah rfl rfl cB) (by simp; exact h4) ?_
   refine zk 5 rfl ?_
   by_cases h5:D.act=5
   ·skip
    refine zt rfl (ah rfl rfl cB) (by simp; exact h5) ?_
    refine zk 6 rfl (zc rfl (xQ hT.w (s.ae [1])) ?_)
    rintro v h' ⟨rfl,rfl⟩
    refine zc rfl (B9 hT (s.ae [2,3]) U.ok.ok.dk (fun e he=>by rw [U.ec.dk.aq]; exact U.ec.dk.keys _ (iV he))) ?_
    rintro v h ⟨rfl,s⟩
    obtain ⟨w1,w2,w3⟩:=U.sync
    rw [w1]
    refine zk 6 rfl (zt rfl (ah rfl rfl cB) (by decide) ?_)
    exact zk 10 rfl (WP.ret ⟨aa,_,rfl,0,ps,pv,0,_,data,aC,.sync h5,by decide,w2.more (by omega),hN,(hp.of w3),yw,rfl,(Gt (s.ae [3,0,2,0,1]))⟩)
   ·skip
    refine zh rfl (ah rfl rfl cB) (by simp; exact h5) ?_
    refine zk 5 rfl ?_
    by_cases h6:D.act=6
    ·skip
     refine zt rfl (ah rfl rfl cB) (by simp; exact h6) ?_
     refine zk 6 rfl ?_
     obtain ⟨w1,w2,w3⟩:=U.clean
     obtain ⟨v1,v2,v3⟩:=U.writeAll
     refine zc rfl (Cc hT (s.ae [1,1,1,1]) U.ok.ok (by omega) (by omega) xz v2.ok.ok.dk (fun e he=>by rw [v2.ec.dk.aq]; exact v2.ec.dk.keys _ (iV he))) ?_
     rintro v h ⟨rfl,s⟩
     rw [w1]
     refine zk 6 rfl (zt rfl (ah rfl rfl cB) (by decide) ?_)
     exact zk 10 rfl (WP.ret ⟨aa,_,rfl,0,ps,pv,0,_,data,aC,.clean h6,by decide,w2.more (by omega),hN,(hp.of w3),yw,rfl,(Gt (s.ae [0,0,0,0,1]))⟩)
    ·skip
     refine zh rfl (ah rfl rfl cB) (by simp; exact h6) ?_
     refine zk 5 rfl ?_
     by_cases h7:D.act=7
     ·skip
      refine zt rfl (ah rfl rfl cB) (by simp; exact h7) ?_
      refine zk 7 rfl (zc rfl (KK hT.w (s.ae [1])) ?_)
      rintro v h' ⟨rfl,rfl⟩
      refine zc rfl (oh hT.w (s.ae [3]) (by omega)) ?_
      rintro v h' ⟨rfl,rfl⟩
      have ec:(ε.2.1.base:Int)+(ε.2.1.b.length:Int)=((ε.2.1.base+ε.2.1.b.length:Nat):Int):=by omega
      rw [ec]
      refine zc rfl (FK hT.w (s.ae [1,2,2]) U.ok.ok.lg U.ok.ok.dk.aD) ?_
      rintro v h ⟨rfl,s⟩
      obtain ⟨w1,w2,w3⟩:=U.force (n:=ε.2.1.base+ε.2.1.b.length)
      have Xm:(aT (ε.2.1,ε.2.2) (ε.2.1.base+ε.2.1.b.length)).1=0:=w1
      rw [Xm]
      refine zk 6 rfl (zt rfl (ah rfl rfl cB) (by decide) ?_)
      exact zk 10 rfl (WP.ret ⟨aa,_,rfl,0,ps,pv,0,_,data,aC,.force h7,by decide,w2.more (by omega),hN,(hp.of fun m _=>w3 m),yw,rfl,(Gt (s.ae [0,3,0,0,1]))⟩)
     ·skip
      refine zh rfl (ah rfl rfl cB) (by simp; exact h7) ?_
      exact zk 3 rfl (WP.skip (UK hT.w hB U hN hp yw hD (by omega) (s.ae [1,1,1,1,1,0,1,1,0]) ⟨rfl,rfl,rfl,aa⟩ hq))
end
end Go.Proofs.YtconhghphklfjaaGreat.Am
