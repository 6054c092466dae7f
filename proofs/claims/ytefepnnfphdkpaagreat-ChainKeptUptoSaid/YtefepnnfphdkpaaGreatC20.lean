/- ChainKept: a part of its proof; conditions: its statement's. -/
import Derived.Test.YtefepnnfphdkpaaGreatC19
set_option linter.defProp false
namespace Go.Proofs.YtefepnnfphdkpaaGreat.Am
open Go
def DC:=@Tryz.underlying239
section
variable {told:cN} {h:H} {S:List aq} {X:aq} {k:Nat} {v:V} {l:List Nat}
theorem DD (I:W told){n z:Nat}(s:Sat h (aR v l::S))(J:z≤8)(hl:l.length+z≤140737488355328):
  Call ⟨Tryz.prog,told⟩ 95 [v,.int .i64 (z:Int),.int .u64 (n:Int)] h fun r h'=>Sat h' (aR r (l++le z n)::S) :=
 (JI I.NF s.wf (s.buf (k:=0) rfl) J hl).mono fun _ _ ⟨h1,h2,h3⟩=>s.wD h2 h1 h3
theorem nm (hT:W told){a z n:Nat}(s:Sat h (aR v l::S))(hz:1≤z)(F8:z≤8)(J:a+z≤l.length)(jy:l.length≤65536):
  Call ⟨Tryz.prog,told⟩ 99 [.agg [v],.int .i64 (a:Int),.int .i64 (z:Int),.int .u64 (n:Int)] h fun r h'=>r=.bh []∧Sat h' (aR v (aZ l a (le z n))::S):=by
 obtain ⟨kg,_,cap,_,rfl,_⟩:=s.eF (by omega)
 refine Call.of_wp (hT.free _ rfl) Tryz.func99 rfl rfl (zg rfl ?_)
 refine az.cG s rfl rfl rfl (fO rfl rfl) (fun p4 h s => ?_)
 refine zv ?_
 have s0:=s
 refine WP.drawn [some (0,2),some (0,2),some (0,2),some (0,2),some (0,2),some (0,2),some (0,2),ak,ak,ak,ak] rfl (by kernel_rfl) (by kernel_rfl) ?_
 refine zF rfl (fG _ _) (zL rfl (s.ld (k:=0) rfl bN rfl) (zM rfl (zM rfl (zM rfl (zO rfl (ag rfl rfl (by exact bk (aA (by omega) (by omega)))) ?_)))))
 have ez:((a:Int)+(z:Int)).toNat=a+z:=by omega
 have ea:((a:Int)).toNat=a:=by omega
 refine zO rfl (eV (p:=some (.int .i64 (a:Int))) (q:=some (.int .i64 ((a:Int)+(z:Int)))) (m:=none) (p':=some a) (q':=some (a+z)) (m':=none) rfl rfl rfl rfl (by rw [eX (by omega),ea]) (by rw [eX (by omega),ez]) rfl (gV (s.buf (k:=1) rfl).view (by omega) J).1) ?_
 refine zM rfl (zM rfl (aC.any rfl rfl rfl rfl (OpR.call rfl rfl rfl rfl (DD hT s.Dl F8 (by simp; omega))) ?_))
 intro u h s
 have s:=s.ae [1,1,0]
 dsimp only [List.nil_append,V.cells,List.length_cons,List.length_nil,Nat.reduceAdd,bringA,getA,aV] at s
 have s1:=s
 refine aC.any rfl rfl rfl rfl (OpR.SZ rfl (s.ae [1,1]) (aX _ _) rfl rfl rfl rfl (by omega) J (by simp [dG]; omega)) ?_
 intro r h s
 have hs:∃q c,slR (V.sl kg 0 l.length cap) a (a+z)=.sl kg q (a+z-a) c:=by
  cases cap with
  | exact c=>exact ⟨_,_,rfl⟩
  | rest e alt=>exact ⟨_,_,rfl⟩
 obtain ⟨q,c,hs⟩:=hs
 have I:(slR (V.sl kg 0 l.length cap) a (a+z)).beq (slR (V.sl kg 0 l.length cap) a (a+z))=true:=by rw [hs]; exact Cx _ _ _ _
 refine aC.nil ⟨⟨fun _ _=>.inr ⟨rfl,⟨_,nZ rfl (fG _ _)⟩,bS _ rfl⟩,ff (.inr ⟨rfl,⟨_,aU rfl (s0.ld (k:=0) rfl bN rfl)⟩,bS _ rfl⟩) (.inr ⟨rfl,⟨_,aU rfl (s1.ld (k:=0) rfl bN rfl)⟩,bS _ rfl⟩),fun _ _=>.inr ⟨rfl,⟨_,cg rfl⟩,bS _ rfl⟩,fun _ _=>.inr ⟨rfl,⟨_,cg rfl⟩,bS _ rfl⟩,fun _ _=>.inr ⟨rfl,⟨_,cg rfl⟩,bS _ rfl⟩,fun _ _=>.inr ⟨rfl,⟨_,ag rfl rfl (by exact bk (aA (by omega) (by omega)))⟩,bS _ rfl⟩,ff (.inr ⟨rfl,⟨_,eV (p:=some (.int .i64 (a:Int))) (q:=some (.int .i64 ((a:Int)+(z:Int)))) (m:=none) (p':=some a) (q':=some (a+z)) (m':=none) rfl rfl rfl rfl (by rw [eX (by omega),ea]) (by rw [eX (by omega),ez]) rfl (gV (s0.buf (k:=1) rfl).view (by omega) J).1⟩,I⟩) (.inr ⟨rfl,⟨_,eV (p:=some (.int .i64 (a:Int))) (q:=some (.int .i64 ((a:Int)+(z:Int)))) (m:=none) (p':=some a) (q':=some (a+z)) (m':=none) rfl rfl rfl rfl (by rw [eX (by omega),ea]) (by rw [eX (by omega),ez]) rfl (gV (s1.buf (k:=1) rfl).view (by omega) J).1⟩,I⟩),aa,aa,aa,aa,aa⟩,?_⟩
 refine ⟨aa,_,rfl,rfl,?_⟩
 rw [show a+z-a=z by omega,dO (by rw [dG]; omega)] at s
 exact (s.del 1).del 1
theorem qJ (hT:W told)(s:Sat h (X::S))(hX:cO X (cR v l))(J:l.length<9223372036854775808):
  Call ⟨Tryz.prog,told⟩ 153 [v] h fun r h'=>Sat h' (X::S)∧((bU l=true∧r=.bh [.agg [v],.int .i64 0])∨(bU l=false∧r=.bh [.agg [.bp],.int .i64 4])):=by
 have hv:=s.aH (k:=0) rfl hX
 refine Call.of_wp (hT.free _ rfl) Tryz.func153 rfl rfl (zg rfl ?_)
 refine az.cG s rfl rfl rfl (cA iI) (fun p2 h s => ?_)
 refine zk 6 rfl (zc rfl (F_ hT (s.ae [1]) hX J) ?_)
 rintro r h' ⟨rfl,s⟩
 cases hg:bU l with
 | true =>
  have I:1≤l.length:=by
   have:l.length=512:=by simp only [bU,aI,dx] at hg; exact hg.1
   omega
  obtain ⟨pi,po,pc,rfl⟩:=gP hv I
  refine zo rfl (fo rfl rfl) (zk 6 rfl (zo rfl (cW rfl (by rw [wJ]; rfl)) ?_))
  refine zS rfl (s.hG (j:=1) rfl bn rfl rfl) (fun h s => ?_)
  refine zk 2 rfl ?_
  refine WP.ret ⟨aa,_,Cy rfl (s.cX (k:=1) rfl bT bn) rfl,?_⟩
  exact ⟨s.del 1,.inl ⟨rfl,rfl⟩⟩
 | false =>
  refine zo rfl (fo rfl rfl) (zk 4 rfl (zo rfl (cW rfl (by rw [wJ]; rfl)) ?_))
  refine zS rfl (s.hG (j:=1) rfl bn rfl rfl) (fun h s => ?_)
  refine zk 2 rfl ?_
  refine WP.ret ⟨aa,_,Cy rfl (s.cX (k:=1) rfl bT bn) rfl,?_⟩
  exact ⟨s.del 1,.inr ⟨rfl,rfl⟩⟩
theorem gQ (I:bU l=true): l.length=512:=by simp only [bU,aI,dx] at I; exact I.1
theorem rI (hT:W told)(s:Sat h (X::S))(J:cO X (cR v l))(jy:l.length<9223372036854775808):
  Call ⟨Tryz.prog,told⟩ 100 [v] h fun r h'=>(bU l=true∧∃u,r=.bh [.agg [u],.int .i64 0]∧Sat h' (aR u l::X::S))∨(bU l=false∧r=.bh [.agg [.bp],.int .i64 4]∧Sat h' (X::S)):=by
 have hv:=s.aH (k:=0) rfl J
 refine Call.of_wp (hT.free _ rfl) Tryz.func100 rfl rfl (zg rfl ?_)
 refine az.cG s rfl rfl rfl (cA iI) (fun p2 h s => ?_)
 refine zk 5 rfl (zc rfl (qJ hT (s.ae [1]) J jy) ?_)
 rintro r h' ⟨s,(⟨I,rfl⟩ | ⟨I,rfl⟩)⟩
 ·have Va:=gQ I
  obtain ⟨pi,po,pc,rfl⟩:=gP hv (by omega)
  refine zk 3 rfl ?_
  refine az.cG s rfl rfl rfl (cA iI) (fun p4 h s => ?_)
  refine zS rfl (s.hG (j:=0) rfl bn rfl rfl) (fun h s => ?_)
  refine zk 6 rfl (zh rfl (ag rfl rfl aJ) (rfl) (zk 4 rfl ?_))
  have s0:=s
  refine WP.drawn [ak,ak,ak,ak,some (0,2),some (0,2),ak,ak,ak,ak] rfl (by kernel_rfl) (by kernel_rfl) ?_
  refine zF rfl (fG _ _) (zL rfl (s.ld (k:=0) rfl bN rfl) (zO rfl (aM rfl rfl rfl (oc rfl aG)) (aC.any rfl rfl rfl rfl (OpR.qE rfl s rfl rfl rfl rfl (by omega)) ?_)))
  intro u h s
  have s:=s.ae [1,1,1,0]
  have s1:=s
  refine zF rfl (fG _ _) (zL rfl (s.ld (k:=0) rfl bN rfl) (aC.any rfl rfl rfl rfl (OpR.ni rfl (s.ae [3,1]) J rfl rfl rfl rfl (by simp; omega)) ?_))
  intro u2 h s
  rw [cV] at s
  obtain ⟨kg,_,cap,_,rfl,_⟩:=s.eF (by omega)
  have s2:=s
  refine zO rfl (cW rfl (by rw [wJ]; rfl)) ?_
  refine aC.j3 rfl rfl rfl (OpR.sS rfl rfl rfl (s.hG (j:=3) rfl bn rfl rfl)) ?_
  rintro w h ⟨rfl,s⟩
  have s3:=s
  refine zA rfl ?_
  refine aC.nil ⟨⟨aa,aa,aa,aa,fun _ _=>.inr ⟨rfl,⟨_,nZ rfl (fG _ _)⟩,bS _ rfl⟩,ff (.inr ⟨rfl,⟨_,aU rfl (s0.ld (k:=0) rfl bN rfl)⟩,bS _ rfl⟩) (.inr ⟨rfl,⟨_,aU rfl (s1.ld (k:=0) rfl bN rfl)⟩,bS _ rfl⟩),aa,aa,aa,aa,aa⟩,?_⟩
  refine WP.ret ⟨aa,_,Cy rfl (s.cX (k:=3) rfl bT bn) rfl,?_⟩
  exact .inl ⟨I,_,rfl,(s.del 2).del 2⟩
 ·skip
  refine zk 3 rfl ?_
  refine az.cG s rfl rfl rfl (cA iI) (fun p4 h s => ?_)
  refine zS rfl (s.hG (j:=0) rfl bn rfl rfl) (fun h s => ?_)
  refine zk 6 rfl (zt rfl (ag rfl rfl aJ) (rfl) (zk 4 rfl (zo rfl (cW rfl (by rw [wJ]; rfl)) ?_)))
  refine zm rfl ?_
  refine zS rfl (s.hG (j:=2) rfl bn rfl rfl) (fun h s => ?_)
  refine zk 2 rfl ?_
  refine WP.ret ⟨aa,_,Cy rfl (s.cX (k:=2) rfl bT bn) rfl,?_⟩
  exact .inr ⟨I,rfl,(s.del 2).del 0⟩
def lW (l:List Nat)(n:Nat): List Nat:=aZ l 4 (le 8 n)
def cZ (l:List Nat)(n:Nat): List Nat:=aZ (lW l n) 0 (le 4 (vk 0 ((lW l n).drop 4)))
theorem tS {n:Nat}(I:l.length=512): (lW l n).length=512:=by rw [lW,cH (by rw [dG]; omega),I]
theorem OX (I:W told){n:Nat}(s:Sat h (X::S))(hX:cO X (cR v l))(jy:l.length<9223372036854775808):
  Call ⟨Tryz.prog,told⟩ 127 [v,.int .u64 (n:Int)] h fun r h'=>(bU l=true∧∃u,r=.bh [u,.int .i64 0]∧Sat h' (aR u (cZ l n)::X::S))∨(bU l=false∧r=.bh [.bp,.int .i64 4]∧Sat h' (X::S)):=by
 refine Call.of_wp (I.free _ rfl) Tryz.func127 rfl rfl (zK 8 rfl (zc rfl (rI I s hX jy) ?_))
 rintro r h' (⟨hg,u,rfl,s⟩ | ⟨hg,rfl,s⟩)
 ·have J:=gQ hg
  have DE:(lW l n).length=512:=tS J
  obtain ⟨kg,_,cap,_,rfl,_⟩:=s.eF (by omega)
  refine zk 3 rfl ?_
  refine az.cG s rfl rfl rfl (cA iI) (fun p6 h s => ?_)
  refine zS rfl (s.hG (j:=0) rfl bn rfl rfl) (fun h s => ?_)
  refine zk 6 rfl (zh rfl (ag rfl rfl aJ) (rfl) (zk 5 rfl (zl rfl (s.cX (k:=0) rfl bT bn) (zm rfl (zc rfl (nm (a:=4) (z:=8) I (s.ae [1]) (by decide) (by decide) (by omega) (by omega)) ?_)))))
  rintro r h' ⟨rfl,s⟩
  have s:=s.ae [1,0]
  have s:Sat _ (_::aR _ (lW l n)::_):=s
  refine zk 2 rfl ?_
  have s0:=s
  have z6:=(s.buf (k:=1) rfl).view.1
  have ec:(lW l n).length=l.length:=by omega
  rw [←ec] at *
  refine WP.drawn [some (0,2),ak,ak,ak,ak,ak,ak] rfl (by kernel_rfl) (by kernel_rfl) ?_
  refine zL rfl (s.cX (k:=0) rfl bT bn) (zF rfl (fG _ _) (zL rfl (s.ld (k:=0) rfl bN rfl) (zO rfl (eV (p:=some (.int .i64 4)) (q:=none) (m:=none) (p':=some 4) (q':=none) (m':=none) rfl rfl rfl rfl rfl rfl rfl (jz (s.buf (k:=1) rfl).view (a:=4) (by omega)).1) ?_)))
  refine aC.any rfl rfl rfl rfl (OpR.call rfl rfl rfl rfl (NH I s (k:=1) rfl (F4 (aX _ _) (a:=4) (by omega)) (by simp; omega))) ?_
  rintro r h' ⟨rfl,rfl⟩
  have s1:=s
  have hc:=xQ (s:=0) (l:=(lW l n).drop 4) (by decide) (fun x hx=>z6 x (gI hx))
  refine aC.op rfl rfl rfl (by simp only [isEff,dm]) (cF rfl (by exact ke Tryz.underlying231 dm (gq (by omega) (by omega)))) ?_
  refine aC.any rfl rfl rfl rfl (OpR.call rfl rfl rfl rfl (nm (a:=0) (z:=4) I (s.ae [1]) (by decide) (by decide) (by omega) (by omega))) ?_
  rintro r h ⟨rfl,s⟩
  have s:=s.ae [1,0]
  refine aC.nil ⟨⟨ff (.inr ⟨rfl,⟨_,aU rfl (s0.cX (k:=0) rfl bT bn)⟩,bS _ rfl⟩) (.inr ⟨rfl,⟨_,aU rfl (s1.cX (k:=0) rfl bT bn)⟩,bS _ rfl⟩),aa,aa,aa,aa,aa,aa,aa⟩,?_⟩
  exact zg rfl (zf rfl (fG _ _) (zl rfl (s.ld (k:=0) rfl bN rfl) (zk 3 rfl (WP.ret ⟨aa,_,rfl,.inl ⟨hg,_,rfl,s.drop⟩⟩))))
 ·skip
  refine zk 3 rfl ?_
  refine az.cG s rfl rfl rfl (cA iI) (fun p6 h s => ?_)
  refine zS rfl (s.hG (j:=0) rfl bn rfl rfl) (fun h s => ?_)
  exact zk 6 rfl (zt rfl (ag rfl rfl aJ) (rfl) (zk 8 rfl (WP.ret ⟨aa,_,rfl,.inr ⟨hg,rfl,s.drop⟩⟩)))
theorem Vb {P:Program}{E:List (Nat×V)}{d:TypeId}{x:Operand}{r:V}(I:lookO E x=some v)(J:arrPtrV P d v=some r): opE P E h (.sliceToArrayPointer d x)=some (r,h):=by simp only [opE,iD,I,J,aL]
theorem OY {P:Program}{t:TypeId}{id off n:Nat}{cap:Cap}(hv:View h (.sl id off n cap) l)(I:bZ P t=some true)(hs:bj P t=some l.length): loadV P h t (.ptr id off)=some (.agg (ofBytes l)):=by
 have:=hv.rdN
 obtain ⟨rfl,J⟩:=this
 simp only [loadV,I,hs,J,ig]
theorem Cq : ∀(l m:List Nat),l.length=m.length→intsBeq .u8 (ofBytes l) (ofBytes m)=some (decide (l=m)):=by
 intro l
 induction l with
 | nil=>intro m hm; cases m with
  | nil=>rfl
  | cons x m=>simp at hm
 | cons x l J=>intro m hm; cases m with
  | nil=>simp at hm
  | cons y m =>
   have hi:=J m (by simpa using hm)
   simp only [ofBytes,cm] at hi ⊢
   simp only [intsBeq,ikBeq,gB,af,hi,lM]
   by_cases I:x=y
   ·subst I; simp
   ·have:¬ ((x:Int)=(y:Int)):=by omega
    simp [this,I]
theorem L4 : buildV Tryz.prog 239 []=some (.agg (ofBytes (List.replicate 512 0))):=by kernel_rfl
theorem NI {P:Program}{t e:TypeId}{n:Nat}{x y:Operand}{m:List Nat}(hu:P.underlying t=some (.array n e))(he:P.underlying e=some (.int .u8))(hs:bj P e=some 1)(I:l.length=n)(hm:m.length=n):
  binV P h .eql t x y (.agg (ofBytes l)) (.agg (ofBytes m))=some (.bool (decide (l=m))):=by
 simp only [binV,eqArr,hu,he,hs,cC,I,hm,c_,gB,af]
 rw [Cq l m (by omega)]
 rfl
def gv (l:List Nat): Int:=if l=List.replicate 512 0 then 0 else if bU l=false then 4 else if cP l 0 4≠vk 0 (l.drop 4) then 8 else 0
theorem DF (hT:W told)(s:Sat h (X::S))(J:cO X (cR v l))(jy:l.length<9223372036854775808):
  Call ⟨Tryz.prog,told⟩ 125 [v] h fun r h'=>r=.int .i64 (gv l)∧Sat h' (X::S):=by
 have hv:=s.aH (k:=0) rfl J
 have hz:(List.replicate 512 0).length=512:=eR
 -- what follows when the page is no page of noughts
 refine Call.of_wp (hT.free _ rfl) Tryz.func125 rfl rfl (zK 8 rfl (zo rfl (aM rfl rfl rfl (aW aG (s.aH (k:=0) rfl J))) ?_))
 refine zd rfl (ag rfl rfl iz) ?_ ?_
 ·intro hq
  have hq:l.length=512:=by simp at hq; omega
  obtain ⟨pi,po,pc,rfl⟩:=gP hv (by omega)
  refine zk 2 rfl (zo rfl (Vb (r:=.ptr pi po) rfl (by simp only [arrPtrV,DC]; rw [hq]; rfl)) ?_)
  refine zl rfl (OY hv SS (by rw [hq]; exact SR)) ?_
  refine zo rfl (cW rfl L4) ?_
  by_cases hn:l=List.replicate 512 0
  ·skip
   exact zt rfl (ag rfl rfl (NI DC Tryz.underlying5 Q5 hq hz)) (decide_eq_true hn) (zk 7 rfl (WP.ret ⟨aa,_,rfl,by rw [gv,au hn],s⟩))
  ·skip
   refine zh rfl (ag rfl rfl (NI DC Tryz.underlying5 Q5 hq hz)) (decide_eq_false hn) (zk 7 rfl (zc rfl (qJ hT s J jy) ?_))
   rintro r h' ⟨s,(⟨hg,rfl⟩ | ⟨hg,rfl⟩)⟩
   ·refine az.op rfl rfl rfl (cg rfl) ?_
    refine zk 2 rfl ?_
    refine az.cG s rfl rfl rfl (cA iI) (fun p3 h s => ?_)
    dsimp only [V.cells,List.length_cons,List.length_nil,Nat.reduceAdd] at s
    refine zS rfl (s.hG (j:=0) rfl bn rfl rfl) (fun h s => ?_)
    dsimp only [setA] at s
    refine zk 3 rfl (WP.block (zK 3 rfl (zh rfl (ag rfl rfl aJ) (rfl) (zk 4 rfl ?_))))
    have s0:=s
    refine WP.drawn [none,none,some (0,2),some (0,2),ak,ak,ak,ak] rfl (by kernel_rfl) (by kernel_rfl) ?_
    refine zL rfl (s.cX (k:=0) rfl bT bn) (aC.any rfl rfl rfl rfl (OpR.call rfl rfl rfl rfl (qI hT s (k:=1) rfl J (by decide) (by decide) (by decide) (by omega) (by omega))) ?_)
    rintro r h' ⟨rfl,s⟩
    have s1:=s
    refine zM rfl (zO rfl (eV (p:=some (.int .i64 4)) (q:=none) (m:=none) (p':=some 4) (q':=none) (m':=none) rfl rfl rfl rfl rfl rfl rfl (jz (s.aH (k:=1) rfl J) (a:=4) (by omega)).1) ?_)
    refine aC.any rfl rfl rfl rfl (OpR.call rfl rfl rfl rfl (NH hT s (k:=1) rfl (F4 J (a:=4) (by omega)) (by simp; omega))) ?_
    rintro r h' ⟨rfl,rfl⟩
    have hc:=xQ (s:=0) (l:=l.drop 4) (by decide) (fun x hx=>hv.1 x (gI hx))
    have hs:∃q c,slR (V.sl pi po l.length pc) 4 l.length=.sl pi q (l.length-4) c:=by
     cases pc with
     | exact c=>exact ⟨_,_,rfl⟩
     | rest e alt=>exact ⟨_,_,rfl⟩
    obtain ⟨q,c,hs⟩:=hs
    have NJ:(slR (V.sl pi po l.length pc) 4 l.length).beq (slR (V.sl pi po l.length pc) 4 l.length)=true:=by rw [hs]; exact Cx _ _ _ _
    refine aC.op rfl rfl rfl (by simp only [isEff,bO]) (cF rfl (by exact ke Tryz.underlying231 bO (aA (by omega) (by omega)))) ?_
    by_cases I:cP l 0 4=vk 0 (l.drop 4)
    ·skip
     refine aC.nc rfl rfl rfl rfl (ag rfl rfl aJ) (by simp; exact_mod_cast I) ?_
     refine zA rfl ?_
     refine aC.nil ⟨⟨aa,aa,fun _ _=>.inr ⟨rfl,⟨_,cg rfl⟩,bS _ rfl⟩,ff (.inr ⟨rfl,⟨_,eV (p:=some (.int .i64 4)) (q:=none) (m:=none) (p':=some 4) (q':=none) (m':=none) rfl rfl rfl rfl rfl rfl rfl (jz (s0.aH (k:=1) rfl J) (a:=4) (by omega)).1⟩,NJ⟩) (.inr ⟨rfl,⟨_,eV (p:=some (.int .i64 4)) (q:=none) (m:=none) (p':=some 4) (q':=none) (m':=none) rfl rfl rfl rfl rfl rfl rfl (jz (s1.aH (k:=1) rfl J) (a:=4) (by omega)).1⟩,NJ⟩),aa,aa,aa,aa,aa⟩,?_⟩
     refine zj rfl (WP.skip (zg rfl (za rfl (zv ?_))))
     refine WP.ret ⟨aa,_,rfl,?_⟩
     exact ⟨by rw [gv,ai hn,ai (by rw [hg]; decide),ai (by simpa using I)],s.drop⟩
    ·skip
     refine aC.zC rfl rfl rfl rfl (ag rfl rfl aJ) (by simp; exact_mod_cast I) ?_
     refine zA rfl ?_
     refine aC.nil ⟨⟨aa,aa,fun _ _=>.inr ⟨rfl,⟨_,cg rfl⟩,bS _ rfl⟩,ff (.inr ⟨rfl,⟨_,eV (p:=some (.int .i64 4)) (q:=none) (m:=none) (p':=some 4) (q':=none) (m':=none) rfl rfl rfl rfl rfl rfl rfl (jz (s0.aH (k:=1) rfl J) (a:=4) (by omega)).1⟩,NJ⟩) (.inr ⟨rfl,⟨_,eV (p:=some (.int .i64 4)) (q:=none) (m:=none) (p':=some 4) (q':=none) (m':=none) rfl rfl rfl rfl rfl rfl rfl (jz (s1.aH (k:=1) rfl J) (a:=4) (by omega)).1⟩,NJ⟩),aa,aa,aa,aa,aa⟩,?_⟩
     exact zK 5 rfl (WP.ret ⟨aa,_,rfl,by rw [gv,ai hn,ai (by rw [hg]; decide),au I],s.drop⟩)
   ·skip
    refine zk 3 rfl ?_
    refine az.cG s rfl rfl rfl (cA iI) (fun p3 h s => ?_)
    refine zS rfl (s.hG (j:=0) rfl bn rfl rfl) (fun h s => ?_)
    exact zk 3 rfl (WP.block (zK 3 rfl (zt rfl (ag rfl rfl aJ) (rfl) (zk 8 rfl (WP.ret ⟨aa,_,rfl,by rw [gv,ai hn,au hg],s.drop⟩)))))
 ·intro hq
  have hq:l.length≠512:=by simp at hq; omega
  have hn:l≠List.replicate 512 0:=fun e=>hq (by rw [e,hz])
  have hg:bU l=false:=by rw [bU,dQ hq,fU]
  refine zk 13 rfl (zc rfl (qJ hT s J jy) ?_)
  rintro r h' ⟨s,(⟨F3,rfl⟩ | ⟨_,rfl⟩)⟩
  ·rw [hg] at F3; cases F3
  ·refine az.op rfl rfl rfl (cg rfl) ?_
   refine zk 2 rfl ?_
   refine az.cG s rfl rfl rfl (cA iI) (fun p3 h s => ?_)
   refine zS rfl (s.hG (j:=0) rfl bn rfl rfl) (fun h s => ?_)
   exact zk 3 rfl (WP.block (zK 3 rfl (zt rfl (ag rfl rfl aJ) (rfl) (zk 8 rfl (WP.ret ⟨aa,_,rfl,by rw [gv,ai hn,au hg],s.drop⟩)))))
theorem oJ {i b id off:Nat}(hv:View h v l)(hb:l[i]?=some b)(he:indexAddrV Tryz.prog 28 v (.int .i64 (i:Int))=some (.ptr id off)): loadV Tryz.prog h 5 (.ptr id off)=some (.int .u8 (b:Int)):=by
 obtain ⟨I,off',J,e2⟩:=dN hv hb
 rw [he] at J
 have e3:V.ptr id off=V.ptr I off':=bI J
 rw [e3]
 exact e2
theorem wU (hT:W told)(s:Sat h (X::S))(I:cO X (cR v l))(jy:l.length<9223372036854775808):
  Call ⟨Tryz.prog,told⟩ 142 [v] h fun r h'=>Sat h' (X::S)∧((bU l=true∧r=.bh [.int .i64 (l.getD 12 0:Nat),.int .u64 (cP l 4 8),.int .i64 (cP l 18 4),.int .i64 (cP l 22 4),.int .i64 0]) ∨
   (bU l=false∧r=.bh [.int .i64 0,.int .u64 0,.int .i64 0,.int .i64 0,.int .i64 4])):=by
 have hv:=s.aH (k:=0) rfl I
 refine Call.of_wp (hT.free _ rfl) Tryz.func142 rfl rfl (zK 11 rfl (zc rfl (qJ hT s I jy) ?_))
 rintro r h' ⟨s,(⟨hg,rfl⟩ | ⟨hg,rfl⟩)⟩
 ·have hq:=gQ hg
  obtain ⟨pi,po,pc,rfl⟩:=gP hv (by omega)
  have J:l[12]?=some (l[12]'(by omega)):=aN _
  generalize FE:(l[12]'(by omega))=b at J
  have BH:b<256:=hv.1 b (aY J)
  have oI:l.getD 12 0=b:=by rw [er,J]; rfl
  rw [oI]
  refine zk 3 rfl ?_
  refine az.cG s rfl rfl rfl (cA iI) (fun p7 h s => ?_)
  refine zS rfl (s.hG (j:=0) rfl bn rfl rfl) (fun h s => ?_)
  refine zk 6 rfl (zh rfl (ag rfl rfl aJ) (rfl) (zk 4 rfl ?_))
  have s0:=s
  obtain ⟨id,off,e1,e2⟩:=dN (s.aH (k:=1) rfl I) J
  refine WP.drawn [some (0,4),some (0,4),some (0,4),some (0,4),ak,ak,ak,some (0,2),none,some (0,3),ak,ak,ak,ak,ak,ak] rfl (by kernel_rfl) (by kernel_rfl) ?_
  refine zM rfl (zO rfl (cx (r:=.ptr id off) rfl rfl e1) (zL rfl (oJ (s.aH (k:=1) rfl I) J e1) (aC.op rfl rfl rfl (by simp only [isEff,bO]) (cF rfl (by exact ke Tryz.underlying5 bO (aA (by omega) (by omega)))) ?_)))
  refine zM rfl (zO rfl (eV (p:=some (.int .i64 4)) (q:=some (.int .i64 12)) (m:=none) (p':=some 4) (q':=some 12) (m':=none) rfl rfl rfl rfl rfl rfl rfl (gV (s.aH (k:=1) rfl I) (a:=4) (b:=12) (by omega) (by omega)).1) ?_)
  refine aC.any rfl rfl rfl rfl (OpR.call rfl rfl rfl rfl (F7 hT s (k:=1) rfl (qD I (a:=4) (b:=12) (by omega) (by omega)) (by simp; omega))) ?_
  rintro r h' ⟨rfl,rfl⟩
  have s1:=s
  refine zL rfl (s.cX (k:=0) rfl bT bn) (aC.any rfl rfl rfl rfl (OpR.call rfl rfl rfl rfl (qI hT s (k:=1) rfl I (by decide) (by decide) (by decide) (by omega) (by omega))) ?_)
  rintro r h' ⟨rfl,s⟩
  have s2:=s
  refine zL rfl (s.cX (k:=0) rfl bT bn) (aC.any rfl rfl rfl rfl (OpR.call rfl rfl rfl rfl (qI hT s (k:=1) rfl I (by decide) (by decide) (by decide) (by omega) (by omega))) ?_)
  rintro r h' ⟨rfl,s⟩
  refine zA rfl (zA rfl (zA rfl (zA rfl (zA rfl ?_))))
  refine aC.nil ⟨⟨fun _ _=>.inr ⟨rfl,⟨_,cg rfl⟩,bS _ rfl⟩,fun _ _=>.inr ⟨rfl,⟨_,cx (r:=.ptr id off) rfl rfl e1⟩,bS _ rfl⟩,Jx (.inr ⟨rfl,⟨_,aU rfl (oJ (s0.aH (k:=1) rfl I) J e1)⟩,bS _ rfl⟩) (.inr ⟨rfl,⟨_,aU rfl (oJ (s1.aH (k:=1) rfl I) J e1)⟩,bS _ rfl⟩) (.inr ⟨rfl,⟨_,aU rfl (oJ (s2.aH (k:=1) rfl I) J e1)⟩,bS _ rfl⟩) (.inr ⟨rfl,⟨_,aU rfl (oJ (s.aH (k:=1) rfl I) J e1)⟩,bS _ rfl⟩),fun _ _=>.inr ⟨rfl,⟨_,cF rfl (by exact ke Tryz.underlying5 bO (aA (by omega) (by omega)))⟩,bS _ rfl⟩,aa,aa,aa,ff (.inr ⟨rfl,⟨_,aU rfl (s0.cX (k:=0) rfl bT bn)⟩,bS _ rfl⟩) (.inr ⟨rfl,⟨_,aU rfl (s1.cX (k:=0) rfl bT bn)⟩,bS _ rfl⟩),aa,qA (.inr ⟨rfl,⟨_,aU rfl (s0.cX (k:=0) rfl bT bn)⟩,bS _ rfl⟩) (.inr ⟨rfl,⟨_,aU rfl (s1.cX (k:=0) rfl bT bn)⟩,bS _ rfl⟩) (.inr ⟨rfl,⟨_,aU rfl (s2.cX (k:=0) rfl bT bn)⟩,bS _ rfl⟩),aa,aa,aa,aa,aa,aa,aa⟩,?_⟩
  refine WP.ret ⟨aa,_,rfl,?_⟩
  exact ⟨s.drop,.inl ⟨hg,rfl⟩⟩
 ·skip
  refine zk 3 rfl ?_
  refine az.cG s rfl rfl rfl (cA iI) (fun p7 h s => ?_)
  refine zS rfl (s.hG (j:=0) rfl bn rfl rfl) (fun h s => ?_)
  exact zk 6 rfl (zt rfl (ag rfl rfl aJ) (rfl) (zk 11 rfl (WP.ret ⟨aa,_,rfl,s.drop,.inr ⟨hg,rfl⟩⟩)))
end
structure Lg where
 base:Nat
 b:List Nat
 ct:List Nat
 forced:Nat
 check:Nat
def bE (l:List Nat): List V:=l.map fun (n:Nat)=>V.int .i64 (n:Int)
theorem eL (l:List Nat): (bE l).length=l.length:=by simp [bE]
def Ro (p base:Nat)(bv sv:V)(forced check:Nat): List V:=[.ptr p 0,.int .u64 (base:Int),bv,sv,.int .i64 (forced:Int),.int .u64 (check:Int)]
def b7 (q p:Nat)(μ:Lg): aq:=xs fun bv:V=>xs fun sv:V=>star [pt q (.cells 6 (Ro p μ.base bv sv μ.forced μ.check) false),aR bv μ.b,.arr 1 sv (bE μ.ct)]
structure Lg.Ok (μ:Lg): Prop where
 size:μ.base+μ.b.length≤1099511627776
 many:μ.ct.length≤16777216
 low:∀s∈μ.ct,s<μ.b.length
 Bo:μ.ct.Pairwise (· < ·)
 forced:μ.forced≤μ.b.length
 len:μ.b.length≤16777216
 check:μ.check≤1099511627776
theorem S6 {P:Program}{h:H}{t:TypeId}{x y:Operand}{a b:Nat}(I:a+b<4611686018427387904): binV P h .quo t x y (.int .i64 ((a:Int)+(b:Int))) (.int .i64 2)=some (.int .i64 (((a+b)/2:Nat):Int)):=by
 simp only [binV,ikBeq,af,intV]
 rw [show intBeq 2 0=false from rfl,ay,Ft (by omega),aA (by omega) (by omega)]
 congr 2
section
variable {told:cN} {h:H} {S:List aq} {X:aq} {k q p:Nat} {v:V} {l:List Nat} {μ:Lg}
theorem fS : Sat h (b7 q p μ::S)↔∃bv sv,Sat h (pt q (.cells 6 (Ro p μ.base bv sv μ.forced μ.check) false)::aR bv μ.b::.arr 1 sv (bE μ.ct)::S):=by
 simp only [b7,j4,c6,gK,cV]
theorem gR {P:Program}{t e:TypeId}{cs:List V}{i:Nat}{c:V}(s:Sat h S)(hk:getA S k=some (.arr 1 v cs))(hi:cs[i]?=some c)(hu:P.underlying t=some (.slice e))(I:bj P e=some 1):
  ∃id off,indexAddrV P t v (.int .i64 (i:Int))=some (.ptr id off)∧∀t',bZ P t'=some false→loadV P h t' (.ptr id off)=some c:=by
 have J:i<cs.length:=(List.getElem?_eq_some_iff.1 hi).1
 obtain ⟨m,r,h1,h2,h3⟩:=s.at hk
 rcases h3.2 with ⟨_,rfl⟩ | ⟨id,n,cap,N,rest,rfl,hg,e1,e2,_⟩
 ·simp at hi
 ·refine ⟨id,i,?_,fun t' ht=>Jp ht (h1 _ _ hg) ?_⟩
  ·simp only [indexAddrV,hu,I,ck]
   rw [show (decide ((0:Int)≤(i:Int))&&decide ((i:Int)<(n:Int)))=true by simp; omega,af]
   simp
  ·rw [eW,gx J,hi]
theorem JS (I:W told)(s:Sat h (b7 q p μ::S)): Call ⟨Tryz.prog,told⟩ 82 [.ptr q 0] h fun v h'=>v=.int .u64 (μ.base:Int)∧h'=h:=by
 obtain ⟨bv,sv,s⟩:=fS.1 s
 exact Call.of_wp (I.free _ rfl) Tryz.func82 rfl rfl (zK 8 rfl (zf rfl (sV _ _) (zl rfl (s.ld (k:=0) rfl nf rfl) (zk 2 rfl (WP.ret ⟨aa,_,rfl,rfl,rfl⟩)))))
theorem EZ (I:W told)(s:Sat h (b7 q p μ::S)): Call ⟨Tryz.prog,told⟩ 83 [.ptr q 0] h fun v h'=>v=.int .u64 (μ.check:Int)∧h'=h:=by
 obtain ⟨bv,sv,s⟩:=fS.1 s
 exact Call.of_wp (I.free _ rfl) Tryz.func83 rfl rfl (zK 8 rfl (zf rfl (OG _ _) (zl rfl (s.ld (k:=0) rfl nf rfl) (zk 2 rfl (WP.ret ⟨aa,_,rfl,rfl,rfl⟩)))))
theorem Bp (I:W told)(s:Sat h (b7 q p μ::S))(J:μ.base+μ.b.length≤1099511627776): Call ⟨Tryz.prog,told⟩ 43 [.ptr q 0] h fun v h'=>v=.int .u64 ((μ.base:Int)+(μ.b.length:Int))∧h'=h:=by
 obtain ⟨bv,sv,s⟩:=fS.1 s
 refine Call.of_wp (I.free _ rfl) Tryz.func43 rfl rfl (zK 5 rfl (WP.drawn [ak,ak,ak,ak,ak,ak,ak,ak,ak,ak,ak,ak] rfl (by kernel_rfl) (by kernel_rfl) ?_))
 refine zM rfl (zN rfl (zF rfl (sV _ _) (zL rfl (s.ld (k:=0) rfl nf rfl) (zM rfl (zN rfl (zF rfl (j5 _ _) (zL rfl (s.ld (k:=0) rfl bN rfl) (zO rfl (aM rfl rfl rfl (aW aG (s.aH (k:=1) rfl (aX _ _)))) (aC.op rfl rfl rfl (by simp only [isEff,dm]) (cF rfl (by exact ke bO dm (gq (by omega) (by omega)))) ?_)))))))))
 refine zO rfl (ag rfl rfl (by exact bk (gq (by omega) (by omega)))) ?_
 refine zA rfl ?_
 refine aC.nil ⟨⟨aa,aa,aa,aa,aa,aa,aa,aa,aa,aa,aa,aa,aa⟩,?_⟩
 refine WP.ret ⟨aa,_,rfl,?_⟩
 exact ⟨rfl,rfl⟩
theorem HN (I:W told)(s:Sat h (b7 q p μ::S))(J:μ.base+μ.b.length≤1099511627776)(hf:μ.forced≤μ.b.length): Call ⟨Tryz.prog,told⟩ 129 [.ptr q 0] h fun v h'=>v=.int .u64 ((μ.base:Int)+(μ.forced:Int))∧h'=h:=by
 obtain ⟨bv,sv,s⟩:=fS.1 s
 refine Call.of_wp (I.free _ rfl) Tryz.func129 rfl rfl (zK 5 rfl (WP.drawn [ak,ak,ak,ak,ak,ak,ak,ak,ak,ak,ak] rfl (by kernel_rfl) (by kernel_rfl) ?_))
 refine zM rfl (zN rfl (zF rfl (sV _ _) (zL rfl (s.ld (k:=0) rfl nf rfl) (zM rfl (zN rfl (zF rfl (Be _ _) (zL rfl (s.ld (k:=0) rfl dY rfl) (aC.op rfl rfl rfl (by simp only [isEff,dm]) (cF rfl (by exact ke bO dm (gq (by omega) (by omega)))) ?_))))))))
 refine zO rfl (ag rfl rfl (by exact bk (gq (by omega) (by omega)))) ?_
 refine zA rfl ?_
 refine aC.nil ⟨⟨aa,aa,aa,aa,aa,aa,aa,aa,aa,aa,aa,aa⟩,?_⟩
 refine WP.ret ⟨aa,_,rfl,?_⟩
 exact ⟨rfl,rfl⟩
def Split (μ:Lg)(n i:Nat): Prop:=i≤μ.ct.length∧(∀(j s:Nat),j<i→μ.ct[j]?=some s→μ.base+s<n)∧(∀(j s:Nat),i≤j→μ.ct[j]?=some s→n≤μ.base+s)
theorem Bq {l:List Nat}(J:l.Pairwise (· < ·)){i j a b:Nat}(I:i<j)(ha:l[i]?=some a)(hb:l[j]?=some b): a<b:=by
 obtain ⟨h1,rfl⟩:=List.getElem?_eq_some_iff.1 ha
 obtain ⟨h2,rfl⟩:=List.getElem?_eq_some_iff.1 hb
 exact List.pairwise_iff_getElem.1 J _ _ h1 h2 I
noncomputable def WU : Code:=eD [1,1,0,0,0] ((Tryz.f150.body).getD .skip)
theorem JT {bv sv:V}{n:Nat}(hn:n<18446744073709551616)(I:μ.Ok)(s:Sat h (pt q (.cells 6 (Ro p μ.base bv sv μ.forced μ.check) false)::aR bv μ.b::.arr 1 sv (bE μ.ct)::S)): ∀(fuel lo hi:Nat) (E:List (Nat×V)) (Q:Ex→List (Nat×V)→H→Prop),hi-lo≤fuel→lo≤hi→hi≤μ.ct.length →
  (∀(j s:Nat),j<lo→μ.ct[j]?=some s→μ.base+s<n)→(∀(j s:Nat),hi≤j→μ.ct[j]?=some s→n≤μ.base+s) →
  Has E [(0,.ptr q 0),(1,.int .u64 (n:Int)),(5,.int .i64 (lo:Int)),(6,.int .i64 (hi:Int))]→(∀E' i,Split μ n i→look E' 5=some (.int .i64 (i:Int))→Q (.exit 0) E' h)→WP ⟨Tryz.prog,told⟩ 39 (.loop WU) E h Q:=by
 have NK:=I.many
 have HO:=I.size
 intro fuel
 induction fuel with
 | zero =>
  intro lo hi E Q hf h1 h2 h3 h4 hE hq
  refine WP.loop (WP.has hE (zK 5 rfl (zh rfl (ag rfl rfl aP) (by simp; omega) ?_)))
  refine zk 2 rfl (WP.exit ?_)
  have e:lo=hi:=by omega
  exact hq _ lo ⟨by omega,h3,by rw [e]; exact h4⟩ rfl
 | succ fuel ih =>
  intro lo hi E Q hf h1 h2 h3 h4 hE hq
  by_cases a_:lo<hi
  ·skip
   refine WP.loop (WP.has hE (zK 5 rfl (zt rfl (ag rfl rfl aP) (by simp; omega) ?_)))
   refine zk 3 rfl (WP.block (zK 4 rfl (zb rfl (by exact bk (aA (by omega) (by omega))) ?_)))
   refine zb rfl (S6 (by omega)) ?_
   refine zk 3 rfl ?_
   generalize hm:(lo+hi)/2=m
   have zI:lo≤m:=by omega
   have Nd:m<hi:=by omega
   obtain ⟨st,J⟩:∃st,μ.ct[m]?=some st:=⟨_,aN (by omega)⟩
   have LR:=I.low st (aY J)
   have hlen:=I.len
   have hc:(bE μ.ct)[m]?=some (.int .i64 (st:Int)):=by simp [bE,J]
   obtain ⟨id,off,e1,e2⟩:=gR (P:=Tryz.prog) s (k:=2) rfl hc bL kf
   refine WP.drawn [ak,ak,ak,ak,ak,ak,ak,ak,ak,ak,ak,ak,ak,ak,ak] rfl (by kernel_rfl) (by kernel_rfl) ?_
   refine zM rfl (zN rfl (zF rfl (sV _ _) (zL rfl (s.ld (k:=0) rfl nf rfl) (zM rfl (zN rfl (zF rfl (oa _ _) (zL rfl (s.ld (k:=0) rfl mq rfl) (zM rfl (zO rfl (cx (r:=.ptr id off) rfl rfl e1) (zL rfl (e2 _ dY) (aC.op rfl rfl rfl (by simp only [isEff,dm]) (cF rfl (by exact ke bO dm (gq (by omega) (by omega)))) ?_)))))))))))
   refine zO rfl (ag rfl rfl (by exact bk (gq (by omega) (by omega)))) ?_
   refine zM rfl ?_
   by_cases oW:μ.base+st<n
   ·skip
    refine aC.zC rfl rfl rfl rfl (ag rfl rfl aP) (by simp; omega) ?_
    refine aC.nil ⟨⟨aa,aa,aa,aa,aa,aa,aa,aa,aa,aa,aa,aa,aa,aa,aa,aa⟩,?_⟩
    refine zK 3 rfl (zb rfl (by exact bk (aA (by omega) (by omega))) ?_)
    refine za rfl (zv ?_)
    refine ih (m+1) hi _ Q (by omega) (by omega) h2 (fun j s hj hs => ?_) h4 ⟨rfl,rfl,rfl,rfl,aa⟩ hq
    by_cases Rp:j=m
    ·subst Rp; rw [J] at hs; injection hs with hs; omega
    ·have:=Bq I.Bo (show j<m by omega) hs J; omega
   ·skip
    refine aC.nc rfl rfl rfl rfl (ag rfl rfl aP) (by simp; omega) ?_
    refine aC.nil ⟨⟨aa,aa,aa,aa,aa,aa,aa,aa,aa,aa,aa,aa,aa,aa,aa,aa⟩,?_⟩
    refine zj rfl (zr rfl (zk 2 rfl (zv ?_)))
    refine ih lo m _ Q (by omega) zI (by omega) h3 (fun j s hj hs => ?_) ⟨rfl,rfl,rfl,rfl,aa⟩ hq
    by_cases Rp:j=m
    ·subst Rp; rw [J] at hs; injection hs with hs; omega
    ·have:=Bq I.Bo (show m<j by omega) J hs; omega
  ·skip
   refine WP.loop (WP.has hE (zK 5 rfl (zh rfl (ag rfl rfl aP) (by simp; omega) ?_)))
   refine zk 2 rfl (WP.exit ?_)
   have e:lo=hi:=by omega
   exact hq _ lo ⟨by omega,h3,by rw [e]; exact h4⟩ rfl
theorem OZ (hT:W told){n:Nat}(s:Sat h (b7 q p μ::S))(I:μ.Ok)(hn:n<18446744073709551616): Call ⟨Tryz.prog,told⟩ 150 [.ptr q 0,.int .u64 (n:Int)] h fun v h'=>h'=h∧∃i,Split μ n i∧v=.int .i64 (i:Int):=by
 obtain ⟨bv,sv,s⟩:=fS.1 s
 refine Call.of_wp (hT.free _ rfl) Tryz.func150 rfl rfl (zK 5 rfl (WP.drawn [ak,ak,ak,ak,ak,ak,ak] rfl (by kernel_rfl) (by kernel_rfl) ?_))
 refine zM rfl (zN rfl (zF rfl (oa _ _) (zL rfl (s.ld (k:=0) rfl mq rfl) (zO rfl (aM rfl rfl rfl (s.dF (n:=μ.ct.length) (j:=2) rfl (by rw [eL,cq]) (by decide) bL)) ?_))))
 refine zA rfl (zA rfl ?_)
 refine aC.nil ⟨⟨aa,aa,aa,aa,aa,aa,aa,aa⟩,?_⟩
 refine zw (WP.block ?_)
 refine JT hn I s μ.ct.length 0 μ.ct.length _ _ (by omega) (by omega) (by omega) (fun j s hj _=>by omega) (fun j s hj hs => ?_) ⟨rfl,rfl,rfl,rfl,aa⟩ (fun E' i hi J => ?_)
 ·rw [pL (by omega)] at hs; cases hs
 ·skip
  exact WP.has (F:=[(5,.int .i64 (i:Int))]) ⟨J,aa⟩ (zK 5 rfl (WP.ret ⟨aa,_,rfl,rfl,i,hi,rfl⟩))
def Lg.hasB (μ:Lg)(n:Nat): Bool:=μ.ct.any fun s=>decide (μ.base+s=n)
theorem Split.has {n i:Nat}(hs:Split μ n i)(hr:μ.ct.Pairwise (· < ·)): μ.hasB n=true↔∃s,μ.ct[i]?=some s∧μ.base+s=n:=by
 rw [Lg.hasB,List.any_eq_true]
 constructor
 ·rintro ⟨s,h1,I⟩
  have I:μ.base+s=n:=by simpa using I
  obtain ⟨j,J⟩:=sg h1
  have w_:i≤j:=by
   rcases iq j i with h | h
   ·have:=hs.2.1 j s h J; omega
   ·exact h
  by_cases he:i=j
  ·subst he; exact ⟨s,J,I⟩
  ·have TP:=(List.getElem?_eq_some_iff.1 J).1
   have hi:μ.ct[i]?=some (μ.ct[i]'(by omega)):=aN _
   have h3:=hs.2.2 i _ (aD _) hi
   have h4:=Bq hr (show i<j by omega) hi J
   omega
 ·rintro ⟨s,h1,I⟩
  exact ⟨s,aY h1,by simpa using I⟩
theorem JU {i st:Nat}(I:μ.ct[i]?=some st): (bE μ.ct)[i]?=some (.int .i64 (st:Int)):=by simp [bE,I]
theorem O0 (hT:W told){n:Nat}(s:Sat h (b7 q p μ::S))(I:μ.Ok)(hn:n<18446744073709551616): Call ⟨Tryz.prog,told⟩ 136 [.ptr q 0,.int .u64 (n:Int)] h fun v h'=>h'=h∧v=.bool (μ.hasB n):=by
 have s0:=s
 obtain ⟨bv,sv,s⟩:=fS.1 s
 have NK:=I.many
 have HO:=I.size
 refine Call.of_wp (hT.free _ rfl) Tryz.func136 rfl rfl (zK 8 rfl (zc rfl (OZ hT s0 I hn) ?_))
 rintro v h' ⟨rfl,i,hi,rfl⟩
 have hh:=hi.has I.Bo
 refine zk 3 rfl (WP.drawn [ak,ak,ak,ak,ak,ak,ak,ak,ak,ak,ak,ak,ak,ak,ak,ak,ak,ak,ak,ak,ak,ak,ak,ak,ak] rfl (by kernel_rfl) (by kernel_rfl) ?_)
 refine zM rfl (zM rfl (zN rfl (zF rfl (oa _ _) (zL rfl (s.ld (k:=0) rfl mq rfl) (zO rfl (aM rfl rfl rfl (s.dF (n:=μ.ct.length) (j:=2) rfl (by rw [eL,cq]) (by decide) bL)) ?_)))))
 by_cases Dp:i<μ.ct.length
 ·skip
  refine aC.zC rfl rfl rfl rfl (ag rfl rfl aP) (by simp; omega) ?_
  obtain ⟨st,J⟩:∃st,μ.ct[i]?=some st:=⟨_,aN Dp⟩
  have LR:=I.low st (aY J)
  obtain ⟨id,off,e1,e2⟩:=gR (P:=Tryz.prog) s (k:=2) rfl (JU J) bL kf
  refine zM rfl (zM rfl (zN rfl (zF rfl (sV _ _) (zL rfl (s.ld (k:=0) rfl nf rfl) (zM rfl (zN rfl (zF rfl (oa _ _) (zL rfl (s.ld (k:=0) rfl mq rfl) (zM rfl (zO rfl (cx (r:=.ptr id off) rfl rfl e1) (zL rfl (e2 _ dY) (aC.op rfl rfl rfl (by simp only [isEff,dm]) (cF rfl (by exact ke bO dm (gq (by omega) (by omega)))) ?_))))))))))))
  refine zO rfl (ag rfl rfl (by exact bk (gq (by omega) (by omega)))) ?_
  refine zM rfl ?_
  by_cases he:μ.base+st=n
  ·skip
   refine aC.zC rfl rfl rfl rfl (ag rfl rfl iz) (by simp; omega) ?_
   refine zO rfl (nY rfl rfl) (zA rfl ?_)
   refine aC.nil ⟨⟨aa,aa,aa,aa,aa,aa,aa,aa,aa,aa,aa,aa,aa,aa,aa,aa,aa,aa,aa,aa,aa,aa,aa,aa,aa,aa⟩,?_⟩
   refine WP.ret ⟨aa,_,rfl,?_⟩
   exact ⟨rfl,by rw [hh.2 ⟨st,J,he⟩]⟩
  ·skip
   refine aC.nc rfl rfl rfl rfl (ag rfl rfl iz) (by simp; omega) ?_
   refine zO rfl (nY rfl rfl) (zA rfl ?_)
   refine aC.nil ⟨⟨aa,aa,aa,aa,aa,aa,aa,aa,aa,aa,aa,aa,aa,aa,aa,aa,aa,aa,aa,aa,aa,aa,aa,aa,aa,aa⟩,?_⟩
   refine WP.ret ⟨aa,_,rfl,?_⟩
   refine ⟨rfl,?_⟩
   cases hb:μ.hasB n with
   | false=>rfl
   | true =>
    obtain ⟨s',h1,h2⟩:=hh.1 hb
    rw [J] at h1; have:=bI h1; omega
 ·skip
  refine aC.nc rfl rfl rfl rfl (ag rfl rfl aP) (by simp; omega) ?_
  refine zM rfl (aC.no (e:=false) rfl rfl rfl rfl (aC.no (e:=false) rfl rfl rfl rfl (aC.no (e:=false) rfl rfl rfl rfl (aC.no (e:=false) rfl rfl rfl rfl (aC.no (e:=false) rfl rfl rfl rfl (aC.no (e:=false) rfl rfl rfl rfl (aC.no (e:=false) rfl rfl rfl rfl (aC.no (e:=false) rfl rfl rfl rfl (aC.no (e:=false) rfl rfl rfl rfl (aC.no (e:=false) rfl rfl rfl rfl (aC.no (e:=false) rfl rfl rfl rfl (aC.no (e:=false) rfl rfl rfl (by simp only [isEff,dm]) ?_))))))))))))
  refine aC.no (e:=false) rfl rfl rfl rfl (aC.no (e:=false) rfl rfl rfl rfl (aC.no (e:=false) rfl rfl rfl rfl (zO rfl (j0 rfl rfl) (zA rfl ?_))))
  refine aC.nil ⟨⟨aa,aa,aa,aa,aa,aa,aa,aa,aa,aa,aa,aa,aa,aa,aa,aa,aa,aa,aa,aa,aa,aa,aa,aa,aa,aa⟩,?_⟩
  refine WP.ret ⟨aa,_,rfl,?_⟩
  refine ⟨rfl,?_⟩
  cases hb:μ.hasB n with
  | false=>rfl
  | true =>
   obtain ⟨s',h1,h2⟩:=hh.1 hb
   have:=(List.getElem?_eq_some_iff.1 h1).1
   omega
theorem JV (J:W told){n:Nat}{δ:Dk}(s:Sat h (b7 q p μ::bx p δ::S))(I:μ.Ok)(hf:δ.bP<4294967296): Call ⟨Tryz.prog,told⟩ 79 [.ptr q 0,.int .u64 (n:Int)] h fun v h' =>
  (n<μ.base+μ.forced∧v=.int .i64 0∧Sat h' (b7 q p μ::bx p δ::S)) ∨
  (μ.base+μ.forced≤n∧δ.dead=true∧v=.int .i64 9∧Sat h' (b7 q p μ::bx p δ::S)) ∨
  (μ.base+μ.forced≤n∧δ.dead=false∧δ.bP=0∧v=.int .i64 9∧Sat h' (b7 q p μ::bx p δ.die::S)) ∨
  (μ.base+μ.forced≤n∧δ.dead=false∧δ.bP≠0∧v=.int .i64 0∧Sat h' (b7 q p { μ with forced:=μ.b.length }::bx p { δ.fZ with ey:=δ.log.length }::S)):=by
 have HO:=I.size
 have Y2:=I.forced
 have s0:=s
 obtain ⟨bv,sv,s⟩:=fS.1 s
 refine Call.of_wp (J.free _ rfl) Tryz.func79 rfl rfl (zK 9 rfl (zc rfl (HN J s0 I.size I.forced) ?_))
 rintro v h' ⟨rfl,rfl⟩
 by_cases a_:n<μ.base+μ.forced
 ·skip
  refine zt rfl (ag rfl rfl aP) (by simp; omega) ?_
  exact zk 6 rfl (WP.ret ⟨aa,_,rfl,.inl ⟨a_,rfl,s0⟩⟩)
 ·have hle:μ.base+μ.forced≤n:=by omega
  refine zh rfl (ag rfl rfl aP) (by simp; omega) ?_
  refine zk 8 rfl (zf rfl (FY _ _) (zl rfl (s.ld (k:=0) rfl rY rfl) (zc rfl (JN J (s0.ae [1]) hf) ?_)))
  rintro v h (⟨hd,rfl,s⟩ | ⟨hd,h0,rfl,s⟩ | ⟨hd,h0,rfl,s⟩)
  ·refine az.op rfl rfl rfl (fl rfl) ?_
   exact zk 4 rfl (zt rfl (ag rfl rfl aJ) (rfl) (zk 7 rfl (WP.ret ⟨aa,_,rfl,.inr (.inl ⟨hle,hd,rfl,s.ae [1]⟩)⟩)))
  ·skip
   exact zk 5 rfl (zt rfl (ag rfl rfl aJ) (rfl) (zk 7 rfl (WP.ret ⟨aa,_,rfl,.inr (.inr (.inl ⟨hle,hd,h0,rfl,s.ae [1]⟩))⟩)))
  ·skip
   obtain ⟨bv,sv,s⟩:=fS.1 (s.ae [1])
   refine zk 5 rfl (zh rfl (ag rfl rfl aJ) (rfl) (zk 8 rfl (zf rfl (j5 _ _) (zl rfl (s.ld (k:=0) rfl bN rfl) (zo rfl (aM rfl rfl rfl (aW aG (s.aH (k:=1) rfl (aX _ _)))) (zn rfl (zf rfl (Be _ _) ?_)))))))
   refine zS rfl (by exact s.iF (k:=0) rfl kf rfl (by decide) rfl rfl) (fun h s => ?_)
   exact zk 5 rfl (WP.ret ⟨aa,_,rfl,.inr (.inr (.inr ⟨hle,hd,h0,rfl,fS.2 ⟨bv,sv,s⟩⟩))⟩)
end
end Go.Proofs.YtefepnnfphdkpaaGreat.Am
