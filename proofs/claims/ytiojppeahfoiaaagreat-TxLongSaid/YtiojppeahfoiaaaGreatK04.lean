/- TxLong: a part of its proof; conditions: its statement's. -/
import Derived.Test.YtiojppeahfoiaaaGreatK02
import Derived.Test.YtiojppeahfoiaaaGreatK03
set_option linter.defProp false
namespace Go.Proofs.YtiojppeahfoiaaaGreat.Am
open Go Go.Maps Go.Sort Go.Shelf Go.RowKit
def gV:=@Tryz.underlying106
def hG:=@Tryz.underlying102
def yH:=@Tryz.underlying214
def yI:=@Tryz.underlying207
def Hj:=@Tryz.underlying281
def Hl:=@Tryz.underlying334
abbrev af {α:Type}:Option α:=none
variable {X:aP} {c:Ctx} {Q:Ex→List (Nat×V)→H→Prop} {h:H} {E:List (Nat×V)} {S:List aP} {ks:List Int} {l b data:List Nat} {cs pre post:List V} {g n k s i size aD a d z p6 id off q j tx pv nx j1 j2 p1 r cG:Nat} {y:Operand} {P:Program} {α:Type} {t e:TypeId} {x bv dt wh di kv:V}
theorem ZX (m:Nat): AnyZI.SortsIn Tryz.prog Tryz.sorted106_ren Fence.wide m :=
 ⟨fun k_ off cap ss W hH I J=>callsIn_wide.2 (AnyM.slices_Sort_int Tryz.sort176 k_ off cap ss W hH I J),
  fun p cap W=>callsIn_wide.2 (AnyM.slices_Sort_int_none Tryz.sort176 p cap W)⟩
theorem Ec (eg:∀args w,(callFunc g args).run Tryz.prog w=.ok (.enter g args) w){Bm:Nat}{D0:DataW Unit}{w:World}(j8:Maps.size D0≤maxLen)(I:Maps.size D0*8≤140737488355328)
 (aaP:SeqGives Fence.wide 2 Tryz.prog g #[.pointer (some ⟨Bm,0,none⟩)] encZ (fun J=>J.Perm (intKeys D0)) (Maps.size D0) w):
  Calls Tryz.prog 106 #[.func (.func g) #[] #[.pointer (some ⟨Bm,0,none⟩)]] w fun e w'=>∃(v:Value) (J:List Int),e=.returned v∧J.Perm (intKeys D0) ∧
   w'.ownsRow w.heap.size 3 1 v J.length ((J.mergeSort (fun x y=>decide (x≤y))).map encZ)∧(v=.slice none 0 0↔J=[])∧Below w.heap.size w w' :=
 (callsIn_wide (n:=5)).1 (AnyZI.sorted_in Tryz.sorted106 Fence.wide 5 aa aa aa aa rfl (by omega) (ZX _) (enters_of Tryz.func176 (by rfl) rfl) g _ aa eg _ _ j8 I _ aaP)
def AG : List Nat:=[177,187,218]
theorem On : E6 Tryz.prog 106 3 AG:=by
 intro g hg Bm b nn D0 w hB hm J j8 I
 simp only[AG,jI,kZ,oR] at hg
 rcases hg with rfl|rfl|rfl
 ·exact Ec (enters_of Tryz.func177 (by rfl) rfl) j8 I (AnyZI.keys_gives (ρ:=Tryz.keys107_ren) { Tryz.keys107 with } Fence.wide _ aa rfl (by omega) Bm b nn D0 w hB hm J)
 ·exact Ec (enters_of Tryz.func187 (by rfl) rfl) j8 I (AnyZI.keys_gives (ρ:=Tryz.keys115_ren) { Tryz.keys115 with } Fence.wide _ aa rfl (by omega) Bm b nn D0 w hB hm J)
 ·exact Ec (enters_of Tryz.func218 (by rfl) rfl) j8 I (AnyZI.keys_gives (ρ:=Tryz.keys181_ren) { Tryz.keys181 with } Fence.wide _ aa rfl (by omega) Bm b nn D0 w hB hm J)
end Go.Proofs.YtiojppeahfoiaaaGreat.Am
namespace Go.Proofs.YtiojppeahfoiaaaGreat.Am
open Go
variable {X:aP} {c:Ctx} {Q:Ex→List (Nat×V)→H→Prop} {h:H} {E:List (Nat×V)} {S:List aP} {ks:List Int} {l b data:List Nat} {cs pre post:List V} {g n k s i size aD a d z p6 id off q j tx pv nx j1 j2 p1 r cG:Nat} {y:Operand} {P:Program} {α:Type} {t e:TypeId} {x bv dt wh di kv:V}
def Ho : List Nat:=[71,235,236,212,211,180,190,163]
structure Std (told:cC): Prop where
 free:∀f,inL Ho f=true→told f=none
 more:told 217=some toldMore
theorem wrap_u64 (h:n<18446744073709551616): IntKind.wrap .u64 (n:Int)=(n:Int):=by
 grind[IntKind.wrap,IntKind.bits,IntKind.signed]
theorem wrap_u8 (n:Nat): IntKind.wrap .u8 (n:Int)=((n%256:Nat):Int):=by
 rfl
def digits : Nat→Nat→List Nat
 |0,n=>[n%128]
 |k+1,n=>if n<128 then[n] else(n%128+128)::digits k (n/128)
set_option maxRecDepth 10000 in
theorem ZY (h:n<256): Nat.lor n 128=n%128+128:=by
 have:∀m:Fin 256,Nat.lor m.1 128=m.1%128+128:=by decide
 exact this ⟨n,h⟩
theorem L5 (h:n<256): intV .or .u8 (n:Int) 128=some (.int .u8 ((n%128+128:Nat):Int)):=by
 have I:((n:Int)%(2^(IntKind.u8).bits:Int)).toNat=n:=by grind[IntKind.bits]
 have J:((128:Int)%(2^(IntKind.u8).bits:Int)).toNat=128:=by rfl
 grind[intV,bitsV,ZY,wrap_u8]
theorem aaQ : shiftV .shr .u64 (n:Int) 7=some (.int .u64 ((n/128:Nat):Int)):=by
 grind[shiftV,IntKind.bits]
section
variable {told:cC}
noncomputable def vtX : Code:=unloop (unblk (leftC (cz ((Tryz.f235.body).getD .skip))))
theorem uR : convV Tryz.prog h 32 5 (.int .u64 (n:Int))=some (.int .u8 ((n%256:Nat):Int),h):=by
 simp[convV,wrap_u8]
theorem iU (h:n<128): digits k n=[n]:=by
 cases k<;>grind[digits]
theorem CD (hn:n<128)(I:look E 1=some (.int .u64 (n:Int)))
 (J:Q (.exit 0) ((6,.bool false)::(5,.int .u64 (n:Int))::E) h): WP ⟨Tryz.prog,told⟩ 20 (.loop vtX) E h Q:=by
 refine WP.loop (WP.seq (WP.seq (WP.region rfl ?_)))
 refine zo rfl (aS I) (zo rfl (aq (v:=.int .u64 (n:Int)) (u:=.int .u64 128) (r:=.bool false) rfl rfl (by simp only[binV,ikBeq,ah,intV];congr 2;simp;omega)) ?_)
 exact au.nil (WP.cond (t:=false) rfl (WP.exit J))
theorem Jp : ∀(k n:Nat) (l:List Nat) (s:V) (h:H) (E:List (Nat×V)) (Q:Ex→List (Nat×V)→H→Prop),kC h→jq h s l→n<128^(k+1)→k≤9→l.length+k+1≤140737488355328 →
  look E 0=some s→look E 1=some (.int .u64 (n:Int)) →
  (∀E' h' s' l' (m:Nat),look E' 0=some s'→look E' 1=some (.int .u64 (m:Int))→m<128→l'++[m]=l++digits k n→jq h' s' l'→dL (2*k) (rowIds s) h h'→(∀i∈rowIds s',i∈rowIds s∨h.next≤i)→Q (.exit 0) E' h') →
  WP ⟨Tryz.prog,told⟩ 20 (.loop vtX) E h Q:=by
 intro k
 induction k with
 |zero =>
  intro n l s h E Q hw hs hn _ _ h0 J hq
  have I:n<128:=by omega
  exact CD I J (hq _ h s l n h0 J I (by rw[iU I]) hs (dL.refl hw _) (fun i hi=>.inl hi))
 |succ k ih =>
  intro n l s h E Q hw hs hn hk hl h0 J hq
  by_cases I:n<128
  ·exact CD I J (hq _ h s l n h0 J I (by rw[iU I]) hs ((dL.refl hw _).mono (gR _) (fun _ h=>h)) (fun i hi=>.inl hi))
  ·have hd:n/128<128^(k+1):=by
    omega
   refine WP.loop (WP.seq (WP.seq (WP.region rfl ?_)))
   refine zo rfl (aS J) (zo rfl (aq (v:=.int .u64 (n:Int)) (u:=.int .u64 128) (r:=.bool true) rfl rfl (by simp only[binV,ikBeq,ah,intV];congr 2;simp;omega)) ?_)
   refine au.nil (WP.cond (t:=true) rfl (WP.skip ?_))
   refine WP.block (WP.seq (WP.region rfl ?_))
   refine zo rfl (aS h0) (zo rfl (aS J) (zo rfl (bO (v:=.int .u64 (n:Int)) rfl uR) (zo rfl (aq (v:=.int .u8 ((n%256:Nat):Int)) (u:=.int .u8 128) (r:=.int .u8 ((n%256%128+128:Nat):Int)) rfl rfl (by exact L5 (by omega))) ?_)))
   refine au.LK (b:=n%256%128+128) rfl hw rfl rfl rfl rfl rfl rfl (by omega) (fun v h₁ b1 k1 f1 => ?_)
   have fV:jq h₁ s l:=hs.jP hw k1 (fun i _=>kZ)
   refine au.app (s:=s) (x:=v) rfl k1.wf rfl rfl rfl rfl rfl rfl rfl fV b1.view (by grind) (fun v2 Oo b2 k2 f2 => ?_)
   have Fg:dL 2 (rowIds s) h Oo:=(k1.mono (aQ _) (fun i hi=>by grind)).trans k2 (fun i hi=>.inl hi)
   refine za rfl ?_
   refine au.nil (WP.region rfl ?_)
   refine zo rfl (aS J) (zo rfl (aq (v:=.int .u64 (n:Int)) (u:=.int .u64 7) (r:=.int .u64 ((n/128:Nat):Int)) rfl rfl aaQ) (zk 2 rfl ?_))
   refine ih (n/128) (l++[n%256%128+128]) v2 Oo _ Q Fg.wf b2 hd (by omega) (by grind) rfl rfl (fun E' h' s' l' m q1 q2 q3 q4 q5 q6 q7 => ?_)
   refine hq E' h' s' l' m q1 q2 q3 ?_ q5 ?_ (fun i hi => ?_)
   ·grind[digits]
   ·exact(Fg.trans q6 (fun i hi=>(f2 i hi).imp_right (fun h=>cu k1.le h))).mono (by omega) (fun i hi=>hi)
   ·rcases q7 i hi with h3|h3
    ·exact(f2 i h3).imp_right (fun h=>cu k1.le h)
    ·exact .inr (cu Fg.le h3)
theorem Fh (hT:Std told){s:V}(hw:kC h)(hs:jq h s l)(hn:n<128^(k+1))(hk:k≤9)(hl:l.length+k+1≤140737488355328):
  Call ⟨Tryz.prog,told⟩ 235 [s,.int .u64 (n:Int)] h fun v h'=>jq h' v (l++digits k n)∧dL (2*k+2) (rowIds s) h h'∧∀i∈rowIds v,i∈rowIds s∨h.next≤i:=by
 refine Call.of_wp (hT.free _ rfl) Tryz.func235 rfl rfl ?_
 refine WP.seq (WP.region rfl (au.op rfl rfl rfl (eU rfl) (au.nil ?_)))
 refine WP.seq (WP.block ?_)
 refine Jp k n l s h _ _ hw hs hn hk hl rfl rfl (fun E' h' s' l' m q1 q2 q3 q4 q5 I q7 => ?_)
 have yc:l'.length=l.length+(digits k n).length-1:=by
  have:=iZ List.length q4
  simp at this
  omega
 have J:∀(k n:Nat),(digits k n).length≤k+1:=by
  intro k
  induction k<;>grind[digits]
 have acq:=J k n
 refine WP.seq (WP.region rfl ?_)
 refine zo rfl (aS q1) (zo rfl (aS q2) (zo rfl (bO (v:=.int .u64 (m:Int)) rfl uR) ?_))
 refine au.LK (b:=m%256) rfl I.wf rfl rfl rfl rfl rfl rfl (by omega) (fun v h₁ b1 k1 f1 => ?_)
 have fV:jq h₁ s' l':=q5.jP I.wf k1 (fun i _=>kZ)
 refine au.app (s:=s') (x:=v) rfl k1.wf rfl rfl rfl rfl rfl rfl rfl fV b1.view (by grind) (fun v2 Oo b2 k2 f2 => ?_)
 refine za rfl ?_
 refine au.nil (WP.ret ?_)
 refine⟨aa,v2,rfl,?_,?_,fun i hi => ?_⟩
 ·grind
 ·refine((I.trans k1 (fun i hi=>by grind)).trans k2 (fun i hi => ?_)).mono (by omega) (fun i hi=>hi)<;>grind
 ·rcases f2 i hi with h3|h3
  ·grind
  ·exact .inr (by have:=I.le;have:=k1.le;omega)
theorem Hp (I:n<18446744073709551616): convV Tryz.prog h 3 32 (.int .i64 (n:Int))=some (.int .u64 (n:Int),h):=by
 simp_all[convV,wrap_u64]
theorem gn : ∀(k n:Nat),(digits k n).length≤k+1:=by
 intro k
 induction k<;>grind[digits]
theorem UM (I:Std told){s:V}{m:List Nat}(hw:kC h)(hs:jq h s l)(J:View h x m)(hd:∀i∈rowIds x,i∉rowIds s)(hn:m.length<128^(k+1))(hk:k≤9)(hl:l.length+k+1+m.length≤140737488355328):
  Call ⟨Tryz.prog,told⟩ 236 [s,x] h fun v h'=>jq h' v (l++digits k m.length++m)∧dL (2*k+3) (rowIds s) h h'∧∀i∈rowIds v,i∈rowIds s∨h.next≤i:=by
 refine Call.of_wp (I.free _ rfl) Tryz.func236 rfl rfl ?_
 refine WP.seq (WP.region rfl (au.op rfl rfl rfl (eU rfl) (au.nil ?_)))
 refine WP.seq (WP.region rfl ?_)
 refine zk 2 rfl (zo rfl (a_ (v:=x) rfl rfl rfl J.len) (zo rfl (bO (v:=.int .i64 (m.length:Int)) rfl (Hp (by omega))) ?_))
 refine au.call rfl rfl rfl rfl rfl rfl rfl (Fh I (k:=k) hw hs hn hk (by omega)) (fun v h₁ ⟨b1,k1,f1⟩ => ?_)
 refine zm rfl ?_
 have CE:=gn k m.length
 refine au.app (s:=v) (x:=x) rfl k1.wf rfl rfl rfl rfl rfl rfl rfl b1 (J.jP hw k1 hd) (by grind) (fun v2 Oo b2 k2 f2 => ?_)
 refine au.op rfl rfl rfl (eU rfl) (au.nil (WP.ret ?_))
 refine⟨aa,v2,rfl,b2,(k1.trans k2 f1).mono (by omega) (fun i hi=>hi),fun i hi => ?_⟩
 rcases f2 i hi with h3|h3
 ·grind
 ·exact .inr (cu k1.le h3)
def le : Nat→Nat→List Nat
 |0,_=>[]
 |k+1,n=>(n%256)::le k (n/256)
theorem cq : ∀(k n:Nat),(le k n).length=k:=by
 intro k
 induction k<;>grind[le]
theorem L6 : ∀(k n:Nat),∀b∈le k n,b<256:=by
 intro k
 induction k with
 |zero=>intro n b I;cases I
 |succ k J =>
  intro n b I
  rcases List.mem_cons.1 I with rfl|I<;>grind
noncomputable def lyX : Code:=unloop (unblk (cz (leftC (cz ((Tryz.f71.body).getD .skip)))))
theorem aaR (hi:i≤8): shiftV .shr .u64 (n:Int) ((8*i:Nat):Int)=some (.int .u64 ((n/256^i:Nat):Int)):=by
 simp only[shiftV,IntKind.bits,b7]
 rw[show min (8*i) 64=8*i by omega,show decide (((8*i:Nat):Int)<0)=false by rfl,aL]
 rw[Int.fdiv_eq_ediv_of_nonneg _ (Int.pow_nonneg (by omega))]
 rw[show(256:Nat)^i=2^(8*i) by rw[Nat.pow_mul]]
 push_cast
 rfl
theorem Ri (eH:size≤8): ∀(j i:Nat) (l:List Nat) (s:V) (h:H) (E:List (Nat×V)) (Q:Ex→List (Nat×V)→H→Prop),kC h→jq h s l→i+j=size→l.length+j≤140737488355328 →
  look E 0=some s→look E 2=some (.int .u64 (n:Int))→look E 8=some (.int .i64 (size:Int))→look E 9=some (.int .i64 (i:Int)) →
  (∀E' h' s',look E' 0=some s'→jq h' s' (l++le j (n/256^i))→dL (2*j) (rowIds s) h h'→(∀i∈rowIds s',i∈rowIds s∨h.next≤i)→Q (.exit 0) E' h') →
  WP ⟨Tryz.prog,told⟩ 22 (.loop lyX) E h Q:=by
 intro j
 induction j with
 |zero =>
  intro i l s h E Q hw hs hi _ h0 h2 h8 h9 hq
  refine WP.loop (WP.seq (WP.region rfl ?_))
  refine zo rfl (aq (v:=.int .i64 (i:Int)) (u:=.int .i64 (size:Int)) (r:=.bool false) h9 h8 (by simp_all[binV,ikBeq,intV])) ?_
  refine au.nil (WP.seq (WP.cond (t:=false) rfl (WP.exit ?_)))
  exact hq _ h s h0 (by simpa[le] using hs) (dL.refl hw _) (fun i hi=>.inl hi)
 |succ j ih =>
  intro i l s h E Q hw hs hi hl h0 h2 h8 h9 hq
  refine WP.loop (WP.seq (WP.region rfl ?_))
  refine zo rfl (aq (v:=.int .i64 (i:Int)) (u:=.int .i64 (size:Int)) (r:=.bool true) h9 h8 (by simp only[binV,ikBeq,ah,intV];congr 2;simp;omega)) ?_
  refine au.nil (WP.seq (WP.cond (t:=true) rfl (WP.skip ?_)))
  refine WP.seq (WP.block (WP.seq (WP.region rfl ?_)))
  refine zo rfl (aS h9) ?_
  refine au.op rfl rfl rfl (eU rfl) (au.nil (WP.region rfl ?_))
  refine zo rfl (aS h0) (zo rfl (aS h2) (zm rfl ?_))
  refine au.op rfl rfl rfl (aq (v:=.int .i64 8) (u:=.int .i64 (i:Int)) (r:=.int .i64 ((8*i:Nat):Int)) rfl rfl (by
   simp only[binV,ikBeq,ah,intV]
   rw[show(8:Int)*(i:Int)=((8*i:Nat):Int) by rfl,wrap_i64 (by omega)])) ?_
  refine zo rfl (aq (v:=.int .u64 (n:Int)) (u:=.int .i64 ((8*i:Nat):Int)) (r:=.int .u64 ((n/256^i:Nat):Int)) rfl rfl (by exact aaR (by omega))) ?_
  refine zo rfl (bO (v:=.int .u64 ((n/256^i:Nat):Int)) rfl uR) ?_
  refine au.LK (b:=n/256^i%256) rfl hw rfl rfl rfl rfl rfl rfl (by omega) (fun v h₁ b1 k1 f1 => ?_)
  have fV:jq h₁ s l:=hs.jP hw k1 (fun i _=>kZ)
  refine au.app (s:=s) (x:=v) rfl k1.wf rfl rfl rfl rfl rfl rfl rfl fV b1.view (by grind) (fun v2 I b2 k2 f2 => ?_)
  have J:dL 2 (rowIds s) h I:=(k1.mono (aQ _) (fun i hi=>by grind)).trans k2 (fun i hi=>.inl hi)
  refine au.op rfl rfl rfl (eU rfl) (au.nil (WP.region rfl ?_))
  refine zo rfl (aq (v:=.int .i64 (i:Int)) (u:=.int .i64 1) h9 rfl (by simp only[binV,ikBeq,ah];exact yp (by omega))) ?_
  refine au.op rfl rfl rfl (aS rfl) (au.nil ?_)
  refine ih (i+1) (l++[n/256^i%256]) v2 I _ Q J.wf b2 (by omega) (by grind) rfl h2 h8 rfl (fun E' h' s' q1 q2 q3 q4 => ?_)
  refine hq E' h' s' q1 ?_ ?_ (fun i hi => ?_)
  ·grind[Nat.div_div_eq_div_mul,le]
  ·exact(J.trans q3 (fun i hi=>(f2 i hi).imp_right (fun h=>cu k1.le h))).mono (by omega) (fun i hi=>hi)
  ·rcases q4 i hi with h3|h3
   ·exact(f2 i h3).imp_right (fun h=>cu k1.le h)
   ·exact .inr (cu J.le h3)
theorem Oq (J:Std told){s:V}(hw:kC h)(hs:jq h s l)(I:size≤8)(hl:l.length+size≤140737488355328):
  Call ⟨Tryz.prog,told⟩ 71 [s,.int .i64 (size:Int),.int .u64 (n:Int)] h fun v h'=>jq h' v (l++le size n)∧dL (2*size) (rowIds s) h h'∧∀i∈rowIds v,i∈rowIds s∨h.next≤i:=by
 refine Call.of_wp (J.free _ rfl) Tryz.func71 rfl rfl ?_
 refine WP.seq (WP.region rfl (au.op rfl rfl rfl (eU rfl) (au.nil ?_)))
 refine WP.seq (WP.seq (WP.region rfl ?_))
 refine zm rfl ?_
 refine au.op rfl rfl rfl (aS rfl) (au.nil (WP.block ?_))
 refine Ri I size 0 l s h _ _ hw hs (by omega) hl rfl rfl rfl rfl (fun E' h' s' q1 q2 q3 q4 => ?_)
 refine WP.seq (WP.region rfl ?_)
 refine zo rfl (aS q1) ?_
 refine au.op rfl rfl rfl (eU rfl) (au.nil (WP.ret ?_))
 exact⟨aa,s',rfl,by grind,q3,q4⟩
theorem L7 : ∀(l:List Nat),(∀b∈l,b<256)→bytesIn (ofBytes l)=some l:=by
 intro l
 induction l<;>grind[List.mem_cons_self,bytesIn,ofBytes]
def Bv (s:Nat)(l:List Nat): Nat:=Nat.xor (crcL (Nat.xor s 4294967295) l) 4294967295
theorem Ed (hs:s<4294967296)(I:∀b∈l,b<256): Bv s l<4294967296:=n4 (DY l _ (n4 hs (by omega)) I) (by omega)
theorem Ku (hT:Std told)(J:View h x l)(hl:l.length≤4611686018427387904)(hs:s<4294967296):
  fL ⟨Tryz.prog,told⟩ 217 [.int .u32 (s:Int),x] h (.int .u32 (Bv s l:Nat)) h:=by
 refine fL.told hT.more Cc rfl ?_
 have I:=J
 obtain⟨hb,I⟩:=I
 rcases I with⟨rfl|⟨ea,rfl⟩,rfl⟩|⟨id,off,cap,n,cs,st,rfl,hg,h1,h2,h3,h4⟩
 ·simp only[toldMore]
  rw[show(decide ((0:Int)≤(s:Int))&&decide ((s:Int)<4294967296))=true by grind]
  rfl
 ·simp only[toldMore]
  rw[show(decide ((0:Int)≤(s:Int))&&decide ((s:Int)<4294967296))=true by grind]
  rfl
 ·simp only[toldMore]
  rw[show(decide ((0:Int)≤(s:Int))&&decide ((s:Int)<4294967296)&&Nat.ble l.length 4611686018427387904)=true by simp[aG];omega,ah,(View.rdN J).2]
  simp only[L7 l hb]
  rfl
theorem ZZ (I:Std told)(J:View h x l)(hl:l.length≤4611686018427387904):
  Call ⟨Tryz.prog,told⟩ 180 [x] h fun v h'=>v=.int .u32 (Bv 0 l:Nat)∧h'=h:=by
 refine Call.of_wp (I.free _ rfl) Tryz.func180 rfl rfl ?_
 refine WP.seq (WP.region rfl (au.op rfl rfl rfl (eU rfl) (au.nil ?_)))
 refine WP.seq (WP.region rfl ?_)
 refine zm rfl ?_
 refine au.call (yl:=fun v h'=>v=.int .u32 (Bv 0 l:Nat)∧h'=h) rfl rfl rfl rfl rfl rfl rfl ⟨_,_,Ku (s:=0) I J hl (by omega),rfl,rfl⟩ (fun v h₁ ⟨e1,e2⟩ => ?_)
 subst e1;subst e2
 exact au.op rfl rfl rfl (eU rfl) (au.nil (WP.ret ⟨aa,_,rfl,rfl,rfl⟩))
def sG (aD:Nat)(l:List Nat): Nat:=Bv (Bv 0 (le 8 aD)) l
theorem Hq (I:∀b∈l,b<256): sG aD l<4294967296:=Ed (Ed (by omega) (L6 8 aD)) I
theorem Ot (J:Std told)(hw:kC h)(hx:View h x l)(hl:l.length≤4611686018427387904):
  Call ⟨Tryz.prog,told⟩ 190 [.int .u64 (aD:Int),x] h fun v h'=>v=.int .u32 (sG aD l:Nat)∧dL 16 [] h h':=by
 refine Call.of_wp (J.free _ rfl) Tryz.func190 rfl rfl ?_
 refine WP.seq (WP.region rfl (au.op rfl rfl rfl (eU rfl) (au.nil ?_)))
 refine WP.seq (WP.region rfl ?_)
 refine zm rfl ?_
 refine au.call rfl rfl rfl rfl rfl rfl rfl (Oq (size:=8) (s:=.aV) (l:=[]) (n:=aD) J hw ⟨by simp,.inl ⟨rfl,rfl⟩⟩ (by omega) (by simp)) (fun v h₁ ⟨b1,k1,f1⟩ => ?_)
 rw[dY] at b1
 refine au.call rfl rfl rfl rfl rfl rfl rfl (ZZ J b1.view (by rw[cq];omega)) (fun v2 I ⟨e1,e2⟩ => ?_)
 subst e1;subst e2
 refine zm rfl ?_
 refine au.call (yl:=fun v h'=>v=.int .u32 (sG aD l:Nat)∧h'=I) rfl rfl rfl rfl rfl rfl rfl
  ⟨_,_,Ku (s:=Bv 0 (le 8 aD)) J (hx.jP hw k1 (fun i _ hi=>by simp[rowIds] at hi)) hl (Ed (by omega) (L6 8 aD)),rfl,rfl⟩ (fun v3 Cj ⟨e3,e4⟩ => ?_)
 subst e3;subst e4
 exact au.op rfl rfl rfl (eU rfl) (au.nil (WP.ret ⟨aa,_,rfl,rfl,k1.mono (aQ _) (fun i hi=>by simp[rowIds] at hi)⟩))
end
def XE : List Nat:=[11]
def XF : List Nat:=[79]
def XG : List Nat:=[]
def XH : List Nat:=[76,136,159,208]
def XI : List Nat:=[80,26]
def Hr : List Nat:=XE++(XF++(XG++(XH++(XI++[217,106,191,117,118]))))
structure W (told:cC): Prop where
 free:∀f,inL Hr f=false→told f=none
 more:told 217=some toldMore
 sorted:told 106=some (toldSorted AG)
theorem W.TN {told:cC}(I:W told): Std told:=by
 refine⟨fun f J=>I.free f ?_,I.more⟩
 have:∀f∈Ho,inL Hr f=false:=by decide
 grind[Nw]
def qh (v:V): Option (List Nat)→aP
 |none=>.pu (v=.aV)
 |some b=>.an (.pu (v≠.aV)) (.c9 v b)
theorem bC.qh (v:V)(o:Option (List Nat)): bC (Am.qh v o):=by
 cases o with
 |none=>exact bC.pu _
 |some b=>exact bC.an (bC.pu _) (bC.c9 _ _)
def each {α:Type}(f:V→α→aP): List V→List α→aP
 |[],[]=>.pu True
 |v::l,x::m=>.an (f v x) (each f l m)
 |_,_=>.pu False
theorem bC.each {f:V→α→aP}(I:∀v x,bC (f v x)): ∀(l:List V) (m:List α),bC (Am.each f l m):=by
 intro l
 induction l with
 |nil=>intro m;cases m<;>exact bC.pu _
 |cons v l J=>intro m;cases m with
  |nil=>exact bC.pu _
  |cons x m=>exact bC.an (I _ _) (J m)
section
variable {f:V→α→aP} {a b:PM}
theorem Bw : ∀ {l:List V} {m:List α},(each f l m).p a b→l.length=m.length:=by
 intro l
 induction l with
 |nil=>intro m h;cases m with
  |nil=>rfl
  |cons x m=>exact h.elim
 |cons v l I=>intro m h;cases m with
  |nil=>exact h.elim
  |cons x m=>simp only[bn,I h.2]
theorem Ht : ∀ {l:List V} {m:List α} {i:Nat} {v:V} {x:α},(each f l m).p a b→l[i]?=some v→m[i]?=some x→(f v x).p a b:=by
 intro l
 induction l with
 |nil=>simp
 |cons u l ih=>intro m i v x h I J;cases m with
  |nil=>grind
  |cons y m =>
   cases i with
   |zero=>simp at I J;subst I;subst J;exact h.1
   |succ i=>exact ih h.2 I J
theorem Rj : ∀ {l:List V} {m:List α} {i:Nat} {v:V} {x:α},(each f l m).p a b→(f v x).p a b→(each f (l.set i v) (m.set i x)).p a b:=by
 intro l
 induction l with
 |nil=>intro m i v x h I;cases m with
  |nil=>exact h
  |cons x m=>exact h.elim
 |cons u l J=>intro m i v x h I;cases m with
  |nil=>exact h.elim
  |cons y m =>
   cases i with
   |zero=>exact⟨I,h.2⟩
   |succ i=>exact⟨h.1,J h.2 I⟩
theorem UN {us:List V}{cs:List α}{c:α}(J:∀v x,bC (f v x))(s:Sat h (each f us cs::S))(I:cs[i]?=some c): ∃u,us[i]?=some u∧Sat h (f u c::each f us cs::S):=by
 obtain⟨a,b,q1,q2,q3⟩:=s.at (k:=0) rfl
 have hl:=Bw q3
 have hi:=(List.getElem?_eq_some_iff.1 I).1
 have hu:us[i]?=some (us[i]'(by omega)):=bw _
 exact⟨_,hu,(s.dup (bC.each J _ _)).j5 fun a b h=>Ht h hu I⟩
end
abbrev Wr := Nat×List Nat
structure Dk where
 room:Nat
 aM:List (Option (List Nat))
 waiting:List Wr
 now:List (Int×List Nat)
 log:List Nat
 bL:Nat
 mark:List Nat
 aU:Int
 dead:Bool
 qN:Option Wr
 tail:List Nat
variable {δ:Dk}
def CF (room:Nat)(pg wt I lg:V)(ct:Nat)(mk:V)(J ops:Int)(dead:Bool)(tn tl:V): List V :=
 [.int .i64 (room:Int),pg,wt,I,lg,.int .i64 (ct:Int),mk,.int .i64 J,.int .i64 ops,.bool dead,tn,tl]
def CG : List V→List Wr→aP
 |[],[]=>.pu True
 |p::v::l,x::m=>.an (.an (.pu (p=.int .i64 (x.1:Int)∧v≠.aV)) (.c9 v x.2)) (CG l m)
 |_,_=>.pu False
theorem bC.wr : ∀(m:List Wr) (l:List V),bC (CG l m):=by
 intro m
 induction m with
 |nil=>intro l;cases l with
  |nil=>exact bC.pu _
  |cons v l=>cases l<;>exact bC.pu _
 |cons x m I=>intro l;cases l with
  |nil=>exact bC.pu _
  |cons v l=>cases l with
   |nil=>exact bC.pu _
   |cons u l=>exact bC.an (bC.an (bC.pu _) (bC.c9 _ _)) (I l)
theorem UO {a b:PM}: ∀ {m:List Wr} {l:List V} {x:Wr} {v:V},(CG l m).p a b→v≠.aV→(aP.c9 v x.2).p a b→(CG (l++[.int .i64 (x.1:Int),v]) (m++[x])).p a b:=by
 intro m
 induction m with
 |nil=>intro l x v h I J;cases l with
  |nil=>exact⟨⟨⟨rfl,I⟩,J⟩,aa⟩
  |cons u l=>cases l<;>exact h.elim
 |cons y m ih=>intro l x v h I J;cases l with
  |nil=>exact h.elim
  |cons u l=>cases l with
   |nil=>exact h.elim
   |cons w l=>exact⟨h.1,ih h.2 I J⟩
theorem UP {a b:PM}: ∀ {m:List Wr} {l:List V},(CG l m).p a b→l.length=m.length*2:=by
 intro m
 induction m with
 |nil=>intro l h;cases l with
  |nil=>rfl
  |cons u l=>cases l<;>exact h.elim
 |cons y m I=>intro l h;cases l with
  |nil=>exact h.elim
  |cons u l=>cases l with
   |nil=>exact h.elim
   |cons w l=>have:=I h.2;simp only[bn];omega
def og (v:V)(m:List (Option (List Nat))): aP:=xs fun id:Nat=>xs fun cs:List V=>star [.pu (v=.sl id 0 m.length (.exact m.length)),pt id (.cells m.length cs false),each qh cs m]
def AH (v:V)(m:List Wr): aP:=xs fun cs:List V=>star [.arr 2 v cs,CG cs m]
def CH (v:V): Option Wr→aP
 |none=>.pu (v=.aZ)
 |some x=>xs fun id:Nat=>xs fun u:V=>star [.pu (v=.ptr id 0),pt id (.cells 2 [.int .i64 (x.1:Int),u] false),.c9 u x.2]
def aJ (p:Nat)(δ:Dk): aP:=xs fun pg:V=>xs fun wt:V=>xs fun I:V=>xs fun lg:V=>xs fun mk:V=>xs fun J:V=>xs fun tl:V=>xs fun ops:Int =>
 star [pt p (.cells 12 (CF δ.room pg wt I lg δ.bL mk δ.aU ops δ.dead J tl) false),og pg δ.aM,AH wt δ.waiting,qL (fun v b=>.c9 v b) I δ.now,bp lg δ.log,Cq mk δ.mark,CH J δ.qN,Cq tl δ.tail]
section
variable {p:Nat}
theorem bT : Sat h (aJ p δ::S)↔∃pg wt I lg mk J tl ops,Sat h (pt p (.cells 12 (CF δ.room pg wt I lg δ.bL mk δ.aU ops δ.dead J tl) false)::og pg δ.aM::AH wt δ.waiting::qL (fun v b=>.c9 v b) I δ.now::bp lg δ.log::Cq mk δ.mark::CH J δ.qN::Cq tl δ.tail::S):=by
 simp[aJ,lz,bg]
theorem kF {v:V}{m:List (Option (List Nat))}: Sat h (og v m::S)↔∃id cs,v=.sl id 0 m.length (.exact m.length)∧Sat h (pt id (.cells m.length cs false)::each qh cs m::S):=by
 simp[og,lz,bg,ob]
theorem uw {v:V}{m:List Wr}: Sat h (AH v m::S)↔∃cs,Sat h (.arr 2 v cs::CG cs m::S):=by
 grind[AH,lz,bg]
end
section
variable {told:cC} {v:V}
def CI (s:Nat)(l:List Nat): Nat:=Nat.xor (crcL (Nat.xor s 4294967295) l) 4294967295
theorem Bx (hs:s<4294967296)(I:∀b∈l,b<256): CI s l<4294967296:=n4 (DY _ _ (n4 hs (by omega)) I) (by omega)
theorem UQ (hT:W told)(sa:Sat h S)(hk:getA S k=some X)(hX:cD X (cE v l))(hs:s<4294967296)(hl:l.length≤4611686018427387904):
  Call ⟨Tryz.prog,told⟩ 217 [.int .u32 (s:Int),v] h fun r h'=>r=.int .u32 (CI s l:Nat)∧h'=h:=by
 have I:=sa.aI hk hX
 refine⟨_,_,fL.told hT.more Cc rfl ?_,rfl,rfl⟩
 have J:vO (s:Int) l=.int .u32 (CI s l:Nat):=by rfl
 have hv':=I
 rcases hv'.2 with⟨rfl|⟨ea,rfl⟩,rfl⟩|⟨id,off,cap,n,cs,st,rfl,_⟩
 ·grind[toldMore]
 ·grind[toldMore]
 ·simp only[toldMore]
  rw[show(decide ((0:Int)≤(s:Int))&&decide ((s:Int)<4294967296)&&Nat.ble l.length 4611686018427387904)=true by simp;omega,ah,I.rdN.2]
  simp only
  have:∀l:List Nat,(∀b∈l,b<256)→bytesIn (ofBytes l)=some l:=by
   intro l
   induction l with
   |nil=>intro _;rfl
   |cons b l ih =>
    intro hb
    grind[ofBytes,bytesIn,List.mem_cons_self]
  rw[this l I.1]
  simp only[J]
end
section
variable {told:cC} {p:Nat}
theorem jx (J:W told)(s:Sat h (X::S))(I:cD X (cE x l))(hl:l.length<1073741824):
  Call ⟨Tryz.prog,told⟩ 62 [x] h fun v h'=>Sat h' (bp v l::X::S):=by
 refine Call.of_wp (J.free _ rfl) Tryz.func62 rfl rfl (zK 7 rfl (zo rfl (a_ rfl rfl rfl (bA aN (s.aI (k:=0) rfl I))) (au.any rfl rfl rfl (OpR.tI rfl s rfl rfl rfl rfl hl) ?_)))
 intro v h s
 refine zm rfl (au.any rfl rfl rfl (OpR.pS rfl s I rfl rfl rfl rfl (by simp;omega)) ?_)
 intro v h s
 exact zk 2 rfl (WP.ret ⟨aa,_,rfl,s⟩)
theorem wT (J:W told)(s:Sat h (X::S))(I:cD X (cE x l))(hl:l.length<1073741824):
  Call ⟨Tryz.prog,told⟩ 164 [x] h fun v h'=>Sat h' (bp v l::X::S):=by
 refine Call.of_wp (J.free _ rfl) Tryz.func164 rfl rfl (zK 7 rfl (zo rfl (a_ rfl rfl rfl (bA aN (s.aI (k:=0) rfl I))) (au.any rfl rfl rfl (OpR.tI rfl s rfl rfl rfl rfl hl) ?_)))
 intro v h s
 refine zm rfl (au.any rfl rfl rfl (OpR.pS rfl s I rfl rfl rfl rfl (by simp;omega)) ?_)
 intro v h s
 exact zk 2 rfl (WP.ret ⟨aa,_,rfl,s⟩)
theorem nF (J:W told)(s:Sat h (X::S))(I:cD X (cE x l))(hl:l.length<1073741824):
  Call ⟨Tryz.prog,told⟩ 67 [x] h fun v h'=>Sat h' (bp v l::X::S):=by
 refine Call.of_wp (J.free _ rfl) Tryz.func67 rfl rfl (zK 7 rfl (zo rfl (a_ rfl rfl rfl (bA aN (s.aI (k:=0) rfl I))) (au.any rfl rfl rfl (OpR.tI rfl s rfl rfl rfl rfl hl) ?_)))
 intro v h s
 refine zm rfl (au.any rfl rfl rfl (OpR.pS rfl s I rfl rfl rfl rfl (by simp;omega)) ?_)
 intro v h s
 exact zk 2 rfl (WP.ret ⟨aa,_,rfl,s⟩)
theorem By (I:W told)(s:Sat h (aJ p δ::S)): Call ⟨Tryz.prog,told⟩ 132 [.ptr p 0] h fun v h'=>v=.int .i64 (δ.aM.length:Int)∧h'=h:=by
 obtain⟨pg,wt,J,lg,mk,tn,tl,ops,s⟩:=bT.1 s
 obtain⟨id,cs,rfl,s'⟩:=kF.1 (s.ae [1])
 exact Call.of_wp (I.free _ rfl) Tryz.func132 rfl rfl (zK 8 rfl (zY s 0 As Gf rfl (zo rfl (a_ rfl rfl rfl (qJ rfl gV)) (zk 2 rfl (WP.ret ⟨aa,_,rfl,rfl,rfl⟩)))))
theorem Ou (hT:W told){n:Int}(s:Sat h (aJ p δ::S)): Call ⟨Tryz.prog,told⟩ 193 [.ptr p 0,.int .i64 n] h fun v h'=>h'=h∧((0≤n∧n<δ.aM.length∧v=.bool true)∨(¬(0≤n∧n<δ.aM.length)∧v=.bool false)):=by
 obtain⟨pg,wt,nw,lg,mk,tn,tl,ops,s⟩:=bT.1 s
 obtain⟨id,cs,rfl,s'⟩:=kF.1 (s.ae [1])
 refine Call.of_wp (hT.free _ rfl) Tryz.func193 rfl rfl (zK 7 rfl ?_)
 refine zd rfl (aq rfl rfl jj) ?_ ?_
 ·intro J
  have J:0≤n:=by simpa using J
  refine zk 4 rfl (zY s 0 As Gf rfl (zo rfl (a_ rfl rfl rfl (qJ rfl gV)) ?_))
  refine zd rfl (aq rfl rfl aT) ?_ ?_
  ·intro I
   have I:n<δ.aM.length:=by simpa using I
   exact zk 3 rfl (WP.ret ⟨aa,_,rfl,rfl,.inl ⟨J,I,rfl⟩⟩)
  ·intro I
   have I:¬ n<δ.aM.length:=by simpa using I
   exact zk 3 rfl (WP.ret ⟨aa,_,rfl,rfl,.inr ⟨fun h=>I h.2,rfl⟩⟩)
 ·intro J
  have J:¬ 0≤n:=by simpa using J
  exact zk 11 rfl (WP.ret ⟨aa,_,rfl,rfl,.inr ⟨fun h=>J h.1,rfl⟩⟩)
def Dk.TO (δ:Dk): Nat:=δ.room
def Dk.Hu (δ:Dk): Nat:=δ.bL
def Dk.dc (δ:Dk): Dk:={ δ with aU:=if 0<δ.aU then δ.aU-1 else δ.aU }
def Dk.die (δ:Dk): Dk:={ δ with dead:=true }
theorem mW (hT:W told)(s:Sat h (aJ p δ::S))(hf:δ.aU<4294967296):
  Call ⟨Tryz.prog,told⟩ 188 [.ptr p 0] h fun v h'=>(δ.aU=0∧v=.bool false∧Sat h' (aJ p δ.die::S))∨(δ.aU≠0∧v=.bool true∧Sat h' (aJ p δ.dc::S)):=by
 obtain⟨pg,wt,nw,lg,mk,tn,tl,ops,s⟩:=bT.1 s
 refine Call.of_wp (hT.free _ rfl) Tryz.func188 rfl rfl (zK 9 rfl (zY s 0 Aw dV rfl ?_))
 refine zd rfl (aq rfl rfl dh) ?_ ?_
 ·intro J
  refine zk 6 rfl (zf rfl (jM _ _) ?_)
  refine zS rfl (by exact s.dO (k:=0) rfl xJ rfl (by decide) rfl rfl) (fun h s => ?_)
  refine zk 5 rfl (WP.ret ⟨aa,_,rfl,?_⟩)
  have J:δ.aU=0:=by simpa using J
  exact .inl ⟨J,rfl,bT.2 ⟨pg,wt,nw,lg,mk,tn,tl,ops,s⟩⟩
 ·intro J
  have J:δ.aU≠0:=by simpa using J
  refine zk 8 rfl (zY s 0 Aw dV rfl ?_)
  refine zd rfl (aq rfl rfl er) ?_ ?_
  ·intro I
   have I:0<δ.aU:=by simpa using I
   refine zk 5 rfl (zY s 0 Aw dV rfl (zb rfl (by exact g9 (az (by omega) (by omega))) ?_))
   refine zn rfl (zf rfl (Aw _ _) ?_)
   refine zS rfl (by exact s.dO (k:=0) rfl j6 rfl (by decide) rfl rfl) (fun h s => ?_)
   refine zk 5 rfl (zY s 0 Ax dV rfl (zb rfl (by rfl) ?_))
   refine zn rfl (zf rfl (Ax _ _) ?_)
   refine zS rfl (by exact s.dO (k:=0) rfl j6 rfl (by decide) rfl rfl) (fun h s => ?_)
   exact zk 5 rfl (WP.ret ⟨aa,_,rfl,.inr ⟨J,rfl,bT.2 ⟨pg,wt,nw,lg,mk,tn,tl,_,by simp only[Dk.dc,aC I];exact s⟩⟩⟩)
  ·intro I
   have I:¬ 0<δ.aU:=by simpa using I
   refine zk 7 rfl (zY s 0 Ax dV rfl (zb rfl (by rfl) ?_))
   refine zn rfl (zf rfl (Ax _ _) ?_)
   refine zS rfl (by exact s.dO (k:=0) rfl j6 rfl (by decide) rfl rfl) (fun h s => ?_)
   exact zk 5 rfl (WP.ret ⟨aa,_,rfl,.inr ⟨J,rfl,bT.2 ⟨pg,wt,nw,lg,mk,tn,tl,_,by simp only[Dk.dc,aj I];exact s⟩⟩⟩)
def Dk.at (δ:Dk)(n:Int): List Nat:=match lookL n δ.now with
 |some b=>b
 |none=>match δ.aM[n.toNat]? with
  |some (some b)=>b
  |_=>List.replicate 512 0
theorem L8 {v:V}{m:List (Option (List Nat))}(s:Sat h (og v m::S))(hi:i<m.length):
  ∃id u,v=.sl id 0 m.length (.exact m.length)∧(∀(P:Program) (t:TypeId),isAggT P t=some false→loadV P h t (.ptr id i)=some u)∧Sat h (qh u m[i]::og v m::S):=by
 obtain⟨id,cs,rfl,s1⟩:=kF.1 s
 obtain⟨a,b,q1,q2,I⟩:=s1.at (k:=1) rfl
 have hl:=Bw I
 have hu:cs[i]?=some (cs[i]'(by omega)):=bw _
 have s2:Sat h (each qh cs m::pt id (.cells m.length cs false)::S):=s1.ae [1]
 have J:=s2.dup (bC.each bC.qh cs m)
 have s4:Sat h (qh (cs[i]'(by omega)) m[i]::each qh cs m::pt id (.cells m.length cs false)::S):=J.j5 fun a b h=>Ht h hu (bw hi)
 refine⟨id,cs[i]'(by omega),rfl,fun P t ht=>N6 ht (s1.row (k:=0) rfl) (by rw[gS,hu]),?_⟩
 have s5:Sat h (pt id (.cells m.length cs false)::each qh cs m::qh (cs[i]'(by omega)) m[i]::S):=s4.ae [2,1]
 exact(kF.2 ⟨id,cs,rfl,s5⟩:Sat h (og _ m::qh (cs[i]'(by omega)) m[i]::S)).ae [1]
theorem Rk (hT:W told){n:Int}(s:Sat h (aJ p δ::S))(hl:(δ.at n).length=512): Call ⟨Tryz.prog,told⟩ 167 [.ptr p 0,.int .i64 n] h fun v h' =>
  (δ.dead=true∧v=.aO [.aV,.int .i64 9]∧Sat h' (aJ p δ::S)) ∨
  (δ.dead=false∧¬(0≤n∧n<δ.aM.length)∧v=.aO [.aV,.int .i64 1]∧Sat h' (aJ p δ::S)) ∨
  (δ.dead=false∧0≤n∧n<δ.aM.length∧∃b,v=.aO [b,.int .i64 0]∧Sat h' (bp b (δ.at n)::aJ p δ::S)):=by
 have s0:=s
 obtain⟨pg,wt,nw,lg,mk,tn,tl,ops,s⟩:=bT.1 s
 refine Call.of_wp (hT.free _ rfl) Tryz.func167 rfl rfl (zK 6 rfl (WP.block (zK 4 rfl (zY s 0 jM lK rfl (zk 2 rfl ?_)))))
 refine WP.split rfl ?_ ?_
 ·intro hd
  exact zK 5 rfl (WP.ret ⟨aa,_,rfl,.inl ⟨hd,rfl,s0⟩⟩)
 ·intro hd
  refine zK 4 rfl (zc rfl (Ou hT s0) ?_)
  rintro v h' ⟨rfl,(⟨J,xK,rfl⟩|⟨hn,rfl⟩)⟩
  ·skip
   refine zo rfl (dM rfl rfl) (za rfl (zv (zj rfl (WP.skip (zg rfl (zk 2 rfl (zf rfl (Av _ _) (zl rfl (by exact s.ld (k:=0) rfl mH rfl) ?_))))))))
   refine zm rfl ?_
   have s1:Sat h' (qL (fun v b=>.c9 v b) nw δ.now::pt p (.cells 12 (CF δ.room pg wt nw lg δ.bL mk δ.aU ops δ.dead tn tl) false)::og pg δ.aM::AH wt δ.waiting::bp lg δ.log::Cq mk δ.mark::CH tn δ.qN::Cq tl δ.tail::S):=s.ae [3]
   rcases kE (n:=n) (fun _ _=>bC.c9 _ _) s1 od bF rX with⟨g1,g2,_⟩|⟨u,b,g1,g2,_,s2⟩
   ·refine au.op rfl rfl rfl (fY rfl rfl g2) ?_
    refine zk 10 rfl (zo rfl (dM rfl rfl) (zk 5 rfl (zY s 0 As Gf rfl (zm rfl ?_))))
    have hi:n.toNat<δ.aM.length:=by omega
    obtain⟨id,u,rfl,g3,s3⟩:=L8 (s.ae [1]) hi
    refine zo rfl (cZ (r:=.ptr id n.toNat) rfl rfl (by rw[TD,show(decide (0≤n)&&decide (n<((δ.aM.length:Nat):Int)))=true by simp;omega,ah];simp)) ?_
    refine zl rfl (g3 _ _ b8) (zk 6 rfl ?_)
    have I:δ.at n=match δ.aM[n.toNat] with|some b=>b|none=>List.replicate 512 0:=by
     simp only[Dk.at,g1,bw hi]
     cases δ.aM[n.toNat]<;>rfl
    cases hp:δ.aM[n.toNat] with
    |none =>
     rw[hp] at s3 I
     have I:δ.at n=List.replicate 512 0:=I
     obtain⟨rfl,_⟩:=ob.1 s3
     refine zt rfl ((by exact aq rfl rfl (by simp only[binV,eqV,aN];rfl))) (rfl) ?_
     refine zk 4 rfl (au.any rfl rfl rfl (OpR.Cx rfl s0 rfl rfl rfl rfl (by decide)) ?_)
     intro v h s
     exact zk 3 rfl (WP.ret ⟨aa,_,rfl,.inr (.inr ⟨hd,J,xK,v,rfl,by rw[I];exact s⟩)⟩)
    |some b =>
     rw[hp] at s3 I
     have I:δ.at n=b:=I
     have s4:Sat h' (aP.an (.pu (u≠.aV)) (.c9 u b)::og _ δ.aM::_):=s3
     have hu:u≠.aV:=by
      obtain⟨a,b,q1,q2,q3⟩:=s4.at (k:=0) rfl
      exact q3.1
     have s5:Sat h' (.c9 u b::aJ p δ::S):=by
      have s6:=s4.j5 (B:=.c9 u b) fun a b h=>h.2
      exact(bT.2 ⟨_,wt,nw,lg,mk,tn,tl,ops,s6.ae [2,1,1,1,1,1,1,1]⟩:Sat h' (aJ p δ::.c9 u b::S)).ae [1]
     have Fi:∃a b c d,u=.sl a b c d:=by
      rcases (s5.aI (k:=0) rfl (eZ _ _)).2 with⟨_,e⟩|⟨a,b,c,_,_,_,e,_⟩
      ·rw[I,e] at hl;simp at hl
      ·exact⟨_,_,_,_,e⟩
     obtain⟨a,b',c,d,rfl⟩:=Fi
     refine zh rfl ((by exact aq rfl rfl (by simp only[binV,eqV,aN];rfl))) (rfl) ?_
     refine zk 6 rfl (zc rfl (jx hT s5 (eZ _ _) (by rw[←I,hl];decide)) ?_)
     intro v h s
     exact zk 3 rfl (WP.ret ⟨aa,_,rfl,.inr (.inr ⟨hd,J,xK,v,rfl,by rw[I];exact s.del 1⟩)⟩)
   ·skip
    refine zo rfl (fY rfl rfl g2) (zk 10 rfl (zo rfl (dM rfl rfl) (zk 7 rfl ?_)))
    have I:δ.at n=b:=by simp only[Dk.at,g1]
    have Fi:∃a b c d,u=.sl a b c d:=by
     rcases (s2.aI (k:=0) rfl (eZ _ _)).2 with⟨_,e⟩|⟨a,b,c,_,_,_,e,_⟩
     ·rw[I,e] at hl;simp at hl
     ·exact⟨_,_,_,_,e⟩
    obtain⟨a,b',c,d,rfl⟩:=Fi
    refine zh rfl ((by exact aq rfl rfl (by simp only[binV,eqV,aN];rfl))) (rfl) ?_
    refine zk 6 rfl (zc rfl (jx hT s2 (eZ _ _) (by rw[←I,hl];decide)) ?_)
    intro v h s
    refine zk 3 rfl (WP.ret ⟨aa,_,rfl,?_⟩)
    have s:=bT.2 ⟨pg,wt,nw,lg,mk,tn,tl,ops,s.ae [3,3,3,2,2,2,2,2]⟩
    exact .inr (.inr ⟨hd,J,xK,v,rfl,by rw[I];exact(s.del 2).ae [1,0]⟩)
  ·skip
   exact zo rfl (dM rfl rfl) (zk 8 rfl (WP.ret ⟨aa,_,rfl,.inr (.inl ⟨hd,hn,rfl,s0⟩)⟩))
theorem Rl (I:W told)(s:Sat h (aJ p δ::S)): Call ⟨Tryz.prog,told⟩ 142 [.ptr p 0] h fun v h'=>v=.int .i64 (δ.TO:Int)∧h'=h:=by
 obtain⟨pg,wt,J,lg,mk,tn,tl,ops,s⟩:=bT.1 s
 exact Call.of_wp (I.free _ rfl) Tryz.func142 rfl rfl (zK 8 rfl (zY s 0 Km dV rfl (zk 2 rfl (WP.ret ⟨aa,_,rfl,rfl,rfl⟩))))
theorem Jq (I:W told)(s:Sat h (aJ p δ::S)): Call ⟨Tryz.prog,told⟩ 127 [.ptr p 0] h fun v h'=>v=.int .i64 (δ.Hu:Int)∧h'=h:=by
 obtain⟨pg,wt,J,lg,mk,tn,tl,ops,s⟩:=bT.1 s
 exact Call.of_wp (I.free _ rfl) Tryz.func127 rfl rfl (zK 8 rfl (zY s 0 vU dV rfl (zk 2 rfl (WP.ret ⟨aa,_,rfl,rfl,rfl⟩))))
theorem wU (I:W told)(s:Sat h (aJ p δ::S)): Call ⟨Tryz.prog,told⟩ 17 [.ptr p 0] h fun v h'=>v=.bool δ.dead∧h'=h:=by
 obtain⟨pg,wt,J,lg,mk,tn,tl,ops,s⟩:=bT.1 s
 exact Call.of_wp (I.free _ rfl) Tryz.func17 rfl rfl (zK 8 rfl (zY s 0 jM lK rfl (zk 2 rfl (WP.ret ⟨aa,_,rfl,rfl,rfl⟩))))
theorem Ov (J:W told)(s:Sat h (aJ p δ::S))(hf:δ.aU<4294967296): Call ⟨Tryz.prog,told⟩ 128 [.ptr p 0] h fun v h' =>
  (δ.dead=true∧v=.int .i64 9∧Sat h' (aJ p δ::S))∨(δ.dead=false∧δ.aU=0∧v=.int .i64 9∧Sat h' (aJ p δ.die::S)) ∨
  (δ.dead=false∧δ.aU≠0∧v=.int .i64 0∧Sat h' (aJ p { δ.dc with bL:=δ.log.length }::S)):=by
 have s0:=s
 obtain⟨pg,wt,nw,lg,mk,tn,tl,ops,s⟩:=bT.1 s
 refine Call.of_wp (J.free _ rfl) Tryz.func128 rfl rfl (zK 9 rfl (zf rfl (jM _ _) ?_))
 refine zd rfl (aH rfl (s.ld (k:=0) rfl lK rfl)) ?_ ?_
 ·intro hd
  exact zk 11 rfl (WP.ret ⟨aa,_,rfl,.inl ⟨hd,rfl,s0⟩⟩)
 ·intro hd
  refine zk 2 rfl (zc rfl (mW J s0 hf) ?_)
  rintro v h (⟨I,rfl,s⟩|⟨I,rfl,s⟩)
  ·skip
   exact zo rfl (dM rfl rfl) (zk 7 rfl (WP.ret ⟨aa,_,rfl,.inr (.inl ⟨hd,I,rfl,s⟩)⟩))
  ·skip
   obtain⟨pg,wt,nw,lg,mk,tn,tl,ops,s⟩:=bT.1 s
   dsimp only[Dk.dc] at s
   refine zo rfl (dM rfl rfl) (zk 9 rfl (zY s 0 qy b8 rfl (zo rfl (a_ rfl rfl rfl (bA aN (s.aI (k:=4) rfl (aY _ _)))) (zn rfl (zf rfl (vU _ _) ?_)))))
   refine zS rfl (by exact s.dO (k:=0) rfl j6 rfl (by decide) rfl rfl) (fun h s => ?_)
   exact zk 5 rfl (WP.ret ⟨aa,_,rfl,.inr (.inr ⟨hd,I,rfl,bT.2 ⟨pg,wt,nw,lg,mk,tn,tl,ops,s⟩⟩)⟩)
theorem L9 (hT:W told)(s:Sat h (aJ p δ::X::S))(hX:cD X (cE x b))(hb:b.length<1073741824)(hf:δ.aU<4294967296)(hl:δ.log.length≤4294967296)(hr:δ.room≤4294967296):
  Call ⟨Tryz.prog,told⟩ 174 [.ptr p 0,x] h fun v h' =>
  (δ.dead=true∧v=.int .i64 9∧Sat h' (aJ p δ::X::S))∨(δ.dead=false∧δ.room<δ.log.length+b.length∧v=.int .i64 7∧Sat h' (aJ p δ::X::S)) ∨
  (δ.dead=false∧δ.log.length+b.length≤δ.room∧δ.aU=0∧v=.int .i64 9∧Sat h' (aJ p { δ.die with tail:=b }::X::S)) ∨
  (δ.dead=false∧δ.log.length+b.length≤δ.room∧δ.aU≠0∧v=.int .i64 0∧Sat h' (aJ p { δ.dc with log:=δ.log++b }::X::S)):=by
 have s0:=s
 obtain⟨pg,wt,nw,lg,mk,tn,tl,ops,s⟩:=bT.1 s
 refine Call.of_wp (hT.free _ rfl) Tryz.func174 rfl rfl (zK 5 rfl (WP.block (zK 4 rfl (zf rfl (jM _ _) ?_))))
 refine zd rfl (aH rfl (s.ld (k:=0) rfl lK rfl)) ?_ ?_
 ·intro hd
  exact zk 7 rfl (WP.ret ⟨aa,_,rfl,.inl ⟨hd,rfl,s0⟩⟩)
 ·intro hd
  refine zk 4 rfl (WP.drawn [af,af,af,af,af,af,af,af,af,af,af,af,af,af] rfl (by kernel_rfl) (by kernel_rfl) ?_)
  refine zM rfl (zO rfl (a_ rfl rfl rfl (bA aN (s.aI (k:=8) rfl hX))) (zM rfl (zN rfl (zF rfl (Km _ _) (zL rfl (s.ld (k:=0) rfl dV rfl) (zM rfl (zN rfl (zF rfl (qy _ _) (zL rfl (s.ld (k:=0) rfl b8 rfl) (zO rfl (a_ rfl rfl rfl (bA aN (s.aI (k:=4) rfl (aY _ _)))) (zO rfl (aq rfl rfl (by exact g9 (az (by omega) (by omega)))) ?_)))))))))))
  refine ax.Xs rfl rfl rfl rfl (aq rfl rfl er) ?_ ?_
  ·intro I
   have I:δ.room<δ.log.length+b.length:=by simp at I;omega
   refine zA rfl ?_
   refine ax.nil ⟨⟨aa,aa,aa,aa,aa,aa,aa,aa,aa,aa,aa,aa,aa,aa,aa⟩,?_⟩
   exact zK 5 rfl (WP.ret ⟨aa,_,rfl,.inr (.inl ⟨hd,I,rfl,s0⟩)⟩)
  ·intro I
   have I:δ.log.length+b.length≤δ.room:=by simp at I;omega
   refine zA rfl ?_
   refine ax.nil ⟨⟨aa,aa,aa,aa,aa,aa,aa,aa,aa,aa,aa,aa,aa,aa,aa⟩,?_⟩
   refine zK 4 rfl (zc rfl (mW hT s0 hf) ?_)
   rintro v h (⟨h0,rfl,s⟩|⟨h0,rfl,s⟩)
   ·skip
    refine zo rfl (dM rfl rfl) (zk 7 rfl (zc rfl (jx hT (s.ae [1]) hX hb) ?_))
    intro v h s
    have s:=(s.fX).ae [2,0,0]
    obtain⟨pg,wt,nw,lg,mk,tn,tl,ops,s⟩:=bT.1 s
    have J:=(s.aI (k:=8) rfl (eZ _ _)).cells
    refine zn rfl (zf rfl (Q_ _ _) (zS rfl (s.dO (k:=0) rfl iF rfl (by decide) J.1 J.2) ?_))
    intro h s
    exact zk 5 rfl (WP.ret ⟨aa,_,rfl,.inr (.inr (.inl ⟨hd,I,h0,rfl,bT.2 ⟨pg,wt,nw,lg,mk,tn,v,ops,s.del 7⟩⟩))⟩)
   ·skip
    obtain⟨pg,wt,nw,lg,mk,tn,tl,ops,s⟩:=bT.1 s
    dsimp only[Dk.dc] at s
    refine zo rfl (dM rfl rfl) (za rfl (zv (zj rfl (WP.skip (zg rfl (zk 3 rfl (zf rfl (qy _ _) (zl rfl (by exact s.ld (k:=0) rfl b8 rfl) ?_))))))))
    refine zm rfl (au.any rfl rfl rfl (OpR.pS rfl (s.ae [4,7]) hX rfl rfl rfl rfl (by show δ.log.length+_≤_;omega)) ?_)
    intro v h s
    have J:=(s.buf (k:=0) rfl).view.cells
    refine zn rfl (zf rfl (qy _ _) (zS rfl (s.dO (k:=2) rfl iF rfl (by decide) J.1 J.2) ?_))
    intro h s
    exact zk 5 rfl (WP.ret ⟨aa,_,rfl,.inr (.inr (.inr ⟨hd,I,h0,rfl,bT.2 ⟨pg,wt,nw,v,mk,tn,tl,ops,s.ae [2,2,2,2,0,1,1,1]⟩⟩))⟩)
end
section
variable {told:cC} {p:Nat}
def Dk.wr (δ:Dk)(n:Int)(b:List Nat): Dk:={ δ.dc with waiting:=δ.waiting++[(n.toNat,b)],now:=cW n b δ.now }
theorem UR : ∃i,Tryz.prog.info? 128=some i∧i.size=2∧i.bytes=32 :=
 ⟨_,(show Tryz.prog.info? 128=some ((Tryz.prog.info? 128).getD default) by kernel_rfl),by kernel_rfl,by kernel_rfl⟩
theorem Sat.XJ {m:List Wr}{u:V}{x:Wr}(s:Sat h (.c9 u x.2::CG cs m::S))(hu:u≠.aV): Sat h (CG (cs++[.int .i64 (x.1:Int),u]) (m++[x])::S) :=
 s.two (bC.c9 _ _) (bC.wr _ _) fun _ _ I J=>UO J hu I
theorem Ow (hT:W told){n:Int}(s:Sat h (aJ p δ::X::S))(hX:cD X (cE x b))(hb:b.length<1073741824)(hf:δ.aU<4294967296)(hw:δ.waiting.length≤268435456):
  Call ⟨Tryz.prog,told⟩ 133 [.ptr p 0,.int .i64 n,x] h fun v h' =>
  (δ.dead=true∧v=.int .i64 9∧Sat h' (aJ p δ::X::S)) ∨
  (δ.dead=false∧¬(0≤n∧n<δ.aM.length∧b.length=512)∧v=.int .i64 1∧Sat h' (aJ p δ::X::S)) ∨
  (δ.dead=false∧0≤n∧n<δ.aM.length∧b.length=512∧δ.aU=0∧v=.int .i64 9∧Sat h' (aJ p { δ.die with qN:=some (n.toNat,b) }::X::S)) ∨
  (δ.dead=false∧0≤n∧n<δ.aM.length∧b.length=512∧δ.aU≠0∧v=.int .i64 0∧Sat h' (aJ p (δ.wr n b)::X::S)):=by
 have J:=s
 obtain⟨pg,wt,nw,lg,mk,tn,tl,ops,s⟩:=bT.1 s
 refine Call.of_wp (hT.free _ rfl) Tryz.func133 rfl rfl (zK 5 rfl (WP.block (zK 4 rfl (zf rfl (jM _ _) ?_))))
 refine zd rfl (aH rfl (s.ld (k:=0) rfl lK rfl)) ?_ ?_
 ·intro hd
  exact zk 7 rfl (WP.ret ⟨aa,_,rfl,.inl ⟨hd,rfl,J⟩⟩)
 ·intro hd
  refine zk 7 rfl (zc rfl (Ou hT J) ?_)
  rintro v h' ⟨rfl,(⟨CJ,xK,rfl⟩|⟨hn,rfl⟩)⟩
  ·skip
   refine zo rfl (dM rfl rfl) (zk 2 rfl (zo rfl (a_ rfl rfl rfl (bA aN (s.aI (k:=8) rfl hX))) ?_))
   refine zd rfl (aq rfl rfl aA) ?_ ?_
   ·intro I
    have I:b.length≠512:=by simp at I;omega
    exact zk 8 rfl (WP.ret ⟨aa,_,rfl,.inr (.inl ⟨hd,fun q=>I q.2.2,rfl,J⟩)⟩)
   ·intro I
    have I:b.length=512:=by simp at I;omega
    refine zk 2 rfl (zv (zj rfl (WP.skip (zg rfl (zk 2 rfl (zc rfl (jx hT (J.ae [1]) hX hb) ?_))))))
    intro u h s
    obtain⟨lM,_,cap,_,rfl,_⟩:=s.fF (by omega)
    have s:=s.fX
    have hnc:((n.toNat:Nat):Int)=n:=by omega
    refine zo rfl (cx rfl (by rw[Zs];rfl)) ?_
    refine au.bP s rfl rfl rfl (bR LQ) (fun p7 h s => ?_)
    refine zS rfl (s.fM (j:=0) rfl LP rfl rfl) (fun h s => ?_)
    refine zk 5 rfl (zc rfl (mW hT (s.ae [3]) hf) ?_)
    rintro v h (⟨h0,rfl,s⟩|⟨h0,rfl,s⟩)
    ·skip
     obtain⟨pg,wt,nw,lg,mk,tn,tl,ops,s⟩:=bT.1 s
     refine zo rfl (dM rfl rfl) (zk 6 rfl (zf rfl (Q9 _ _) ?_))
     refine zS rfl (by exact s.dO (k:=0) rfl Zn rfl (by decide) rfl rfl) (fun h s => ?_)
     dsimp only[CF,V.cells,List.length_cons,List.length_nil,Nat.reduceAdd,aK,bringA,List.take,List.drop,List.cons_append,List.nil_append,setA,List.set] at s
     refine zk 5 rfl (WP.ret ⟨aa,_,rfl,?_⟩)
     have s1:=s.ae [8,8,8]
     have s2:Sat h (CH _ (some (n.toNat,b))::_):=lz.2 ⟨_,lz.2 ⟨_,bg.2 (ob.2 ⟨rfl,by rw[hnc];exact s1⟩)⟩⟩
     have s3:=(s2.del 8).ae [2,2,2,2,2,2,0,1,0]
     exact .inr (.inr (.inl ⟨hd,CJ,xK,I,h0,rfl,bT.2 ⟨_,_,_,_,_,_,_,_,s3⟩⟩))
    ·skip
     obtain⟨pg,wt,nw,lg,mk,tn,tl,ops,s⟩:=bT.1 s
     dsimp only[Dk.dc] at s
     obtain⟨cs,sw⟩:=uw.1 (s.ae [2])
     have s:=sw.ae [2,8,0,0]
     dsimp only[CF,V.cells,List.length_cons,List.length_nil,Nat.reduceAdd,aK,bringA,List.take,List.drop,List.cons_append,List.nil_append,setA,getA] at s
     have J:=s
     have Ox:=(s.jk (j:=2) rfl).2.2
     refine zo rfl (dM rfl rfl) (zk 4 rfl (WP.drawn [some (0,3),some (0,2),some (0,2),some (0,2),some (0,2),af,af,af,af,af,af] rfl (by kernel_rfl) (by kernel_rfl) ?_))
     refine zM rfl (zM rfl (zN rfl (zF rfl (Au _ _) (zL rfl (s.ld (k:=0) rfl LO rfl) (zL rfl (s.cK (k:=1) rfl Zr LP) ?_)))))
     obtain⟨i1,jX,jd,tK⟩:=UR
     obtain⟨sv,h1,e1,s1⟩:=kj (P:=Tryz.prog) (x:=.agg [.int .i64 n,.sl lM 0 b.length cap]) s Tryz.underlying107 LQ LP rfl (by decide) (by decide) rfl rfl
     dsimp only[V.cells] at s1
     refine ax.any rfl rfl rfl rfl (OpR.of (R:=fun v h'=>v=sv∧h'=h1) (mC rfl e1) ⟨rfl,rfl⟩) ?_
     rintro v h' ⟨rfl,rfl⟩
     have jC:cs.length=δ.waiting.length*2:=by
      obtain⟨a,b,q1,q2,q3⟩:=s.at (k:=3) rfl
      exact UP q3
     obtain⟨wt',h2,e2,s2⟩:=g_ (s1.ae [3,0]) Tryz.underlying107 jX LQ jd (by omega) rfl (by decide) (by simp only[V.cells,bn,cr];omega)
     dsimp only[aK,bringA] at s2
     refine ax.any rfl rfl rfl rfl (OpR.of (R:=fun v h'=>v=wt'∧h'=h2) (ox rfl rfl e2) ⟨rfl,rfl⟩) ?_
     rintro v h' ⟨rfl,rfl⟩
     have hv:=s2.jk (j:=0) rfl
     refine zN rfl (zF rfl (Au _ _) (ax.gY rfl rfl rfl (OpR.rH rfl rfl rfl (s2.dO (k:=2) rfl TE rfl (by decide) hv.1 hv.2.1)) ?_))
     rintro v h ⟨rfl,s⟩
     dsimp only[Nat.reduceAdd,List.set,setA] at s
     refine ax.nil ⟨⟨fun _ _=>.inr ⟨rfl,⟨_,aS rfl⟩,aB _ rfl⟩,fun _ _=>.inr ⟨rfl,⟨_,aS rfl⟩,aB _ rfl⟩,fun _ _=>.inr ⟨rfl,⟨_,iL rfl⟩,aB _ rfl⟩,fun _ _=>.inr ⟨rfl,⟨_,g8 rfl (Au _ _)⟩,aB _ rfl⟩,dJ (.inr ⟨rfl,⟨_,aH rfl (J.ld (k:=0) rfl LO rfl)⟩,Ox⟩) (.inr ⟨rfl,⟨_,aH rfl (s1.ld (k:=1) rfl LO rfl)⟩,Ox⟩),aa,aa,aa,aa,aa,aa,aa⟩,?_⟩
     refine zw (WP.drawn [af,af,af,af,af,af,af,af] rfl (by kernel_rfl) (by kernel_rfl) ?_)
     refine zM rfl (zN rfl (zF rfl (Av _ _) (zL rfl (s.ld (k:=2) rfl mH rfl) (zM rfl (zF rfl (UD _ _) (zL rfl (s.ld (k:=3) rfl b8 rfl) (ax.gY rfl rfl rfl (OpR.mapUpdate rfl rfl rfl rfl (lU (f:=fun v b=>aP.c9 v b) (x:=b) (fun _ _=>bC.c9 _ _) (((s.ae [11]).dup (bC.c9 _ _)).ae [0,7]) od bF)) ?_)))))))
     intro v h s
     dsimp only[aK,bringA] at s
     refine ax.nil ⟨⟨aa,aa,aa,aa,aa,aa,aa,aa,aa⟩,?_⟩
     refine zK 4 rfl (WP.ret ⟨aa,_,rfl,?_⟩)
     have s1:=(s.ae [1,5]).XJ (x:=(n.toNat,b)) (by simp)
     rw[hnc] at s1
     have s2:=((uw.2 ⟨_,s1.ae [2,0]⟩).del 4).del 2
     exact .inr (.inr (.inr ⟨hd,CJ,xK,I,h0,rfl,bT.2 ⟨_,_,_,_,_,_,_,_,s2.ae [2,2,0,0,0,0,0,0,0]⟩⟩))
  ·skip
   exact zo rfl (dM rfl rfl) (zk 12 rfl (WP.ret ⟨aa,_,rfl,.inr (.inl ⟨hd,fun q=>hn ⟨q.1,q.2.1⟩,rfl,J⟩)⟩))
theorem US (I:W told)(s:Sat h (aJ p δ::S))(J:δ.log.length<1073741824): Call ⟨Tryz.prog,told⟩ 124 [.ptr p 0] h fun v h' =>
  (δ.dead=true∧v=.aO [.aV,.int .i64 9]∧Sat h' (aJ p δ::S))∨(δ.dead=false∧∃b,v=.aO [b,.int .i64 0]∧Sat h' (bp b δ.log::aJ p δ::S)):=by
 have s0:=s
 obtain⟨pg,wt,nw,lg,mk,tn,tl,ops,s⟩:=bT.1 s
 refine Call.of_wp (I.free _ rfl) Tryz.func124 rfl rfl (zK 10 rfl (zf rfl (jM _ _) ?_))
 refine zd rfl (aH rfl (s.ld (k:=0) rfl lK rfl)) ?_ ?_
 ·intro hd
  exact zk 7 rfl (WP.ret ⟨aa,_,rfl,.inl ⟨hd,rfl,s0⟩⟩)
 ·intro hd
  refine zk 7 rfl (zY s 0 qy b8 rfl (zc rfl (jx I (s.ae [4]) (aY _ _) J) ?_))
  intro v h s
  exact zk 3 rfl (WP.ret ⟨aa,_,rfl,.inr ⟨hd,v,rfl,(bT.2 ⟨pg,wt,nw,lg,mk,tn,tl,ops,s.ae [2,2,2,2,1,1,1,1,0]⟩).ae [1]⟩⟩)
theorem L_ (I:W told)(s:Sat h (aJ p δ::S))(hl:δ.mark.length≤64): Call ⟨Tryz.prog,told⟩ 123 [.ptr p 0] h fun v h' =>
  (δ.dead=true∧v=.aO [.aV,.int .i64 9]∧Sat h' (aJ p δ::S))∨(δ.dead=false∧∃b,v=.aO [b,.int .i64 0]∧Sat h' (bp b δ.mark::aJ p δ::S)):=by
 have J:=s
 obtain⟨pg,wt,nw,lg,mk,tn,tl,ops,s⟩:=bT.1 s
 refine Call.of_wp (I.free _ rfl) Tryz.func123 rfl rfl (zK 10 rfl (zf rfl (jM _ _) ?_))
 refine zd rfl (aH rfl (s.ld (k:=0) rfl lK rfl)) ?_ ?_
 ·intro hd
  exact zk 7 rfl (WP.ret ⟨aa,_,rfl,.inl ⟨hd,rfl,J⟩⟩)
 ·intro hd
  refine zk 7 rfl (zY s 0 D5 b8 rfl (zc rfl (jx I (s.ae [5]) (eZ _ _) (by omega)) ?_))
  intro v h s
  exact zk 3 rfl (WP.ret ⟨aa,_,rfl,.inr ⟨hd,v,rfl,(bT.2 ⟨pg,wt,nw,lg,mk,tn,tl,ops,s.ae [2,2,2,2,2,1,1,1,0]⟩).ae [1]⟩⟩)
theorem Rm (J:W told)(s:Sat h (aJ p δ::X::S))(hX:cD X (cE x b))(hf:δ.aU<4294967296):
  Call ⟨Tryz.prog,told⟩ 182 [.ptr p 0,x] h fun v h' =>
  (δ.dead=true∧v=.int .i64 9∧Sat h' (aJ p δ::X::S))∨(δ.dead=false∧64<b.length∧v=.int .i64 1∧Sat h' (aJ p δ::X::S)) ∨
  (δ.dead=false∧b.length≤64∧δ.aU=0∧v=.int .i64 9∧Sat h' (aJ p δ.die::X::S)) ∨
  (δ.dead=false∧b.length≤64∧δ.aU≠0∧v=.int .i64 0∧Sat h' (aJ p { δ.dc with mark:=b }::X::S)):=by
 have s0:=s
 obtain⟨pg,wt,nw,lg,mk,tn,tl,ops,s⟩:=bT.1 s
 refine Call.of_wp (J.free _ rfl) Tryz.func182 rfl rfl (zK 5 rfl (WP.block (zK 4 rfl (zf rfl (jM _ _) ?_))))
 refine zd rfl (aH rfl (s.ld (k:=0) rfl lK rfl)) ?_ ?_
 ·intro hd
  exact zk 7 rfl (WP.ret ⟨aa,_,rfl,.inl ⟨hd,rfl,s0⟩⟩)
 ·intro hd
  refine zk 6 rfl (zo rfl (a_ rfl rfl rfl (bA aN (s.aI (k:=8) rfl hX))) ?_)
  refine zd rfl (aq rfl rfl er) ?_ ?_
  ·intro I
   have I:64<b.length:=by simp at I;omega
   exact zk 7 rfl (WP.ret ⟨aa,_,rfl,.inr (.inl ⟨hd,I,rfl,s0⟩)⟩)
  ·intro I
   have I:b.length≤64:=by simp at I;omega
   refine zk 6 rfl (zc rfl (mW J s0 hf) ?_)
   rintro v h (⟨h0,rfl,s⟩|⟨h0,rfl,s⟩)
   ·skip
    exact zo rfl (dM rfl rfl) (zk 7 rfl (WP.ret ⟨aa,_,rfl,.inr (.inr (.inl ⟨hd,I,h0,rfl,s⟩))⟩))
   ·skip
    refine zo rfl (dM rfl rfl) (za rfl (zv (zj rfl (WP.skip (zg rfl (zk 2 rfl (zc rfl (jx J (s.ae [1]) hX (by omega)) ?_)))))))
    intro v h s
    have s:=(s.fX).ae [2,0,0]
    obtain⟨pg,wt,nw,lg,mk,tn,tl,ops,s⟩:=bT.1 s
    dsimp only[Dk.dc] at s
    have hv:=(s.aI (k:=8) rfl (eZ _ _)).cells
    refine zn rfl (zf rfl (D5 _ _) (zS rfl (s.dO (k:=0) rfl iF rfl (by decide) hv.1 hv.2) ?_))
    intro h s
    exact zk 5 rfl (WP.ret ⟨aa,_,rfl,.inr (.inr (.inr ⟨hd,I,h0,rfl,bT.2 ⟨pg,wt,nw,lg,v,tn,tl,ops,(s.del 5).ae [0,0,0,0,0,2,0,0,0]⟩⟩))⟩)
theorem UT (hT:W told){n:Int}(s:Sat h (aJ p δ::X::S))(hX:cD X (cE x b))(hf:δ.aU<4294967296)(hl:δ.log.length<1073741824)(hc:δ.bL≤δ.log.length):
  Call ⟨Tryz.prog,told⟩ 185 [.ptr p 0,.int .i64 n,x] h fun v h' =>
  (δ.dead=true∧v=.int .i64 9∧Sat h' (aJ p δ::X::S))∨(δ.dead=false∧¬(0≤n∧n≤δ.bL∧b.length≤64)∧v=.int .i64 1∧Sat h' (aJ p δ::X::S)) ∨
  (δ.dead=false∧0≤n∧n≤δ.bL∧b.length≤64∧δ.aU=0∧v=.int .i64 9∧Sat h' (aJ p δ.die::X::S)) ∨
  (δ.dead=false∧0≤n∧n≤δ.bL∧b.length≤64∧δ.aU≠0∧v=.int .i64 0∧Sat h' (aJ p { δ.dc with log:=δ.log.drop n.toNat,bL:=δ.bL-n.toNat,mark:=b }::X::S)):=by
 have s0:=s
 obtain⟨pg,wt,nw,lg,mk,tn,tl,ops,s⟩:=bT.1 s
 refine Call.of_wp (hT.free _ rfl) Tryz.func185 rfl rfl (zK 5 rfl (WP.block (zK 4 rfl (zf rfl (jM _ _) ?_))))
 refine zd rfl (aH rfl (s.ld (k:=0) rfl lK rfl)) ?_ ?_
 ·intro hd
  exact zk 7 rfl (WP.ret ⟨aa,_,rfl,.inl ⟨hd,rfl,s0⟩⟩)
 ·intro hd
  refine zk 6 rfl ?_
  refine zd rfl (aq rfl rfl aT) ?_ ?_
  ·intro hq
   have hq:n<0:=by simpa using hq
   exact zk 20 rfl (WP.ret ⟨aa,_,rfl,.inr (.inl ⟨hd,fun q=>by omega,rfl,s0⟩)⟩)
  ·intro hq
   have hq:0≤n:=by simpa using hq
   refine zk 4 rfl (zY s 0 vU dV rfl ?_)
   refine zd rfl (aq rfl rfl er) ?_ ?_
   ·intro I
    have I:(δ.bL:Int)<n:=by simpa using I
    exact zk 13 rfl (WP.ret ⟨aa,_,rfl,.inr (.inl ⟨hd,fun q=>by omega,rfl,s0⟩)⟩)
   ·intro I
    have I:n≤δ.bL:=by simpa using I
    refine zk 3 rfl (zo rfl (a_ rfl rfl rfl (bA aN (s.aI (k:=8) rfl hX))) ?_)
    refine zd rfl (aq rfl rfl er) ?_ ?_
    ·intro J
     have J:64<b.length:=by simp at J;omega
     exact zk 8 rfl (WP.ret ⟨aa,_,rfl,.inr (.inl ⟨hd,fun q=>by omega,rfl,s0⟩)⟩)
    ·intro J
     have J:b.length≤64:=by simp at J;omega
     refine zk 7 rfl (zc rfl (mW hT s0 hf) ?_)
     rintro v h (⟨h0,rfl,s⟩|⟨h0,rfl,s⟩)
     ·skip
      exact zo rfl (dM rfl rfl) (zk 7 rfl (WP.ret ⟨aa,_,rfl,.inr (.inr (.inl ⟨hd,hq,I,J,h0,rfl,s⟩))⟩))
     ·skip
      obtain⟨pg,wt,nw,lg,mk,tn,tl,ops,s⟩:=bT.1 s
      dsimp only[Dk.dc] at s
      obtain⟨k,rfl⟩:∃k:Nat,n=k:=⟨n.toNat,by omega⟩
      refine zo rfl (dM rfl rfl) (za rfl (zv (zj rfl (WP.skip (zg rfl (zk 3 rfl (zf rfl (qy _ _) (zl rfl (by exact s.ld (k:=0) rfl b8 rfl) ?_))))))))
      refine zm rfl (zo rfl (cj (p:=some (.int .i64 (k:Int))) (q:=none) (m:=none) (p':=some k) (q':=none) (m':=none) rfl rfl rfl rfl (by simp[jO,bndV]) rfl rfl (gj (s.buf (k:=4) rfl).view (a:=k) (by omega)).1) ?_)
      refine zc rfl (jx hT (s.ae [4]) (qI (aY _ _) (a:=k) (by omega)) (by simp;omega)) ?_
      intro v h s
      have hv:=(s.buf (k:=0) rfl).view.cells
      refine zn rfl (zf rfl (qy _ _) (zS rfl (s.dO (k:=2) rfl iF rfl (by decide) hv.1 hv.2) ?_))
      intro h s
      have s:=(s.del 1).ae [1,1,1,1,0,0,0,0]
      refine zk 5 rfl (zY s 0 vU dV rfl (zm rfl (zb rfl (by exact g9 (az (by omega) (by omega))) ?_)))
      refine zn rfl (zf rfl (vU _ _) ?_)
      refine zS rfl (by exact s.dO (k:=0) rfl j6 rfl (by decide) rfl rfl) (fun h s => ?_)
      refine zk 5 rfl (zc rfl (jx hT (s.ae [8]) hX (by omega)) ?_)
      intro u h s
      have s:=s.fX
      have hu:=(s.aI (k:=0) rfl (eZ _ _)).cells
      refine zn rfl (zf rfl (D5 _ _) (zS rfl (s.dO (k:=2) rfl iF rfl (by decide) hu.1 hu.2) ?_))
      intro h s
      refine zk 5 rfl (WP.ret ⟨aa,_,rfl,?_⟩)
      have s:=(s.del 7).ae [2,2,2,2,2,0,1,1,0]
      dsimp only[CF,aK,bringA,Nat.reduceAdd,List.set,setA,getA] at s
      have e:(δ.bL:Int)-(k:Int)=((δ.bL-k:Nat):Int):=by omega
      rw[e] at s
      exact .inr (.inr (.inr ⟨hd,hq,I,J,h0,rfl,bT.2 ⟨pg,wt,nw,v,u,tn,tl,ops,s⟩⟩))
def Dk.fresh (aM room:Nat): Dk:={ room:=room,aM:=List.replicate aM none,waiting:=[],now:=[],log:=[],bL:=0,mark:=[],aU := -1,dead:=false,qN:=none,tail:=[] }
theorem UU : ∃i,Tryz.prog.info? 23=some i∧i.size=1∧i.bytes=24 :=
 ⟨_,(show Tryz.prog.info? 23=some ((Tryz.prog.info? 23).getD default) by kernel_rfl),by kernel_rfl,by kernel_rfl⟩
theorem Jr (v:V): ∀n:Nat,repeatL [v] n=List.replicate n v:=by
 intro n
 induction n with
 |zero=>rfl
 |succ n I=>simp only[repeatL,I,zV,ie,dY]
theorem Oy {a b:PM}: ∀n:Nat,(each qh (List.replicate n .aV) (List.replicate n none)).p a b:=by
 intro n
 induction n with
 |zero=>trivial
 |succ n I=>exact⟨rfl,I⟩
theorem Rn (hT:W told){m:Nat}(s:Sat h S)(hn:n<1073741824): Call ⟨Tryz.prog,told⟩ 60 [.int .i64 (n:Int),.int .i64 (m:Int)] h fun v h'=>∃p,v=.ptr p 0∧Sat h' (aJ p (Dk.fresh n m)::S):=by
 refine Call.of_wp (hT.free _ rfl) Tryz.func60 rfl rfl (zK 8 rfl ?_)
 obtain⟨i1,I,J,tK⟩:=UU
 obtain⟨id,h1,e1,s1⟩:=Fc (P:=Tryz.prog) s gV I rX J (by omega) rfl (by decide) hn
 refine au.any rfl rfl rfl (OpR.of (R:=fun v h'=>v=.sl id 0 n (.exact n)∧h'=h1) (uk rfl rfl e1) ⟨rfl,rfl⟩) ?_
 rintro v h ⟨rfl,rfl⟩
 have s:=s1
 dsimp only[V.cells] at s
 rw[ig,Jr] at s
 refine au.yC s rfl rfl rfl rfl (fun p8 h s => ?_)
 refine zo rfl (cx rfl (by rw[Zo];rfl)) ?_
 refine au.bP s rfl rfl rfl (dG rfl rfl) (fun Oz h s => ?_)
 refine zk 2 rfl (WP.ret ⟨aa,_,rfl,?_⟩)
 have s:=(qM (f:=fun v b=>aP.c9 v b) (s.ae [1]))
 have s:=s.ur.ur.mV
 have s:Sat _ (AH .aV []::_):=uw.2 ⟨[],(s.gh (φ:=True) aa).mU⟩
 have s:Sat _ (CH .aZ none::_):=s.gh rfl
 have s:=s.ae [6,6]
 have hp:Sat _ (og (.sl id 0 n (.exact n)) (List.replicate n none)::_):=kF.2 ⟨id,List.replicate n .aV,by rw[fD],by
  rw[fD]
  exact(((s.ae [1]).gh (φ:=True) aa).j5 fun a b _=>Oy n).ae [1]⟩
 dsimp only[V.cells,List.take,List.length_cons,List.length_nil,Nat.reduceAdd,List.drop,List.cons_append,List.nil_append,aK,bringA,getA] at hp
 exact⟨_,rfl,bT.2 ⟨_,_,_,_,_,_,_,_,hp.ae [1,0,1,4,1,1,0,0]⟩⟩
theorem Kv (hT:W told){n m:Int}(s:Sat h S): Call ⟨Tryz.prog,told⟩ 30 [.int .i64 n,.int .i64 m] h fun v h' =>
  (¬(1≤n∧n≤65536∧0≤m∧m≤16777216)∧v=.aO [.aZ,.int .i64 1]∧Sat h' S) ∨
  (1≤n∧n≤65536∧0≤m∧m≤16777216∧∃p,v=.aO [.ptr p 0,.int .i64 0]∧Sat h' (aJ p (Dk.fresh n.toNat m.toNat)::S)):=by
 refine Call.of_wp (hT.free _ rfl) Tryz.func30 rfl rfl (zK 9 rfl ?_)
 refine zd rfl (aq rfl rfl aT) ?_ ?_
 ·intro hq
  have hq:n<1:=by simpa using hq
  exact zk 19 rfl (WP.ret ⟨aa,_,rfl,.inl ⟨fun q=>by omega,rfl,s⟩⟩)
 ·intro hq
  have hq:1≤n:=by simpa using hq
  refine zk 2 rfl ?_
  refine zd rfl (aq rfl rfl er) ?_ ?_
  ·intro I
   have I:65536<n:=by simpa using I
   exact zk 16 rfl (WP.ret ⟨aa,_,rfl,.inl ⟨fun q=>by omega,rfl,s⟩⟩)
  ·intro I
   have I:n≤65536:=by simpa using I
   refine zk 3 rfl ?_
   refine zd rfl (aq rfl rfl aT) ?_ ?_
   ·intro J
    have J:m<0:=by simpa using J
    exact zk 12 rfl (WP.ret ⟨aa,_,rfl,.inl ⟨fun q=>by omega,rfl,s⟩⟩)
   ·intro J
    have J:0≤m:=by simpa using J
    refine zk 3 rfl ?_
    refine zd rfl (aq rfl rfl er) ?_ ?_
    ·intro o_
     have o_:16777216<m:=by simpa using o_
     exact zk 8 rfl (WP.ret ⟨aa,_,rfl,.inl ⟨fun q=>by omega,rfl,s⟩⟩)
    ·intro o_
     have o_:m≤16777216:=by simpa using o_
     refine zk 8 rfl ?_
     obtain⟨n,rfl⟩:∃k:Nat,n=k:=⟨n.toNat,by omega⟩
     obtain⟨m,rfl⟩:∃k:Nat,m=k:=⟨m.toNat,by omega⟩
     refine zc rfl (Rn hT s (by omega)) ?_
     rintro v h ⟨p,rfl,s⟩
     exact zk 3 rfl (WP.ret ⟨aa,_,rfl,.inr ⟨hq,I,J,o_,p,rfl,s⟩⟩)
end
def leN : List Nat→Nat
 |[]=>0
 |b::l=>b+256*leN l
theorem Ro : ∀(l:List Nat) (b:Nat),leN (l++[b])=leN l+b*256^l.length:=by
 intro l
 induction l with
 |nil=>intro b;simp[leN]
 |cons x l I=>intro b;simp only[ie,leN,I,bn,vB,Nat.mul_add];rw[←oQ,qu (256^l.length) 256,←Nat.mul_assoc b,qu b 256,Nat.mul_assoc 256 b]
theorem CL : ∀(l:List Nat),(∀b∈l,b<256)→leN l<256^l.length:=by
 intro l
 induction l with
 |nil=>intro _;simp[leN]
 |cons x l I =>
  intro h
  have h1:=I (fun b J=>h b (cU _ J))
  have h2:=h x c8
  simp only[leN,bn,vB]
  omega
theorem Hv (i:Nat): (256:Nat)^i=2^(8*i):=by rw[Nat.pow_mul]
theorem aaS {x:Operand}(hd:d<256)(hi:i≤7): binV P h .shl t x y (.int .u64 (d:Int)) (.int .i64 (8*(i:Int)))=some (.int .u64 ((d*256^i:Nat):Int)):=by
 have J:(256:Nat)^i≤256^7:=qn (by omega) hi
 have I:d*256^i<18446744073709551616:=by
  have:d*256^i≤255*256^7:=nh (by omega) J
  omega
 simp only[binV,shiftV,IntKind.bits]
 have e:(8*(i:Int)).toNat=8*i:=by omega
 rw[e,show min (8*i) 64=8*i by omega,show decide (8*(i:Int)<0)=false by simp;omega,aL]
 have:(d:Int)*2^(8*i)=((d*256^i:Nat):Int):=by rw[Hv];push_cast;rfl
 simp only[this,wrap_u64 I]
theorem or8 {x:Operand}(I:a<256^i)(hd:d<256)(hi:i≤7): binV P h .or t x y (.int .u64 (a:Int)) (.int .u64 ((d*256^i:Nat):Int))=some (.int .u64 ((a+d*256^i:Nat):Int)):=by
 have J:(256:Nat)^i≤256^7:=qn (by omega) hi
 have hm:d*256^i≤255*256^7:=nh (by omega) J
 have h1:((a:Int)%(2^(IntKind.u64).bits:Int)).toNat=a:=by simp only[IntKind.bits];omega
 have h2:(((d*256^i:Nat):Int)%(2^(IntKind.u64).bits:Int)).toNat=d*256^i:=by simp only[IntKind.bits];omega
 have h3:Nat.lor a (d*256^i)=a+d*256^i:=by
  have e:d*256^i=2^(8*i)*d:=by rw[←Hv,qu]
  have:=J0 (i:=8*i) (b:=a) (by rw[←Hv];exact I) d
  rw[←e] at this
  rw[Ad a,this]
  exact Nat.or_comm _ _
 simp only[binV,ikBeq,ah,intV,bitsV,h1,h2,h3]
 rw[wrap_u64 (by omega)]
section
variable {told:cC} {v:V}
noncomputable def wdL : Code:=cm [1,1,0,1,0,0] ((Tryz.f68.body).getD .skip)
theorem OA (hv:View h v l)(hl:l.length≤8): ∀(j i:Nat) (E:List (Nat×V)) (Q:Ex→List (Nat×V)→H→Prop),i+j=l.length →
  Has E [(3,.int .u64 (leN (l.take i))),(6,v),(7,.int .i64 l.length),(8,.int .i64 i)]→(∀E',look E' 3=some (.int .u64 (leN l))→Q (.exit 0) E' h)→WP ⟨Tryz.prog,told⟩ 22 (.loop wdL) E h Q:=by
 intro j
 induction j with
 |zero =>
  intro i E Q hi hE hq
  refine WP.loop (WP.has hE (zg rfl (zC rfl aT (by simp;omega) ?_)))
  refine zk 3 rfl (WP.exit (hq _ ?_))
  rw[gC (by omega)]
  rfl
 |succ j ih =>
  intro i E Q hi hE hq
  have J:l[i]?=some (l[i]'(by omega)):=bw _
  generalize Ts:(l[i]'(by omega))=b at J
  have I:b<256:=hv.1 b (bJ J)
  obtain⟨id,off,e1,e2⟩:=fy hv J
  have ht:l.take (i+1)=l.take i++[b]:=by rw[vm,J];rfl
  have cJ:leN (l.take i)<256^i:=by
   have:=CL (l.take i) (fun x hx=>hv.1 x (mg hx))
   rwa [qt,Nat.min_eq_left (by omega)] at this
  refine WP.loop (WP.has hE (zg rfl (zB rfl aT (by simp;omega) ?_)))
  refine zk 5 rfl (WP.block (zK 3 rfl (zo rfl (cZ (r:=.ptr id off) rfl rfl e1) (zl rfl e2 (zk 6 rfl (zo rfl (bO rfl (by exact gB Tryz.underlying5 bM (eB (by omega) (by omega)))) ?_))))))
  refine zm rfl (zb rfl (by exact iE (az (by omega) (by omega))) ?_)
  refine zb rfl (aaS I (by omega)) ?_
  refine zb rfl (or8 cJ I (by omega)) ?_
  refine za rfl (zv (zr rfl (zb rfl (by exact aW (az (by omega) (by omega))) ?_)))
  refine zm rfl (zv ?_)
  refine ih (i+1) _ _ (by omega) ?_ hq
  rw[ht,Ro,qt,Nat.min_eq_left (by omega)]
  exact⟨rfl,rfl,rfl,rfl,aa⟩
theorem pn (hT:W told)(s:Sat h S)(hk:getA S k=some X)(hX:cD X (cE v l))(hl:l.length≤8): Call ⟨Tryz.prog,told⟩ 68 [v] h fun r h'=>r=.int .u64 (leN l)∧h'=h:=by
 have J:=s.aI hk hX
 refine Call.of_wp (hT.free _ rfl) Tryz.func68 rfl rfl (zK 12 rfl (zo rfl (a_ rfl rfl rfl (bA aN J)) (zk 2 rfl (WP.block ?_))))
 refine OA J hl l.length 0 _ _ (by omega) ⟨rfl,rfl,rfl,rfl,aa⟩ (fun E' I => ?_)
 exact WP.has (F:=[(3,.int .u64 (leN l))]) ⟨I,aa⟩ (zK 5 rfl (WP.ret ⟨aa,_,rfl,rfl,rfl⟩))
theorem TP (I:W told)(s:Sat h S)(J:getA S k=some X)(hX:cD X (cE v l))(hl:l.length≤4611686018427387904): Call ⟨Tryz.prog,told⟩ 180 [v] h fun r h'=>r=.int .u32 (CI 0 l:Nat)∧h'=h:=by
 refine Call.of_wp (I.free _ rfl) Tryz.func180 rfl rfl (zK 7 rfl (zc rfl (UQ (s:=0) I s J hX (by decide) hl) ?_))
 rintro v h' ⟨rfl,rfl⟩
 exact zk 2 rfl (WP.ret ⟨aa,_,rfl,rfl,rfl⟩)
def dg (l:List Nat)(a z:Nat): Nat:=leN ((l.take (a+z)).drop a)
theorem tL (hT:W told){a z:Int}(s:Sat h S)(J:getA S k=some X)(hX:cD X (cE v l))(ha:0≤a)(hz:1≤z)(hz2:z≤7)(hl:a+z≤l.length)(iQ:l.length≤65536):
  Call ⟨Tryz.prog,told⟩ 179 [.agg [v],.int .i64 a,.int .i64 z] h fun r h'=>r=.int .i64 (dg l a.toNat z.toNat)∧Sat h' S:=by
 have hv:=s.aI J hX
 obtain⟨pi,po,pc,rfl⟩:=gU hv (by omega)
 refine Call.of_wp (hT.free _ rfl) Tryz.func179 rfl rfl (zg rfl ?_)
 refine au.bP s rfl rfl rfl (dG rfl rfl) (fun p3 h s => ?_)
 refine zk 4 rfl (zY s 0 gH b8 rfl (zk 3 rfl (zb rfl (by exact aW (az (by omega) (by omega))) ?_)))
 refine zk 2 rfl (zb rfl (by exact aW (az (by omega) (by omega))) ?_)
 have jT:=Ba (s.aI (mw J) hX) (a:=a.toNat) (b:=(a+z).toNat) (c:=(a+z).toNat) (by omega) (by omega) (by omega) (by omega)
 refine zo rfl (cj (p:=some (.int .i64 a)) (q:=some (.int .i64 (a+z))) (m:=some (.int .i64 (a+z))) rfl rfl rfl rfl (cF ha) (cF (by omega)) (cF (by omega)) jT) ?_
 have hlen:((l.take (a+z).toNat).drop a.toNat).length=z.toNat:=by simp;omega
 refine zc rfl (pn hT s (mw J) (Fe hX (a:=a.toNat) (b:=(a+z).toNat) (c:=(a+z).toNat) (by omega) (by omega) (by omega) (by omega)) (by omega)) ?_
 rintro r h' ⟨rfl,rfl⟩
 have I:=CL ((l.take (a+z).toNat).drop a.toNat) (fun x hx=>hv.1 x (mg (nc hx)))
 have hp:256^z.toNat≤256^7:=qn (by omega) (by omega)
 rw[hlen] at I
 have e:(a+z).toNat=a.toNat+z.toNat:=by omega
 rw[e] at I ⊢
 refine zo rfl (bO rfl (by exact gB bM bF (az (by omega) (by omega)))) ?_
 exact zk 2 rfl (WP.ret ⟨aa,_,rfl,rfl,s.drop⟩)
theorem yJ (I:∀b∈l,b<256): dg l a z<256^z:=by
 have:=CL ((l.take (a+z)).drop a) (fun x J=>I x (mg (nc J)))
 have h2:((l.take (a+z)).drop a).length≤z:=by simp;omega
 exact gQ this (qn (by omega) h2)
def kP (l:List Nat): Nat:=dg l 14 2
def iG (l:List Nat): Nat:=dg l 16 2
def dH (l:List Nat)(i:Nat): Nat:=dg l (26+4*i) 2
def iM (l:List Nat)(i:Nat): Nat:=dg l (26+4*i+2) 2
theorem kQ (I:W told)(s:Sat h S)(J:getA S k=some X)(hX:cD X (cE v l))(hl:l.length=512):
  Call ⟨Tryz.prog,told⟩ 160 [.agg [v]] h fun r h'=>r=.int .i64 (kP l)∧Sat h' S:=by
 have hv:=s.aI J hX
 obtain⟨pi,po,pc,rfl⟩:=gU hv (by omega)
 refine Call.of_wp (I.free _ rfl) Tryz.func160 rfl rfl (zg rfl ?_)
 refine au.bP s rfl rfl rfl (dG rfl rfl) (fun p1 h s => ?_)
 refine zk 4 rfl (zl rfl (s.cK (k:=0) rfl b_ bI) (zc rfl (tL I s (mw J) hX (by decide) (by decide) (by decide) (by omega) (by omega)) ?_))
 rintro r h' ⟨rfl,s⟩
 exact zk 2 rfl (WP.ret ⟨aa,_,rfl,rfl,s.drop⟩)
theorem Hw (I:W told)(s:Sat h S)(J:getA S k=some X)(hX:cD X (cE v l))(hl:l.length=512):
  Call ⟨Tryz.prog,told⟩ 161 [.agg [v]] h fun r h'=>r=.int .i64 (iG l)∧Sat h' S:=by
 have hv:=s.aI J hX
 obtain⟨pi,po,pc,rfl⟩:=gU hv (by omega)
 refine Call.of_wp (I.free _ rfl) Tryz.func161 rfl rfl (zg rfl ?_)
 refine au.bP s rfl rfl rfl (dG rfl rfl) (fun p1 h s => ?_)
 refine zk 4 rfl (zl rfl (s.cK (k:=0) rfl b_ bI) (zc rfl (tL I s (mw J) hX (by decide) (by decide) (by decide) (by omega) (by omega)) ?_))
 rintro r h' ⟨rfl,s⟩
 exact zk 2 rfl (WP.ret ⟨aa,_,rfl,rfl,s.drop⟩)
end
def xL (t:List Bool): List V:=t.map V.bool
theorem UW (t:List Bool)(k:Nat)(b:Bool): (xL t).set k (.bool b)=xL (t.set k b):=by simp[xL,List.map_set]
theorem Kw {t:List Bool}(I:k<t.length): nth (xL t) k=some (.bool (t.getD k false)):=by
 rw[gS];simp[xL,bw I]
theorem Rp : zeroT Tryz.prog 264=some (.agg (xL (List.replicate 512 false))):=by kernel_rfl
def markL : Nat→Nat→List Bool→Option (List Bool)
 |0,_,t=>some t
 |n+1,k,t=>if t.getD k false then none else markL n (k+1) (t.set k true)
def cellsL (l:List Nat)(low:Nat): Nat→Nat→List Bool→Bool
 |0,_,_=>true
 |n+1,i,t=>if dH l i<low∨512<dH l i+iM l i then false else match markL (iM l i) (dH l i) t with
  |none=>false
  |some t'=>cellsL l low n (i+1) t'
def cg (l:List Nat): Bool:=decide (l.length=512)&&(decide (l.getD 13 0=0)&&(decide (26+4*kP l≤iG l∧iG l≤512)&&cellsL l (iG l) (kP l) 0 (List.replicate 512 false)))
theorem OB : ∀(n k:Nat) (t t':List Bool),markL n k t=some t'→t'.length=t.length:=by
 intro n
 induction n with
 |zero=>intro k t t' h;simp only[markL] at h;injection h with h;subst h;rfl
 |succ n I =>
  intro k t t' h
  simp only[markL] at h
  split at h
  ·cases h
  ·have:=I _ _ _ h;simpa using this
section
variable {told:cC} {v:V}
theorem AI (I:W told)(s:Sat h S)(J:getA S k=some X)(hX:cD X (cE v l))(hl:l.length=512)(hi:30+4*i≤512):
  Call ⟨Tryz.prog,told⟩ 162 [.agg [v],.int .i64 (i:Int)] h fun r h'=>r=.aO [.int .i64 (dH l i),.int .i64 (iM l i)]∧Sat h' S:=by
 have hv:=s.aI J hX
 obtain⟨pi,po,pc,rfl⟩:=gU hv (by omega)
 have e1:(26+4*(i:Int)).toNat=26+4*i:=by omega
 have e2:(26+4*(i:Int)+2).toNat=26+4*i+2:=by omega
 refine Call.of_wp (I.free _ rfl) Tryz.func162 rfl rfl (zg rfl ?_)
 refine au.bP s rfl rfl rfl (dG rfl rfl) (fun p2 h s => ?_)
 refine zk 6 rfl (zb rfl (by exact iE (az (by omega) (by omega))) ?_)
 refine zb rfl (by exact aW (az (by omega) (by omega))) ?_
 refine zk 3 rfl ?_
 have s0:=s
 refine WP.drawn [af,af,af,some (0,2),some (0,2),some (0,2),af,af,af] rfl (by kernel_rfl) (by kernel_rfl) ?_
 refine zL rfl (s.cK (k:=0) rfl b_ bI) (zM rfl (ax.any rfl rfl rfl rfl (OpR.call rfl rfl rfl rfl (tL I s (mw J) hX (by omega) (by decide) (by decide) (by omega) (by omega))) ?_))
 rintro r h' ⟨rfl,s⟩
 rw[e1]
 have s1:=s
 refine zL rfl (s.cK (k:=0) rfl b_ bI) (zM rfl (zO rfl (aq rfl rfl (by exact aW (az (by omega) (by omega)))) ?_))
 refine ax.any rfl rfl rfl rfl (OpR.call rfl rfl rfl rfl (tL I s (mw J) hX (by omega) (by decide) (by decide) (by omega) (by omega))) ?_
 rintro r h' ⟨rfl,s⟩
 rw[e2]
 refine zA rfl (zA rfl ?_)
 refine ax.nil ⟨⟨aa,aa,aa,dJ (.inr ⟨rfl,⟨_,aH rfl (s0.cK (k:=0) rfl b_ bI)⟩,aB _ rfl⟩) (.inr ⟨rfl,⟨_,aH rfl (s1.cK (k:=0) rfl b_ bI)⟩,aB _ rfl⟩),fun _ _=>.inr ⟨rfl,⟨_,aS rfl⟩,aB _ rfl⟩,fun _ _=>.inr ⟨rfl,⟨_,aq rfl rfl (by exact aW (az (by omega) (by omega)))⟩,aB _ rfl⟩,aa,aa,aa,aa⟩,?_⟩
 refine WP.ret ⟨aa,_,rfl,?_⟩
 exact⟨rfl,s.drop⟩
noncomputable def gdO : Code:=cm [1,1,1,1,1,1,0,1,0,0] ((Tryz.f90.body).getD .skip)
noncomputable def gdI : Code:=cm [1,1,1,1,1,1,0,1,0,0,1,1,0,0,1,1,1,1,0,0] ((Tryz.f90.body).getD .skip)
theorem Ma {v3 v4 v5 v35 v36:V}(haz:a+z≤512): ∀(m q:Nat) (t:List Bool) (h:H) (E:List (Nat×V)) (Q:Ex→List (Nat×V)→H→Prop),q+m=a+z→t.length=512 →
  Sat h (pt p6 (.cells 512 (xL t) false)::S)→Has E [(3,v3),(4,v4),(5,v5),(6,.ptr p6 0),(8,.int .i64 (a:Int)),(9,.int .i64 (z:Int)),(10,.int .i64 (q:Int)),(35,v35),(36,v36)] →
  (markL m q t=none→∀E' h',look E' 2=some (.bool false)→Sat h' S→Q .ret E' h') →
  (∀t' E' h',markL m q t=some t'→Has E' [(3,v3),(4,v4),(5,v5),(6,.ptr p6 0),(35,v35),(36,v36)]→Sat h' (pt p6 (.cells 512 (xL t') false)::S)→Q (.exit 2) E' h') →
  WP ⟨Tryz.prog,told⟩ 68 (.loop gdI) E h Q:=by
 intro m
 induction m with
 |zero =>
  intro q t h E Q hq ht s hE J hx
  refine WP.loop (WP.has hE (zK 6 rfl (zb rfl (by exact aW (az (by omega) (by omega))) ?_)))
  refine zC rfl aT (by simp;omega) ?_
  exact zk 2 rfl (WP.exit (hx t _ _ rfl ⟨rfl,rfl,rfl,rfl,rfl,rfl,aa⟩ s))
 |succ m ih =>
  intro q t h E Q hq ht s hE J hx
  have I:q<t.length:=by omega
  refine WP.loop (WP.has hE (zK 6 rfl (zb rfl (by exact aW (az (by omega) (by omega))) ?_)))
  refine zB rfl aT (by simp;omega) ?_
  refine zk 4 rfl (WP.block (zK 4 rfl (zo rfl (cZ (r:=.ptr p6 q) rfl rfl (by rw[TJ,show(decide ((0:Int)≤(q:Int))&&decide ((q:Int)<((512:Nat):Int)))=true by simp;omega,ah];simp)) ?_)))
  cases hm:t.getD q false with
  |true =>
   refine zt rfl (aH rfl (s.ld (k:=0) rfl lK (Kw I))) (hm) (zk 6 rfl (WP.ret ?_))
   refine J ?_ _ _ rfl s.drop
   rw[markL,aC hm]
  |false =>
   refine zh rfl (aH rfl (s.ld (k:=0) rfl lK (Kw I))) (hm) (zk 5 rfl (zo rfl (cZ (r:=.ptr p6 q) rfl rfl (by rw[TJ,show(decide ((0:Int)≤(q:Int))&&decide ((q:Int)<((512:Nat):Int)))=true by simp;omega,ah];simp)) ?_))
   refine zS rfl (s.dO (k:=0) rfl xJ (by simp[xL,ht]) (by omega) rfl rfl) ?_
   intro h s
   dsimp only[setA] at s
   rw[UW] at s
   refine zv (zr rfl (zm rfl (zb rfl (by exact aW (az (by omega) (by omega))) ?_)))
   refine za rfl (zv ?_)
   have e:markL (m+1) q t=markL m (q+1) (t.set q true):=by rw[markL,aj (by rw[hm];decide)]
   rw[e] at J hx
   exact ih (q+1) (t.set q true) h _ Q (by omega) (by simp[ht]) s ⟨rfl,rfl,rfl,rfl,rfl,rfl,rfl,rfl,rfl,aa⟩ J hx
theorem Mb (hT:W told){p3:Nat}{low:Nat}(hX:cD X (cE x l))(hl:l.length=512)(cJ:∀b∈l,b<256)(EY:x.cells=[x])(hx2:storable x=true)(hn:n=kP l)(tM:26+4*n≤low)(ab5:low≤512): ∀(m i:Nat) (t:List Bool) (h:H) (E:List (Nat×V)) (Q:Ex→List (Nat×V)→H→Prop),i+m=n→t.length=512 →
  Sat h (pt p6 (.cells 512 (xL t) false)::pt p3 (.cells 1 [x] false)::X::S)→Has E [(3,.ptr p3 0),(4,.int .i64 (n:Int)),(5,.int .i64 (low:Int)),(6,.ptr p6 0),(35,.int .i64 (n:Int)),(36,.int .i64 (i:Int))] →
  (cellsL l low m i t=false→∀E' h',look E' 2=some (.bool false)→Sat h' (X::S)→Q .ret E' h') →
  (cellsL l low m i t=true→∀E' h',Sat h' (X::S)→Q (.exit 0) E' h') →
  WP ⟨Tryz.prog,told⟩ 68 (.loop gdO) E h Q:=by
 intro m
 induction m with
 |zero =>
  intro i t h E Q hi ht s hE J hx
  refine WP.loop (WP.has hE (zg rfl (zC rfl aT (by simp;omega) ?_)))
  exact zk 3 rfl (WP.exit (hx rfl _ _ s.drop.drop))
 |succ m ih =>
  intro i t h E Q hi ht s hE J hx
  have hf:=yJ (l:=l) (a:=26+4*i) (z:=2) cJ
  have hz:=yJ (l:=l) (a:=26+4*i+2) (z:=2) cJ
  have ef:dH l i=dg l (26+4*i) 2:=rfl
  have ez:iM l i=dg l (26+4*i+2) 2:=rfl
  refine WP.loop (WP.has hE (zg rfl (zB rfl aT (by simp;omega) ?_)))
  refine zk 5 rfl (WP.block (zK 7 rfl (zl rfl (s.cK (k:=1) rfl b_ bI) (zm rfl (zc rfl (AI (i:=i) hT s (k:=2) rfl hX hl (by omega)) ?_)))))
  rintro r h' ⟨rfl,s⟩
  refine zk 11 rfl ?_
  refine zd rfl (aq rfl rfl aT) ?_ ?_
  ·intro hq
   have hq:dH l i<low:=by simp at hq;omega
   refine zk 12 rfl (WP.ret ?_)
   refine J ?_ _ _ rfl s.drop.drop
   rw[cellsL,aC (.inl hq)]
  ·intro hq
   have hq:low≤dH l i:=by simp at hq;omega
   refine zk 3 rfl (zb rfl (by exact aW (az (by omega) (by omega))) ?_)
   refine zd rfl (aq rfl rfl er) ?_ ?_
   ·intro I
    have I:512<dH l i+iM l i:=by simp at I;omega
    refine zk 7 rfl (WP.ret ?_)
    refine J ?_ _ _ rfl s.drop.drop
    rw[cellsL,aC (.inr I)]
   ·intro I
    have I:dH l i+iM l i≤512:=by simp at I;omega
    refine zk 9 rfl (WP.block ?_)
    have e:cellsL l low (m+1) i t=(match markL (iM l i) (dH l i) t with|none=>false|some t'=>cellsL l low m (i+1) t'):=by rw[cellsL,aj (by omega)]
    rw[e] at J hx
    refine Ma I (iM l i) (dH l i) t _ _ _ rfl ht s ⟨rfl,rfl,rfl,rfl,rfl,rfl,rfl,rfl,rfl,aa⟩ (fun hm E' h' h2 s' => ?_) (fun t' E' h' hm eS s' => ?_)
    ·rw[hm] at J
     exact J rfl _ _ h2 s'.drop
    ·rw[hm] at J hx
     refine WP.has eS (zr rfl (zb rfl (by exact aW (az (by omega) (by omega))) ?_))
     refine zm rfl (zv ?_)
     exact ih (i+1) t' h' _ Q (by omega) (by rw[OB _ _ _ _ hm,ht]) s' ⟨rfl,rfl,rfl,rfl,rfl,rfl,aa⟩ J hx
theorem Kx (hT:W told)(s:Sat h (X::S))(hX:cD X (cE v l))(iQ:l.length<9223372036854775808):
  Call ⟨Tryz.prog,told⟩ 90 [v] h fun r h'=>r=.bool (cg l)∧Sat h' (X::S):=by
 have hv:=s.aI (k:=0) rfl hX
 refine Call.of_wp (hT.free _ rfl) Tryz.func90 rfl rfl (zK 8 rfl (zo rfl (a_ rfl rfl rfl (bA aN (s.aI (k:=0) rfl hX))) ?_))
 refine zd rfl (aq rfl rfl aA) ?_ ?_
 ·intro hq
  have hq:l.length≠512:=by simp at hq;omega
  exact zk 12 rfl (WP.ret ⟨aa,_,rfl,by rw[cg,fQ hq,kg],s⟩)
 ·intro hq
  have hq:l.length=512:=by simp at hq;omega
  have hb:l[13]?=some (l[13]'(by omega)):=bw _
  generalize Ts:(l[13]'(by omega))=b at hb
  have Bb:l.getD 13 0=b:=by rw[ve,hb];rfl
  obtain⟨id,off,e1,e2⟩:=fy hv hb
  refine zk 2 rfl (zo rfl (cZ (r:=.ptr id off) rfl rfl e1) (zl rfl e2 ?_))
  refine zd rfl (aq rfl rfl aA) ?_ ?_
  ·intro I
   have I:b≠0:=by simp at I;omega
   exact zk 7 rfl (WP.ret ⟨aa,_,rfl,by rw[cg,e_ hq,Bb,fQ I,kg,Bool.and_false],s⟩)
  ·intro I
   have I:b=0:=by simp at I;omega
   obtain⟨pi,po,pc,rfl⟩:=gU hv (by omega)
   refine zk 7 rfl (zo rfl (cx rfl (by rw[AB];rfl)) ?_)
   refine au.bP s rfl rfl rfl (bR jv) (fun p3 h s => ?_)
   refine zS rfl (s.fM (j:=0) rfl bI rfl rfl) (fun h s => ?_)
   refine zk 2 rfl ?_
   have s0:=s
   refine WP.drawn [none,none,some (0,2),af,af,af] rfl (by kernel_rfl) (by kernel_rfl) ?_
   refine zL rfl (s.cK (k:=0) rfl b_ bI) (ax.any rfl rfl rfl rfl (OpR.call rfl rfl rfl rfl (kQ hT s (k:=1) rfl hX hq)) ?_)
   rintro r h' ⟨rfl,s⟩
   have s1:=s
   refine zL rfl (s.cK (k:=0) rfl b_ bI) (ax.any rfl rfl rfl rfl (OpR.call rfl rfl rfl rfl (Hw hT s (k:=1) rfl hX hq)) ?_)
   rintro r h' ⟨rfl,s⟩
   refine zA rfl (zA rfl ?_)
   refine ax.nil ⟨⟨aa,aa,dJ (.inr ⟨rfl,⟨_,aH rfl (s0.cK (k:=0) rfl b_ bI)⟩,aB _ rfl⟩) (.inr ⟨rfl,⟨_,aH rfl (s1.cK (k:=0) rfl b_ bI)⟩,aB _ rfl⟩),aa,aa,aa,aa⟩,?_⟩
   have GH:=yJ (l:=l) (a:=14) (z:=2) hv.1
   have xG:=yJ (l:=l) (a:=16) (z:=2) hv.1
   have ec:kP l=dg l 14 2:=rfl
   have el:iG l=dg l 16 2:=rfl
   refine zK 4 rfl (zb rfl (by exact iE (az (by omega) (by omega))) ?_)
   refine zb rfl (by exact aW (az (by omega) (by omega))) ?_
   refine zm rfl ?_
   refine zd rfl (aq rfl rfl er) ?_ ?_
   ·intro J
    have J:iG l<26+4*kP l:=by simp at J;omega
    exact zk 10 rfl (WP.ret ⟨aa,_,rfl,by rw[cg,e_ hq,Bb,e_ I,fQ (by omega:¬(26+4*kP l≤iG l∧iG l≤512))];rfl,s.drop⟩)
   ·intro J
    have J:26+4*kP l≤iG l:=by simp at J;omega
    refine zk 2 rfl ?_
    refine zd rfl (aq rfl rfl er) ?_ ?_
    ·intro o_
     have o_:512<iG l:=by simp at o_;omega
     exact zk 7 rfl (WP.ret ⟨aa,_,rfl,by rw[cg,e_ hq,Bb,e_ I,fQ (by omega:¬(26+4*kP l≤iG l∧iG l≤512))];rfl,s.drop⟩)
    ·intro o_
     have o_:iG l≤512:=by simp at o_;omega
     refine zk 6 rfl (au.bP s rfl rfl rfl (bR Rp) ?_)
     intro p6 h s
     have ux:(xL (List.replicate 512 false)).length=512:=by rw[xL,eL,fD]
     dsimp only[V.cells] at s
     rw[ux] at s
     refine zk 7 rfl (WP.block ?_)
     have hg:cg l=cellsL l (iG l) (kP l) 0 (List.replicate 512 false):=by
      rw[cg,e_ hq,Bb,e_ I,e_ (⟨J,o_⟩:26+4*kP l≤iG l∧iG l≤512)];rfl
     refine Mb hT hX hq hv.1 rfl rfl rfl J o_ (kP l) 0 (List.replicate 512 false) _ _ _ (by omega) fD s ⟨rfl,rfl,rfl,rfl,rfl,rfl,aa⟩ (fun hc E' h' h2 s' => ?_) (fun hc E' h' s' => ?_)
     ·rw[hg,hc]
      exact⟨aa,_,lR h2,rfl,s'⟩
     ·rw[hg,hc]
      exact WP.has (F:=[]) aa (zK 4 rfl (WP.ret ⟨aa,_,rfl,rfl,s'⟩))
end
section
variable {told:cC} {v:V}
theorem oh (I:W told)(s:Sat h (bp v l::S))(J:z≤8)(hl:l.length+z≤140737488355328):
  Call ⟨Tryz.prog,told⟩ 71 [v,.int .i64 (z:Int),.int .u64 (n:Int)] h fun r h'=>Sat h' (bp r (l++le z n)::S) :=
 (Oq I.TN s.wf (s.buf (k:=0) rfl) J hl).mono fun _ _ ⟨h1,h2,h3⟩=>s.Ap h2 h1 h3
theorem pT (hT:W told)(s:Sat h (bp v l::S))(hz:1≤z)(hz2:z≤8)(J:a+z≤l.length)(iQ:l.length≤65536):
  Call ⟨Tryz.prog,told⟩ 88 [.agg [v],.int .i64 (a:Int),.int .i64 (z:Int),.int .u64 (n:Int)] h fun r h'=>r=.aO []∧Sat h' (bp v (bH l a (le z n))::S):=by
 obtain⟨lM,_,cap,_,rfl,_⟩:=s.fF (by omega)
 refine Call.of_wp (hT.free _ rfl) Tryz.func88 rfl rfl (zg rfl ?_)
 refine au.bP s rfl rfl rfl (dG rfl rfl) (fun p4 h s => ?_)
 refine zv ?_
 have s0:=s
 refine WP.drawn [some (0,2),some (0,2),some (0,2),some (0,2),some (0,2),some (0,2),some (0,2),af,af,af,af] rfl (by kernel_rfl) (by kernel_rfl) ?_
 refine zF rfl (gH _ _) (zL rfl (s.ld (k:=0) rfl b8 rfl) (zM rfl (zM rfl (zM rfl (zO rfl (aq rfl rfl (by exact aW (az (by omega) (by omega)))) ?_)))))
 have ez:((a:Int)+(z:Int)).toNat=a+z:=by omega
 have ea:((a:Int)).toNat=a:=by omega
 refine zO rfl (cj (p:=some (.int .i64 (a:Int))) (q:=some (.int .i64 ((a:Int)+(z:Int)))) (m:=none) (p':=some a) (q':=some (a+z)) (m':=none) rfl rfl rfl rfl (by rw[cF (by omega),ea]) (by rw[cF (by omega),ez]) rfl (cR (s.buf (k:=1) rfl).view (by omega) J).1) ?_
 refine zM rfl (zM rfl (ax.any rfl rfl rfl rfl (OpR.call rfl rfl rfl rfl (oh hT s.mV hz2 (by simp;omega))) ?_))
 intro u h s
 have s:=s.ae [1,1,0]
 dsimp only[List.nil_append,V.cells,List.length_cons,List.length_nil,Nat.reduceAdd,bringA,getA,aK] at s
 have s1:=s
 refine ax.any rfl rfl rfl rfl (OpR.L3 rfl (s.ae [1,1]) (aY _ _) rfl rfl rfl rfl (by omega) J (by simp[cq];omega)) ?_
 intro r h s
 have hs:∃q c,slR (V.sl lM 0 l.length cap) a (a+z)=.sl lM q (a+z-a) c:=by
  cases cap with
  |exact c=>exact⟨_,_,rfl⟩
  |rest e alt=>exact⟨_,_,rfl⟩
 obtain⟨q,c,hs⟩:=hs
 have I:(slR (V.sl lM 0 l.length cap) a (a+z)).beq (slR (V.sl lM 0 l.length cap) a (a+z))=true:=by rw[hs];exact Gd _ _ _ _
 refine ax.nil ⟨⟨fun _ _=>.inr ⟨rfl,⟨_,g8 rfl (gH _ _)⟩,aB _ rfl⟩,dJ (.inr ⟨rfl,⟨_,aH rfl (s0.ld (k:=0) rfl b8 rfl)⟩,aB _ rfl⟩) (.inr ⟨rfl,⟨_,aH rfl (s1.ld (k:=0) rfl b8 rfl)⟩,aB _ rfl⟩),fun _ _=>.inr ⟨rfl,⟨_,aS rfl⟩,aB _ rfl⟩,fun _ _=>.inr ⟨rfl,⟨_,aS rfl⟩,aB _ rfl⟩,fun _ _=>.inr ⟨rfl,⟨_,aS rfl⟩,aB _ rfl⟩,fun _ _=>.inr ⟨rfl,⟨_,aq rfl rfl (by exact aW (az (by omega) (by omega)))⟩,aB _ rfl⟩,dJ (.inr ⟨rfl,⟨_,cj (p:=some (.int .i64 (a:Int))) (q:=some (.int .i64 ((a:Int)+(z:Int)))) (m:=none) (p':=some a) (q':=some (a+z)) (m':=none) rfl rfl rfl rfl (by rw[cF (by omega),ea]) (by rw[cF (by omega),ez]) rfl (cR (s0.buf (k:=1) rfl).view (by omega) J).1⟩,I⟩) (.inr ⟨rfl,⟨_,cj (p:=some (.int .i64 (a:Int))) (q:=some (.int .i64 ((a:Int)+(z:Int)))) (m:=none) (p':=some a) (q':=some (a+z)) (m':=none) rfl rfl rfl rfl (by rw[cF (by omega),ea]) (by rw[cF (by omega),ez]) rfl (cR (s1.buf (k:=1) rfl).view (by omega) J).1⟩,I⟩),aa,aa,aa,aa,aa⟩,?_⟩
 refine⟨aa,_,rfl,rfl,?_⟩
 rw[show a+z-a=z by omega,gC (by rw[cq];omega)] at s
 exact(s.del 1).del 1
theorem tN (hT:W told)(s:Sat h (X::S))(hX:cD X (cE v l))(J:l.length<9223372036854775808):
  Call ⟨Tryz.prog,told⟩ 178 [v] h fun r h'=>Sat h' (X::S)∧((cg l=true∧r=.aO [.agg [v],.int .i64 0])∨(cg l=false∧r=.aO [.agg [.aV],.int .i64 4])):=by
 have hv:=s.aI (k:=0) rfl hX
 refine Call.of_wp (hT.free _ rfl) Tryz.func178 rfl rfl (zg rfl ?_)
 refine au.bP s rfl rfl rfl (bR jv) (fun p2 h s => ?_)
 refine zk 6 rfl (zc rfl (Kx hT (s.ae [1]) hX J) ?_)
 rintro r h' ⟨rfl,s⟩
 cases hg:cg l with
 |true =>
  have I:1≤l.length:=by
   have:l.length=512:=by simp only[cg,bK,gD] at hg;exact hg.1
   omega
  obtain⟨pi,po,pc,rfl⟩:=gU hv I
  refine zo rfl (dM rfl rfl) (zk 6 rfl (zo rfl (cx rfl (by rw[AB];rfl)) ?_))
  refine zS rfl (s.fM (j:=1) rfl bI rfl rfl) (fun h s => ?_)
  refine zk 2 rfl ?_
  refine WP.ret ⟨aa,_,Ge rfl (s.cK (k:=1) rfl b_ bI) rfl,?_⟩
  exact⟨s.del 1,.inl ⟨rfl,rfl⟩⟩
 |false =>
  refine zo rfl (dM rfl rfl) (zk 4 rfl (zo rfl (cx rfl (by rw[AB];rfl)) ?_))
  refine zS rfl (s.fM (j:=1) rfl bI rfl rfl) (fun h s => ?_)
  refine zk 2 rfl ?_
  refine WP.ret ⟨aa,_,Ge rfl (s.cK (k:=1) rfl b_ bI) rfl,?_⟩
  exact⟨s.del 1,.inr ⟨rfl,rfl⟩⟩
theorem gI (I:cg l=true): l.length=512:=by simp only[cg,bK,gD] at I;exact I.1
theorem uy (hT:W told)(s:Sat h (X::S))(J:cD X (cE v l))(iQ:l.length<9223372036854775808):
  Call ⟨Tryz.prog,told⟩ 192 [v] h fun r h'=>(cg l=true∧∃u,r=.aO [.agg [u],.int .i64 0]∧Sat h' (bp u l::X::S))∨(cg l=false∧r=.aO [.agg [.aV],.int .i64 4]∧Sat h' (X::S)):=by
 have hv:=s.aI (k:=0) rfl J
 refine Call.of_wp (hT.free _ rfl) Tryz.func192 rfl rfl (zg rfl ?_)
 refine au.bP s rfl rfl rfl (bR jv) (fun p2 h s => ?_)
 refine zk 5 rfl (zc rfl (tN hT (s.ae [1]) J iQ) ?_)
 rintro r h' ⟨s,(⟨I,rfl⟩|⟨I,rfl⟩)⟩
 ·have aaT:=gI I
  obtain⟨pi,po,pc,rfl⟩:=gU hv (by omega)
  refine zk 3 rfl ?_
  refine au.bP s rfl rfl rfl (bR jv) (fun p4 h s => ?_)
  refine zS rfl (s.fM (j:=0) rfl bI rfl rfl) (fun h s => ?_)
  refine zk 6 rfl (zC rfl aA (rfl) (zk 4 rfl ?_))
  have s0:=s
  refine WP.drawn [af,af,af,af,some (0,2),some (0,2),af,af,af,af] rfl (by kernel_rfl) (by kernel_rfl) ?_
  refine zF rfl (gH _ _) (zL rfl (s.ld (k:=0) rfl b8 rfl) (zO rfl (a_ rfl rfl rfl (qJ rfl aN)) (ax.any rfl rfl rfl rfl (OpR.tI rfl s rfl rfl rfl rfl (by omega)) ?_)))
  intro u h s
  have s:=s.ae [1,1,1,0]
  have s1:=s
  refine zF rfl (gH _ _) (zL rfl (s.ld (k:=0) rfl b8 rfl) (ax.any rfl rfl rfl rfl (OpR.pS rfl (s.ae [3,1]) J rfl rfl rfl rfl (by simp;omega)) ?_))
  intro u2 h s
  rw[dY] at s
  obtain⟨lM,_,cap,_,rfl,_⟩:=s.fF (by omega)
  have s2:=s
  refine zO rfl (cx rfl (by rw[AB];rfl)) ?_
  refine ax.gY rfl rfl rfl (OpR.rH rfl rfl rfl (s.fM (j:=3) rfl bI rfl rfl)) ?_
  rintro w h ⟨rfl,s⟩
  have s3:=s
  refine zA rfl ?_
  refine ax.nil ⟨⟨aa,aa,aa,aa,fun _ _=>.inr ⟨rfl,⟨_,g8 rfl (gH _ _)⟩,aB _ rfl⟩,dJ (.inr ⟨rfl,⟨_,aH rfl (s0.ld (k:=0) rfl b8 rfl)⟩,aB _ rfl⟩) (.inr ⟨rfl,⟨_,aH rfl (s1.ld (k:=0) rfl b8 rfl)⟩,aB _ rfl⟩),aa,aa,aa,aa,aa⟩,?_⟩
  refine WP.ret ⟨aa,_,Ge rfl (s.cK (k:=3) rfl b_ bI) rfl,?_⟩
  exact .inl ⟨I,_,rfl,(s.del 2).del 2⟩
 ·skip
  refine zk 3 rfl ?_
  refine au.bP s rfl rfl rfl (bR jv) (fun p4 h s => ?_)
  refine zS rfl (s.fM (j:=0) rfl bI rfl rfl) (fun h s => ?_)
  refine zk 6 rfl (zB rfl aA (rfl) (zk 4 rfl (zo rfl (cx rfl (by rw[AB];rfl)) ?_)))
  refine zm rfl ?_
  refine zS rfl (s.fM (j:=2) rfl bI rfl rfl) (fun h s => ?_)
  refine zk 2 rfl ?_
  refine WP.ret ⟨aa,_,Ge rfl (s.cK (k:=2) rfl b_ bI) rfl,?_⟩
  exact .inr ⟨I,rfl,(s.del 2).del 0⟩
def oE (l:List Nat)(n:Nat): List Nat:=bH l 4 (le 8 n)
def c_ (l:List Nat)(n:Nat): List Nat:=bH (oE l n) 0 (le 4 (CI 0 ((oE l n).drop 4)))
theorem wV (I:l.length=512): (oE l n).length=512:=by rw[oE,c5 (by rw[cq];omega),I]
theorem UX (I:W told)(s:Sat h (X::S))(hX:cD X (cE v l))(iQ:l.length<9223372036854775808):
  Call ⟨Tryz.prog,told⟩ 131 [v,.int .u64 (n:Int)] h fun r h'=>(cg l=true∧∃u,r=.aO [u,.int .i64 0]∧Sat h' (bp u (c_ l n)::X::S))∨(cg l=false∧r=.aO [.aV,.int .i64 4]∧Sat h' (X::S)):=by
 refine Call.of_wp (I.free _ rfl) Tryz.func131 rfl rfl (zK 8 rfl (zc rfl (uy I s hX iQ) ?_))
 rintro r h' (⟨hg,u,rfl,s⟩|⟨hg,rfl,s⟩)
 ·have J:=gI hg
  have Fj:(oE l n).length=512:=wV J
  obtain⟨lM,_,cap,_,rfl,_⟩:=s.fF (by omega)
  refine zk 3 rfl ?_
  refine au.bP s rfl rfl rfl (bR jv) (fun p6 h s => ?_)
  refine zS rfl (s.fM (j:=0) rfl bI rfl rfl) (fun h s => ?_)
  refine zk 6 rfl (zC rfl aA (rfl) (zk 5 rfl (zl rfl (s.cK (k:=0) rfl b_ bI) (zm rfl (zc rfl (pT (a:=4) (z:=8) I (s.ae [1]) (by decide) (by decide) (by omega) (by omega)) ?_)))))
  rintro r h' ⟨rfl,s⟩
  have s:=s.ae [1,0]
  have s:Sat _ (_::bp _ (oE l n)::_):=s
  refine zk 2 rfl ?_
  have s0:=s
  have Hx:=(s.buf (k:=1) rfl).view.1
  have ec:(oE l n).length=l.length:=by omega
  rw[←ec] at *
  refine WP.drawn [some (0,2),af,af,af,af,af,af] rfl (by kernel_rfl) (by kernel_rfl) ?_
  refine zL rfl (s.cK (k:=0) rfl b_ bI) (zF rfl (gH _ _) (zL rfl (s.ld (k:=0) rfl b8 rfl) (zO rfl (cj (p:=some (.int .i64 4)) (q:=none) (m:=none) (p':=some 4) (q':=none) (m':=none) rfl rfl rfl rfl rfl rfl rfl (gj (s.buf (k:=1) rfl).view (a:=4) (by omega)).1) ?_)))
  refine ax.any rfl rfl rfl rfl (OpR.call rfl rfl rfl rfl (TP I s (k:=1) rfl (qI (aY _ _) (a:=4) (by omega)) (by simp;omega))) ?_
  rintro r h' ⟨rfl,rfl⟩
  have s1:=s
  have hc:=Bx (s:=0) (l:=(oE l n).drop 4) (by decide) (fun x hx=>Hx x (nc hx))
  refine ax.op rfl rfl rfl (by simp only[isEff,bM]) (bO rfl (by exact gB Tryz.underlying285 bM (eB (by omega) (by omega)))) ?_
  refine ax.any rfl rfl rfl rfl (OpR.call rfl rfl rfl rfl (pT (a:=0) (z:=4) I (s.ae [1]) (by decide) (by decide) (by omega) (by omega))) ?_
  rintro r h ⟨rfl,s⟩
  have s:=s.ae [1,0]
  refine ax.nil ⟨⟨dJ (.inr ⟨rfl,⟨_,aH rfl (s0.cK (k:=0) rfl b_ bI)⟩,aB _ rfl⟩) (.inr ⟨rfl,⟨_,aH rfl (s1.cK (k:=0) rfl b_ bI)⟩,aB _ rfl⟩),aa,aa,aa,aa,aa,aa,aa⟩,?_⟩
  exact zg rfl (zY s 0 gH b8 rfl (zk 3 rfl (WP.ret ⟨aa,_,rfl,.inl ⟨hg,_,rfl,s.drop⟩⟩)))
 ·skip
  refine zk 3 rfl ?_
  refine au.bP s rfl rfl rfl (bR jv) (fun p6 h s => ?_)
  refine zS rfl (s.fM (j:=0) rfl bI rfl rfl) (fun h s => ?_)
  exact zk 6 rfl (zB rfl aA (rfl) (zk 8 rfl (WP.ret ⟨aa,_,rfl,.inr ⟨hg,rfl,s.drop⟩⟩)))
theorem aaU {d:TypeId}{x:Operand}{r:V}(I:bf E x=some v)(J:arrPtrV P d v=some r): opE P E h (.sliceToArrayPointer d x)=some (r,h):=by simp only[opE,i_,I,J,bD]
theorem UY {cap:Cap}(I:View h (.sl id off n cap) l)(J:isAggT P t=some true)(hs:bB P t=some l.length): loadV P h t (.ptr id off)=some (.agg (ofBytes l)):=by
 have:=I.rdN
 obtain⟨rfl,h2⟩:=this
 simp only[loadV,J,hs,h2,ng]
theorem F0 : ∀(l m:List Nat),l.length=m.length→intsBeq .u8 (ofBytes l) (ofBytes m)=some (decide (l=m)):=by
 intro l
 induction l with
 |nil=>intro m hm;cases m with
  |nil=>rfl
  |cons x m=>simp at hm
 |cons x l J=>intro m hm;cases m with
  |nil=>simp at hm
  |cons y m =>
   have hi:=J m (by simpa using hm)
   simp only[ofBytes,dQ] at hi ⊢
   simp only[intsBeq,ikBeq,iX,ah,hi,nD]
   by_cases I:x=y
   ·subst I;simp
   ·have:¬ ((x:Int)=(y:Int)):=by omega
    simp[this,I]
theorem Rq : buildV Tryz.prog 281 []=some (.agg (ofBytes (List.replicate 512 0))):=by kernel_rfl
theorem TQ {x:Operand}{m:List Nat}(hu:P.underlying t=some (.array n e))(he:P.underlying e=some (.int .u8))(hs:bB P e=some 1)(I:l.length=n)(hm:m.length=n):
  binV P h .eql t x y (.agg (ofBytes l)) (.agg (ofBytes m))=some (.bool (decide (l=m))):=by
 simp only[binV,eqArr,hu,he,hs,dS,I,hm,eV,iX,ah]
 rw[F0 l m (by omega)]
 rfl
def h_ (l:List Nat): Int:=if l=List.replicate 512 0 then 0 else if cg l=false then 4 else if dg l 0 4≠CI 0 (l.drop 4) then 8 else 0
theorem Hy (hT:W told)(s:Sat h (X::S))(J:cD X (cE v l))(iQ:l.length<9223372036854775808):
  Call ⟨Tryz.prog,told⟩ 110 [v] h fun r h'=>r=.int .i64 (h_ l)∧Sat h' (X::S):=by
 have hv:=s.aI (k:=0) rfl J
 have hz:(List.replicate 512 0).length=512:=fD
 -- what follows when the page is no page of noughts
 refine Call.of_wp (hT.free _ rfl) Tryz.func110 rfl rfl (zK 8 rfl (zo rfl (a_ rfl rfl rfl (bA aN (s.aI (k:=0) rfl J))) ?_))
 refine zd rfl (aq rfl rfl dh) ?_ ?_
 ·intro hq
  have hq:l.length=512:=by simp at hq;omega
  obtain⟨pi,po,pc,rfl⟩:=gU hv (by omega)
  refine zk 2 rfl (zo rfl (aaU (r:=.ptr pi po) rfl (by simp only[arrPtrV,Hj];rw[hq];rfl)) ?_)
  refine zl rfl (UY hv ZO (by rw[hq];exact ZN)) ?_
  refine zo rfl (cx rfl Rq) ?_
  by_cases hn:l=List.replicate 512 0
  ·skip
   exact zB rfl (TQ Hj Tryz.underlying5 TC hq hz) (decide_eq_true hn) (zk 7 rfl (WP.ret ⟨aa,_,rfl,by rw[h_,aC hn],s⟩))
  ·skip
   refine zC rfl (TQ Hj Tryz.underlying5 TC hq hz) (decide_eq_false hn) (zk 7 rfl (zc rfl (tN hT s J iQ) ?_))
   rintro r h' ⟨s,(⟨hg,rfl⟩|⟨hg,rfl⟩)⟩
   ·refine au.op rfl rfl rfl (aS rfl) ?_
    refine zk 2 rfl ?_
    refine au.bP s rfl rfl rfl (bR jv) (fun p3 h s => ?_)
    dsimp only[V.cells,List.length_cons,List.length_nil,Nat.reduceAdd] at s
    refine zS rfl (s.fM (j:=0) rfl bI rfl rfl) (fun h s => ?_)
    dsimp only[setA] at s
    refine zk 3 rfl (WP.block (zK 3 rfl (zC rfl aA (rfl) (zk 4 rfl ?_))))
    have s0:=s
    refine WP.drawn [none,none,some (0,2),some (0,2),af,af,af,af] rfl (by kernel_rfl) (by kernel_rfl) ?_
    refine zL rfl (s.cK (k:=0) rfl b_ bI) (ax.any rfl rfl rfl rfl (OpR.call rfl rfl rfl rfl (tL hT s (k:=1) rfl J (by decide) (by decide) (by decide) (by omega) (by omega))) ?_)
    rintro r h' ⟨rfl,s⟩
    have s1:=s
    refine zM rfl (zO rfl (cj (p:=some (.int .i64 4)) (q:=none) (m:=none) (p':=some 4) (q':=none) (m':=none) rfl rfl rfl rfl rfl rfl rfl (gj (s.aI (k:=1) rfl J) (a:=4) (by omega)).1) ?_)
    refine ax.any rfl rfl rfl rfl (OpR.call rfl rfl rfl rfl (TP hT s (k:=1) rfl (qI J (a:=4) (by omega)) (by simp;omega))) ?_
    rintro r h' ⟨rfl,rfl⟩
    have hc:=Bx (s:=0) (l:=l.drop 4) (by decide) (fun x hx=>hv.1 x (nc hx))
    have hs:∃q c,slR (V.sl pi po l.length pc) 4 l.length=.sl pi q (l.length-4) c:=by
     cases pc with
     |exact c=>exact⟨_,_,rfl⟩
     |rest e alt=>exact⟨_,_,rfl⟩
    obtain⟨q,c,hs⟩:=hs
    have Fk:(slR (V.sl pi po l.length pc) 4 l.length).beq (slR (V.sl pi po l.length pc) 4 l.length)=true:=by rw[hs];exact Gd _ _ _ _
    refine ax.op rfl rfl rfl (by simp only[isEff,bF]) (bO rfl (by exact gB Tryz.underlying285 bF (az (by omega) (by omega)))) ?_
    by_cases I:dg l 0 4=CI 0 (l.drop 4)
    ·skip
     refine ax.mG rfl rfl rfl rfl (aq rfl rfl aA) (by simp;exact_mod_cast I) ?_
     refine zA rfl ?_
     refine ax.nil ⟨⟨aa,aa,fun _ _=>.inr ⟨rfl,⟨_,aS rfl⟩,aB _ rfl⟩,dJ (.inr ⟨rfl,⟨_,cj (p:=some (.int .i64 4)) (q:=none) (m:=none) (p':=some 4) (q':=none) (m':=none) rfl rfl rfl rfl rfl rfl rfl (gj (s0.aI (k:=1) rfl J) (a:=4) (by omega)).1⟩,Fk⟩) (.inr ⟨rfl,⟨_,cj (p:=some (.int .i64 4)) (q:=none) (m:=none) (p':=some 4) (q':=none) (m':=none) rfl rfl rfl rfl rfl rfl rfl (gj (s1.aI (k:=1) rfl J) (a:=4) (by omega)).1⟩,Fk⟩),aa,aa,aa,aa,aa⟩,?_⟩
     refine zj rfl (WP.skip (zg rfl (za rfl (zv ?_))))
     refine WP.ret ⟨aa,_,rfl,?_⟩
     exact⟨by rw[h_,aj hn,aj (by rw[hg];decide),aj (by simpa using I)],s.drop⟩
    ·skip
     refine ax.vT rfl rfl rfl rfl (aq rfl rfl aA) (by simp;exact_mod_cast I) ?_
     refine zA rfl ?_
     refine ax.nil ⟨⟨aa,aa,fun _ _=>.inr ⟨rfl,⟨_,aS rfl⟩,aB _ rfl⟩,dJ (.inr ⟨rfl,⟨_,cj (p:=some (.int .i64 4)) (q:=none) (m:=none) (p':=some 4) (q':=none) (m':=none) rfl rfl rfl rfl rfl rfl rfl (gj (s0.aI (k:=1) rfl J) (a:=4) (by omega)).1⟩,Fk⟩) (.inr ⟨rfl,⟨_,cj (p:=some (.int .i64 4)) (q:=none) (m:=none) (p':=some 4) (q':=none) (m':=none) rfl rfl rfl rfl rfl rfl rfl (gj (s1.aI (k:=1) rfl J) (a:=4) (by omega)).1⟩,Fk⟩),aa,aa,aa,aa,aa⟩,?_⟩
     exact zK 5 rfl (WP.ret ⟨aa,_,rfl,by rw[h_,aj hn,aj (by rw[hg];decide),aC I],s.drop⟩)
   ·skip
    refine zk 3 rfl ?_
    refine au.bP s rfl rfl rfl (bR jv) (fun p3 h s => ?_)
    refine zS rfl (s.fM (j:=0) rfl bI rfl rfl) (fun h s => ?_)
    exact zk 3 rfl (WP.block (zK 3 rfl (zB rfl aA (rfl) (zk 8 rfl (WP.ret ⟨aa,_,rfl,by rw[h_,aj hn,aC hg],s.drop⟩)))))
 ·intro hq
  have hq:l.length≠512:=by simp at hq;omega
  have hn:l≠List.replicate 512 0:=fun e=>hq (by rw[e,hz])
  have hg:cg l=false:=by rw[cg,fQ hq,kg]
  refine zk 13 rfl (zc rfl (tN hT s J iQ) ?_)
  rintro r h' ⟨s,(⟨G_,rfl⟩|⟨_,rfl⟩)⟩
  ·rw[hg] at G_;cases G_
  ·refine au.op rfl rfl rfl (aS rfl) ?_
   refine zk 2 rfl ?_
   refine au.bP s rfl rfl rfl (bR jv) (fun p3 h s => ?_)
   refine zS rfl (s.fM (j:=0) rfl bI rfl rfl) (fun h s => ?_)
   exact zk 3 rfl (WP.block (zK 3 rfl (zB rfl aA (rfl) (zk 8 rfl (WP.ret ⟨aa,_,rfl,by rw[h_,aj hn,aC hg],s.drop⟩)))))
theorem rK {b:Nat}(hv:View h v l)(hb:l[i]?=some b)(he:indexAddrV Tryz.prog 23 v (.int .i64 (i:Int))=some (.ptr id off)): loadV Tryz.prog h 5 (.ptr id off)=some (.int .u8 (b:Int)):=by
 obtain⟨I,off',J,e2⟩:=fy hv hb
 rw[he] at J
 have e3:V.ptr id off=V.ptr I off':=b6 J
 rw[e3]
 exact e2
theorem Ky (hT:W told)(s:Sat h (X::S))(I:cD X (cE v l))(iQ:l.length<9223372036854775808):
  Call ⟨Tryz.prog,told⟩ 149 [v] h fun r h'=>Sat h' (X::S)∧((cg l=true∧r=.aO [.int .i64 (l.getD 12 0:Nat),.int .u64 (dg l 4 8),.int .i64 (dg l 18 4),.int .i64 (dg l 22 4),.int .i64 0]) ∨
   (cg l=false∧r=.aO [.int .i64 0,.int .u64 0,.int .i64 0,.int .i64 0,.int .i64 4])):=by
 have hv:=s.aI (k:=0) rfl I
 refine Call.of_wp (hT.free _ rfl) Tryz.func149 rfl rfl (zK 11 rfl (zc rfl (tN hT s I iQ) ?_))
 rintro r h' ⟨s,(⟨hg,rfl⟩|⟨hg,rfl⟩)⟩
 ·have hq:=gI hg
  obtain⟨pi,po,pc,rfl⟩:=gU hv (by omega)
  have J:l[12]?=some (l[12]'(by omega)):=bw _
  generalize Ts:(l[12]'(by omega))=b at J
  have rz:b<256:=hv.1 b (bJ J)
  have Bb:l.getD 12 0=b:=by rw[ve,J];rfl
  rw[Bb]
  refine zk 3 rfl ?_
  refine au.bP s rfl rfl rfl (bR jv) (fun p7 h s => ?_)
  refine zS rfl (s.fM (j:=0) rfl bI rfl rfl) (fun h s => ?_)
  refine zk 6 rfl (zC rfl aA (rfl) (zk 4 rfl ?_))
  have s0:=s
  obtain⟨id,off,e1,e2⟩:=fy (s.aI (k:=1) rfl I) J
  refine WP.drawn [some (0,4),some (0,4),some (0,4),some (0,4),af,af,af,some (0,2),none,some (0,3),af,af,af,af,af,af] rfl (by kernel_rfl) (by kernel_rfl) ?_
  refine zM rfl (zO rfl (cZ (r:=.ptr id off) rfl rfl e1) (zL rfl (rK (s.aI (k:=1) rfl I) J e1) (ax.op rfl rfl rfl (by simp only[isEff,bF]) (bO rfl (by exact gB Tryz.underlying5 bF (az (by omega) (by omega)))) ?_)))
  refine zM rfl (zO rfl (cj (p:=some (.int .i64 4)) (q:=some (.int .i64 12)) (m:=none) (p':=some 4) (q':=some 12) (m':=none) rfl rfl rfl rfl rfl rfl rfl (cR (s.aI (k:=1) rfl I) (a:=4) (b:=12) (by omega) (by omega)).1) ?_)
  refine ax.any rfl rfl rfl rfl (OpR.call rfl rfl rfl rfl (pn hT s (k:=1) rfl (jW I (a:=4) (b:=12) (by omega) (by omega)) (by simp;omega))) ?_
  rintro r h' ⟨rfl,rfl⟩
  have s1:=s
  refine zL rfl (s.cK (k:=0) rfl b_ bI) (ax.any rfl rfl rfl rfl (OpR.call rfl rfl rfl rfl (tL hT s (k:=1) rfl I (by decide) (by decide) (by decide) (by omega) (by omega))) ?_)
  rintro r h' ⟨rfl,s⟩
  have s2:=s
  refine zL rfl (s.cK (k:=0) rfl b_ bI) (ax.any rfl rfl rfl rfl (OpR.call rfl rfl rfl rfl (tL hT s (k:=1) rfl I (by decide) (by decide) (by decide) (by omega) (by omega))) ?_)
  rintro r h' ⟨rfl,s⟩
  refine zA rfl (zA rfl (zA rfl (zA rfl (zA rfl ?_))))
  refine ax.nil ⟨⟨fun _ _=>.inr ⟨rfl,⟨_,aS rfl⟩,aB _ rfl⟩,fun _ _=>.inr ⟨rfl,⟨_,cZ (r:=.ptr id off) rfl rfl e1⟩,aB _ rfl⟩,Xq (.inr ⟨rfl,⟨_,aH rfl (rK (s0.aI (k:=1) rfl I) J e1)⟩,aB _ rfl⟩) (.inr ⟨rfl,⟨_,aH rfl (rK (s1.aI (k:=1) rfl I) J e1)⟩,aB _ rfl⟩) (.inr ⟨rfl,⟨_,aH rfl (rK (s2.aI (k:=1) rfl I) J e1)⟩,aB _ rfl⟩) (.inr ⟨rfl,⟨_,aH rfl (rK (s.aI (k:=1) rfl I) J e1)⟩,aB _ rfl⟩),fun _ _=>.inr ⟨rfl,⟨_,bO rfl (by exact gB Tryz.underlying5 bF (az (by omega) (by omega)))⟩,aB _ rfl⟩,aa,aa,aa,dJ (.inr ⟨rfl,⟨_,aH rfl (s0.cK (k:=0) rfl b_ bI)⟩,aB _ rfl⟩) (.inr ⟨rfl,⟨_,aH rfl (s1.cK (k:=0) rfl b_ bI)⟩,aB _ rfl⟩),aa,rG (.inr ⟨rfl,⟨_,aH rfl (s0.cK (k:=0) rfl b_ bI)⟩,aB _ rfl⟩) (.inr ⟨rfl,⟨_,aH rfl (s1.cK (k:=0) rfl b_ bI)⟩,aB _ rfl⟩) (.inr ⟨rfl,⟨_,aH rfl (s2.cK (k:=0) rfl b_ bI)⟩,aB _ rfl⟩),aa,aa,aa,aa,aa,aa,aa⟩,?_⟩
  refine WP.ret ⟨aa,_,rfl,?_⟩
  exact⟨s.drop,.inl ⟨hg,rfl⟩⟩
 ·skip
  refine zk 3 rfl ?_
  refine au.bP s rfl rfl rfl (bR jv) (fun p7 h s => ?_)
  refine zS rfl (s.fM (j:=0) rfl bI rfl rfl) (fun h s => ?_)
  exact zk 6 rfl (zB rfl aA (rfl) (zk 11 rfl (WP.ret ⟨aa,_,rfl,s.drop,.inr ⟨hg,rfl⟩⟩)))
end
structure Lg where
 base:Nat
 b:List Nat
 bh:List Nat
 forced:Nat
 check:Nat
variable {μ:Lg}
def je (l:List Nat): List V:=l.map fun(n:Nat)=>V.int .i64 (n:Int)
theorem kG (l:List Nat): (je l).length=l.length:=by simp[je]
def TR (p base:Nat)(bv I:V)(forced check:Nat): List V:=[.ptr p 0,.int .u64 (base:Int),bv,I,.int .i64 (forced:Int),.int .u64 (check:Int)]
def bx (q p:Nat)(μ:Lg): aP:=xs fun bv:V=>xs fun I:V=>star [pt q (.cells 6 (TR p μ.base bv I μ.forced μ.check) false),bp bv μ.b,.arr 1 I (je μ.bh)]
structure Lg.Ok (μ:Lg): Prop where
 size:μ.base+μ.b.length≤1099511627776
 many:μ.bh.length≤16777216
 low:∀s∈μ.bh,s<μ.b.length
 wW:μ.bh.Pairwise (· < ·)
 forced:μ.forced≤μ.b.length
 len:μ.b.length≤16777216
 check:μ.check≤1099511627776
theorem Z0 {x:Operand}{b:Nat}(I:a+b<4611686018427387904): binV P h .quo t x y (.int .i64 ((a:Int)+(b:Int))) (.int .i64 2)=some (.int .i64 (((a+b)/2:Nat):Int)):=by
 simp only[binV,ikBeq,ah,intV]
 rw[show intBeq 2 0=false from rfl,aL,Int.tdiv_eq_ediv_of_nonneg (by omega),az (by omega) (by omega)]
 congr 2
section
variable {told:cC} {p:Nat} {v:V}
theorem dm : Sat h (bx q p μ::S)↔∃bv I,Sat h (pt q (.cells 6 (TR p μ.base bv I μ.forced μ.check) false)::bp bv μ.b::.arr 1 I (je μ.bh)::S):=by
 simp only[bx,lz,bg,ie,dY]
theorem iH {c:V}(s:Sat h S)(hk:getA S k=some (.arr 1 v cs))(hi:cs[i]?=some c)(hu:P.underlying t=some (.slice e))(I:bB P e=some 1):
  ∃id off,indexAddrV P t v (.int .i64 (i:Int))=some (.ptr id off)∧∀t',isAggT P t'=some false→loadV P h t' (.ptr id off)=some c:=by
 have J:i<cs.length:=(List.getElem?_eq_some_iff.1 hi).1
 obtain⟨m,r,h1,h2,h3⟩:=s.at hk
 rcases h3.2 with⟨_,rfl⟩|⟨id,n,cap,N,rest,rfl,hg,e1,e2,_⟩
 ·simp at hi
 ·refine⟨id,i,?_,fun t' ht=>N6 ht (h1 _ _ hg) ?_⟩
  ·simp only[indexAddrV,hu,I,b7]
   rw[show(decide ((0:Int)≤(i:Int))&&decide ((i:Int)<(n:Int)))=true by simp;omega,ah]
   simp
  ·rw[gS,vf J,hi]
theorem uz (I:W told)(s:Sat h (bx q p μ::S)): Call ⟨Tryz.prog,told⟩ 52 [.ptr q 0] h fun v h'=>v=.int .u64 (μ.base:Int)∧h'=h:=by
 obtain⟨bv,J,s⟩:=dm.1 s
 exact Call.of_wp (I.free _ rfl) Tryz.func52 rfl rfl (zK 8 rfl (zY s 0 ir cS rfl (zk 2 rfl (WP.ret ⟨aa,_,rfl,rfl,rfl⟩))))
theorem Js (I:W told)(s:Sat h (bx q p μ::S)): Call ⟨Tryz.prog,told⟩ 65 [.ptr q 0] h fun v h'=>v=.int .u64 (μ.check:Int)∧h'=h:=by
 obtain⟨bv,J,s⟩:=dm.1 s
 exact Call.of_wp (I.free _ rfl) Tryz.func65 rfl rfl (zK 8 rfl (zY s 0 qA cS rfl (zk 2 rfl (WP.ret ⟨aa,_,rfl,rfl,rfl⟩))))
theorem nG (I:W told)(s:Sat h (bx q p μ::S))(J:μ.base+μ.b.length≤1099511627776): Call ⟨Tryz.prog,told⟩ 43 [.ptr q 0] h fun v h'=>v=.int .u64 ((μ.base:Int)+(μ.b.length:Int))∧h'=h:=by
 obtain⟨bv,sv,s⟩:=dm.1 s
 refine Call.of_wp (I.free _ rfl) Tryz.func43 rfl rfl (zK 5 rfl (WP.drawn [af,af,af,af,af,af,af,af,af,af,af,af] rfl (by kernel_rfl) (by kernel_rfl) ?_))
 refine zM rfl (zN rfl (zF rfl (ir _ _) (zL rfl (s.ld (k:=0) rfl cS rfl) (zM rfl (zN rfl (zF rfl (jb _ _) (zL rfl (s.ld (k:=0) rfl b8 rfl) (zO rfl (a_ rfl rfl rfl (bA aN (s.aI (k:=1) rfl (aY _ _)))) (ax.op rfl rfl rfl (by simp only[isEff,bM]) (bO rfl (by exact gB bF bM (eB (by omega) (by omega)))) ?_)))))))))
 refine zO rfl (aq rfl rfl (by exact aW (eB (by omega) (by omega)))) ?_
 refine zA rfl ?_
 refine ax.nil ⟨⟨aa,aa,aa,aa,aa,aa,aa,aa,aa,aa,aa,aa,aa⟩,?_⟩
 refine WP.ret ⟨aa,_,rfl,?_⟩
 exact⟨rfl,rfl⟩
theorem sH (I:W told)(s:Sat h (bx q p μ::S))(J:μ.base+μ.b.length≤1099511627776)(hf:μ.forced≤μ.b.length): Call ⟨Tryz.prog,told⟩ 16 [.ptr q 0] h fun v h'=>v=.int .u64 ((μ.base:Int)+(μ.forced:Int))∧h'=h:=by
 obtain⟨bv,sv,s⟩:=dm.1 s
 refine Call.of_wp (I.free _ rfl) Tryz.func16 rfl rfl (zK 5 rfl (WP.drawn [af,af,af,af,af,af,af,af,af,af,af] rfl (by kernel_rfl) (by kernel_rfl) ?_))
 refine zM rfl (zN rfl (zF rfl (ir _ _) (zL rfl (s.ld (k:=0) rfl cS rfl) (zM rfl (zN rfl (zF rfl (sY _ _) (zL rfl (s.ld (k:=0) rfl dV rfl) (ax.op rfl rfl rfl (by simp only[isEff,bM]) (bO rfl (by exact gB bF bM (eB (by omega) (by omega)))) ?_))))))))
 refine zO rfl (aq rfl rfl (by exact aW (eB (by omega) (by omega)))) ?_
 refine zA rfl ?_
 refine ax.nil ⟨⟨aa,aa,aa,aa,aa,aa,aa,aa,aa,aa,aa,aa⟩,?_⟩
 refine WP.ret ⟨aa,_,rfl,?_⟩
 exact⟨rfl,rfl⟩
def Split (μ:Lg)(n i:Nat): Prop:=i≤μ.bh.length∧(∀(j s:Nat),j<i→μ.bh[j]?=some s→μ.base+s<n)∧(∀(j s:Nat),i≤j→μ.bh[j]?=some s→n≤μ.base+s)
theorem Ee (J:l.Pairwise (· < ·)){b:Nat}(I:i<j)(ha:l[i]?=some a)(hb:l[j]?=some b): a<b:=by
 obtain⟨h1,rfl⟩:=List.getElem?_eq_some_iff.1 ha
 obtain⟨h2,rfl⟩:=List.getElem?_eq_some_iff.1 hb
 exact List.pairwise_iff_getElem.1 J _ _ h1 h2 I
noncomputable def lfL : Code:=cm [1,1,0,0,0] ((Tryz.f184.body).getD .skip)
theorem OC {sv:V}(hn:n<18446744073709551616)(I:μ.Ok)(s:Sat h (pt q (.cells 6 (TR p μ.base bv sv μ.forced μ.check) false)::bp bv μ.b::.arr 1 sv (je μ.bh)::S)): ∀(fuel lo hi:Nat) (E:List (Nat×V)) (Q:Ex→List (Nat×V)→H→Prop),hi-lo≤fuel→lo≤hi→hi≤μ.bh.length →
  (∀(j s:Nat),j<lo→μ.bh[j]?=some s→μ.base+s<n)→(∀(j s:Nat),hi≤j→μ.bh[j]?=some s→n≤μ.base+s) →
  Has E [(0,.ptr q 0),(1,.int .u64 (n:Int)),(5,.int .i64 (lo:Int)),(6,.int .i64 (hi:Int))]→(∀E' i,Split μ n i→look E' 5=some (.int .i64 (i:Int))→Q (.exit 0) E' h)→WP ⟨Tryz.prog,told⟩ 39 (.loop lfL) E h Q:=by
 have wX:=I.many
 have wY:=I.size
 intro fuel
 induction fuel with
 |zero =>
  intro lo hi E Q hf h1 h2 h3 h4 hE hq
  refine WP.loop (WP.has hE (zK 5 rfl (zC rfl aT (by simp;omega) ?_)))
  refine zk 2 rfl (WP.exit ?_)
  have e:lo=hi:=by omega
  exact hq _ lo ⟨by omega,h3,by rw[e];exact h4⟩ rfl
 |succ fuel ih =>
  intro lo hi E Q hf h1 h2 h3 h4 hE hq
  by_cases cJ:lo<hi
  ·skip
   refine WP.loop (WP.has hE (zK 5 rfl (zB rfl aT (by simp;omega) ?_)))
   refine zk 3 rfl (WP.block (zK 4 rfl (zb rfl (by exact aW (az (by omega) (by omega))) ?_)))
   refine zb rfl (Z0 (by omega)) ?_
   refine zk 3 rfl ?_
   generalize hm:(lo+hi)/2=m
   have Fb:lo≤m:=by omega
   have Tm:m<hi:=by omega
   obtain⟨st,J⟩:∃st,μ.bh[m]?=some st:=⟨_,bw (by omega)⟩
   have Rf:=I.low st (bJ J)
   have hlen:=I.len
   have hc:(je μ.bh)[m]?=some (.int .i64 (st:Int)):=by simp[je,J]
   obtain⟨id,off,e1,e2⟩:=iH (P:=Tryz.prog) s (k:=2) rfl hc dW j6
   refine WP.drawn [af,af,af,af,af,af,af,af,af,af,af,af,af,af,af] rfl (by kernel_rfl) (by kernel_rfl) ?_
   refine zM rfl (zN rfl (zF rfl (ir _ _) (zL rfl (s.ld (k:=0) rfl cS rfl) (zM rfl (zN rfl (zF rfl (jc _ _) (zL rfl (s.ld (k:=0) rfl ny rfl) (zM rfl (zO rfl (cZ (r:=.ptr id off) rfl rfl e1) (zL rfl (e2 _ dV) (ax.op rfl rfl rfl (by simp only[isEff,bM]) (bO rfl (by exact gB bF bM (eB (by omega) (by omega)))) ?_)))))))))))
   refine zO rfl (aq rfl rfl (by exact aW (eB (by omega) (by omega)))) ?_
   refine zM rfl ?_
   by_cases xG:μ.base+st<n
   ·skip
    refine ax.vT rfl rfl rfl rfl (aq rfl rfl aT) (by simp;omega) ?_
    refine ax.nil ⟨⟨aa,aa,aa,aa,aa,aa,aa,aa,aa,aa,aa,aa,aa,aa,aa,aa⟩,?_⟩
    refine zK 3 rfl (zb rfl (by exact aW (az (by omega) (by omega))) ?_)
    refine za rfl (zv ?_)
    refine ih (m+1) hi _ Q (by omega) (by omega) h2 (fun j s hj hs => ?_) h4 ⟨rfl,rfl,rfl,rfl,aa⟩ hq
    by_cases XK:j=m
    ·subst XK;rw[J] at hs;injection hs with hs;omega
    ·have:=Ee I.wW (show j<m by omega) hs J;omega
   ·skip
    refine ax.mG rfl rfl rfl rfl (aq rfl rfl aT) (by simp;omega) ?_
    refine ax.nil ⟨⟨aa,aa,aa,aa,aa,aa,aa,aa,aa,aa,aa,aa,aa,aa,aa,aa⟩,?_⟩
    refine zj rfl (zr rfl (zk 2 rfl (zv ?_)))
    refine ih lo m _ Q (by omega) Fb (by omega) h3 (fun j s hj hs => ?_) ⟨rfl,rfl,rfl,rfl,aa⟩ hq
    by_cases XK:j=m
    ·subst XK;rw[J] at hs;injection hs with hs;omega
    ·have:=Ee I.wW (show m<j by omega) J hs;omega
  ·skip
   refine WP.loop (WP.has hE (zK 5 rfl (zC rfl aT (by simp;omega) ?_)))
   refine zk 2 rfl (WP.exit ?_)
   have e:lo=hi:=by omega
   exact hq _ lo ⟨by omega,h3,by rw[e];exact h4⟩ rfl
theorem Ef (hT:W told)(s:Sat h (bx q p μ::S))(I:μ.Ok)(hn:n<18446744073709551616): Call ⟨Tryz.prog,told⟩ 184 [.ptr q 0,.int .u64 (n:Int)] h fun v h'=>h'=h∧∃i,Split μ n i∧v=.int .i64 (i:Int):=by
 obtain⟨bv,sv,s⟩:=dm.1 s
 refine Call.of_wp (hT.free _ rfl) Tryz.func184 rfl rfl (zK 5 rfl (WP.drawn [af,af,af,af,af,af,af] rfl (by kernel_rfl) (by kernel_rfl) ?_))
 refine zM rfl (zN rfl (zF rfl (jc _ _) (zL rfl (s.ld (k:=0) rfl ny rfl) (zO rfl (a_ rfl rfl rfl (s.fN (n:=μ.bh.length) (j:=2) rfl (by rw[kG,ig]) (by decide) dW)) ?_))))
 refine zA rfl (zA rfl ?_)
 refine ax.nil ⟨⟨aa,aa,aa,aa,aa,aa,aa,aa⟩,?_⟩
 refine zw (WP.block ?_)
 refine OC hn I s μ.bh.length 0 μ.bh.length _ _ (by omega) (by omega) (by omega) (fun j s hj _=>by omega) (fun j s hj hs => ?_) ⟨rfl,rfl,rfl,rfl,aa⟩ (fun E' i hi J => ?_)
 ·rw[List.getElem?_eq_none (by omega)] at hs;cases hs
 ·skip
  exact WP.has (F:=[(5,.int .i64 (i:Int))]) ⟨J,aa⟩ (zK 5 rfl (WP.ret ⟨aa,_,rfl,rfl,i,hi,rfl⟩))
def Lg.hasB (μ:Lg)(n:Nat): Bool:=μ.bh.any fun s=>decide (μ.base+s=n)
theorem Split.has (hs:Split μ n i)(hr:μ.bh.Pairwise (· < ·)): μ.hasB n=true↔∃s,μ.bh[i]?=some s∧μ.base+s=n:=by
 rw[Lg.hasB,vq]
 constructor
 ·rintro⟨s,h1,I⟩
  have I:μ.base+s=n:=by simpa using I
  obtain⟨j,J⟩:=zR h1
  have xB:i≤j:=by
   rcases sP j i with h|h
   ·have:=hs.2.1 j s h J;omega
   ·exact h
  by_cases he:i=j
  ·subst he;exact⟨s,J,I⟩
  ·have hjl:=(List.getElem?_eq_some_iff.1 J).1
   have hi:μ.bh[i]?=some (μ.bh[i]'(by omega)):=bw _
   have h3:=hs.2.2 i _ (aQ _) hi
   have h4:=Ee hr (show i<j by omega) hi J
   omega
 ·rintro⟨s,h1,I⟩
  exact⟨s,bJ h1,by simpa using I⟩
theorem uA {st:Nat}(I:μ.bh[i]?=some st): (je μ.bh)[i]?=some (.int .i64 (st:Int)):=by simp[je,I]
theorem AJ (hT:W told)(s:Sat h (bx q p μ::S))(I:μ.Ok)(hn:n<18446744073709551616): Call ⟨Tryz.prog,told⟩ 129 [.ptr q 0,.int .u64 (n:Int)] h fun v h'=>h'=h∧v=.bool (μ.hasB n):=by
 have s0:=s
 obtain⟨bv,sv,s⟩:=dm.1 s
 have wX:=I.many
 have wY:=I.size
 refine Call.of_wp (hT.free _ rfl) Tryz.func129 rfl rfl (zK 8 rfl (zc rfl (Ef hT s0 I hn) ?_))
 rintro v h' ⟨rfl,i,hi,rfl⟩
 have hh:=hi.has I.wW
 refine zk 3 rfl (WP.drawn [af,af,af,af,af,af,af,af,af,af,af,af,af,af,af,af,af,af,af,af,af,af,af,af,af] rfl (by kernel_rfl) (by kernel_rfl) ?_)
 refine zM rfl (zM rfl (zN rfl (zF rfl (jc _ _) (zL rfl (s.ld (k:=0) rfl ny rfl) (zO rfl (a_ rfl rfl rfl (s.fN (n:=μ.bh.length) (j:=2) rfl (by rw[kG,ig]) (by decide) dW)) ?_)))))
 by_cases NU:i<μ.bh.length
 ·skip
  refine ax.vT rfl rfl rfl rfl (aq rfl rfl aT) (by simp;omega) ?_
  obtain⟨st,J⟩:∃st,μ.bh[i]?=some st:=⟨_,bw NU⟩
  have Rf:=I.low st (bJ J)
  obtain⟨id,off,e1,e2⟩:=iH (P:=Tryz.prog) s (k:=2) rfl (uA J) dW j6
  refine zM rfl (zM rfl (zN rfl (zF rfl (ir _ _) (zL rfl (s.ld (k:=0) rfl cS rfl) (zM rfl (zN rfl (zF rfl (jc _ _) (zL rfl (s.ld (k:=0) rfl ny rfl) (zM rfl (zO rfl (cZ (r:=.ptr id off) rfl rfl e1) (zL rfl (e2 _ dV) (ax.op rfl rfl rfl (by simp only[isEff,bM]) (bO rfl (by exact gB bF bM (eB (by omega) (by omega)))) ?_))))))))))))
  refine zO rfl (aq rfl rfl (by exact aW (eB (by omega) (by omega)))) ?_
  refine zM rfl ?_
  by_cases he:μ.base+st=n
  ·skip
   refine ax.vT rfl rfl rfl rfl (aq rfl rfl dh) (by simp;omega) ?_
   refine zO rfl (nr rfl rfl) (zA rfl ?_)
   refine ax.nil ⟨⟨aa,aa,aa,aa,aa,aa,aa,aa,aa,aa,aa,aa,aa,aa,aa,aa,aa,aa,aa,aa,aa,aa,aa,aa,aa,aa⟩,?_⟩
   refine WP.ret ⟨aa,_,rfl,?_⟩
   exact⟨rfl,by rw[hh.2 ⟨st,J,he⟩]⟩
  ·skip
   refine ax.mG rfl rfl rfl rfl (aq rfl rfl dh) (by simp;omega) ?_
   refine zO rfl (nr rfl rfl) (zA rfl ?_)
   refine ax.nil ⟨⟨aa,aa,aa,aa,aa,aa,aa,aa,aa,aa,aa,aa,aa,aa,aa,aa,aa,aa,aa,aa,aa,aa,aa,aa,aa,aa⟩,?_⟩
   refine WP.ret ⟨aa,_,rfl,?_⟩
   refine⟨rfl,?_⟩
   cases hb:μ.hasB n with
   |false=>rfl
   |true =>
    obtain⟨s',h1,h2⟩:=hh.1 hb
    rw[J] at h1;have:=b6 h1;omega
 ·skip
  refine ax.mG rfl rfl rfl rfl (aq rfl rfl aT) (by simp;omega) ?_
  refine zM rfl (ax.no (e:=false) rfl rfl rfl rfl (ax.no (e:=false) rfl rfl rfl rfl (ax.no (e:=false) rfl rfl rfl rfl (ax.no (e:=false) rfl rfl rfl rfl (ax.no (e:=false) rfl rfl rfl rfl (ax.no (e:=false) rfl rfl rfl rfl (ax.no (e:=false) rfl rfl rfl rfl (ax.no (e:=false) rfl rfl rfl rfl (ax.no (e:=false) rfl rfl rfl rfl (ax.no (e:=false) rfl rfl rfl rfl (ax.no (e:=false) rfl rfl rfl rfl (ax.no (e:=false) rfl rfl rfl (by simp only[isEff,bM]) ?_))))))))))))
  refine ax.no (e:=false) rfl rfl rfl rfl (ax.no (e:=false) rfl rfl rfl rfl (ax.no (e:=false) rfl rfl rfl rfl (zO rfl (qx rfl rfl) (zA rfl ?_))))
  refine ax.nil ⟨⟨aa,aa,aa,aa,aa,aa,aa,aa,aa,aa,aa,aa,aa,aa,aa,aa,aa,aa,aa,aa,aa,aa,aa,aa,aa,aa⟩,?_⟩
  refine WP.ret ⟨aa,_,rfl,?_⟩
  refine⟨rfl,?_⟩
  cases hb:μ.hasB n with
  |false=>rfl
  |true =>
   obtain⟨s',h1,h2⟩:=hh.1 hb
   have:=(List.getElem?_eq_some_iff.1 h1).1
   omega
theorem OD (hT:W told)(s:Sat h (bx q p μ::S))(I:μ.Ok)(hn:n<18446744073709551616): Call ⟨Tryz.prog,told⟩ 113 [.ptr q 0,.int .u64 (n:Int)] h fun v h'=>h'=h∧∃r:Nat,v=.int .u64 (r:Int) ∧
  ((r=μ.base+μ.b.length∧μ.base+μ.b.length≤n)∨(μ.hasB r=true∧r≤n)∨r=μ.base)∧(μ.hasB n=true→n<μ.base+μ.b.length→r=n):=by
 have s0:=s
 obtain⟨bv,sv,s⟩:=dm.1 s
 have wX:=I.many
 have wY:=I.size
 refine Call.of_wp (hT.free _ rfl) Tryz.func113 rfl rfl (zK 8 rfl (zc rfl (Ef hT s0 I hn) ?_))
 rintro v h' ⟨rfl,i,hi,rfl⟩
 have hh:=hi.has I.wW
 refine zk 3 rfl (WP.block (zK 4 rfl (zc rfl (nG hT s0 I.size) ?_)))
 rintro v h' ⟨rfl,rfl⟩
 by_cases uS:μ.base+μ.b.length≤n
 ·skip
  refine zB rfl jj (by simp;omega) ?_
  refine zk 6 rfl (zc rfl (nG hT s0 I.size) ?_)
  rintro v h' ⟨rfl,rfl⟩
  exact zk 2 rfl (WP.ret ⟨aa,_,rfl,rfl,μ.base+μ.b.length,rfl,.inl ⟨rfl,uS⟩,fun _ hn=>absurd hn (by omega)⟩)
 ·skip
  refine zC rfl jj (by simp;omega) ?_
  refine zk 4 rfl (WP.drawn [af,af,af,af,af,af,af,af,af,af,af,af,af,af,af,af,af,af,af,af,af,af,af,af,af] rfl (by kernel_rfl) (by kernel_rfl) ?_)
  refine zM rfl (zM rfl (zN rfl (zF rfl (jc _ _) (zL rfl (s.ld (k:=0) rfl ny rfl) (zO rfl (a_ rfl rfl rfl (s.fN (n:=μ.bh.length) (j:=2) rfl (by rw[kG,ig]) (by decide) dW)) ?_)))))
  by_cases NU:i<μ.bh.length
  ·skip
   refine ax.vT rfl rfl rfl rfl (aq rfl rfl aT) (by simp;omega) ?_
   obtain⟨st,fW⟩:∃st,μ.bh[i]?=some st:=⟨_,bw NU⟩
   have Rf:=I.low st (bJ fW)
   obtain⟨id,off,e1,e2⟩:=iH (P:=Tryz.prog) s (k:=2) rfl (uA fW) dW j6
   refine zM rfl (zM rfl (zN rfl (zF rfl (ir _ _) (zL rfl (s.ld (k:=0) rfl cS rfl) (zM rfl (zN rfl (zF rfl (jc _ _) (zL rfl (s.ld (k:=0) rfl ny rfl) (zM rfl (zO rfl (cZ (r:=.ptr id off) rfl rfl e1) (zL rfl (e2 _ dV) (ax.op rfl rfl rfl (by simp only[isEff,bM]) (bO rfl (by exact gB bF bM (eB (by omega) (by omega)))) ?_))))))))))))
   refine zO rfl (aq rfl rfl (by exact aW (eB (by omega) (by omega)))) ?_
   refine zM rfl ?_
   by_cases he:μ.base+st=n
   ·skip
    refine ax.vT rfl rfl rfl rfl (aq rfl rfl dh) (by simp;omega) ?_
    refine zO rfl (nr rfl rfl) (zA rfl ?_)
    refine ax.nil ⟨⟨aa,aa,aa,aa,aa,aa,aa,aa,aa,aa,aa,aa,aa,aa,aa,aa,aa,aa,aa,aa,aa,aa,aa,aa,aa,aa⟩,?_⟩
    exact zK 6 rfl (WP.ret ⟨aa,_,rfl,rfl,n,rfl,.inr (.inl ⟨hh.2 ⟨st,fW,he⟩,aQ _⟩),fun _ _=>rfl⟩)
   ·skip
    refine ax.mG rfl rfl rfl rfl (aq rfl rfl dh) (by simp;omega) ?_
    refine zO rfl (nr rfl rfl) (zA rfl ?_)
    refine ax.nil ⟨⟨aa,aa,aa,aa,aa,aa,aa,aa,aa,aa,aa,aa,aa,aa,aa,aa,aa,aa,aa,aa,aa,aa,aa,aa,aa,aa⟩,?_⟩
    refine zK 4 rfl ?_
    have XL:¬μ.hasB n=true:=fun hb=>by
     obtain⟨s',h1,h2⟩:=hh.1 hb
     rw[fW] at h1;have:=b6 h1;omega
    by_cases TS:i=0
    ·skip
     refine zB rfl dh (by simp;omega) ?_
     exact zk 7 rfl (zY s 0 ir cS rfl (zk 2 rfl (WP.ret ⟨aa,_,rfl,rfl,μ.base,rfl,.inr (.inr rfl),fun hb _=>absurd hb (XL)⟩)))
    ·skip
     refine zC rfl dh (by simp;omega) ?_
     refine za rfl (zv (zj rfl (WP.skip (zw ?_))))
     obtain⟨s2,J⟩:∃st,μ.bh[i-1]?=some st:=⟨_,bw (by omega)⟩
     have kH:=I.low s2 (bJ J)
     obtain⟨id,off,e1,e2⟩:=iH (P:=Tryz.prog) s (k:=2) rfl (uA J) dW j6
     rw[show((i-1:Nat):Int)=(i:Int)-1 by omega] at e1
     refine WP.drawn [af,af,af,af,af,af,af,af,af,af,af,af,af,af,af] rfl (by kernel_rfl) (by kernel_rfl) ?_
     refine zM rfl (zN rfl (zF rfl (ir _ _) (zL rfl (s.ld (k:=0) rfl cS rfl) (zM rfl (zN rfl (zF rfl (jc _ _) (zL rfl (s.ld (k:=0) rfl ny rfl) (zM rfl (zO rfl (aq rfl rfl (by exact g9 (az (by omega) (by omega)))) ?_)))))))))
     refine zO rfl (cZ (r:=.ptr id off) rfl rfl e1) (zL rfl (e2 _ dV) (ax.op rfl rfl rfl (by simp only[isEff,bM]) (bO rfl (by exact gB bF bM (eB (by omega) (by omega)))) ?_))
     refine zO rfl (aq rfl rfl (by exact aW (eB (by omega) (by omega)))) ?_
     refine zA rfl ?_
     refine ax.nil ⟨⟨aa,aa,aa,aa,aa,aa,aa,aa,aa,aa,aa,aa,aa,aa,aa,aa⟩,?_⟩
     refine WP.ret ⟨aa,_,rfl,?_⟩
     have cJ:=hi.2.1 (i-1) s2 (by omega) J
     refine⟨rfl,μ.base+s2,rfl,.inr (.inl ⟨?_,by omega⟩),fun hb _=>absurd hb XL⟩
     rw[Lg.hasB,vq]
     exact⟨s2,bJ J,by simp⟩
  ·skip
   refine ax.mG rfl rfl rfl rfl (aq rfl rfl aT) (by simp;omega) ?_
   refine zM rfl (ax.no (e:=false) rfl rfl rfl rfl (ax.no (e:=false) rfl rfl rfl rfl (ax.no (e:=false) rfl rfl rfl rfl (ax.no (e:=false) rfl rfl rfl rfl (ax.no (e:=false) rfl rfl rfl rfl (ax.no (e:=false) rfl rfl rfl rfl (ax.no (e:=false) rfl rfl rfl rfl (ax.no (e:=false) rfl rfl rfl rfl (ax.no (e:=false) rfl rfl rfl rfl (ax.no (e:=false) rfl rfl rfl rfl (ax.no (e:=false) rfl rfl rfl rfl (ax.no (e:=false) rfl rfl rfl (by simp only[isEff,bM]) ?_))))))))))))
   refine ax.no (e:=false) rfl rfl rfl rfl (ax.no (e:=false) rfl rfl rfl rfl (ax.no (e:=false) rfl rfl rfl rfl (zO rfl (qx rfl rfl) (zA rfl ?_))))
   refine ax.nil ⟨⟨aa,aa,aa,aa,aa,aa,aa,aa,aa,aa,aa,aa,aa,aa,aa,aa,aa,aa,aa,aa,aa,aa,aa,aa,aa,aa⟩,?_⟩
   refine zK 4 rfl ?_
   have XM:¬μ.hasB n=true:=fun hb=>by
    obtain⟨s',h1,h2⟩:=hh.1 hb
    have:=(List.getElem?_eq_some_iff.1 h1).1
    omega
   by_cases TS:i=0
   ·skip
    refine zB rfl dh (by simp;omega) ?_
    exact zk 7 rfl (zY s 0 ir cS rfl (zk 2 rfl (WP.ret ⟨aa,_,rfl,rfl,μ.base,rfl,.inr (.inr rfl),fun hb _=>absurd hb (XM)⟩)))
   ·skip
    refine zC rfl dh (by simp;omega) ?_
    refine za rfl (zv (zj rfl (WP.skip (zw ?_))))
    have jX:=hi.1
    obtain⟨s2,J⟩:∃st,μ.bh[i-1]?=some st:=⟨_,bw (by omega)⟩
    have kH:=I.low s2 (bJ J)
    obtain⟨id,off,e1,e2⟩:=iH (P:=Tryz.prog) s (k:=2) rfl (uA J) dW j6
    rw[show((i-1:Nat):Int)=(i:Int)-1 by omega] at e1
    refine WP.drawn [af,af,af,af,af,af,af,af,af,af,af,af,af,af,af] rfl (by kernel_rfl) (by kernel_rfl) ?_
    refine zM rfl (zN rfl (zF rfl (ir _ _) (zL rfl (s.ld (k:=0) rfl cS rfl) (zM rfl (zN rfl (zF rfl (jc _ _) (zL rfl (s.ld (k:=0) rfl ny rfl) (zM rfl (zO rfl (aq rfl rfl (by exact g9 (az (by omega) (by omega)))) ?_)))))))))
    refine zO rfl (cZ (r:=.ptr id off) rfl rfl e1) (zL rfl (e2 _ dV) (ax.op rfl rfl rfl (by simp only[isEff,bM]) (bO rfl (by exact gB bF bM (eB (by omega) (by omega)))) ?_))
    refine zO rfl (aq rfl rfl (by exact aW (eB (by omega) (by omega)))) ?_
    refine zA rfl ?_
    refine ax.nil ⟨⟨aa,aa,aa,aa,aa,aa,aa,aa,aa,aa,aa,aa,aa,aa,aa,aa⟩,?_⟩
    refine WP.ret ⟨aa,_,rfl,?_⟩
    have cJ:=hi.2.1 (i-1) s2 (by omega) J
    refine⟨rfl,μ.base+s2,rfl,.inr (.inl ⟨?_,by omega⟩),fun hb _=>absurd hb XM⟩
    rw[Lg.hasB,vq]
    exact⟨s2,bJ J,by simp⟩
def eC (base check:Nat): List Nat:=le 8 base++le 8 check
theorem pq (a b:Nat): (eC a b).length=16:=by simp[eC,cq]
theorem CM (I:W told){b:Nat}(s:Sat h S): Call ⟨Tryz.prog,told⟩ 183 [.ptr q 0,.int .u64 (a:Int),.int .u64 (b:Int)] h fun v h'=>Sat h' (bp v (eC a b)::S):=by
 refine Call.of_wp (I.free _ rfl) Tryz.func183 rfl rfl (zK 7 rfl (zc rfl (oh I s.mV (by decide) (by simp)) ?_))
 intro v h s
 refine zm rfl (zc rfl (oh I s (by decide) (by simp[cq])) ?_)
 intro v h s
 exact zk 2 rfl (WP.ret ⟨aa,_,rfl,s⟩)
theorem OE (J:W told)(s:Sat h (bx q p μ::aJ p δ::S))(I:μ.Ok)(hf:δ.aU<4294967296): Call ⟨Tryz.prog,told⟩ 93 [.ptr q 0,.int .u64 (n:Int)] h fun v h' =>
  (n<μ.base+μ.forced∧v=.int .i64 0∧Sat h' (bx q p μ::aJ p δ::S)) ∨
  (μ.base+μ.forced≤n∧δ.dead=true∧v=.int .i64 9∧Sat h' (bx q p μ::aJ p δ::S)) ∨
  (μ.base+μ.forced≤n∧δ.dead=false∧δ.aU=0∧v=.int .i64 9∧Sat h' (bx q p μ::aJ p δ.die::S)) ∨
  (μ.base+μ.forced≤n∧δ.dead=false∧δ.aU≠0∧v=.int .i64 0∧Sat h' (bx q p { μ with forced:=μ.b.length }::aJ p { δ.dc with bL:=δ.log.length }::S)):=by
 have wY:=I.size
 have Hz:=I.forced
 have s0:=s
 obtain⟨bv,sv,s⟩:=dm.1 s
 refine Call.of_wp (J.free _ rfl) Tryz.func93 rfl rfl (zK 9 rfl (zc rfl (sH J s0 I.size I.forced) ?_))
 rintro v h' ⟨rfl,rfl⟩
 by_cases cJ:n<μ.base+μ.forced
 ·skip
  refine zB rfl aT (by simp;omega) ?_
  exact zk 6 rfl (WP.ret ⟨aa,_,rfl,.inl ⟨cJ,rfl,s0⟩⟩)
 ·have hle:μ.base+μ.forced≤n:=by omega
  refine zC rfl aT (by simp;omega) ?_
  refine zk 8 rfl (zY s 0 oY jt rfl (zc rfl (Ov J (s0.ae [1]) hf) ?_))
  rintro v h (⟨hd,rfl,s⟩|⟨hd,h0,rfl,s⟩|⟨hd,h0,rfl,s⟩)
  ·refine au.op rfl rfl rfl (eU rfl) ?_
   exact zk 4 rfl (zB rfl aA (rfl) (zk 7 rfl (WP.ret ⟨aa,_,rfl,.inr (.inl ⟨hle,hd,rfl,s.ae [1]⟩)⟩)))
  ·skip
   exact zk 5 rfl (zB rfl aA (rfl) (zk 7 rfl (WP.ret ⟨aa,_,rfl,.inr (.inr (.inl ⟨hle,hd,h0,rfl,s.ae [1]⟩))⟩)))
  ·skip
   obtain⟨bv,sv,s⟩:=dm.1 (s.ae [1])
   refine zk 5 rfl (zC rfl aA (rfl) (zk 8 rfl (zY s 0 jb b8 rfl (zo rfl (a_ rfl rfl rfl (bA aN (s.aI (k:=1) rfl (aY _ _)))) (zn rfl (zf rfl (sY _ _) ?_))))))
   refine zS rfl (by exact s.dO (k:=0) rfl j6 rfl (by decide) rfl rfl) (fun h s => ?_)
   exact zk 5 rfl (WP.ret ⟨aa,_,rfl,.inr (.inr (.inr ⟨hle,hd,h0,rfl,dm.2 ⟨bv,sv,s⟩⟩))⟩)
theorem OF (hT:W told)(s:Sat h (bx q p μ::aJ p δ::S))(I:μ.Ok)(hf:δ.aU<4294967296)(hn:n<18446744073709551616): Call ⟨Tryz.prog,told⟩ 112 [.ptr q 0,.int .u64 (n:Int)] h fun v h' =>
  (¬(μ.hasB n=true∧n<μ.base+μ.forced)∧v=.int .i64 1∧Sat h' (bx q p μ::aJ p δ::S)) ∨
  (μ.hasB n=true∧n<μ.base+μ.forced∧δ.dead=true∧v=.int .i64 9∧Sat h' (bx q p μ::aJ p δ::S)) ∨
  (μ.hasB n=true∧n<μ.base+μ.forced∧δ.dead=false∧δ.aU=0∧v=.int .i64 9∧Sat h' (bx q p μ::aJ p δ.die::S)) ∨
  (μ.hasB n=true∧n<μ.base+μ.forced∧δ.dead=false∧δ.aU≠0∧v=.int .i64 0∧Sat h' (bx q p { μ with check:=n }::aJ p { δ.dc with mark:=eC μ.base n }::S)):=by
 have wY:=I.size
 have Hz:=I.forced
 have s0:=s
 refine Call.of_wp (hT.free _ rfl) Tryz.func112 rfl rfl (zK 9 rfl (zc rfl (AJ hT s0 I hn) ?_))
 rintro v h' ⟨rfl,rfl⟩
 cases hh:μ.hasB n with
 |false =>
  exact zo rfl (dM rfl rfl) (zk 12 rfl (WP.ret ⟨aa,_,rfl,.inl ⟨fun e=>by simp at e,rfl,s0⟩⟩))
 |true =>
  refine zo rfl (dM rfl rfl) (zk 3 rfl (zc rfl (sH hT s0 I.size I.forced) ?_))
  rintro v h' ⟨rfl,rfl⟩
  by_cases J:n<μ.base+μ.forced
  ·skip
   refine zC rfl jj (by simp;omega) ?_
   refine zk 6 rfl ?_
   obtain⟨bv,sv,s⟩:=dm.1 s
   have s1:=s
   refine WP.drawn [some (0,2),some (0,2),some (0,2),some (0,2),af,af,af,af,af,af,af,af,af] rfl (by kernel_rfl) (by kernel_rfl) ?_
   refine zM rfl (zN rfl (zF rfl (oY _ _) (zL rfl (s.ld (k:=0) rfl jt rfl) (zM rfl (zM rfl (zN rfl (zF rfl (ir _ _) (zL rfl (s.ld (k:=0) rfl cS rfl) (zM rfl (ax.any rfl rfl rfl rfl (OpR.call rfl rfl rfl rfl (CM (q:=q) (a:=μ.base) (b:=n) hT s)) ?_))))))))))
   intro mv h s
   have s:=s.ae [1,1,1,1,0]
   have s2:=s
   refine ax.any rfl rfl rfl rfl (OpR.call rfl rfl rfl rfl (Rm hT (s.ae [3,3]) (aY _ _) hf)) ?_
   rintro v h hr
   rw[pq] at hr
   rcases hr with(⟨hd,rfl,s⟩|⟨_,hl,_,_⟩|⟨hd,_,h0,rfl,s⟩|⟨hd,_,h0,rfl,s⟩)
   ·have s:=(s.del 1).ae [1,1,1,0]
    refine zA rfl ?_
    refine ax.nil ⟨⟨fun _ _=>.inr ⟨rfl,⟨_,aS rfl⟩,aB _ rfl⟩,fun _ _=>.inr ⟨rfl,⟨_,iL rfl⟩,aB _ rfl⟩,fun _ _=>.inr ⟨rfl,⟨_,g8 rfl (oY _ _)⟩,aB _ rfl⟩,dJ (.inr ⟨rfl,⟨_,aH rfl (s1.ld (k:=0) rfl jt rfl)⟩,aB _ rfl⟩) (.inr ⟨rfl,⟨_,aH rfl (s2.ld (k:=0) rfl jt rfl)⟩,aB _ rfl⟩),aa,aa,aa,aa,aa,aa,aa,aa,aa,aa⟩,?_⟩
    exact zK 3 rfl (zB rfl aA (rfl) (zk 7 rfl (WP.ret ⟨aa,_,rfl,.inr (.inl ⟨rfl,J,hd,rfl,dm.2 ⟨bv,sv,s⟩⟩)⟩)))
   ·omega
   ·have s:=(s.del 1).ae [1,1,1,0]
    refine zA rfl ?_
    refine ax.nil ⟨⟨fun _ _=>.inr ⟨rfl,⟨_,aS rfl⟩,aB _ rfl⟩,fun _ _=>.inr ⟨rfl,⟨_,iL rfl⟩,aB _ rfl⟩,fun _ _=>.inr ⟨rfl,⟨_,g8 rfl (oY _ _)⟩,aB _ rfl⟩,dJ (.inr ⟨rfl,⟨_,aH rfl (s1.ld (k:=0) rfl jt rfl)⟩,aB _ rfl⟩) (.inr ⟨rfl,⟨_,aH rfl (s2.ld (k:=0) rfl jt rfl)⟩,aB _ rfl⟩),aa,aa,aa,aa,aa,aa,aa,aa,aa,aa⟩,?_⟩
    exact zK 3 rfl (zB rfl aA (rfl) (zk 7 rfl (WP.ret ⟨aa,_,rfl,.inr (.inr (.inl ⟨rfl,J,hd,h0,rfl,dm.2 ⟨bv,sv,s⟩⟩))⟩)))
   ·have s:=(s.del 1).ae [1,1,1,0]
    refine zA rfl ?_
    refine ax.nil ⟨⟨fun _ _=>.inr ⟨rfl,⟨_,aS rfl⟩,aB _ rfl⟩,fun _ _=>.inr ⟨rfl,⟨_,iL rfl⟩,aB _ rfl⟩,fun _ _=>.inr ⟨rfl,⟨_,g8 rfl (oY _ _)⟩,aB _ rfl⟩,dJ (.inr ⟨rfl,⟨_,aH rfl (s1.ld (k:=0) rfl jt rfl)⟩,aB _ rfl⟩) (.inr ⟨rfl,⟨_,aH rfl (s2.ld (k:=0) rfl jt rfl)⟩,aB _ rfl⟩),aa,aa,aa,aa,aa,aa,aa,aa,aa,aa⟩,?_⟩
    refine zK 3 rfl (zC rfl aA (rfl) (zk 8 rfl (zf rfl (qA _ _) ?_)))
    refine zS rfl (by exact s.dO (k:=0) rfl mS rfl (by decide) rfl rfl) (fun h s => ?_)
    exact zk 5 rfl (WP.ret ⟨aa,_,rfl,.inr (.inr (.inr ⟨rfl,J,hd,h0,rfl,dm.2 ⟨bv,sv,s⟩⟩))⟩)
  ·skip
   refine zB rfl jj (by simp;omega) ?_
   exact zk 7 rfl (WP.ret ⟨aa,_,rfl,.inl ⟨fun e=>J e.2,rfl,s0⟩⟩)
end
structure cO where
 bj:Int
 pos:Int
 whole:Bool
 b:List Nat
variable {br:List cO}
def cO.Ok (c:cO): Prop:=0≤c.bj∧c.bj<65536∧0≤c.pos∧c.pos≤512∧(c.b.length:Int)≤512-c.pos∧(c.whole=true→c.pos=0∧c.b.length=512)
instance (c:cO):Decidable c.Ok:=by unfold cO.Ok;infer_instance
def dN (kind:Int)(br:List cO): Bool:=decide (1≤kind∧kind≤9)&&br.all fun c=>decide c.Ok
def dK (kd:Int)(tx pv nx:Nat)(dt ch:V): List V:=[.int .i64 kd,.int .u64 (tx:Int),.int .u64 (pv:Int),.int .u64 (nx:Int),dt,ch]
theorem lF {kd:Int}{ch:V}(hd:storable dt=true)(I:storable ch=true): (dK kd tx pv nx dt ch).all storable=true:=by
 simp only[dK,jJ,jK,hd,I]
 rfl
def cP : List V→List cO→aP
 |[],[]=>.pu True
 |p::a::w::v::l,x::m=>.an (.an (.pu (p=.int .i64 x.bj∧a=.int .i64 x.pos∧w=.bool x.whole)) (.c9 v x.b)) (cP l m)
 |_,_=>.pu False
theorem bC.nP : ∀(m:List cO) (l:List V),bC (cP l m):=by
 intro m
 induction m with
 |nil=>intro l;rcases l with _|⟨a,_|⟨b,_|⟨c,_|⟨d,l⟩⟩⟩⟩<;>exact bC.pu _
 |cons x m I=>intro l;rcases l with _|⟨a,_|⟨b,_|⟨c,_|⟨d,l⟩⟩⟩⟩<;>first|exact bC.pu _|exact bC.an (bC.an (bC.pu _) (bC.c9 _ _)) (I l)
theorem mX {a b:PM}: ∀ {m:List cO} {l:List V},(cP l m).p a b→l.length=m.length*4:=by
 intro m
 induction m with
 |nil=>intro l h;rcases l with _|⟨x,_|⟨y,_|⟨z,_|⟨d,l⟩⟩⟩⟩<;>first|rfl|exact h.elim
 |cons x m I =>
  intro l h
  rcases l with _|⟨x,_|⟨y,_|⟨z,_|⟨d,l⟩⟩⟩⟩<;>first|exact h.elim|skip
  have:=I h.2
  simp only[bn]
  omega
theorem wZ {a b:PM}: ∀ {m m':List cO} {l I:List V},(cP l m).p a b→(cP I m').p a b→(cP (l++I) (m++m')).p a b:=by
 intro m
 induction m with
 |nil=>intro m' l I h h';rcases l with _|⟨x,_|⟨y,_|⟨z,_|⟨d,l⟩⟩⟩⟩<;>first|exact h'|exact h.elim
 |cons x m J =>
  intro m' l I h h'
  rcases l with _|⟨x,_|⟨y,_|⟨z,_|⟨d,l⟩⟩⟩⟩<;>first|exact h.elim|exact⟨h.1,J h.2 h'⟩
theorem HA {a b:PM}: ∀ {m:List cO} {l:List V} {i:Nat} {c:cO},(cP l m).p a b→m[i]?=some c→∃u,(l.drop (i*4)).take 4=[.int .i64 c.bj,.int .i64 c.pos,.bool c.whole,u]∧(aP.c9 u c.b).p a b:=by
 intro m
 induction m with
 |nil=>intro l i c h I;simp at I
 |cons x m J =>
  intro l i c h I
  rcases l with _|⟨p,_|⟨q,_|⟨w,_|⟨v,l⟩⟩⟩⟩<;>first|exact h.elim|skip
  obtain⟨⟨⟨h1,h2,h3⟩,h4⟩,h5⟩:=h
  cases i with
  |zero=>simp at I;subst I;exact⟨v,by rw[h1,h2,h3];rfl,h4⟩
  |succ i =>
   simp at I
   obtain⟨u,e1,e2⟩:=J h5 I
   refine⟨u,?_,e2⟩
   rw[←e1,show(i+1)*4=i*4+4 by omega]
   rfl
section
variable {told:cC} {p:Nat} {v:V}
theorem HB {ch:V}{m:List cO}{c:cO}(s:Sat h (.arr 4 ch cs::cP cs m::S))(hc:m[i]?=some c):
  ∃id off u,indexAddrV Tryz.prog 102 ch (.int .i64 (i:Int))=some (.ptr id off)∧loadV Tryz.prog h 237 (.ptr id off)=some (.agg [.int .i64 c.bj,.int .i64 c.pos,.bool c.whole,u]) ∧
   u.cells=[u]∧storable u=true∧u.beq u=true∧Sat h (.c9 u c.b::.arr 4 ch cs::cP cs m::S):=by
 obtain⟨a,b,q1,q2,q3⟩:=s.at (k:=1) rfl
 have NU:=(List.getElem?_eq_some_iff.1 hc).1
 have hl:=mX q3
 obtain⟨u,e1,e2⟩:=HA q3 hc
 obtain⟨id,off,g1,J⟩:=Oh (P:=Tryz.prog) (i:=i) s (j:=0) rfl (by omega) (by decide) hG pR
 have J:=J LW
 rw[e1] at J
 have s2:Sat h (cP cs m::.arr 4 ch cs::S):=s.ae [1]
 have s3:=(s2.dup (bC.nP _ _)).j5 (B:=.c9 u c.b) fun a b h=>by
  obtain⟨u',I,om⟩:=HA h hc
  rw[e1] at I
  injection I with _ I
  injection I with _ I
  injection I with _ I
  injection I with I _
  subst I
  exact om
 have hu:=(s3.aI (k:=0) rfl (eZ _ _))
 exact⟨id,off,u,g1,J,hu.cells.1,hu.cells.2,eM hu,s3.ae [0,1,0]⟩
theorem Kz {ch:V}{m:List cO}(s:Sat h S)(I:getA S j1=some (.arr 4 ch cs))(J:getA S j2=some (cP cs m))(hu:P.underlying t=some (.slice e)): lenV P h t ch=some (.int .i64 m.length):=by
 obtain⟨a,b,q1,q2,q3⟩:=s.at J
 exact s.fN I (mX q3) (by decide) hu
theorem Sat.yK {ch:V}{m:List cO}(s:Sat h S)(I:getA S j1=some (.arr 4 ch cs))(J:getA S j2=some (cP cs m))(hu:P.underlying t=some (.slice e)): lenV P h t ch=some (.int .i64 m.length):=Kz s I J hu
noncomputable def gwL : Code:=cm [1,1,0,1,0,0] ((Tryz.f211.body).getD .skip)
theorem Mc {ch:V}{m:List cO}: ∀(j i:Nat) (h:H) (E:List (Nat×V)) (Q:Ex→List (Nat×V)→H→Prop),i+j=m.length→m.length<4294967296→(∀c∈m,c.b.length<9223372036854775808) →
  (∀c∈m, -4294967296≤c.pos∧c.pos≤4294967296)→Sat h (.arr 4 ch cs::cP cs m::S)→Has E [(1,.ptr p1 0),(14,ch),(15,.int .i64 m.length),(16,.int .i64 i)] →
  ((m.drop i).all (fun c=>decide c.Ok)=false→∀E' h',look E' 2=some (.bool false)→Sat h' (.arr 4 ch cs::cP cs m::S)→Q .ret E' h') →
  ((m.drop i).all (fun c=>decide c.Ok)=true→∀E' h',Sat h' (.arr 4 ch cs::cP cs m::S)→Q (.exit 0) E' h')→WP ⟨Tryz.prog,told⟩ 61 (.loop gwL) E h Q:=by
 intro j
 induction j with
 |zero =>
  intro i h E Q hi hm hb J s hE hr hx
  refine WP.loop (WP.has hE (zg rfl (zC rfl aT (by simp;omega) ?_)))
  exact zk 3 rfl (WP.exit (hx (by rw[jH (by omega)];rfl) _ _ s))
 |succ j ih =>
  intro i h E Q hi hm hb J s hE hr hx
  have hc:m[i]?=some (m[i]'(by omega)):=bw _
  generalize (m[i]'(by omega))=c at hc
  have OG:=bJ hc
  have hcb:=hb c OG
  have hcp:=J c OG
  have mI:m.drop i=c::m.drop (i+1):=by
   have:=List.getElem?_eq_some_iff.1 hc
   obtain⟨h1,rfl⟩:=this
   exact oK h1
  rw[mI,jJ] at hr hx
  obtain⟨id,off,u,e1,e2,u1,u2,u3,s⟩:=HB s hc
  refine WP.loop (WP.has hE (zg rfl (zB rfl aT (by simp;omega) ?_)))
  refine zk 5 rfl (WP.block (zg rfl (zo rfl (cZ (r:=.ptr id off) rfl rfl e1) (zl rfl e2 ?_))))
  refine au.bP s rfl rfl rfl (bR nC) (fun p4 h s => ?_)
  dsimp only[V.cells,List.length_cons,List.length_nil,Nat.reduceAdd] at s
  refine zS rfl (s.fM (j:=0) rfl pR rfl (by simp only[jJ,jK,u2];rfl)) ?_
  intro h s
  dsimp only[setA] at s
  refine zk 4 rfl (zY s 0 AE dV rfl ?_)
  refine zd rfl (aq rfl rfl aT) ?_ ?_
  ·intro xD
   have xD:c.bj<0:=by simp at xD;omega
   exact zk 30 rfl (WP.ret (hr (by rw[fQ (fun q:c.Ok=>by have:=q.1;omega),kg]) _ _ rfl s.drop.drop))
  ·intro xD
   have xD:¬ (c.bj<0):=by simp at xD;omega
   refine zm rfl (zY s 0 AE dV rfl ?_)
   refine zd rfl (aq rfl rfl jj) ?_ ?_
   ·intro Fo
    have Fo:65536≤c.bj:=by simp at Fo;omega
    exact zk 26 rfl (WP.ret (hr (by rw[fQ (fun q:c.Ok=>by have:=q.2.1;omega),kg]) _ _ rfl s.drop.drop))
   ·intro Fo
    have Fo:¬ (65536≤c.bj):=by simp at Fo;omega
    refine zk 2 rfl (zY s 0 qH dV rfl ?_)
    refine zd rfl (aq rfl rfl aT) ?_ ?_
    ·intro jR
     have jR:c.pos<0:=by simp at jR;omega
     exact zk 21 rfl (WP.ret (hr (by rw[fQ (fun q:c.Ok=>by have:=q.2.2.1;omega),kg]) _ _ rfl s.drop.drop))
    ·intro jR
     have jR:¬ (c.pos<0):=by simp at jR;omega
     refine zk 2 rfl (zY s 0 qH dV rfl ?_)
     refine zd rfl (aq rfl rfl er) ?_ ?_
     ·intro OH
      have OH:512<c.pos:=by simp at OH;omega
      exact zk 16 rfl (WP.ret (hr (by rw[fQ (fun q:c.Ok=>by have:=q.2.2.2.1;omega),kg]) _ _ rfl s.drop.drop))
     ·intro OH
      have OH:¬ (512<c.pos):=by simp at OH;omega
      refine zk 2 rfl (zY s 0 o9 b8 rfl (zo rfl (a_ rfl rfl rfl (bA aN (s.aI (k:=1) rfl (eZ _ _)))) (zY s 0 qH dV rfl (zb rfl (by exact g9 (az (by omega) (by omega))) ?_))))
      refine zd rfl (aq rfl rfl er) ?_ ?_
      ·intro o_
       have o_:512-c.pos<(c.b.length:Int):=by simp at o_;omega
       exact zk 7 rfl (WP.ret (hr (by rw[fQ (fun q:c.Ok=>by have:=q.2.2.2.2.1;omega),kg]) _ _ rfl s.drop.drop))
      ·intro o_
       have o_:¬ (512-c.pos<(c.b.length:Int)):=by simp at o_;omega
       refine zk 6 rfl (zf rfl (AF _ _) ?_)
       have sr:∀(h:H) (E:List (Nat×V)),c.Ok→Sat h (.arr 4 ch cs::cP cs m::S)→Has E [(1,.ptr p1 0),(14,ch),(15,.int .i64 m.length),(16,.int .i64 ((i:Int)+1))]→WP ⟨Tryz.prog,told⟩ 61 (.loop gwL) E h Q:=by
        intro h E jD s hE
        rw[e_ jD,Bool.true_and] at hr hx
        exact ih (i+1) h E Q (by omega) hm hb J s hE hr hx
       have GG:c.whole=false∨c.whole=true:=by cases c.whole<;>simp
       rcases GG with hw|hw
       ·skip
        refine zh rfl (aH rfl (by exact s.ld (k:=0) rfl lK rfl)) (hw) ?_
        refine zk 11 rfl (zv (zj rfl (WP.skip (zr rfl (zb rfl (by exact aW (az (by omega) (by omega))) ?_)))))
        refine zm rfl (zv ?_)
        refine sr _ _ ?_ ?_ ?_
        ·exact⟨by omega,by omega,by omega,by omega,by omega,fun e=>by rw[hw] at e;cases e⟩
        ·exact s.drop.drop
        ·exact⟨rfl,rfl,rfl,rfl,aa⟩
       ·skip
        refine zt rfl (aH rfl (s.ld (k:=0) rfl lK rfl)) (hw) (zm rfl (zY s 0 qH dV rfl ?_))
        refine zd rfl (aq rfl rfl aA) ?_ ?_
        ·intro hp
         have hp:c.pos≠0:=by simp at hp;omega
         exact zk 13 rfl (WP.ret (hr (by rw[fQ (fun q:c.Ok=>hp (q.2.2.2.2.2 hw).1),kg]) _ _ rfl s.drop.drop))
        ·intro hp
         have hp:c.pos=0:=by simp at hp;omega
         refine zm rfl (zY s 0 o9 b8 rfl (zo rfl (a_ rfl rfl rfl (bA aN (s.aI (k:=1) rfl (eZ _ _)))) ?_))
         refine zd rfl (aq rfl rfl aA) ?_ ?_
         ·intro I
          have I:c.b.length≠512:=by simp at I;omega
          exact zk 8 rfl (WP.ret (hr (by rw[fQ (fun q:c.Ok=>I (q.2.2.2.2.2 hw).2),kg]) _ _ rfl s.drop.drop))
         ·intro I
          have I:c.b.length=512:=by simp at I;omega
          refine zk 2 rfl (zv (zj rfl (WP.skip (zr rfl (zb rfl (by exact aW (az (by omega) (by omega))) ?_)))))
          refine zm rfl (zv ?_)
          refine sr _ _ ?_ ?_ ?_
          ·exact⟨by omega,by omega,by omega,by omega,by omega,fun _=>⟨hp,I⟩⟩
          ·exact s.drop.drop
          ·exact⟨rfl,rfl,rfl,rfl,aa⟩
def vY (m:List cO): Prop:=m.length<4294967296∧(∀c∈m,c.b.length<4294967296)∧(∀c∈m, -4294967296≤c.pos∧c.pos≤4294967296)
theorem HC (hT:W told){kd:Int}{ch:V}{m:List cO}(s:Sat h (.arr 4 ch cs::cP cs m::S))(hd:storable dt=true)(hm:vY m):
  Call ⟨Tryz.prog,told⟩ 211 [.agg (dK kd tx pv nx dt ch)] h fun r h'=>r=.bool (dN kd m)∧Sat h' (.arr 4 ch cs::cP cs m::S):=by
 have oo:=s.jk (j:=0) rfl
 have fW:=lF (kd:=kd) (tx:=tx) (pv:=pv) (nx:=nx) hd oo.2.1
 refine Call.of_wp (hT.free _ rfl) Tryz.func211 rfl rfl (zg rfl (au.bP s rfl rfl rfl (dG rfl fW) ?_))
 intro p1 h s
 refine zk 5 rfl (zY s 0 oW dV rfl ?_)
 refine zd rfl (aq rfl rfl aT) ?_ ?_
 ·intro J
  have J:kd<1:=by simpa using J
  exact zk 11 rfl (WP.ret ⟨aa,_,rfl,by rw[dN,fQ (by omega),kg],s.drop⟩)
 ·intro J
  have J:1≤kd:=by simpa using J
  refine zm rfl (zY s 0 oW dV rfl ?_)
  refine zd rfl (aq rfl rfl er) ?_ ?_
  ·intro I
   have I:9<kd:=by simpa using I
   exact zk 7 rfl (WP.ret ⟨aa,_,rfl,by rw[dN,fQ (by omega),kg],s.drop⟩)
  ·intro I
   have I:kd≤9:=by simpa using I
   refine zk 7 rfl (zY s 0 ja pO rfl (zo rfl (a_ rfl rfl rfl (Kz s (j1:=1) (j2:=2) rfl rfl hG)) (zk 2 rfl (WP.block ?_))))
   have hg:dN kd m=m.all (fun c=>decide c.Ok):=by rw[dN,e_ ⟨J,I⟩,Bool.true_and]
   refine Mc m.length 0 _ _ _ (by omega) hm.1 (fun c hc=>by have:=hm.2.1 c hc;omega) hm.2.2 s.drop ⟨rfl,rfl,rfl,rfl,aa⟩ (fun hf E' h' h2 s' => ?_) (fun hf E' h' s' => ?_)
   ·rw[hg]
    rw[gE] at hf
    rw[hf]
    exact⟨aa,_,lR h2,rfl,s'⟩
   ·rw[hg]
    rw[gE] at hf
    rw[hf]
    exact WP.has (F:=[]) aa (zK 4 rfl (WP.ret ⟨aa,_,rfl,rfl,s'⟩))
end
def jl (c:cO): List Nat:=digits 9 c.bj.toNat++digits 9 c.pos.toNat++[if c.whole then 1 else 0]++(digits 9 c.b.length++c.b)
def cI (kd:Int)(tx pv nx:Nat)(data:List Nat)(br:List cO): List Nat :=
 [kd.toNat]++digits 9 tx++digits 9 pv++digits 9 nx++(digits 9 data.length++data)++digits 9 br.length++br.flatMap jl
section
variable {told:cC} {p:Nat} {v w:V} {m:List Nat}
theorem pz (I:W told)(s:Sat h (bp v l::S))(hn:n<18446744073709551616)(hl:l.length≤140737488355000):
  Call ⟨Tryz.prog,told⟩ 235 [v,.int .u64 (n:Int)] h fun r h'=>Sat h' (bp r (l++digits 9 n)::S) :=
 (Fh I.TN (k:=9) s.wf (s.buf (k:=0) rfl) (by omega) (by omega) (by omega)).mono fun _ _ ⟨J,h2,h3⟩=>s.Ap h2 J h3
theorem Eg (hT:W told)(s:Sat h (bp v l::X::S))(I:cD X (cE w m))(hl:l.length+m.length≤140737488355000):
  Call ⟨Tryz.prog,told⟩ 236 [v,w] h fun r h'=>Sat h' (bp r (l++(digits 9 m.length++m))::X::S) :=
 (UM hT.TN (k:=9) s.wf (s.buf (k:=0) rfl) (s.aI (k:=1) rfl I) (s.XB I) (by omega) (by omega) (by omega)).mono fun _ _ ⟨J,h2,h3⟩=>by
  rw[dB] at J
  exact s.Ap h2 J h3
noncomputable def bdL : Code:=cm [1,1,1,1,0,1,0,0] ((Tryz.f212.body).getD .skip)
theorem OI (hT:W told){ch:V}(jD:∀c∈br,c.Ok)(J:vY br): ∀(j i:Nat) (sv:V) (l:List Nat) (h:H) (E:List (Nat×V)) (Q:Ex→List (Nat×V)→H→Prop),i+j=br.length →
  l.length+((br.drop i).flatMap jl).length≤140737488355000 →
  Sat h (bp sv l::.arr 4 ch cs::cP cs br::S)→Has E [(1,.ptr p1 0),(3,sv),(37,ch),(38,.int .i64 br.length),(39,.int .i64 i)] →
  (∀E' h' I,look E' 3=some I→Sat h' (bp I (l++(br.drop i).flatMap jl)::.arr 4 ch cs::cP cs br::S)→Q (.exit 2) E' h')→WP ⟨Tryz.prog,told⟩ 63 (.loop bdL) E h Q:=by
 intro j
 induction j with
 |zero =>
  intro i sv l h E Q hi hlen s hE hx
  have hm:=J.1
  refine WP.loop (WP.has hE (zg rfl (zC rfl aT (by simp;omega) ?_)))
  refine zk 3 rfl (WP.exit (hx _ _ sv rfl ?_))
  rw[jH (by omega)]
  simpa using s
 |succ j ih =>
  intro i sv l h E Q hi hlen s hE hx
  have hm:=J.1
  have hc:br[i]?=some (br[i]'(by omega)):=bw _
  generalize (br[i]'(by omega))=c at hc
  have OG:=bJ hc
  have aaV:=jD c OG
  have hcb:=J.2.1 c OG
  have mI:br.drop i=c::br.drop (i+1):=by
   obtain⟨h1,rfl⟩:=List.getElem?_eq_some_iff.1 hc
   exact oK h1
  rw[mI,qq] at hlen hx
  obtain⟨pg,ps,wh,bb⟩:=c
  obtain⟨q1,q2,q3,q4,_⟩:=aaV
  dsimp only at q1 q2 q3 q4 hcb
  obtain⟨pg,rfl⟩:∃n:Nat,pg=n:=⟨pg.toNat,by omega⟩
  obtain⟨ps,rfl⟩:∃n:Nat,ps=n:=⟨ps.toNat,by omega⟩
  have Rr:jl ⟨pg,ps,wh,bb⟩=digits 9 pg++digits 9 ps++[if wh then 1 else 0]++(digits 9 bb.length++bb):=by simp[jl]
  have WE:(jl ⟨pg,ps,wh,bb⟩).length=(digits 9 pg).length+(digits 9 ps).length+1+(digits 9 bb.length).length+bb.length:=by rw[Rr];simp;omega
  rw[bY,WE] at hlen
  obtain⟨id,off,u,e1,e2,u1,u2,u3,s⟩:=HB (s.ae [1,1]) hc
  dsimp only at e2
  have s:=s.ae [3,0,0,0]
  dsimp only[aK,bringA,getA] at s
  refine WP.loop (WP.has hE (zg rfl (zB rfl aT (by simp;omega) ?_)))
  refine zk 5 rfl (WP.block (zg rfl (zo rfl (cZ (r:=.ptr id off) rfl rfl e1) (zl rfl e2 ?_))))
  refine au.bP s rfl rfl rfl (bR nC) (fun p7 h s => ?_)
  dsimp only[V.cells,List.length_cons,List.length_nil,Nat.reduceAdd] at s
  refine zS rfl (s.fM (j:=0) rfl pR rfl (by simp only[jJ,jK,u2];rfl)) ?_
  intro h s
  dsimp only[setA] at s
  refine zk 2 rfl ?_
  have s:=s.ae [1,0]
  dsimp only[bringA,getA,aK] at s
  have s0:=s
  refine WP.drawn [af,af,af,af,af,some (0,2),some (0,2),some (0,2),none,none] rfl (by kernel_rfl) (by kernel_rfl) ?_
  refine zM rfl (zF rfl (AE _ _) (zL rfl (s.ld (k:=1) rfl dV rfl) (ax.op rfl rfl rfl (by simp only[isEff,bM]) (bO rfl (by exact gB bF bM (eB (by omega) (by omega)))) ?_)))
  refine ax.any rfl rfl rfl rfl (OpR.call rfl rfl rfl rfl (pz hT s (by omega) (by omega))) ?_
  intro v1 h s
  have s1:=s
  refine zF rfl (qH _ _) (zL rfl (s.ld (k:=1) rfl dV rfl) (ax.op rfl rfl rfl (by simp only[isEff,bM]) (bO rfl (by exact gB bF bM (eB (by omega) (by omega)))) ?_))
  refine ax.any rfl rfl rfl rfl (OpR.call rfl rfl rfl rfl (pz hT s (by omega) (by simp;omega))) ?_
  intro v2 h s
  refine zA rfl ?_
  refine ax.nil ⟨⟨aa,aa,aa,aa,aa,fun _ _=>.inr ⟨rfl,⟨_,g8 rfl (qH _ _)⟩,aB _ rfl⟩,dJ (.inr ⟨rfl,⟨_,aH rfl (s0.ld (k:=1) rfl dV rfl)⟩,aB _ rfl⟩) (.inr ⟨rfl,⟨_,aH rfl (s1.ld (k:=1) rfl dV rfl)⟩,aB _ rfl⟩),fun _ _=>.inr ⟨rfl,⟨_,bO rfl (by exact gB bF bM (eB (by omega) (by omega)))⟩,aB _ rfl⟩,aa,aa,aa⟩,?_⟩
  have uS:∀(h:H) (E:List (Nat×V)) (I:V),Sat h (bp I (l++jl ⟨pg,ps,wh,bb⟩)::.arr 4 ch cs::cP cs br::S)→Has E [(1,.ptr p1 0),(3,I),(37,ch),(38,.int .i64 br.length),(39,.int .i64 ((i:Int)+1))]→WP ⟨Tryz.prog,told⟩ 63 (.loop bdL) E h Q:=by
   intro h E I s hE
   refine ih (i+1) I _ h E Q (by omega) (by rw[bY,WE];omega) s hE (fun E' h' sv2 yc s'=>hx E' h' sv2 yc ?_)
   rw[dB] at s'
   exact s'
  have hlp:=gn 9 pg
  have hlq:=gn 9 ps
  refine zK 7 rfl (zf rfl (AF _ _) ?_)
  have GG:wh=false∨wh=true:=by cases wh<;>simp
  rcases GG with hw|hw
  ·skip
   refine zh rfl (aH rfl (s.ld (k:=1) rfl lK rfl)) (hw) (zk 3 rfl ?_)
   have s0:=s
   have uo:=eM (s.buf (k:=0) rfl).view
   refine WP.drawn [some (0,2),af,af,af,some (0,3),some (0,3),none,none] rfl (by kernel_rfl) (by kernel_rfl) ?_
   refine zM rfl (zM rfl (ax.any rfl rfl rfl rfl (OpR.Gj (n:=0) rfl s rfl rfl rfl (by decide)) ?_))
   intro v3 h s
   have s:=s.ae [1,1,0]
   dsimp only[bringA,getA,aK] at s
   have s1:=s
   refine ax.any rfl rfl rfl rfl (OpR.pS rfl (s.ae [0,1]) (aY _ _) rfl rfl rfl rfl (by simp;omega)) ?_
   intro v4 h s
   have s:=s.del 1
   dsimp only[aK,bringA] at s
   have s2:=s
   refine zF rfl (o9 _ _) (zL rfl (s.ld (k:=1) rfl b8 rfl) (ax.any rfl rfl rfl rfl (OpR.call rfl rfl rfl rfl (Eg hT (s.ae [0,1]) (eZ _ _) (by simp;omega))) ?_))
   intro v5 h s
   dsimp only[aK,bringA] at s
   refine zA rfl ?_
   refine ax.nil ⟨⟨fun _ _=>.inr ⟨rfl,⟨_,aS rfl⟩,uo⟩,aa,aa,aa,fun _ _=>.inr ⟨rfl,⟨_,g8 rfl (o9 _ _)⟩,aB _ rfl⟩,rG (.inr ⟨rfl,⟨_,aH rfl (s0.ld (k:=1) rfl b8 rfl)⟩,u3⟩) (.inr ⟨rfl,⟨_,aH rfl (s1.ld (k:=1) rfl b8 rfl)⟩,u3⟩) (.inr ⟨rfl,⟨_,aH rfl (s2.ld (k:=1) rfl b8 rfl)⟩,u3⟩),aa,aa,aa⟩,?_⟩
   refine zr rfl (zb rfl (by exact aW (az (by omega) (by omega))) ?_)
   refine zm rfl (zv ?_)
   refine uS _ _ v5 ?_ ?_
   ·rw[Rr,hw]
    have s:=(s.del 1).del 1
    dsimp only[aK] at s
    simpa[dB] using s
   ·exact⟨rfl,rfl,rfl,rfl,rfl,aa⟩
  ·skip
   refine zt rfl (aH rfl (s.ld (k:=1) rfl lK rfl)) (hw) (zk 5 rfl ?_)
   have s0:=s
   have uo:=eM (s.buf (k:=0) rfl).view
   refine WP.drawn [some (0,2),af,af,af,some (0,3),some (0,3),none,none] rfl (by kernel_rfl) (by kernel_rfl) ?_
   refine zM rfl (zM rfl (ax.any rfl rfl rfl rfl (OpR.Gj (n:=1) rfl s rfl rfl rfl (by decide)) ?_))
   intro v3 h s
   have s:=s.ae [1,1,0]
   dsimp only[bringA,getA,aK] at s
   have s1:=s
   refine ax.any rfl rfl rfl rfl (OpR.pS rfl (s.ae [0,1]) (aY _ _) rfl rfl rfl rfl (by simp;omega)) ?_
   intro v4 h s
   have s:=s.del 1
   dsimp only[aK,bringA] at s
   have s2:=s
   refine zF rfl (o9 _ _) (zL rfl (s.ld (k:=1) rfl b8 rfl) (ax.any rfl rfl rfl rfl (OpR.call rfl rfl rfl rfl (Eg hT (s.ae [0,1]) (eZ _ _) (by simp;omega))) ?_))
   intro v5 h s
   dsimp only[aK,bringA] at s
   refine zA rfl ?_
   refine ax.nil ⟨⟨fun _ _=>.inr ⟨rfl,⟨_,aS rfl⟩,uo⟩,aa,aa,aa,fun _ _=>.inr ⟨rfl,⟨_,g8 rfl (o9 _ _)⟩,aB _ rfl⟩,rG (.inr ⟨rfl,⟨_,aH rfl (s0.ld (k:=1) rfl b8 rfl)⟩,u3⟩) (.inr ⟨rfl,⟨_,aH rfl (s1.ld (k:=1) rfl b8 rfl)⟩,u3⟩) (.inr ⟨rfl,⟨_,aH rfl (s2.ld (k:=1) rfl b8 rfl)⟩,u3⟩),aa,aa,aa⟩,?_⟩
   refine zr rfl (zb rfl (by exact aW (az (by omega) (by omega))) ?_)
   refine zm rfl (zv ?_)
   refine uS _ _ v5 ?_ ?_
   ·rw[Rr,hw]
    have s:=(s.del 1).del 1
    dsimp only[aK] at s
    simpa[dB] using s
   ·exact⟨rfl,rfl,rfl,rfl,rfl,aa⟩
theorem Rs (J:W told){kd:Nat}{ch:V}(s:Sat h (X::.arr 4 ch cs::cP cs br::S))(hX:cD X (cE dt data))(hg:dN kd br=true)(I:vY br)
 (qi:tx<18446744073709551616)(r_:pv<18446744073709551616)(nQ:nx<18446744073709551616)(hlen:data.length+(br.flatMap jl).length≤70368744177664):
  Call ⟨Tryz.prog,told⟩ 212 [.agg (dK kd tx pv nx dt ch)] h fun r h'=>Sat h' (bp r (cI kd tx pv nx data br)::X::.arr 4 ch cs::cP cs br::S):=by
 have oo:=s.jk (j:=1) rfl
 have iJ:=s.aI (k:=0) rfl hX
 have G4:=eM iJ
 have fW:=lF (kd:=kd) (tx:=tx) (pv:=pv) (nx:=nx) iJ.cells.2 oo.2.1
 have hk:1≤kd∧kd≤9:=by simp[dN] at hg;omega
 have jD:∀c∈br,c.Ok:=by
  simp only[dN,bK,vp,gD] at hg
  exact hg.2
 have hm:=I.1
 have h1:=gn 9 tx
 have h2:=gn 9 pv
 have h3:=gn 9 nx
 have h4:=gn 9 data.length
 have h5:=gn 9 br.length
 refine Call.of_wp (J.free _ rfl) Tryz.func212 rfl rfl (zg rfl (au.bP s rfl rfl rfl (dG rfl fW) ?_))
 intro p1 h s
 dsimp only[V.cells] at s
 refine zk 4 rfl (zY s 0 oW dV rfl (zo rfl (bO rfl (by exact gB bF Tryz.underlying5 (vS (by omega) (by omega)))) ?_))
 refine au.any rfl rfl rfl (OpR.Gj (n:=kd) rfl s rfl rfl rfl (by omega)) ?_
 intro v3 h s
 refine zk 5 rfl (zY s 1 D3 cS rfl (zY s 1 D4 cS rfl (zY s 1 Kl cS rfl (zo rfl (cx rfl (by rw[ZQ];rfl)) ?_))))
 refine zk 2 rfl (WP.block (WP.loop (zg rfl (zB rfl aT (by decide) ?_))))
 refine zk 5 rfl (WP.block (zg rfl (zo rfl (yx rfl rfl (r:=.int .u64 (tx:Int)) (by simp only[indexV,Hl,mS,ow,cS];rfl)) ?_)))
 refine zk 5 rfl (zc rfl (pz J s (by omega) (by simp only[bY,bn,cr];omega)) ?_)
 intro v3 h s
 refine za rfl (zv (zr rfl (zb rfl (by exact aW (az (by omega) (by omega))) ?_)))
 refine zm rfl (zv (WP.loop (zg rfl (zt rfl (aq rfl rfl aT) (by decide) ?_))))
 refine zk 5 rfl (WP.block (zg rfl (zo rfl (yx rfl rfl (r:=.int .u64 (pv:Int)) (by simp only[indexV,Hl,mS,ow,cS];rfl)) ?_)))
 refine zk 5 rfl (zc rfl (pz J s (by omega) (by simp only[bY,bn,cr];omega)) ?_)
 intro v3 h s
 refine za rfl (zv (zr rfl (zb rfl (by exact aW (az (by omega) (by omega))) ?_)))
 refine zm rfl (zv (WP.loop (zg rfl (zt rfl (aq rfl rfl aT) (by decide) ?_))))
 refine zk 5 rfl (WP.block (zg rfl (zo rfl (yx rfl rfl (r:=.int .u64 (nx:Int)) (by simp only[indexV,Hl,mS,ow,cS];rfl)) ?_)))
 refine zk 5 rfl (zc rfl (pz J s (by omega) (by simp only[bY,bn,cr];omega)) ?_)
 intro v3 h s
 refine za rfl (zv (zr rfl (zb rfl (by exact aW (az (by omega) (by omega))) ?_)))
 refine zm rfl (zv (WP.loop (zg rfl (zh rfl (aq rfl rfl aT) (by decide) ?_))))
 refine zk 3 rfl (WP.exit (zw ?_))
 have s0:=s
 have r7:=eM (s.buf (k:=0) rfl).view
 refine WP.drawn [af,af,af,af,some (0,2),some (0,2),some (0,2),some (0,2),none,none] rfl (by kernel_rfl) (by kernel_rfl) ?_
 refine zM rfl (zF rfl (Ar _ _) (zL rfl (s.ld (k:=1) rfl b8 rfl) (ax.any rfl rfl rfl rfl (OpR.call rfl rfl rfl rfl (Eg J (s.ae [0,1]) hX (by simp only[bY,bn,cr];omega))) ?_)))
 intro v4 h s
 have s:=s.ae [0,1,0]
 have s1:=s
 refine zF rfl (ja _ _) (zL rfl (s.ld (k:=1) rfl pO rfl) (zO rfl (a_ rfl rfl rfl (s.yK (j1:=3) (j2:=4) rfl rfl hG)) (ax.op rfl rfl rfl (by simp only[isEff,bM]) (bO rfl (by exact gB bF bM (eB (by omega) (by omega)))) ?_)))
 refine ax.any rfl rfl rfl rfl (OpR.call rfl rfl rfl rfl (pz J s (by omega) (by simp only[bY,bn,cr];omega))) ?_
 intro v5 h s
 refine zA rfl ?_
 refine ax.nil ⟨⟨aa,aa,aa,aa,fun _ _=>.inr ⟨rfl,⟨_,g8 rfl (ja _ _)⟩,aB _ rfl⟩,dJ (.inr ⟨rfl,⟨_,aH rfl (s0.ld (k:=1) rfl pO rfl)⟩,oo.2.2⟩) (.inr ⟨rfl,⟨_,aH rfl (s1.ld (k:=1) rfl pO rfl)⟩,oo.2.2⟩),dJ (.inr ⟨rfl,⟨_,a_ rfl rfl rfl (s0.yK (j1:=3) (j2:=4) rfl rfl hG)⟩,aB _ rfl⟩) (.inr ⟨rfl,⟨_,a_ rfl rfl rfl (s1.yK (j1:=3) (j2:=4) rfl rfl hG)⟩,aB _ rfl⟩),fun _ _=>.inr ⟨rfl,⟨_,bO rfl (by exact gB bF bM (eB (by omega) (by omega)))⟩,aB _ rfl⟩,aa,aa,aa⟩,?_⟩
 refine zK 3 rfl (zY s 1 ja pO rfl (zo rfl (a_ rfl rfl rfl (s.yK (j1:=3) (j2:=4) rfl rfl hG)) (zk 2 rfl (WP.block ?_))))
 have s:=s.ae [0,2,2,1]
 refine OI J jD I br.length 0 v5 _ _ _ _ (by omega) (by rw[gE];simp only[bY,bn,cr];omega) s ⟨rfl,rfl,rfl,rfl,rfl,aa⟩ (fun E' h' XN eS s' => ?_)
 refine WP.has (F:=[(3,XN)]) ⟨eS,aa⟩ (zK 5 rfl (WP.ret ⟨aa,_,rfl,?_⟩))
 have s'':=(s'.ae [0,2,0,0]).del 4
 dsimp only[List.cons_append,List.nil_append,List.drop,aK,bringA,getA] at s''
 simpa[cI,dB] using s''
end
def kR (aD:Nat)(b:List Nat): List Nat:=le 4 b.length++le 4 (sG aD b)++b
theorem jY (aD:Nat)(b:List Nat): (kR aD b).length=8+b.length:=by simp[kR,cq];omega
theorem Bz : ∃i,Tryz.prog.info? 3=some i∧i.size=1∧i.bytes=8 :=
 ⟨_,(show Tryz.prog.info? 3=some ((Tryz.prog.info? 3).getD default) by kernel_rfl),by kernel_rfl,by kernel_rfl⟩
section
variable {told:cC} {p:Nat} {v w:V} {m:List Nat}
theorem Fp (I:W told)(s:Sat h S)(J:getA S k=some X)(hX:cD X (cE v l))(hl:l.length≤4611686018427387904):
  Call ⟨Tryz.prog,told⟩ 190 [.int .u64 (n:Int),v] h fun r h'=>r=.int .u32 (sG n l:Nat)∧Sat h' S :=
 (Ot I.TN s.wf (s.aI J hX) hl).mono fun _ _ ⟨h1,h2⟩=>⟨h1,s.jP h2⟩
structure CN (tx pv nx:Nat)(data:List Nat)(br:List cO): Prop where
 fit:vY br
 tx:tx<18446744073709551616
 pv:pv<18446744073709551616
 nx:nx<18446744073709551616
 len:data.length+(br.flatMap jl).length≤70368744177664
theorem Fq (J:W told){kd:Int}{ch:V}(s:Sat h (X::.arr 4 ch cs::cP cs br::S))(hX:cD X (cE dt data))(I:CN tx pv nx data br):
  Call ⟨Tryz.prog,told⟩ 163 [.agg (dK kd tx pv nx dt ch),.int .u64 (aD:Int)] h fun r h' =>
  (dN kd br=false∧r=.aO [.aV,.int .i64 1]∧Sat h' (X::.arr 4 ch cs::cP cs br::S)) ∨
  (dN kd br=true∧1048576<(cI kd tx pv nx data br).length∧r=.aO [.aV,.int .i64 2]∧Sat h' (X::.arr 4 ch cs::cP cs br::S)) ∨
  (dN kd br=true∧(cI kd tx pv nx data br).length≤1048576∧∃u,r=.aO [u,.int .i64 0]∧Sat h' (bp u (kR aD (cI kd tx pv nx data br))::X::.arr 4 ch cs::cP cs br::S)):=by
 have oo:=s.jk (j:=1) rfl
 have iJ:=s.aI (k:=0) rfl hX
 have fW:=lF (kd:=kd) (tx:=tx) (pv:=pv) (nx:=nx) iJ.cells.2 oo.2.1
 refine Call.of_wp (J.free _ rfl) Tryz.func163 rfl rfl (zg rfl (au.bP s rfl rfl rfl (dG rfl fW) ?_))
 intro p1 h s
 dsimp only[V.cells] at s
 refine zk 6 rfl (zl rfl (s.cK (k:=0) rfl ju fe) (zc rfl (HC J (s.ae [2,2]) iJ.cells.2 I.fit) ?_))
 rintro r h' ⟨rfl,s⟩
 cases hg:dN kd br with
 |false =>
  exact zo rfl (dM rfl rfl) (zk 7 rfl (WP.ret ⟨aa,_,rfl,.inl ⟨rfl,rfl,(s.ae [3,0,0]).del 3⟩⟩))
 |true =>
  refine zo rfl (dM rfl rfl) (zk 5 rfl (zl rfl (s.cK (k:=2) rfl ju fe) ?_))
  have hk:∃n:Nat,kd=n:=⟨kd.toNat,by simp[dN] at hg;omega⟩
  obtain⟨kd,rfl⟩:=hk
  refine zc rfl (Rs J (s.ae [3,0,0]) hX hg I.fit I.tx I.pv I.nx I.len) ?_
  intro u h s
  dsimp only[bringA,getA,aK] at s
  have ux:(cI kd tx pv nx data br).length<9223372036854775808:=by
   have h1:=gn 9 tx
   have h2:=gn 9 pv
   have h3:=gn 9 nx
   have h4:=gn 9 data.length
   have h5:=gn 9 br.length
   have h6:=I.len
   simp only[cI,bY,bn,cr]
   omega
  generalize Ts:cI kd tx pv nx data br=bd at s ux ⊢
  refine zk 6 rfl (zo rfl (a_ rfl rfl rfl (bA aN (s.aI (k:=0) rfl (aY _ _)))) ?_)
  by_cases Ru:1048576<bd.length
  ·skip
   refine zB rfl er (by simp;omega) ?_
   exact zk 7 rfl (WP.ret ⟨aa,_,rfl,.inr (.inl ⟨rfl,Ru,rfl,(s.del 4).del 0⟩)⟩)
  ·skip
   refine zC rfl er (by simp;omega) ?_
   refine zk 6 rfl (zo rfl (a_ rfl rfl rfl (bA aN (s.aI (k:=0) rfl (aY _ _)))) (zb rfl (by exact aW (az (by omega) (by omega))) ?_))
   refine au.any rfl rfl rfl (OpR.tI (c:=8+bd.length) rfl s rfl rfl rfl rfl (by omega)) ?_
   intro v h s
   refine zm rfl (zo rfl (a_ rfl rfl rfl (bA aN (s.aI (k:=1) rfl (aY _ _)))) (zo rfl (bO rfl (by exact gB bF bM (eB (by omega) (by omega)))) ?_))
   refine zc rfl (oh (z:=4) J s (by decide) (by simp)) ?_
   intro v h s
   have cJ:=(s.buf (k:=1) rfl).1
   refine zk 7 rfl (zc rfl (Fp (n:=aD) J s (k:=1) rfl (aY _ _) (by omega)) ?_)
   rintro r h ⟨rfl,s⟩
   have jT:=Hq (aD:=aD) cJ
   refine zo rfl (bO rfl (by exact gB Tryz.underlying285 bM (eB (by omega) (by omega)))) ?_
   refine zc rfl (oh (z:=4) J s (by decide) (by simp[cq])) ?_
   intro v h s
   refine zk 6 rfl (au.any rfl rfl rfl (OpR.pS rfl s (aY _ _) rfl rfl rfl rfl (by simp only[bY,cq,cr];omega)) ?_)
   intro v h s
   refine zk 3 rfl (WP.ret ⟨aa,_,rfl,?_⟩)
   refine .inr (.inr ⟨rfl,by omega,v,rfl,?_⟩)
   have s:=(s.del 5).del 1
   dsimp only[aK] at s
   simpa[kR,dB] using s
def Lg.app (μ:Lg)(b:List Nat): Lg:={ μ with b:=μ.b++b,bh:=μ.bh++[μ.b.length] }
theorem Me (hT:W told){kd:Int}{ch:V}(s:Sat h (bx q p μ::aJ p δ::X::.arr 4 ch cs::cP cs br::S))(hX:cD X (cE dt data))(fu:CN tx pv nx data br)
 (J:μ.Ok)(hf:δ.aU<4294967296)(hl:δ.log.length≤16777216)(hr:δ.room≤16777216):
  Call ⟨Tryz.prog,told⟩ 104 [.ptr q 0,.agg (dK kd tx pv nx dt ch)] h fun r h' =>
  (∃e:Int,r=.aO [.int .u64 0,.int .i64 e]∧((dN kd br=false∧e=1)∨(dN kd br=true∧1048576<(cI kd tx pv nx data br).length∧e=2)∨(dN kd br=true∧(cI kd tx pv nx data br).length≤1048576∧δ.dead=true∧e=9) ∨
    (dN kd br=true∧(cI kd tx pv nx data br).length≤1048576∧δ.dead=false∧δ.room<δ.log.length+(kR (μ.base+μ.b.length) (cI kd tx pv nx data br)).length∧e=7))∧Sat h' (bx q p μ::aJ p δ::X::.arr 4 ch cs::cP cs br::S)) ∨
  (dN kd br=true∧(cI kd tx pv nx data br).length≤1048576∧δ.dead=false∧δ.log.length+(kR (μ.base+μ.b.length) (cI kd tx pv nx data br)).length≤δ.room∧δ.aU=0∧r=.aO [.int .u64 0,.int .i64 9] ∧
   Sat h' (bx q p μ::aJ p { δ.die with tail:=kR (μ.base+μ.b.length) (cI kd tx pv nx data br) }::X::.arr 4 ch cs::cP cs br::S)) ∨
  (dN kd br=true∧(cI kd tx pv nx data br).length≤1048576∧δ.dead=false∧δ.log.length+(kR (μ.base+μ.b.length) (cI kd tx pv nx data br)).length≤δ.room∧δ.aU≠0∧r=.aO [.int .u64 ((μ.base+μ.b.length:Nat):Int),.int .i64 0] ∧
   Sat h' (bx q p (μ.app (kR (μ.base+μ.b.length) (cI kd tx pv nx data br)))::aJ p { δ.dc with log:=δ.log++kR (μ.base+μ.b.length) (cI kd tx pv nx data br) }::X::.arr 4 ch cs::cP cs br::S)):=by
 have oo:=s.jk (j:=3) rfl
 have iJ:=s.aI (k:=2) rfl hX
 have fW:=lF (kd:=kd) (tx:=tx) (pv:=pv) (nx:=nx) iJ.cells.2 oo.2.1
 have wY:=J.size
 refine Call.of_wp (hT.free _ rfl) Tryz.func104 rfl rfl (zg rfl (au.bP s rfl rfl rfl (dG rfl fW) ?_))
 intro p1 h s
 dsimp only[V.cells] at s
 have s:=s.ae [1,0]
 refine zk 6 rfl (zc rfl (nG hT s J.size) ?_)
 rintro v h' ⟨rfl,rfl⟩
 refine zk 4 rfl (zl rfl (s.cK (k:=1) rfl ju fe) (zm rfl (zc rfl (Fq (aD:=μ.base+μ.b.length) hT (s.ae [3,3,3]) hX fu) ?_)))
 generalize XO:kR (μ.base+μ.b.length) (cI kd tx pv nx data br)=rc
 have tO:rc.length=8+(cI kd tx pv nx data br).length:=by rw[←XO,jY]
 rintro r h' (⟨hg,rfl,s⟩|⟨hg,Ru,rfl,s⟩|⟨hg,CO,u,rfl,s⟩)
 ·dsimp only[bringA,getA,aK] at s
  exact zk 10 rfl (zB rfl aA (rfl) (zk 8 rfl (WP.ret ⟨aa,_,rfl,.inl ⟨1,rfl,.inl ⟨hg,rfl⟩,(s.ae [3,4,0,0,0]).del 5⟩⟩)))
 ·dsimp only[bringA,getA,aK] at s
  exact zk 10 rfl (zB rfl aA (rfl) (zk 8 rfl (WP.ret ⟨aa,_,rfl,.inl ⟨2,rfl,.inr (.inl ⟨hg,Ru,rfl⟩),(s.ae [3,4,0,0,0]).del 5⟩⟩)))
 ·dsimp only[bringA,getA,aK] at s
  have cJ:=(s.buf (k:=0) rfl).1
  obtain⟨lM,_,cap,_,rfl,_⟩:=s.fF (by omega)
  obtain⟨bv,sv,s⟩:=dm.1 (s.ae [4])
  refine zk 10 rfl (zC rfl aA (rfl) (zk 8 rfl (zY s 0 oY jt rfl (zm rfl ?_))))
  have s:=s.ae [8,3]
  refine zc rfl (L9 hT s (aY _ _) (by omega) hf (by omega) (by omega)) ?_
  rintro r h (⟨hd,rfl,s⟩|⟨hd,ab6,rfl,s⟩|⟨hd,I,h0,rfl,s⟩|⟨hd,I,h0,rfl,s⟩)
  ·refine au.op rfl rfl rfl (eU rfl) ?_
   exact zk 4 rfl (zB rfl aA (rfl) (zk 8 rfl (WP.ret ⟨aa,_,rfl,.inl ⟨9,rfl,.inr (.inr (.inl ⟨hg,CO,hd,rfl⟩)),(dm.2 ⟨bv,sv,((s.ae [2,2,2,0,1,1,1]).del 8).del 7⟩)⟩⟩)))
  ·skip
   exact zk 5 rfl (zB rfl aA (rfl) (zk 8 rfl (WP.ret ⟨aa,_,rfl,.inl ⟨7,rfl,.inr (.inr (.inr ⟨hg,CO,hd,by omega,rfl⟩)),(dm.2 ⟨bv,sv,((s.ae [2,2,2,0,1,1,1]).del 8).del 7⟩)⟩⟩)))
  ·skip
   exact zk 5 rfl (zB rfl aA (rfl) (zk 8 rfl (WP.ret ⟨aa,_,rfl,.inr (.inl ⟨hg,CO,hd,I,h0,rfl,(dm.2 ⟨bv,sv,((s.ae [2,2,2,0,1,1,1]).del 8).del 7⟩)⟩)⟩)))
  ·skip
   have s:=s.ae [2,2,2,1,0,0,0,0]
   refine zk 5 rfl (zC rfl aA (rfl) (zk 4 rfl ?_))
   have s0:=s
   have XC:=eM (s.buf (k:=1) rfl).view
   have yL:=(s.jk (j:=2) rfl).2.2
   refine WP.drawn [some (0,3),some (0,2),some (0,2),some (0,2),some (0,2),af,af,af,af,af,af,af,af,af,af] rfl (by kernel_rfl) (by kernel_rfl) ?_
   refine zM rfl (zM rfl (zN rfl (zF rfl (jc _ _) (zL rfl (s.ld (k:=0) rfl ny rfl) (zM rfl (zN rfl (zF rfl (jb _ _) (zL rfl (s.ld (k:=0) rfl b8 rfl) (zO rfl (a_ rfl rfl rfl (bA aN (s.aI (k:=1) rfl (aY _ _)))) ?_)))))))))
   obtain⟨i1,jX,jd,tK⟩:=Bz
   obtain⟨iv,h1,e1,s1⟩:=kj (P:=Tryz.prog) (k:=1) (x:=.int .i64 (μ.b.length:Int)) s dW Kk j6 rfl (by decide) (by decide) rfl rfl
   dsimp only[V.cells] at s1
   refine ax.any rfl rfl rfl rfl (OpR.of (R:=fun v h'=>v=iv∧h'=h1) (mC rfl e1) ⟨rfl,rfl⟩) ?_
   rintro v h' ⟨rfl,rfl⟩
   have wX:=J.many
   obtain⟨XN,h2,e2,s2⟩:=g_ (s1.ae [3,0]) dW jX Kk jd (by omega) rfl (by decide) (by simp only[kG,bn,cr];omega)
   refine ax.any rfl rfl rfl rfl (OpR.of (R:=fun v h'=>v=XN∧h'=h2) (ox rfl rfl e2) ⟨rfl,rfl⟩) ?_
   rintro v h' ⟨rfl,rfl⟩
   have hv:=s2.jk (j:=0) rfl
   refine zN rfl (zF rfl (jc _ _) (ax.gY rfl rfl rfl (OpR.rH rfl rfl rfl (s2.dO (k:=2) rfl TF rfl (by decide) hv.1 hv.2.1)) ?_))
   rintro v h ⟨rfl,s⟩
   refine ax.nil ⟨⟨fun _ _=>.inr ⟨rfl,⟨_,aS rfl⟩,aB _ rfl⟩,fun _ _=>.inr ⟨rfl,⟨_,aS rfl⟩,aB _ rfl⟩,fun _ _=>.inr ⟨rfl,⟨_,iL rfl⟩,aB _ rfl⟩,fun _ _=>.inr ⟨rfl,⟨_,g8 rfl (jc _ _)⟩,aB _ rfl⟩,dJ (.inr ⟨rfl,⟨_,aH rfl (s0.ld (k:=0) rfl ny rfl)⟩,yL⟩) (.inr ⟨rfl,⟨_,aH rfl (s1.ld (k:=1) rfl ny rfl)⟩,yL⟩),aa,aa,aa,aa,aa,aa,aa,aa,aa,aa,aa⟩,?_⟩
   refine zK 5 rfl (zY s 2 jb b8 rfl (zm rfl (au.any rfl rfl rfl (OpR.pS rfl (s.ae [3,3]) (aY _ _) rfl rfl rfl rfl (by have:=J.len;omega)) ?_)))
   intro bv' h s
   have hv:=(s.buf (k:=0) rfl).view.cells
   refine zn rfl (zf rfl (jb _ _) (zS rfl (s.dO (k:=4) rfl iF rfl (by decide) hv.1 hv.2) ?_))
   intro h s
   refine zk 7 rfl (WP.ret ⟨aa,_,rfl,?_⟩)
   refine .inr (.inr ⟨hg,CO,hd,I,h0,rfl,dm.2 ⟨bv',v,?_⟩⟩)
   have s:=(((s.ae [4,0,1]).del 4).del 3).del 7
   have e:je (μ.app rc).bh=je μ.bh++[.int .i64 (μ.b.length:Int)]:=by simp[Lg.app,je]
   rw[e]
   exact s
end
def Dk.fP (δ:Dk): Int×Dk:=if δ.dead=true then(9,δ) else if δ.aU=0 then(9,δ.die) else(0,{ δ.dc with bL:=δ.log.length })
def Dk.dx (δ:Dk)(n:Int)(b:List Nat): Int×Dk:=if δ.dead=true then(9,δ) else if ¬(0≤n∧n<δ.aM.length∧b.length=512) then(1,δ) else
 if δ.aU=0 then(9,{ δ.die with qN:=some (n.toNat,b) }) else(0,δ.wr n b)
def Dk.pU (δ:Dk)(b:List Nat): Int×Dk:=if δ.dead=true then(9,δ) else if 64<b.length then(1,δ) else if δ.aU=0 then(9,δ.die) else(0,{ δ.dc with mark:=b })
def Dk.qO (δ:Dk)(b:List Nat): Int×Dk:=if δ.dead=true then(9,δ) else if δ.room<δ.log.length+b.length then(7,δ) else if δ.aU=0 then(9,{ δ.die with tail:=b }) else(0,{ δ.dc with log:=δ.log++b })
def Dk.mY (δ:Dk)(n:Int)(b:List Nat): Int×Dk:=if δ.dead=true then(9,δ) else if ¬(0≤n∧n≤δ.bL∧b.length≤64) then(1,δ) else if δ.aU=0 then(9,δ.die) else
 (0,{ δ.dc with log:=δ.log.drop n.toNat,bL:=δ.bL-n.toNat,mark:=b })
def Dk.q_ (δ:Dk)(n:Int): Int:=if δ.dead=true then 9 else if ¬(0≤n∧n<δ.aM.length) then 1 else 0
structure Dk.Ok (δ:Dk): Prop where
 aU:δ.aU<4294967296
 len:δ.log.length≤16777216
 room:δ.room≤16777216
 now:∀e∈δ.now,e.2.length=512
 aM:∀(i:Nat) (b:List Nat),δ.aM[i]?=some (some b)→b.length=512
 bL:δ.bL≤δ.log.length
 many:δ.aM.length≤65536
theorem Dk.Ok.dc (h:δ.Ok): δ.dc.Ok:=⟨by have:=h.aU;simp only[Dk.dc];split<;>omega,h.len,h.room,h.now,h.aM,h.bL,h.many⟩
theorem Dk.Ok.die (h:δ.Ok): δ.die.Ok:=⟨h.aU,h.len,h.room,h.now,h.aM,h.bL,h.many⟩
theorem Dk.Ok.fP (h:δ.Ok): δ.fP.2.Ok:=by
 unfold Dk.fP
 split
 ·exact h
 ·split
  ·exact h.die
  ·exact⟨h.dc.aU,h.len,h.room,h.now,h.aM,aQ _,h.many⟩
theorem jE {n:Int}{x:α}: ∀ {l:List (Int×α)},lookL n l=some x→(n,x)∈l:=by
 intro l
 induction l<;>grind[lookL]
theorem Dk.Ok.at (I:δ.Ok)(n:Int): (δ.at n).length=512:=by
 unfold Dk.at
 cases J:lookL n δ.now with
 |some b=>exact I.now _ (jE J)
 |none =>
  cases h2:δ.aM[n.toNat]? with
  |none=>grind
  |some o =>
   cases o with
   |none=>grind
   |some b=>exact I.aM _ _ h2
section
variable {told:cC} {p:Nat} {v:V}
theorem UZ (I:W told){n:Int}(s:Sat h (aJ p δ::X::S))(J:cD X (cE x b))(hb:b.length<1073741824)(hf:δ.aU<4294967296)(hw:δ.waiting.length≤268435456):
  Call ⟨Tryz.prog,told⟩ 133 [.ptr p 0,.int .i64 n,x] h fun v h'=>v=.int .i64 (δ.dx n b).1∧Sat h' (aJ p (δ.dx n b).2::X::S):=by
 refine(Ow I s J hb hf hw).mono fun v h' hr => ?_
 grind[Dk.dx]
theorem OJ (J:W told){n:Int}(s:Sat h (aJ p δ::S))(I:δ.Ok): Call ⟨Tryz.prog,told⟩ 167 [.ptr p 0,.int .i64 n] h fun v h' =>
  (δ.q_ n≠0∧v=.aO [.aV,.int .i64 (δ.q_ n)]∧Sat h' (aJ p δ::S))∨(δ.q_ n=0∧∃u,v=.aO [u,.int .i64 0]∧Sat h' (bp u (δ.at n)::aJ p δ::S)):=by
 refine(Rk J s (I.at n)).mono fun v h' hr => ?_
 grind[Dk.q_]
end
abbrev LD := Lg×Dk
def bG (x:LD)(n:Nat): Int×LD:=if n<x.1.base+x.1.forced then(0,x) else if x.2.fP.1≠0 then(x.2.fP.1,(x.1,x.2.fP.2)) else(0,({ x.1 with forced:=x.1.b.length },x.2.fP.2))
def iu (x:LD)(n:Nat): Int×LD:=if ¬(x.1.hasB n=true∧n<x.1.base+x.1.forced) then(1,x) else if (x.2.pU (eC x.1.base n)).1≠0 then((x.2.pU (eC x.1.base n)).1,(x.1,(x.2.pU (eC x.1.base n)).2)) else
 (0,({ x.1 with check:=n },(x.2.pU (eC x.1.base n)).2))
def dF (μ:Lg)(kd:Int)(tx pv nx:Nat)(data:List Nat)(br:List cO): List Nat:=kR (μ.base+μ.b.length) (cI kd tx pv nx data br)
def bk (x:LD)(kd:Int)(tx pv nx:Nat)(data:List Nat)(br:List cO): (Nat×Int)×LD :=
 if dN kd br=false then((0,1),x) else if 1048576<(cI kd tx pv nx data br).length then((0,2),x) else
 if (x.2.qO (dF x.1 kd tx pv nx data br)).1≠0 then((0,(x.2.qO (dF x.1 kd tx pv nx data br)).1),(x.1,(x.2.qO (dF x.1 kd tx pv nx data br)).2)) else
 ((x.1.base+x.1.b.length,0),(x.1.app (dF x.1 kd tx pv nx data br),(x.2.qO (dF x.1 kd tx pv nx data br)).2))
theorem Jt : δ.fP.2.waiting=δ.waiting:=by
 unfold Dk.fP
 split
 ·rfl
 ·split<;>rfl
theorem mZ {x:LD}: (bG x n).2.2.waiting=x.2.waiting:=by
 grind[bG,Jt]
theorem Dk.Ok.dx {n:Int}(h:δ.Ok): (δ.dx n b).2.Ok:=by
 unfold Dk.dx
 split
 ·exact h
 ·split
  ·exact h
  ·split
   ·exact⟨h.aU,h.len,h.room,h.now,h.aM,h.bL,h.many⟩
   ·refine⟨h.dc.aU,h.len,h.room,fun e he => ?_,h.aM,h.bL,h.many⟩
    have:∀l:List (Int×List Nat),(∀e∈l,e.2.length=512)→∀e∈cW n b l,e.2.length=512:=by
     intro l
     induction l<;>grind[cW]
    exact this δ.now h.now e he
theorem nH {x:LD}(h:x.2.Ok): (bG x n).2.2.Ok:=by
 unfold bG
 split
 ·exact h
 ·split
  ·exact h.fP
  ·exact h.fP
theorem Lg.Ok.U0 (h:μ.Ok): ({ μ with forced:=μ.b.length }:Lg).Ok:=⟨h.size,h.many,h.low,h.wW,aQ _,h.len,h.check⟩
theorem uT {x:LD}(h:x.1.Ok): (bG x n).2.1.Ok:=by
 unfold bG
 split
 ·exact h
 ·split
  ·exact h
  ·exact h.U0
section
variable {told:cC} {p:Nat} {v:V}
theorem Eh (J:W told)(s:Sat h (bx q p μ::aJ p δ::S))(I:μ.Ok)(hf:δ.aU<4294967296): Call ⟨Tryz.prog,told⟩ 93 [.ptr q 0,.int .u64 (n:Int)] h fun v h' =>
  v=.int .i64 (bG (μ,δ) n).1∧Sat h' (bx q p (bG (μ,δ) n).2.1::aJ p (bG (μ,δ) n).2.2::S):=by
 refine(OE J s I hf).mono fun v h' hr => ?_
 grind[bG,Dk.fP]
theorem U1 (J:W told)(s:Sat h (bx q p μ::aJ p δ::S))(I:μ.Ok)(hf:δ.aU<4294967296)(hn:n<18446744073709551616): Call ⟨Tryz.prog,told⟩ 112 [.ptr q 0,.int .u64 (n:Int)] h fun v h' =>
  v=.int .i64 (iu (μ,δ) n).1∧Sat h' (bx q p (iu (μ,δ) n).2.1::aJ p (iu (μ,δ) n).2.2::S):=by
 refine(OF J s I hf hn).mono fun v h' hr => ?_
 grind[pq,iu,Dk.pU]
theorem HD (hT:W told){kd:Int}{ch:V}(s:Sat h (bx q p μ::aJ p δ::X::.arr 4 ch cs::cP cs br::S))(hX:cD X (cE dt data))(J:CN tx pv nx data br)(CP:μ.Ok)(I:δ.Ok):
  Call ⟨Tryz.prog,told⟩ 104 [.ptr q 0,.agg (dK kd tx pv nx dt ch)] h fun r h' =>
  r=.aO [.int .u64 ((bk (μ,δ) kd tx pv nx data br).1.1:Nat),.int .i64 (bk (μ,δ) kd tx pv nx data br).1.2] ∧
  Sat h' (bx q p (bk (μ,δ) kd tx pv nx data br).2.1::aJ p (bk (μ,δ) kd tx pv nx data br).2.2::X::.arr 4 ch cs::cP cs br::S):=by
 refine(Me hT s hX J CP I.aU I.len I.room).mono fun v h' hr => ?_
 grind[bk,Dk.qO,dF]
end
structure Fm where
 bj:Int
 b:List Nat
 pins:Int
 fA:Bool
 changed:Bool
variable {f:Fm}
structure Pl where
 ag:List Fm
 aF:List (Int×Int)
 bu:List (Int×(Nat×Bool))
 hand:Nat
variable {π:Pl}
def fR (f:Fm)(v:V): List V:=[.int .i64 f.bj,v,.int .i64 f.pins,.bool f.fA,.bool f.changed]
def tP : List V→List Fm→aP
 |[],[]=>.pu True
 |a::v::c::d::e::l,x::m=>.an (.an (.pu (a=.int .i64 x.bj∧c=.int .i64 x.pins∧d=.bool x.fA∧e=.bool x.changed)) (.c9 v x.b)) (tP l m)
 |_,_=>.pu False
theorem bC.fm : ∀(m:List Fm) (l:List V),bC (tP l m):=by
 intro m
 induction m with
 |nil=>intro l;rcases l with _|⟨a,_|⟨b,_|⟨c,_|⟨d,_|⟨e,l⟩⟩⟩⟩⟩<;>exact bC.pu _
 |cons x m I=>intro l;rcases l with _|⟨a,_|⟨b,_|⟨c,_|⟨d,_|⟨e,l⟩⟩⟩⟩⟩<;>first|exact bC.pu _|exact bC.an (bC.an (bC.pu _) (bC.c9 _ _)) (I l)
theorem yM {a b:PM}: ∀ {m:List Fm} {l:List V} {i:Nat} {f:Fm},(tP l m).p a b→m[i]?=some f→∃pre v post,l=pre++(fR f v++post)∧pre.length=i*5∧(aP.c9 v f.b).p a b ∧
  (∀(f':Fm) (v':V) (I J:PM),(aP.c9 v' f'.b).p I J→PM.le a I→PM.le b J→(tP (pre++(fR f' v'++post)) (m.set i f')).p I J):=by
 intro m
 induction m with
 |nil=>intro l i f h hc;simp at hc
 |cons x m ih =>
  intro l i f h hc
  rcases l with _|⟨p,_|⟨q,_|⟨w,_|⟨d,_|⟨e,l⟩⟩⟩⟩⟩<;>first|exact h.elim|skip
  obtain⟨⟨⟨h1,h2,h3,h4⟩,h5⟩,h6⟩:=h
  cases i with
  |zero =>
   simp at hc
   subst hc
   refine⟨[],q,l,?_,rfl,h5,fun f' v' I J hv ha hb=>⟨⟨⟨rfl,rfl,rfl,rfl⟩,hv⟩,(tP l m).mono _ _ _ _ ha hb h6⟩⟩
   rw[h1,h2,h3,h4];rfl
  |succ i =>
   simp at hc
   obtain⟨pre,v,post,e1,e2,e3,e4⟩:=ih h6 hc
   refine⟨p::q::w::d::e::pre,v,post,?_,?_,e3,fun f' v' I J hv ha hb=>⟨⟨⟨h1,h2,h3,h4⟩,aP.mono _ _ _ _ _ ha hb h5⟩,e4 f' v' I J hv ha hb⟩⟩
   ·rw[e1];rfl
   ·simp only[bn,e2];omega
theorem U2 {a b:PM}: ∀ {m:List Fm} {l:List V},(tP l m).p a b→l.length=m.length*5:=by
 intro m
 induction m with
 |nil=>intro l h;rcases l with _|⟨a,_|⟨b,_|⟨c,_|⟨d,_|⟨e,l⟩⟩⟩⟩⟩<;>first|rfl|exact h.elim
 |cons x m I =>
  intro l h
  rcases l with _|⟨a,_|⟨b,_|⟨c,_|⟨d,_|⟨e,l⟩⟩⟩⟩⟩<;>first|exact h.elim|skip
  have:=I h.2
  simp only[bn]
  omega
def eN (cG:Nat)(m:List Fm): aP:=xs fun cs:List V=>star [pt cG (.cells (m.length*5) cs false),tP cs m]
abbrev HE (v:V)(m:List (Int×Int)): aP:=qL (fun v x=>.pu (v=.int .i64 x)) v m
abbrev CQ (v:V)(m:List (Int×(Nat×Bool))): aP:=qL (fun v x=>.pu (v=.agg [.int .u64 (x.1:Int),.bool x.2])) v m
def pV (p q cG n:Nat)(wh di:V)(hand:Nat): List V:=[.ptr p 0,.ptr q 0,.sl cG 0 n (.exact n),wh,di,.int .i64 (hand:Int)]
def cL (r p q:Nat)(π:Pl): aP:=xs fun cG:Nat=>xs fun wh:V=>xs fun di:V =>
 star [pt r (.cells 6 (pV p q cG π.ag.length wh di π.hand) false),eN cG π.ag,HE wh π.aF,CQ di π.bu]
section
variable {p:Nat} {v:V} {m:List Fm}
theorem cT : Sat h (cL r p q π::S)↔∃cG wh di,Sat h (pt r (.cells 6 (pV p q cG π.ag.length wh di π.hand) false)::eN cG π.ag::HE wh π.aF::CQ di π.bu::S):=by
 simp only[cL,lz,bg,ie,dY]
theorem jF : Sat h (eN cG m::S)↔∃cs,Sat h (pt cG (.cells (m.length*5) cs false)::tP cs m::S):=by
 simp only[eN,lz,bg,ie,dY]
theorem iN (s:Sat h (eN cG m::S))(hf:m[i]?=some f): ∃pre v post,pre.length=i*5∧(pre++(fR f v++post)).length=m.length*5 ∧
  Sat h (pt cG (.cells (m.length*5) (pre++(fR f v++post)) false)::tP (pre++(fR f v++post)) m::.c9 v f.b::S):=by
 obtain⟨cs,s⟩:=jF.1 s
 obtain⟨a,b,q1,q2,q3⟩:=s.at (k:=1) rfl
 obtain⟨pre,v,post,e1,e2,e3,_⟩:=yM q3 hf
 have hl:=U2 q3
 subst e1
 refine⟨pre,v,post,e2,hl,?_⟩
 have s1:Sat h (tP (pre++(fR f v++post)) m::pt cG (.cells (m.length*5) (pre++(fR f v++post)) false)::S):=s.ae [1]
 have s2:=(s1.dup (bC.fm _ _)).j5 (B:=.c9 v f.b) fun a' b' h'=>by
  obtain⟨aaW,v',I,J,om,e3',_⟩:=yM h' hf
  have:=DF J (by omega)
  obtain⟨_,h5⟩:=this
  have h6:=iZ (fun l=>l[1]?) h5
  simp[fR] at h6
  subst h6
  exact e3'
 exact s2.ae [2,1,0]
theorem fZ {f':Fm}{v':V}(s:Sat h (pt cG (.cells n (pre++(fR f' v'++post)) false)::tP (pre++(fR f v++post)) m::.c9 v' f'.b::S))(hn:n=m.length*5)(hf:m[i]?=some f)(hp:pre.length=i*5): Sat h (eN cG (m.set i f')::S):=by
 subst hn
 have s1:Sat h (tP (pre++(fR f v++post)) m::.c9 v' f'.b::pt cG (.cells (m.length*5) (pre++(fR f' v'++post)) false)::S):=s.ae [1,1,0]
 have s2:=s1.two (C:=tP (pre++(fR f' v'++post)) (m.set i f')) (bC.fm _ _) (bC.c9 _ _) fun a b h1 h2=>by
  obtain⟨aaW,v0,I,J,om,e3',e4'⟩:=yM h1 hf
  obtain⟨h3,h4⟩:=DF J (by omega)
  subst h3
  have h5:post=I:=by
   have:=DF h4 (by simp[fR])
   exact this.2
  subst h5
  exact e4' f' v' a b h2 (PM.le_refl _) (PM.le_refl _)
 refine jF.2 ⟨pre++(fR f' v'++post),?_⟩
 rw[dD]
 exact s2.ae [1]
theorem iw {row:List V}(hp:pre.length=a)(I:nth row j=some x): nth (pre++(row++post)) (a+j)=some x:=by
 rw[gS] at I ⊢
 have J:=(List.getElem?_eq_some_iff.1 I).1
 rw[zQ (by omega),show a+j-pre.length=j by omega,vf J,I]
theorem U3 {row:List V}(J:pre.length=a)(I:j<row.length): (pre++(row++post)).set (a+j) x=pre++(row.set j x++post):=by
 rw[List.set_append_right _ _ (by omega),show a+j-pre.length=j by omega,List.set_append_left _ _ I]
theorem Sat.stM {row:List V}(s:Sat h S)(hk:getA S k=some (pt id (.cells n (pre++(row++post)) false)))(hs:bB P t=some 1)(hp:pre.length=a)(J:(pre++(row++post)).length=n)(hj:j<row.length)(hv:x.cells=[x])(I:storable x=true):
  ∃h₁,fB P h t (.ptr id (a+j)) x=some h₁∧Sat h₁ (setA S k (pt id (.cells n (pre++(row.set j x++post)) false))):=by
 have:=s.dO (P:=P) (t:=t) (off:=a+j) (v:=x) hk hs J (by rw[←J];simp;omega) hv I
 rwa [U3 hp hj] at this
theorem Sat.HF {row row':List V}(s:Sat h S)(hk:getA S k=some (pt id (.cells n (pre++(row++post)) false)))(hs:bB P t=some row'.length)(hp:pre.length=a)(J:(pre++(row++post)).length=n)(hr:row'.length=row.length)(I:row'.all storable=true):
  ∃h₁,fB P h t (.ptr id a) (.agg row')=some h₁∧Sat h₁ (setA S k (pt id (.cells n (pre++(row'++post)) false))):=by
 have:=s.stN (P:=P) (t:=t) (off:=a) (l:=row') hk hs J (by rw[←J];simp;omega) I
 have e:(pre++(row++post)).take a++(row'++(pre++(row++post)).drop (a+row'.length))=pre++(row'++post):=by
  rw[oO hp,z6,jH (by omega),dY,show a+row'.length-pre.length=row.length by omega,vx rfl]
 rwa [e] at this
theorem ldF {row:List V}(s:Sat h S)(J:getA S k=some (pt id (.cells n (pre++(row++post)) false)))(ht:isAggT P t=some true)(hs:bB P t=some row.length)(hp:pre.length=a)(I:(pre++(row++post)).length=n): loadV P h t (.ptr id a)=some (.agg row):=by
 rw[Xx ht hs (s.row J) I (by rw[←I];simp;omega),vx hp,oO rfl]
end
abbrev bq := Pl×LD
variable {ε:bq}
def pE (π:Pl)(n:Int): Nat:=match lookL n π.bu with
 |some x=>x.1
 |none=>0
def outF (ε:bq)(i:Nat): Int×bq:=match ε.1.ag[i]? with
 |none=>(0,ε)
 |some f=>if f.bj<0∨f.changed=false then(0,ε) else if cg f.b=false then(4,ε) else
  if (bG ε.2 (dg f.b 4 8)).1≠0 then((bG ε.2 (dg f.b 4 8)).1,(ε.1,(bG ε.2 (dg f.b 4 8)).2)) else
  if ((bG ε.2 (dg f.b 4 8)).2.2.dx f.bj f.b).1≠0 then(((bG ε.2 (dg f.b 4 8)).2.2.dx f.bj f.b).1,(ε.1,((bG ε.2 (dg f.b 4 8)).2.1,((bG ε.2 (dg f.b 4 8)).2.2.dx f.bj f.b).2))) else
  (0,({ ε.1 with ag:=ε.1.ag.set i { f with changed:=false },bu:=cW f.bj (pE ε.1 f.bj,false) ε.1.bu },((bG ε.2 (dg f.b 4 8)).2.1,((bG ε.2 (dg f.b 4 8)).2.2.dx f.bj f.b).2)))
section
variable {told:cC} {p:Nat} {v:V}
theorem OK (hT:W told)(s:Sat h (pt r (.cells 6 (pV p q cG π.ag.length wh di π.hand) false)::eN cG π.ag::HE wh π.aF::CQ di π.bu::bx q p μ::aJ p δ::S))(hi:π.ag[i]?=some f)(CP:μ.Ok)(w5:δ.Ok)(Ka:f.b.length<1073741824)(hw:δ.waiting.length≤268435456):
  Call ⟨Tryz.prog,told⟩ 166 [.ptr r 0,.ptr cG (i*5)] h fun v h'=>v=.int .i64 (outF (π,μ,δ) i).1 ∧
   Sat h' (pt r (.cells 6 (pV p q cG (outF (π,μ,δ) i).2.1.ag.length wh di (outF (π,μ,δ) i).2.1.hand) false)::eN cG (outF (π,μ,δ) i).2.1.ag::HE wh (outF (π,μ,δ) i).2.1.aF::CQ di (outF (π,μ,δ) i).2.1.bu::bx q p (outF (π,μ,δ) i).2.2.1::aJ p (outF (π,μ,δ) i).2.2.2::S):=by
 have s00:=s
 obtain⟨pre,fv,post,I,hlen,s⟩:=iN (s.ae [1]) hi
 have hfv:=(s.aI (k:=2) rfl (eZ _ _))
 refine Call.of_wp (hT.free _ rfl) Tryz.func166 rfl rfl (zK 9 rfl (zf rfl (o8 _ _) (zl rfl (s.ld (k:=0) rfl dV (iw I rfl)) ?_)))
 refine zd rfl (aq rfl rfl aT) ?_ ?_
 ·intro hq
  have hq:f.bj<0:=by simpa using hq
  have he:outF (π,μ,δ) i=(0,(π,μ,δ)):=by simp only[outF,hi];rw[aC (.inl hq)]
  rw[he]
  exact zk 13 rfl (WP.ret ⟨aa,_,rfl,rfl,s00⟩)
 ·intro hq
  have hq:¬ f.bj<0:=by simpa using hq
  refine zk 3 rfl (zf rfl (Eb _ _) (zl rfl (s.ld (k:=0) rfl lK (iw I rfl)) ?_))
  have Og:f.changed=false∨f.changed=true:=by cases f.changed<;>simp
  rcases Og with hc|hc
  ·have he:outF (π,μ,δ) i=(0,(π,μ,δ)):=by simp only[outF,hi];rw[aC (.inr hc)]
   rw[he]
   refine zt rfl (dM rfl rfl) (by rw[hc];rfl) ?_
   exact zk 7 rfl (WP.ret ⟨aa,_,rfl,rfl,s00⟩)
  ·have he:outF (π,μ,δ) i=(if cg f.b=false then(4,(π,μ,δ)) else
    if (bG (μ,δ) (dg f.b 4 8)).1≠0 then((bG (μ,δ) (dg f.b 4 8)).1,(π,(bG (μ,δ) (dg f.b 4 8)).2)) else
    if ((bG (μ,δ) (dg f.b 4 8)).2.2.dx f.bj f.b).1≠0 then(((bG (μ,δ) (dg f.b 4 8)).2.2.dx f.bj f.b).1,(π,((bG (μ,δ) (dg f.b 4 8)).2.1,((bG (μ,δ) (dg f.b 4 8)).2.2.dx f.bj f.b).2))) else
    (0,({ π with ag:=π.ag.set i { f with changed:=false },bu:=cW f.bj (pE π f.bj,false) π.bu },((bG (μ,δ) (dg f.b 4 8)).2.1,((bG (μ,δ) (dg f.b 4 8)).2.2.dx f.bj f.b).2)))):=by
    simp only[outF,hi];rw[aj (by rw[hc];simp;omega)]
   rw[he]
   refine zh rfl (dM rfl rfl) (by rw[hc];rfl) ?_
   refine zk 8 rfl (zf rfl (AD _ _) (zl rfl (s.ld (k:=0) rfl b8 (iw I rfl)) (zc rfl (Ky hT (s.ae [2]) (eZ _ _) (by omega)) ?_)))
   rintro w h ⟨s,(⟨hg,rfl⟩|⟨hg,rfl⟩)⟩
   ·dsimp only[bringA,getA,aK] at s
    rw[aj (by rw[hg];decide)]
    have Rv:(bG (μ,δ) (dg f.b 4 8)).2.2.Ok:=nH w5
    have XP:(bG (μ,δ) (dg f.b 4 8)).2.2.waiting.length≤268435456:=by rw[mZ];exact hw
    have J:=Eh (n:=dg f.b 4 8) hT (s.ae [6,6]) CP w5.aU
    generalize bG (μ,δ) (dg f.b 4 8)=x at J Rv XP ⊢
    obtain⟨xe,xl,xd⟩:=x
    dsimp only at J Rv XP ⊢
    refine zk 16 rfl (zC rfl aA (rfl) (zk 8 rfl (zY s 3 UI j9 rfl (zm rfl (zc rfl (J) ?_)))))
    rintro w h ⟨rfl,s⟩
    refine zk 5 rfl ?_
    by_cases hx:xe=0
    ·subst hx
     rw[aj (by decide)]
     refine zC rfl aA (rfl) ?_
     have He:=fun(s:Sat h (aJ p xd::.c9 fv f.b::bx q p xl::pt cG (.cells (π.ag.length*5) (pre++(fR f fv++post)) false)::tP (pre++(fR f fv++post)) π.ag::pt r (.cells 6 (pV p q cG π.ag.length wh di π.hand) false)::HE wh π.aF::CQ di π.bu::S))=>UZ (n:=f.bj) hT s (eZ fv f.b) Ka Rv.aU XP
     generalize xd.dx f.bj f.b=y at He ⊢
     obtain⟨ye,yd⟩:=y
     dsimp only at He ⊢
     have s:=s.ae [1,1,0]
     refine zk 5 rfl (WP.drawn [af,af,af,af,af,af,af,af,af,af,af,af,af,af] rfl (by kernel_rfl) (by kernel_rfl) ?_)
     refine zM rfl (zN rfl (zF rfl (vW _ _) (zL rfl (s.ld (k:=5) rfl jt rfl) (zM rfl (zN rfl (zF rfl (o8 _ _) (zL rfl (s.ld (k:=3) rfl dV (iw I rfl)) (zM rfl (zN rfl (zF rfl (AD _ _) (zL rfl (s.ld (k:=3) rfl b8 (iw I rfl)) (ax.any rfl rfl rfl rfl (OpR.call rfl rfl rfl rfl (He s)) ?_))))))))))))
     rintro w h ⟨rfl,s⟩
     refine zA rfl ?_
     refine ax.nil ⟨⟨aa,aa,aa,aa,aa,aa,aa,aa,aa,aa,aa,aa,aa,aa,aa⟩,?_⟩
     refine zK 3 rfl ?_
     by_cases hy:ye=0
     ·subst hy
      rw[aj (by decide)]
      refine zC rfl aA (rfl) (zk 7 rfl (zf rfl (Eb _ _) (zS rfl (s.stM (k:=3) (j:=4) rfl xJ I hlen (by simp[fR]) rfl rfl) ?_)))
      intro h s
      have e5:(fR f fv).set 4 (.bool false)=fR { f with changed:=false } fv:=rfl
      rw[e5] at s
      have s:=s.ae [7,3,4]
      refine zk 2 rfl (WP.drawn [af,af,af,af,af,af,af,af,af,af,af,af,af,af,af,af,af,af,af,af] rfl (by kernel_rfl) (by kernel_rfl) ?_)
      refine zM rfl (zN rfl (zF rfl (mz _ _) (zL rfl (s.ld (k:=2) rfl qY rfl) (zM rfl (zN rfl (zF rfl (o8 _ _) (zL rfl (s.ld (k:=1) rfl dV (iw I rfl)) (zM rfl (zN rfl (zF rfl (mz _ _) (zL rfl (s.ld (k:=2) rfl qY rfl) (zM rfl (zN rfl (zF rfl (o8 _ _) (zL rfl (s.ld (k:=1) rfl dV (iw I rfl)) ?_)))))))))))))))
      have Mf:∃b,dZ Tryz.prog h 215 di (.int .i64 f.bj) false=some (.agg [.int .u64 (pE π f.bj:Nat),.bool b]):=by
       rcases kE (f:=fun v (x:Nat×Bool)=>.pu (v=.agg [.int .u64 (x.1:Int),.bool x.2])) (n:=f.bj) (fun _ _=>bC.pu _) s rJ bF wR with⟨g1,_,g3⟩|⟨u,x,g1,_,g3,s'⟩
       ·exact⟨false,by rw[g3];simp only[pE,g1];rfl⟩
       ·obtain⟨rfl,_⟩:=ob.1 s'
        exact⟨x.2,by rw[g3];simp only[pE,g1]⟩
      obtain⟨lb,Mf⟩:=Mf
      refine zO rfl (fY rfl rfl Mf) (zO rfl (Tz rfl (TA (Kq _) rfl)) (zO rfl (cx rfl (by rw[ZJ];rfl)) ?_))
      refine ax.gY rfl rfl rfl (OpR.mapUpdate rfl rfl rfl rfl (lU (f:=fun v (x:Nat×Bool)=>.pu (v=.agg [.int .u64 (x.1:Int),.bool x.2])) (x:=(pE π f.bj,false)) (fun _ _=>bC.pu _) (s.gh rfl) rJ bF)) ?_
      intro w h s
      refine ax.nil ⟨⟨aa,aa,aa,aa,aa,aa,aa,aa,aa,aa,aa,aa,aa,aa,aa,aa,aa,aa,aa,aa,aa⟩,?_⟩
      refine zK 4 rfl (WP.ret ⟨aa,_,rfl,?_⟩)
      refine⟨rfl,?_⟩
      have s:=fZ (i:=i) (f':={ f with changed:=false }) (s.ae [1,5,3]) rfl hi I
      have e6:(π.ag.set i { f with changed:=false }).length=π.ag.length:=dD
      rw[e6]
      exact s.ae [2,0,3,0,1,0]
     ·rw[aC hy]
      refine zB rfl aA (by simp;exact hy) ?_
      refine zk 7 rfl (WP.ret ⟨aa,_,rfl,?_⟩)
      refine⟨rfl,?_⟩
      have s:=jF.2 ⟨_,s.ae [3,3]⟩
      exact(s.del 2).ae [3,0,2,2,1,0]
    ·rw[aC hx]
     refine zB rfl aA (by simp;exact hx) ?_
     refine zk 7 rfl (WP.ret ⟨aa,_,rfl,?_⟩)
     refine⟨rfl,?_⟩
     have s:=jF.2 ⟨_,s.ae [3,3]⟩
     exact(s.del 3).ae [3,0,2,2,0,0]
   ·dsimp only[bringA,getA,aK] at s
    rw[aC hg]
    refine zk 16 rfl (zB rfl aA (rfl) (zk 7 rfl (WP.ret ⟨aa,_,rfl,?_⟩)))
    refine⟨rfl,?_⟩
    have s:=jF.2 ⟨_,s.ae [1,1]⟩
    exact(s.del 1).ae [1,0]
end
structure fH (π bU:Pl): Prop where
 aF:bU.aF=π.aF
 bu:bU.bu=π.bu
 len:bU.ag.length=π.ag.length
 get:∀(i:Nat) (f:Fm),π.ag[i]?=some f→∃t,bU.ag[i]?=some { f with fA:=t }
theorem fH.refl (π:Pl): fH π π:=⟨rfl,rfl,rfl,fun _ f h=>⟨f.fA,h⟩⟩
theorem fH.trans {bU I:Pl}(a:fH π bU)(b:fH bU I): fH π I:=by
 refine⟨b.aF.trans a.aF,b.bu.trans a.bu,b.len.trans a.len,fun i f h => ?_⟩
 obtain⟨t,ht⟩:=a.get i f h
 obtain⟨t',J⟩:=b.get i _ ht
 exact⟨t',J⟩
theorem fH.hand : fH π { π with hand:=n }:=⟨rfl,rfl,rfl,fun _ f h=>⟨f.fA,h⟩⟩
theorem fH.U4 (hi:π.ag[i]?=some f): fH π { π with ag:=π.ag.set i { f with fA:=false } }:=by
 refine⟨rfl,rfl,dD,fun j g I => ?_⟩
 by_cases h:i=j
 ·subst h
  rw[hi] at I
  have:=b6 I
  subst this
  have J:=(List.getElem?_eq_some_iff.1 hi).1
  exact⟨false,by simp[Dx,J]⟩
 ·exact⟨g.fA,by simp only[Dx,aj h];exact I⟩
theorem Rw {x:Operand}{b:Nat}(I:0<b): binV P h .rem t x y (.int .i64 (a:Int)) (.int .i64 (b:Int))=some (.int .i64 ((a%b:Nat):Int)):=by
 simp only[binV,ikBeq,ah,intV]
 have:intBeq (b:Int) 0=false:=by rw[nD];simp;omega
 rw[this,aL,Int.tmod_eq_emod_of_nonneg (by omega)]
 rfl
section
variable {told:cC} {p:Nat} {v:V} {m:List Fm}
theorem lV (hi:i<n): indexAddrV Tryz.prog 214 (.sl cG 0 n (.exact n)) (.int .i64 (i:Int))=some (.ptr cG (i*5)):=by
 rw[ZH,show(decide ((0:Int)≤(i:Int))&&decide ((i:Int)<(n:Int)))=true by simp;omega,ah]
 simp
theorem Ju (I:W told)(s:Sat h S)(J:storable v=true): Call ⟨Tryz.prog,told⟩ 214 [.agg (fR f v)] h fun w h'=>w=.bool (decide (f.pins=0))∧Sat h' S:=by
 refine Call.of_wp (I.free _ rfl) Tryz.func214 rfl rfl (zg rfl (au.bP s rfl rfl rfl (dG rfl (by simp only[V.cells,fR,jJ,jK,J];rfl)) ?_))
 intro p1 h s
 dsimp only[V.cells,fR] at s
 exact zk 4 rfl (zY s 0 qG dV rfl (zb rfl dh (zk 2 rfl (WP.ret ⟨aa,_,rfl,rfl,s.drop⟩))))
theorem Rx (hT:W told)(s:Sat h (eN cG m::S))(h0:m[0]?=some f)(hp:f.pins=0): Call ⟨Tryz.prog,told⟩ 237 [.sl cG 0 m.length (.exact m.length),.fn (.func 214) [] []] h fun w h'=>w=.int .i64 0∧Sat h' (eN cG m::S):=by
 have hl:=(List.getElem?_eq_some_iff.1 h0).1
 obtain⟨pre,fv,post,I,hlen,s⟩:=iN s h0
 have J:=(s.aI (k:=2) rfl (eZ _ _)).cells.2
 refine Call.of_wp (hT.free _ rfl) Tryz.func237 rfl rfl (zK 8 rfl (zo rfl (a_ rfl rfl rfl (qJ rfl yH)) (zk 2 rfl (WP.block (WP.loop (zg rfl (zB rfl aT (by simp;omega) ?_)))))))
 refine zk 5 rfl (WP.block (zK 10 rfl (zo rfl (cZ rfl rfl (lV (i:=0) hl)) (zl rfl (ldF s (k:=0) rfl ZK Cv I hlen) (zc rfl (Ju hT s J) ?_)))))
 rintro w h ⟨rfl,s⟩
 rw[e_ hp]
 exact zk 7 rfl (WP.ret ⟨aa,_,rfl,rfl,(jF.2 ⟨_,s⟩).del 1⟩)
theorem Jv (I:W told)(s:Sat h (eN cG m::S))(J:m[0]?=some f)(hp:f.pins=0): Call ⟨Tryz.prog,told⟩ 213 [.sl cG 0 m.length (.exact m.length),.fn (.func 214) [] []] h fun w h'=>w=.bool true∧Sat h' (eN cG m::S):=by
 refine Call.of_wp (I.free _ rfl) Tryz.func213 rfl rfl (zK 8 rfl (zc rfl (Rx I s J hp) ?_))
 rintro w h ⟨rfl,s⟩
 refine zB rfl jj (by decide) ?_
 exact zk 2 rfl (WP.ret ⟨aa,_,rfl,rfl,s⟩)
noncomputable def fdA : Code:=cm [1,0,0,1,0,0] ((Tryz.f165.body).getD .skip)
noncomputable def XQ : Code:=cm [1,0,1,1,1,0,0] ((Tryz.f165.body).getD .skip)
theorem Jw {hand:Nat}: ∀(j i:Nat) (h:H) (E:List (Nat×V)) (Q:Ex→List (Nat×V)→H→Prop),i+j=m.length→m.length<4294967296 →
  Sat h (pt r (.cells 6 (pV p q cG m.length wh di hand) false)::eN cG m::S)→Has E [(0,.ptr r 0),(10,.int .i64 m.length),(11,.int .i64 i)] →
  (∀E' (i:Nat) (f:Fm),m[i]?=some f→f.bj<0→look E' 2=some (.int .i64 (i:Int))→Q .ret E' h) →
  (∀E',Has E' [(0,.ptr r 0)]→Q (.exit 0) E' h)→WP ⟨Tryz.prog,told⟩ 70 (.loop fdA) E h Q:=by
 intro j
 induction j with
 |zero =>
  intro i h E Q hi hm s hE hr hx
  refine WP.loop (WP.has hE (zg rfl (zC rfl aT (by simp;omega) ?_)))
  exact zk 3 rfl (WP.exit (hx _ ⟨rfl,aa⟩))
 |succ j ih =>
  intro i h E Q hi hm s hE hr hx
  have hc:m[i]?=some (m[i]'(by omega)):=bw _
  generalize (m[i]'(by omega))=f at hc
  obtain⟨pre,fv,post,I,hlen,s'⟩:=iN (s.ae [1]) hc
  refine WP.loop (WP.has hE (zg rfl (zB rfl aT (by simp;omega) ?_)))
  refine zk 5 rfl (WP.block (zK 9 rfl (zY s 0 ki oz rfl (zm rfl (zo rfl (cZ rfl rfl (lV (i:=i) (by omega))) ?_)))))
  refine zf rfl (o8 _ _) (zl rfl (s'.ld (k:=0) rfl dV (iw I rfl)) ?_)
  refine zd rfl (aq rfl rfl aT) ?_ ?_
  ·intro J
   have J:f.bj<0:=by simpa using J
   exact zk 7 rfl (WP.ret (hr _ i f hc J rfl))
  ·intro J
   refine zv (zj rfl (WP.skip (zr rfl (zb rfl (by exact aW (az (by omega) (by omega))) ?_))))
   refine zm rfl (zv ?_)
   exact ih (i+1) h _ Q (by omega) hm s ⟨rfl,rfl,rfl,aa⟩ hr hx
def qP (m:List Fm): Nat:=(m.filter fun f=>f.fA).length
theorem Bc : ∀ {m:List Fm} {i:Nat},m[i]?=some f→f.fA=true→qP (m.set i { f with fA:=false })+1=qP m:=by
 intro m
 induction m with
 |nil=>intro i h;simp at h
 |cons g m J =>
  intro i h I
  cases i with
  |zero=>simp at h;subst h;simp[qP,I]
  |succ i =>
   rw[mc] at h
   have:=J h I
   simp only[qP,List.set_cons_succ,Dz] at this ⊢
   split<;>(try simp only[bn])<;>omega
theorem CR (hf:π.ag[π.hand]?=some f)(hm:π.ag.length<4294967296)(hp:f.pins=0)
 (s:Sat h (pt r (.cells 6 (pV p q cG π.ag.length wh di π.hand) false)::eN cG π.ag::S))(hE:Has E [(0,.ptr r 0)])
 (hr:f.fA=false→∀E' h',look E' 2=some (.int .i64 (π.hand:Int))→Sat h' (pt r (.cells 6 (pV p q cG π.ag.length wh di ((π.hand+1)%π.ag.length)) false)::eN cG π.ag::S)→Q .ret E' h')
 (hx:f.fA=true→∀E' h',Has E' [(0,.ptr r 0)]→Sat h' (pt r (.cells 6 (pV p q cG (π.ag.set π.hand { f with fA:=false }).length wh di ((π.hand+1)%π.ag.length)) false)::eN cG (π.ag.set π.hand { f with fA:=false })::S)→WP ⟨Tryz.prog,told⟩ 70 (.loop XQ) E' h' Q):
  WP ⟨Tryz.prog,told⟩ 70 (.loop XQ) E h Q:=by
 have hl:=(List.getElem?_eq_some_iff.1 hf).1
 refine WP.loop (WP.has hE (WP.block (zK 4 rfl (zY s 0 D8 dV rfl (zk 6 rfl (zY s 0 ki oz rfl (zm rfl (zo rfl (cZ rfl rfl (lV (i:=π.hand) hl)) (zk 3 rfl (WP.drawn [af,af,af,af,af,af,af,af,af,af,af,af,af,af,af] rfl (by kernel_rfl) (by kernel_rfl) ?_))))))))))
 refine zM rfl (zM rfl (zN rfl (zF rfl (D8 _ _) (zL rfl (s.ld (k:=0) rfl dV rfl) (zO rfl (aq rfl rfl (by exact aW (az (by omega) (by omega)))) ?_)))))
 refine zM rfl (zN rfl (zF rfl (ki _ _) (zL rfl (s.ld (k:=0) rfl oz rfl) (zO rfl (a_ rfl rfl rfl (qJ rfl yH)) (zO rfl (aq rfl rfl (Rw (a:=π.hand+1) (by omega))) ?_)))))
 refine zN rfl (zF rfl (D8 _ _) (ax.gY rfl rfl rfl (OpR.rH rfl rfl rfl (s.dO (k:=0) rfl j6 rfl (by decide) rfl rfl)) ?_))
 rintro v h ⟨rfl,s⟩
 have s:Sat h (pt r (.cells 6 (pV p q cG π.ag.length wh di ((π.hand+1)%π.ag.length)) false)::eN cG π.ag::S):=s
 refine ax.nil ⟨⟨aa,aa,aa,aa,aa,aa,aa,aa,aa,aa,aa,aa,aa,aa,aa,aa⟩,?_⟩
 obtain⟨pre,fv,post,I,hlen,s⟩:=iN (s.ae [1]) hf
 refine zw (WP.block (zK 4 rfl (zf rfl (qG _ _) (zl rfl (s.ld (k:=0) rfl dV (iw I rfl)) (zC rfl er (by rw[hp];decide) ?_)))))
 refine zk 7 rfl (zf rfl (Ea _ _) (zl rfl (s.ld (k:=0) rfl lK (iw I rfl)) (zk 2 rfl ?_)))
 have Fs:f.fA=false∨f.fA=true:=by cases f.fA<;>simp
 rcases Fs with J|J
 ·refine WP.Ty rfl (J) ?_
  refine zK 5 rfl (WP.ret (hr J _ _ rfl ?_))
  have s:=jF.2 ⟨_,s.ae [0,0]⟩
  exact(s.del 1).ae [1,0]
 ·skip
  refine WP.LN rfl (J) (zK 3 rfl (zf rfl (Ea _ _) (zS rfl (s.stM (k:=0) (j:=3) rfl xJ I hlen (by simp[fR]) rfl rfl) ?_)))
  intro h s
  have e5:(fR f fv).set 3 (.bool false)=fR { f with fA:=false } fv:=rfl
  rw[e5] at s
  refine zv (WP.exit (hx J _ _ ⟨rfl,aa⟩ ?_))
  have s:=fZ (i:=π.hand) (f':={ f with fA:=false }) s rfl hf I
  rw[dD]
  exact s.ae [1,0]
theorem Jx : ∀(fuel:Nat) (π:Pl) (h:H) (E:List (Nat×V)) (Q:Ex→List (Nat×V)→H→Prop),qP π.ag≤fuel→π.hand<π.ag.length→π.ag.length<4294967296→(∀f∈π.ag,f.pins=0) →
  Sat h (pt r (.cells 6 (pV p q cG π.ag.length wh di π.hand) false)::eN cG π.ag::S)→Has E [(0,.ptr r 0)] →
  (∀E' h' (i:Nat) (bU:Pl) (f:Fm),fH π bU→bU.ag[i]?=some f→bU.hand<bU.ag.length→look E' 2=some (.int .i64 (i:Int))→Sat h' (pt r (.cells 6 (pV p q cG bU.ag.length wh di bU.hand) false)::eN cG bU.ag::S)→Q .ret E' h') →
  WP ⟨Tryz.prog,told⟩ 70 (.loop XQ) E h Q:=by
 intro fuel
 induction fuel with
 |zero =>
  intro π h E Q ht J hm hp s hE hr
  have I:π.ag[π.hand]?=some (π.ag[π.hand]'J):=bw _
  generalize (π.ag[π.hand]'J)=f at I
  refine CR I hm (hp f (bJ I)) s hE (fun h1 E' h' h2 s' => ?_) (fun h1 => ?_)
  ·exact hr E' h' π.hand { π with hand:=(π.hand+1)%π.ag.length } f fH.hand I (iY _ (by omega)) h2 s'
  ·have:=Bc I h1
   omega
 |succ fuel ih =>
  intro π h E Q ht J hm hp s hE hr
  have I:π.ag[π.hand]?=some (π.ag[π.hand]'J):=bw _
  generalize (π.ag[π.hand]'J)=f at I
  refine CR I hm (hp f (bJ I)) s hE (fun h1 E' h' h2 s' => ?_) (fun h1 E' h' eS s' => ?_)
  ·exact hr E' h' π.hand { π with hand:=(π.hand+1)%π.ag.length } f fH.hand I (iY _ (by omega)) h2 s'
  ·have ue:=Bc I h1
   have hn:fH π { π with ag:=π.ag.set π.hand { f with fA:=false },hand:=(π.hand+1)%π.ag.length }:=(fH.U4 I).trans fH.hand
   refine ih { π with ag:=π.ag.set π.hand { f with fA:=false },hand:=(π.hand+1)%π.ag.length } h' E' Q (by show qP (π.ag.set π.hand { f with fA:=false })≤fuel;omega) ?_ (by simp only[dD];exact hm) (fun g hg => ?_) s' eS (fun E2 h2 i bU g Wb hg XR hl s2=>hr E2 h2 i bU g (hn.trans Wb) hg XR hl s2)
   ·simp only[dD];exact iY _ (by omega)
   ·rcases oL hg with hg|rfl
    ·exact hp g hg
    ·exact hp f (bJ I)
theorem Ry (hT:W told)(s:Sat h (pt r (.cells 6 (pV p q cG π.ag.length wh di π.hand) false)::eN cG π.ag::S))(hh:π.hand<π.ag.length)(hm:π.ag.length<4294967296)(hp:∀f∈π.ag,f.pins=0):
  Call ⟨Tryz.prog,told⟩ 165 [.ptr r 0] h fun v h'=>∃(i:Nat) (bU:Pl) (f:Fm),v=.int .i64 (i:Int)∧fH π bU∧bU.ag[i]?=some f∧bU.hand<bU.ag.length ∧
   Sat h' (pt r (.cells 6 (pV p q cG bU.ag.length wh di bU.hand) false)::eN cG bU.ag::S):=by
 have I:π.ag[0]?=some (π.ag[0]'(by omega)):=bw _
 generalize (π.ag[0]'(by omega))=f0 at I
 have s0:=s
 refine Call.of_wp (hT.free _ rfl) Tryz.func165 rfl rfl (zK 4 rfl (WP.scope (zK 5 rfl (zY s 0 ki oz rfl (zo rfl (a_ rfl rfl rfl (qJ rfl yH)) (zk 2 rfl (WP.block ?_)))))))
 refine Jw π.ag.length 0 _ _ _ (by omega) hm s ⟨rfl,rfl,rfl,aa⟩ (fun E' i f J _ h2 => ?_) (fun E' eS => ?_)
 ·exact⟨aa,_,lR h2,i,π,f,rfl,fH.refl π,J,hh,s⟩
 ·skip
  refine WP.has eS (zK 5 rfl (zY s 0 ki oz rfl (zc rfl (Jv hT (s.ae [1]) I (hp f0 (bJ I))) ?_)))
  rintro w h ⟨rfl,s⟩
  refine zo rfl (dM rfl rfl) (zk 4 rfl (WP.label (WP.block ?_)))
  refine Jx (qP π.ag) π _ _ _ (aQ _) hh hm hp (s.ae [1,0]) ⟨rfl,aa⟩ (fun E' h' i bU f hn J XR h2 s' => ?_)
  exact⟨aa,_,lR h2,i,bU,f,rfl,hn,J,XR,s'⟩
end
structure Pl.Ok (π:Pl): Prop where
 hand:π.hand<π.ag.length
 many:π.ag.length≤1024
 aF:∀e∈π.aF,0≤e.2∧e.2<π.ag.length
 len:∀f∈π.ag,f.b.length≤512
 pins:∀f∈π.ag,0≤f.pins∧f.pins≤4294967296
theorem Pl.Ok.at (h:π.Ok){n i:Int}(I:lookL n π.aF=some i): ∃(k:Nat) (f:Fm),i=k∧π.ag[k]?=some f:=by
 have J:=h.aF _ (jE I)
 exact⟨i.toNat,π.ag[i.toNat]'(by omega),by omega,bw _⟩
def heldI (π:Pl)(n:Int): Option Nat:=match lookL n π.aF with
 |none=>none
 |some i=>match π.ag[i.toNat]? with
  |none=>none
  |some f=>if f.pins=0 then none else some i.toNat
def unpinF (π:Pl)(n:Int): Int×Pl:=match heldI π n with
 |none=>(18,π)
 |some i=>match π.ag[i]? with
  |none=>(18,π)
  |some f=>(0,{ π with ag:=π.ag.set i { f with pins:=f.pins-1 } })
def gx (π:Pl)(n:Int)(aD:Nat): Nat:=match lookL n π.bu with
 |some x=>x.1
 |none=>aD
def kS (π:Pl)(n:Int)(b:List Nat)(aD:Nat): Int×Pl:=match heldI π n with
 |none=>(18,π)
 |some i=>match π.ag[i]? with
  |none=>(18,π)
  |some f=>if cg b=false then(4,π) else(0,{ π with ag:=π.ag.set i { f with b:=c_ b aD,changed:=true },bu:=cW n (gx π n aD,true) π.bu })
def eX (ε:bq)(n:Int): Int×bq:=match lookL n ε.1.aF with
 |none=>(18,ε)
 |some i=>outF ε i.toNat
section
variable {told:cC} {p:Nat} {v:V} {m:List Fm}
theorem Ei {n:Int}{j:Nat}(s:Sat h (HE wh π.aF::S)): (lookL n π.aF=none∧dZ Tryz.prog h 213 wh (.int .i64 n) true=some (.aO [.int .i64 0,.bool false])) ∨
  ∃i,lookL n π.aF=some i∧dZ Tryz.prog h 213 wh (.int .i64 n) true=some (.aO [.int .i64 i,.bool true]):=by
 grind[kE,bC.pu,Tryz.underlying213,Tryz.underlying3,Kk,ob]
theorem Ej {n:Int}(s:Sat h (CQ di π.bu::S)): (lookL n π.bu=none∧dZ Tryz.prog h 215 di (.int .i64 n) true=some (.aO [.agg [.int .u64 0,.bool false],.bool false])∧dZ Tryz.prog h 215 di (.int .i64 n) false=some (.agg [.int .u64 0,.bool false])) ∨
  ∃x,lookL n π.bu=some x∧dZ Tryz.prog h 215 di (.int .i64 n) true=some (.aO [.agg [.int .u64 (x.1:Int),.bool x.2],.bool true])∧dZ Tryz.prog h 215 di (.int .i64 n) false=some (.agg [.int .u64 (x.1:Int),.bool x.2]):=by
 grind[kE,bC.pu,Tryz.underlying215,Tryz.underlying3,wR,ob]
theorem KA (hT:W told){n:Int}(s:Sat h (pt r (.cells 6 (pV p q cG π.ag.length wh di π.hand) false)::eN cG π.ag::HE wh π.aF::S))(J:π.Ok):
  Call ⟨Tryz.prog,told⟩ 168 [.ptr r 0,.int .i64 n] h fun v h'=>h'=h∧((heldI π n=none∧v=.aO [.aZ,.int .i64 18])∨∃(i:Nat) (f:Fm),heldI π n=some i∧π.ag[i]?=some f∧v=.aO [.ptr cG (i*5),.int .i64 0]):=by
 refine Call.of_wp (hT.free _ rfl) Tryz.func168 rfl rfl (zK 9 rfl (zY s 0 qF wQ rfl (zm rfl ?_)))
 rcases Ei (n:=n) (j:=0) (s.ae [2]) with⟨g1,g2⟩|⟨i,g1,g2⟩
 ·refine au.op rfl rfl rfl (fY rfl rfl g2) ?_
  exact zk 10 rfl (zt rfl (dM rfl rfl) (rfl) (zk 18 rfl (WP.ret ⟨aa,_,rfl,rfl,.inl ⟨by simp only[heldI,g1],rfl⟩⟩)))
 ·obtain⟨i,f,rfl,hf⟩:=J.at g1
  have hl:=(List.getElem?_eq_some_iff.1 hf).1
  have hh:heldI π n=if f.pins=0 then none else some i:=by grind[heldI]
  obtain⟨pre,fv,post,I,hlen,s'⟩:=iN (s.ae [1]) hf
  refine zo rfl (fY rfl rfl g2) (zk 10 rfl (zh rfl (dM rfl rfl) (rfl) (zk 3 rfl (zY s 0 ki oz rfl (zm rfl (zo rfl (cZ rfl rfl (lV (i:=i) hl)) (zf rfl (qG _ _) (zl rfl (s'.ld (k:=0) rfl dV (iw I rfl)) ?_))))))))
  refine zd rfl (aq rfl rfl dh) ?_ ?_
  ·intro hq
   have hq:f.pins=0:=by grind
   exact zk 8 rfl (WP.ret ⟨aa,_,rfl,rfl,.inl ⟨by grind,rfl⟩⟩)
  ·intro hq
   have hq:f.pins≠0:=by grind
   exact zk 8 rfl (zY s 0 ki oz rfl (zm rfl (zo rfl (cZ rfl rfl (lV (i:=i) hl)) (zk 3 rfl (WP.ret ⟨aa,_,rfl,rfl,.inr ⟨i,f,by grind,hf,rfl⟩⟩)))))
theorem HG (hT:W told){n:Int}(s:Sat h (cL r p q π::S))(J:π.Ok):
  Call ⟨Tryz.prog,told⟩ 95 [.ptr r 0,.int .i64 n] h fun v h'=>v=.int .i64 (unpinF π n).1∧Sat h' (cL r p q (unpinF π n).2::S):=by
 have s0:=s
 obtain⟨cG,wh,di,s⟩:=cT.1 s
 refine Call.of_wp (hT.free _ rfl) Tryz.func95 rfl rfl (zK 8 rfl (zc rfl (KA (n:=n) hT s J) ?_))
 rintro v h' ⟨rfl,(⟨hh,rfl⟩|⟨i,f,hh,hf,rfl⟩)⟩
 ·have he:unpinF π n=(18,π):=by simp only[unpinF,hh]
  rw[he]
  exact zk 10 rfl (zB rfl aA (rfl) (zk 7 rfl (WP.ret ⟨aa,_,rfl,rfl,s0⟩)))
 ·have he:unpinF π n=(0,{ π with ag:=π.ag.set i { f with pins:=f.pins-1 } }):=by simp only[unpinF,hh,hf]
  rw[he]
  obtain⟨pre,fv,post,I,hlen,s⟩:=iN (s.ae [1]) hf
  have Rz:=J.pins f (bJ hf)
  refine zk 10 rfl (zC rfl aA (rfl) (zk 7 rfl (zf rfl (qG _ _) (zl rfl (s.ld (k:=0) rfl dV (iw I rfl)) (zb rfl (by exact g9 (az (by omega) (by omega))) ?_)))))
  refine zn rfl (zf rfl (qG _ _) (zS rfl (s.stM (k:=0) (j:=2) rfl j6 I hlen (by simp[fR]) rfl rfl) ?_))
  intro h s
  have e5:(fR f fv).set 2 (.int .i64 (f.pins-1))=fR { f with pins:=f.pins-1 } fv:=rfl
  rw[e5] at s
  refine zk 5 rfl (WP.ret ⟨aa,_,rfl,?_⟩)
  refine⟨rfl,cT.2 ⟨cG,wh,di,?_⟩⟩
  have s:=fZ (i:=i) (f':={ f with pins:=f.pins-1 }) s rfl hf I
  rw[dD]
  exact s.ae [1,0]
theorem U5 (J:W told){n:Int}(s:Sat h (cL r p q π::X::S))(hX:cD X (cE bv b))(RA:π.Ok)(hb:b.length<9223372036854775808):
  Call ⟨Tryz.prog,told⟩ 108 [.ptr r 0,.int .i64 n,bv,.int .u64 (aD:Int)] h fun v h'=>v=.int .i64 (kS π n b aD).1∧Sat h' (cL r p q (kS π n b aD).2::X::S):=by
 have s0:=s
 obtain⟨cG,wh,di,s⟩:=cT.1 s
 refine Call.of_wp (J.free _ rfl) Tryz.func108 rfl rfl (zK 8 rfl (zc rfl (KA (n:=n) J s RA) ?_))
 rintro v h' ⟨rfl,(⟨hh,rfl⟩|⟨i,f,hh,hf,rfl⟩)⟩
 ·have he:kS π n b aD=(18,π):=by simp only[kS,hh]
  rw[he]
  exact zk 10 rfl (zB rfl aA (rfl) (zk 7 rfl (WP.ret ⟨aa,_,rfl,rfl,s0⟩)))
 ·have he:kS π n b aD=(if cg b=false then(4,π) else(0,{ π with ag:=π.ag.set i { f with b:=c_ b aD,changed:=true },bu:=cW n (gx π n aD,true) π.bu })):=by simp only[kS,hh,hf]
  rw[he]
  refine zk 10 rfl (zC rfl aA (rfl) (zk 7 rfl (zc rfl (UX (n:=aD) J (s.ae [4]) hX hb) ?_)))
  rintro v h (⟨hg,u,rfl,s⟩|⟨hg,rfl,s⟩)
  ·rw[aj (by grind)]
   have hul:(c_ b aD).length=512:=by
    grind[wV,gI,c_,c5,cq]
   obtain⟨lM,_,cap,_,rfl,_⟩:=s.fF (by omega)
   have s:=s.fX
   obtain⟨pre,fv,post,I,hlen,s⟩:=iN (s.ae [3]) hf
   refine zk 10 rfl (zC rfl aA (rfl) (zk 9 rfl (zf rfl (AD _ _) (zS rfl (s.stM (k:=0) (j:=1) rfl iF I hlen (by simp[fR]) rfl rfl) ?_))))
   intro h s
   refine zn rfl (zf rfl (Eb _ _) (zS rfl (s.stM (k:=0) (j:=4) rfl xJ I (by grind) (by simp[fR]) rfl rfl) ?_))
   intro h s
   have e5:((fR f fv).set 1 (.sl lM 0 (c_ b aD).length cap)).set 4 (.bool true)=fR { f with b:=c_ b aD,changed:=true } (.sl lM 0 (c_ b aD).length cap):=rfl
   rw[e5] at s
   have s:=fZ (i:=i) (f':={ f with b:=c_ b aD,changed:=true }) (s.ae [0,0,1]) rfl hf I
   have s:=s.ae [3,4,0]
   refine zk 5 rfl (zY s 0 mz qY rfl (zm rfl ?_))
   rcases Ej (n:=n) (s.ae [1]) with⟨g1,g2,_⟩|⟨x,g1,g2,_⟩
   ·refine au.op rfl rfl rfl (fY rfl rfl g2) ?_
    refine zk 3 rfl ?_
    refine au.bP s rfl rfl rfl (bR wR) (fun p12 h s => ?_)
    refine zS rfl (s.fM (j:=0) rfl um rfl rfl) (fun h s => ?_)
    refine zk 6 rfl (zo rfl (dM rfl rfl) (zk 4 rfl (zf rfl (D9 _ _) ?_)))
    refine zS rfl (by exact s.dO (k:=0) rfl mS rfl (by decide) rfl rfl) (fun h s => ?_)
    refine zk 3 rfl (zf rfl (D_ _ _) ?_)
    refine zS rfl (by exact s.dO (k:=0) rfl xJ rfl (by decide) rfl rfl) (fun h s => ?_)
    refine zk 2 rfl (WP.drawn [af,af,af,af,af,af,af] rfl (by kernel_rfl) (by kernel_rfl) ?_)
    refine zM rfl (zN rfl (zF rfl (mz _ _) (zL rfl (s.ld (k:=1) rfl qY rfl) (zM rfl (zL rfl (s.cK (k:=0) rfl LV um) (ax.gY rfl rfl rfl (OpR.mapUpdate rfl rfl rfl rfl (lU (f:=fun v (x:Nat×Bool)=>.pu (v=.agg [.int .u64 (x.1:Int),.bool x.2])) (x:=(aD,true)) (fun _ _=>bC.pu _) ((s.ae [2]).gh rfl) rJ bF)) ?_))))))
    intro w h s
    refine ax.nil ⟨⟨aa,aa,aa,aa,aa,aa,aa,aa⟩,?_⟩
    refine zK 4 rfl (WP.ret ⟨aa,_,rfl,?_⟩)
    have ed:gx π n aD=aD:=by simp only[gx,g1]
    rw[ed]
    refine⟨rfl,cT.2 ⟨cG,wh,di,?_⟩⟩
    have e6:(π.ag.set i { f with b:=c_ b aD,changed:=true }).length=π.ag.length:=dD
    show Sat h (pt r (.cells 6 (pV p q cG (π.ag.set i { f with b:=c_ b aD,changed:=true }).length wh di π.hand) false)::_)
    rw[e6]
    exact((s.ae [2,2,4,0,2]).del 6).del 5
   ·skip
    refine zo rfl (fY rfl rfl g2) (zk 3 rfl ?_)
    refine au.bP s rfl rfl rfl (bR wR) (fun p12 h s => ?_)
    refine zS rfl (s.fM (j:=0) rfl um rfl rfl) (fun h s => ?_)
    refine zk 6 rfl (zo rfl (dM rfl rfl) (zk 5 rfl (zf rfl (D_ _ _) ?_)))
    refine zS rfl (by exact s.dO (k:=0) rfl xJ rfl (by decide) rfl rfl) (fun h s => ?_)
    refine zk 2 rfl (WP.drawn [af,af,af,af,af,af,af] rfl (by kernel_rfl) (by kernel_rfl) ?_)
    refine zM rfl (zN rfl (zF rfl (mz _ _) (zL rfl (s.ld (k:=1) rfl qY rfl) (zM rfl (zL rfl (s.cK (k:=0) rfl LV um) (ax.gY rfl rfl rfl (OpR.mapUpdate rfl rfl rfl rfl (lU (f:=fun v (x:Nat×Bool)=>.pu (v=.agg [.int .u64 (x.1:Int),.bool x.2])) (x:=(x.1,true)) (fun _ _=>bC.pu _) ((s.ae [2]).gh rfl) rJ bF)) ?_))))))
    intro w h s
    refine ax.nil ⟨⟨aa,aa,aa,aa,aa,aa,aa,aa⟩,?_⟩
    refine zK 4 rfl (WP.ret ⟨aa,_,rfl,?_⟩)
    have ed:gx π n aD=x.1:=by simp only[gx,g1]
    rw[ed]
    refine⟨rfl,cT.2 ⟨cG,wh,di,?_⟩⟩
    have e6:(π.ag.set i { f with b:=c_ b aD,changed:=true }).length=π.ag.length:=dD
    show Sat h (pt r (.cells 6 (pV p q cG (π.ag.set i { f with b:=c_ b aD,changed:=true }).length wh di π.hand) false)::_)
    rw[e6]
    exact((s.ae [2,2,4,0,2]).del 6).del 5
  ·rw[aC hg]
   exact zk 10 rfl (zB rfl aA (rfl) (zk 7 rfl (WP.ret ⟨aa,_,rfl,rfl,cT.2 ⟨cG,wh,di,s.ae [1,1,1,1,0]⟩⟩)))
theorem OL (hT:W told){n:Int}(s:Sat h (cL r p q π::bx q p μ::aJ p δ::S))(I:π.Ok)(J:μ.Ok)(w5:δ.Ok)(hw:δ.waiting.length≤268435456):
  Call ⟨Tryz.prog,told⟩ 116 [.ptr r 0,.int .i64 n] h fun v h'=>v=.int .i64 (eX (π,μ,δ) n).1 ∧
   Sat h' (cL r p q (eX (π,μ,δ) n).2.1::bx q p (eX (π,μ,δ) n).2.2.1::aJ p (eX (π,μ,δ) n).2.2.2::S):=by
 have s0:=s
 obtain⟨cG,wh,di,s⟩:=cT.1 s
 refine Call.of_wp (hT.free _ rfl) Tryz.func116 rfl rfl (zK 8 rfl (zY s 0 qF wQ rfl (zm rfl ?_)))
 rcases Ei (n:=n) (j:=0) (s.ae [2]) with⟨g1,g2⟩|⟨i,g1,g2⟩
 ·have he:eX (π,μ,δ) n=(18,(π,μ,δ)):=by simp only[eX,g1]
  rw[he]
  exact zo rfl (fY rfl rfl g2) (zk 10 rfl (zo rfl (dM rfl rfl) (zk 6 rfl (WP.ret ⟨aa,_,rfl,rfl,s0⟩))))
 ·obtain⟨i,f,rfl,hf⟩:=I.at g1
  have hl:=(List.getElem?_eq_some_iff.1 hf).1
  have he:eX (π,μ,δ) n=outF (π,μ,δ) i:=by grind[eX]
  rw[he]
  refine zo rfl (fY rfl rfl g2) (zk 10 rfl (zo rfl (dM rfl rfl) (zk 8 rfl (zY s 0 ki oz rfl (zm rfl (zo rfl (cZ rfl rfl (lV (i:=i) hl)) (zc rfl (OK hT s hf J w5 (by have:=I.len f (bJ hf);omega) hw) ?_)))))))
  rintro v h ⟨rfl,s⟩
  exact zk 2 rfl (WP.ret ⟨aa,_,rfl,rfl,cT.2 ⟨cG,wh,di,s⟩⟩)
theorem XS (hT:W told){n:Int}(s:Sat h (cL r p q π::S)): Call ⟨Tryz.prog,told⟩ 172 [.ptr r 0,.int .i64 n] h fun v h'=>v=.aO [.int .u64 (gx π n 0:Nat),.bool (lookL n π.bu).isSome]∧Sat h' (cL r p q π::S):=by
 obtain⟨cG,wh,di,s⟩:=cT.1 s
 refine Call.of_wp (hT.free _ rfl) Tryz.func172 rfl rfl (zK 9 rfl (zY s 0 mz qY rfl (zm rfl ?_)))
 rcases Ej (n:=n) (s.ae [3]) with⟨I,J,_⟩|⟨x,I,J,_⟩
 ·refine au.op rfl rfl rfl (fY rfl rfl J) ?_
  refine zk 3 rfl ?_
  refine au.bP s rfl rfl rfl (bR wR) (fun p6 h s => ?_)
  refine zS rfl (s.fM (j:=0) rfl um rfl rfl) (fun h s => ?_)
  exact zk 4 rfl (zY s 0 D9 cS rfl (zk 4 rfl (WP.ret ⟨aa,_,rfl,by simp only[gx,I];rfl,cT.2 ⟨cG,wh,di,s.drop⟩⟩)))
 ·skip
  refine zo rfl (fY rfl rfl J) (zk 3 rfl ?_)
  refine au.bP s rfl rfl rfl (bR wR) (fun p6 h s => ?_)
  refine zS rfl (s.fM (j:=0) rfl um rfl rfl) (fun h s => ?_)
  exact zk 4 rfl (zY s 0 D9 cS rfl (zk 4 rfl (WP.ret ⟨aa,_,rfl,by simp only[gx,I];rfl,cT.2 ⟨cG,wh,di,s.drop⟩⟩)))
def eR : Fm:=⟨-1,[],0,false,false⟩
def dz (π:Pl)(i:Nat)(f:Fm): Pl:={ π with ag:=π.ag.set i eR,aF:=if f.bj<0 then π.aF else lE f.bj π.aF }
def iV (π:Pl)(i:Nat)(n:Int)(b:List Nat): Pl:={ π with ag:=π.ag.set i ⟨n,b,1,true,false⟩,aF:=cW n (i:Int) π.aF }
inductive fI (ε:bq)(n:Int): Int→List Nat→bq→Prop where
 |arg (h:¬(0≤n∧n<ε.2.2.aM.length)):fI ε n 1 [] ε
 |Bd (i:Nat) (f:Fm) (h1:0≤n) (h2:n<ε.2.2.aM.length) (hl:lookL n ε.1.aF=some (i:Int)) (hf:ε.1.ag[i]?=some f):fI ε n 0 f.b ({ ε.1 with ag:=ε.1.ag.set i { f with fA:=true,pins:=f.pins+1 } },ε.2)
 |out (bU:Pl) (i:Nat) (f:Fm) (h1:0≤n) (h2:n<ε.2.2.aM.length) (hl:lookL n ε.1.aF=none) (hn:fH ε.1 bU) (hf:bU.ag[i]?=some f) (hh:bU.hand<bU.ag.length) (he:(outF (bU,ε.2) i).1≠0):fI ε n (outF (bU,ε.2) i).1 [] (outF (bU,ε.2) i).2
 |read (bU:Pl) (i:Nat) (f:Fm) (h1:0≤n) (h2:n<ε.2.2.aM.length) (hl:lookL n ε.1.aF=none) (hn:fH ε.1 bU) (hf:bU.ag[i]?=some f) (hh:bU.hand<bU.ag.length) (he:(outF (bU,ε.2) i).1=0)
   (hr:(outF (bU,ε.2) i).2.2.2.q_ n≠0):fI ε n ((outF (bU,ε.2) i).2.2.2.q_ n) [] (dz (outF (bU,ε.2) i).2.1 i f,(outF (bU,ε.2) i).2.2)
 |bad (bU:Pl) (i:Nat) (f:Fm) (h1:0≤n) (h2:n<ε.2.2.aM.length) (hl:lookL n ε.1.aF=none) (hn:fH ε.1 bU) (hf:bU.ag[i]?=some f) (hh:bU.hand<bU.ag.length) (he:(outF (bU,ε.2) i).1=0)
   (hr:(outF (bU,ε.2) i).2.2.2.q_ n=0) (hc:h_ ((outF (bU,ε.2) i).2.2.2.at n)≠0):fI ε n (h_ ((outF (bU,ε.2) i).2.2.2.at n)) [] (dz (outF (bU,ε.2) i).2.1 i f,(outF (bU,ε.2) i).2.2)
 |load (bU:Pl) (i:Nat) (f:Fm) (h1:0≤n) (h2:n<ε.2.2.aM.length) (hl:lookL n ε.1.aF=none) (hn:fH ε.1 bU) (hf:bU.ag[i]?=some f) (hh:bU.hand<bU.ag.length) (he:(outF (bU,ε.2) i).1=0)
   (hr:(outF (bU,ε.2) i).2.2.2.q_ n=0) (hc:h_ ((outF (bU,ε.2) i).2.2.2.at n)=0):fI ε n 0 ((outF (bU,ε.2) i).2.2.2.at n) (iV (dz (outF (bU,ε.2) i).2.1 i f) i n ((outF (bU,ε.2) i).2.2.2.at n),(outF (bU,ε.2) i).2.2)
theorem BA (h:ε.2.2.Ok): (outF ε i).2.2.2.Ok:=by
 unfold outF
 split
 ·exact h
 ·split
  ·exact h
  ·split
   ·exact h
   ·split
    ·exact nH h
    ·split
     ·exact(nH h).dx
     ·exact(nH h).dx
theorem RB (h:ε.2.1.Ok): (outF ε i).2.2.1.Ok:=by
 grind[outF,uT]
theorem nI {ε:bq}{i:Nat}{f:Fm}(I:ε.1.ag[i]?=some f): ∃c,(outF ε i).2.1.ag[i]?=some { f with changed:=c }:=by
 have J:=(List.getElem?_eq_some_iff.1 I).1
 unfold outF
 rw[I]
 dsimp only
 split
 ·exact⟨f.changed,I⟩
 ·split
  ·exact⟨f.changed,I⟩
  ·split
   ·exact⟨f.changed,I⟩
   ·split
    ·exact⟨f.changed,I⟩
    simp_all
theorem OM (hT:W told){n:Int}(s:Sat h (cL r p q π::bx q p μ::aJ p δ::S))(RA:π.Ok)(Rz:∀f∈π.ag,f.pins=0)(CP:μ.Ok)(w5:δ.Ok)(hw:δ.waiting.length≤268435456):
  Call ⟨Tryz.prog,told⟩ 94 [.ptr r 0,.int .i64 n] h fun v h'=>∃(e:Int) (b:List Nat) (ε:bq),fI (π,μ,δ) n e b ε ∧
   ((e≠0∧v=.aO [.aV,.int .i64 e]∧Sat h' (cL r p q ε.1::bx q p ε.2.1::aJ p ε.2.2::S))∨(e=0∧∃u,v=.aO [u,.int .i64 0]∧Sat h' (bp u b::cL r p q ε.1::bx q p ε.2.1::aJ p ε.2.2::S))):=by
 have s0:=s
 obtain⟨cG,wh,di,s⟩:=cT.1 s
 refine Call.of_wp (hT.free _ rfl) Tryz.func94 rfl rfl (zK 9 rfl ?_)
 refine zd rfl (aq rfl rfl aT) ?_ ?_
 ·intro hq
  have hq:n<0:=by grind
  exact zk 16 rfl (WP.ret ⟨aa,_,rfl,1,[],(π,μ,δ),.arg (fun q=>by omega),.inl ⟨by decide,rfl,s0⟩⟩)
 ·intro hq
  have hq:0≤n:=by grind
  refine zk 4 rfl (zY s 0 vW jt rfl (zc rfl (By hT (s.ae [5])) ?_))
  rintro v h' ⟨rfl,rfl⟩
  refine zd rfl (aq rfl rfl jj) ?_ ?_
  ·intro jR
   have jR:¬ n<δ.aM.length:=by grind
   exact zk 8 rfl (WP.ret ⟨aa,_,rfl,1,[],(π,μ,δ),.arg (fun q=>jR q.2),.inl ⟨by decide,rfl,s0⟩⟩)
  ·intro jR
   have jR:n<δ.aM.length:=by grind
   refine zk 9 rfl (zY s 0 qF wQ rfl (zm rfl ?_))
   rcases Ei (n:=n) (j:=0) (s.ae [2]) with⟨g1,g2⟩|⟨i,g1,g2⟩
   ·refine au.op rfl rfl rfl (fY rfl rfl g2) ?_
    refine zk 15 rfl (zc rfl (Ry hT s RA.hand (by have:=RA.many;omega) Rz) ?_)
    rintro v h ⟨i,bU,f,rfl,pW,hf,hh,s⟩
    have hl:=(List.getElem?_eq_some_iff.1 hf).1
    rw[←pW.aF,←pW.bu] at s
    have hfb:f.b.length≤512:=by
     have h1:π.ag[i]?=some (π.ag[i]'(by have:=pW.len;omega)):=bw _
     generalize (π.ag[i]'(by grind))=f0 at h1
     obtain⟨t,ht⟩:=pW.get i f0 h1
     rw[hf] at ht
     have:=b6 ht
     rw[this]
     exact RA.len f0 (bJ h1)
    refine zk 6 rfl (zC rfl aT (by rfl) ?_)
    refine zk 7 rfl (zY s 0 ki oz rfl (zm rfl (zo rfl (cZ rfl rfl (lV (i:=i) hl)) (zk 7 rfl (zc rfl (OK (π:=bU) hT s hf CP w5 (by omega) hw) ?_)))))
    rintro v h ⟨rfl,s⟩
    obtain⟨c,CS⟩:=nI (ε:=(bU,μ,δ)) hf
    have Ek:=BA (ε:=(bU,μ,δ)) (i:=i) w5
    refine zk 5 rfl ?_
    by_cases he:(outF (bU,μ,δ) i).1=0
    ·generalize ho:outF (bU,μ,δ) i=o at he s CS Ek ⊢
     obtain⟨oe,I,μ1,yN⟩:=o
     dsimp only at he s CS Ek ⊢
     subst he
     have KB:(outF (bU,μ,δ) i).1=0:=by rw[ho]
     have Ft:(outF (bU,μ,δ) i).2=(I,μ1,yN):=by rw[ho]
     refine zC rfl aA (by decide) ?_
     obtain⟨pre,fv,post,J,hlen,s⟩:=iN (s.ae [1]) CS
     refine zk 8 rfl (zf rfl (o8 _ _) (zl rfl (s.ld (k:=0) rfl dV (iw J rfl)) ?_))
     refine zd rfl (aq rfl rfl jj) ?_ ?_
     ·intro fS
      have fS:¬ f.bj<0:=by grind
      refine zk 2 rfl (WP.drawn [af,af,af,af,af,af,af,af,af] rfl (by kernel_rfl) (by kernel_rfl) ?_)
      refine zM rfl (zN rfl (zF rfl (qF _ _) (zL rfl (s.ld (k:=3) rfl wQ rfl) (zM rfl (zN rfl (zF rfl (o8 _ _) (zL rfl (s.ld (k:=0) rfl dV (iw J rfl)) (ax.gY rfl rfl rfl (OpR.delete rfl rfl rfl rfl (Bt (s.ae [4]) Cz bF)) ?_))))))))
      intro v h s
      have s:=s.ae [1,1,1,1,0]
      refine ax.nil ⟨⟨aa,aa,aa,aa,aa,aa,aa,aa,aa,aa⟩,?_⟩
      refine zK 3 rfl (zo rfl (cx rfl (by rw[Gi];rfl)) ?_)
      refine zn rfl (zS rfl (s.HF (k:=0) (row':=fR eR .aV) rfl Cv J hlen (by rfl) rfl) ?_)
      intro h s
      have CT:(pre++(fR eR .aV++post)).length=I.ag.length*5:=by simpa[fR] using hlen
      have tE:(dz I i f).aF=lE f.bj I.aF:=by grind[dz]
      refine zk 5 rfl (zY s 3 vW jt rfl (zm rfl (zc rfl (OJ (n:=n) hT (s.ae [7]) Ek) ?_)))
      rintro v h (⟨hr,rfl,s⟩|⟨hr,u,rfl,s⟩)
      ·dsimp only[bringA,getA,aK] at s
       refine zk 10 rfl (zB rfl aA (by grind) ?_)
       refine zk 8 rfl (WP.ret ⟨aa,_,rfl,?_⟩)
       have s:=fZ (i:=i) (f':=eR) (v':=.aV) (s.ur.ae [2,2,0]) rfl CS J
       have e6:(I.ag.set i eR).length=I.ag.length:=dD
       rw[←e6,←tE] at s
       have s:=(cT (π:=dz I i f)).2 ⟨cG,wh,di,s.ae [3,0,2,2]⟩
       have hR:=fI.read (ε:=(π,μ,δ)) bU i f hq jR g1 pW hf hh KB (by grind)
       rw[Ft] at hR
       exact⟨_,[],_,hR,.inl ⟨hr,rfl,(s.del 2).ae [0,1,0]⟩⟩
      ·have Z1:=Ek.at n
       obtain⟨lM,_,cap,_,rfl,_⟩:=s.fF (by omega)
       refine zk 10 rfl (zC rfl aA (rfl) (zk 7 rfl (zc rfl (Hy hT s (aY _ _) (by omega)) ?_)))
       rintro v h ⟨rfl,s⟩
       refine zk 5 rfl ?_
       by_cases hc:h_ (yN.at n)=0
       ·skip
        refine zC rfl aA (by grind) ?_
        have s:=s.fX.ae [2,2,0,2,2,2,2,0,0]
        refine zk 8 rfl (zo rfl (cx rfl (by rw[Gi];rfl)) ?_)
        refine zn rfl (zS rfl (s.HF (k:=0) (row':=fR ⟨n,yN.at n,1,true,false⟩ (.sl lM 0 (yN.at n).length cap)) rfl Cv J CT (by rfl) rfl) ?_)
        intro h s
        refine zk 5 rfl (zY s 3 qF wQ rfl (zk 2 rfl (au.gY rfl rfl (OpR.mapUpdate rfl rfl rfl rfl (lU (f:=fun v (x:Int)=>.pu (v=.int .i64 x)) (x:=(i:Int)) (fun _ _=>bC.pu _) ((s.ae [4]).gh rfl) Cz bF)) ?_)))
        intro w h s
        refine zk 4 rfl (zc rfl (wT hT (s.ae [3]) (eZ _ _) (by omega)) ?_)
        intro u h s
        refine zk 3 rfl (WP.ret ⟨aa,_,rfl,?_⟩)
        have s:=fZ (i:=i) (f':=⟨n,yN.at n,1,true,false⟩) (s.ae [3,3,1]) rfl CS J
        have e6:(I.ag.set i ⟨n,yN.at n,1,true,false⟩).length=I.ag.length:=dD
        have e7:(iV (dz I i f) i n (yN.at n)).ag=I.ag.set i ⟨n,yN.at n,1,true,false⟩:=by simp[iV,dz]
        rw[←e6,←e7,←tE] at s
        have s:=(cT (π:=iV (dz I i f) i n (yN.at n))).2 ⟨cG,wh,di,s.ae [3,0,1,1]⟩
        have hR:=fI.load (ε:=(π,μ,δ)) bU i f hq jR g1 pW hf hh KB (by grind) (by grind)
        rw[Ft] at hR
        exact⟨_,_,_,hR,.inr ⟨rfl,u,rfl,(s.del 4).ae [1,0]⟩⟩
       ·skip
        refine zB rfl aA (by grind) ?_
        refine zk 8 rfl (WP.ret ⟨aa,_,rfl,?_⟩)
        have s:=s.drop
        have s:=fZ (i:=i) (f':=eR) (v':=.aV) (s.ur.ae [2,2,0]) rfl CS J
        dsimp only[bringA,getA,aK] at s
        have e6:(I.ag.set i eR).length=I.ag.length:=dD
        rw[←e6,←tE] at s
        have s:=(cT (π:=dz I i f)).2 ⟨cG,wh,di,s.ae [3,0,2,2]⟩
        dsimp only[bringA,getA,aK] at s
        have hR:=fI.bad (ε:=(π,μ,δ)) bU i f hq jR g1 pW hf hh KB (by grind) (by grind)
        rw[Ft] at hR
        exact⟨_,[],_,hR,.inl ⟨hc,rfl,(s.del 2).ae [0,1,0]⟩⟩
     ·intro fS
      have fS:f.bj<0:=by grind
      refine zk 6 rfl (zo rfl (cx rfl (by rw[Gi];rfl)) ?_)
      refine zn rfl (zS rfl (s.HF (k:=0) (row':=fR eR .aV) rfl Cv J hlen (by rfl) rfl) ?_)
      intro h s
      dsimp only[setA] at s
      have CT:(pre++(fR eR .aV++post)).length=I.ag.length*5:=by simpa[fR] using hlen
      have tE:(dz I i f).aF=I.aF:=by grind[dz]
      refine zk 5 rfl (zY s 3 vW jt rfl (zm rfl (zc rfl (OJ (n:=n) hT (s.ae [7]) Ek) ?_)))
      rintro v h (⟨hr,rfl,s⟩|⟨hr,u,rfl,s⟩)
      ·dsimp only[bringA,getA,aK] at s
       refine zk 10 rfl (zB rfl aA (by grind) ?_)
       refine zk 8 rfl (WP.ret ⟨aa,_,rfl,?_⟩)
       have s:=fZ (i:=i) (f':=eR) (v':=.aV) (s.ur.ae [2,2,0]) rfl CS J
       dsimp only[bringA,getA,aK] at s
       have e6:(I.ag.set i eR).length=I.ag.length:=dD
       rw[←e6,←tE] at s
       have s:=(cT (π:=dz I i f)).2 ⟨cG,wh,di,s.ae [3,0,2,2]⟩
       dsimp only[bringA,getA,aK] at s
       have hR:=fI.read (ε:=(π,μ,δ)) bU i f hq jR g1 pW hf hh KB (by grind)
       rw[Ft] at hR
       exact⟨_,[],_,hR,.inl ⟨hr,rfl,(s.del 2).ae [0,1,0]⟩⟩
      ·have Z1:=Ek.at n
       obtain⟨lM,_,cap,_,rfl,_⟩:=s.fF (by omega)
       refine zk 10 rfl (zC rfl aA (rfl) (zk 7 rfl (zc rfl (Hy hT s (aY _ _) (by omega)) ?_)))
       rintro v h ⟨rfl,s⟩
       refine zk 5 rfl ?_
       by_cases hc:h_ (yN.at n)=0
       ·skip
        refine zC rfl aA (by grind) ?_
        have s:=s.fX.ae [2,2,0,2,2,2,2,0,0]
        dsimp only[bringA,getA,aK] at s
        refine zk 8 rfl (zo rfl (cx rfl (by rw[Gi];rfl)) ?_)
        refine zn rfl (zS rfl (s.HF (k:=0) (row':=fR ⟨n,yN.at n,1,true,false⟩ (.sl lM 0 (yN.at n).length cap)) rfl Cv J CT (by rfl) rfl) ?_)
        intro h s
        dsimp only[setA] at s
        refine zk 5 rfl (zY s 3 qF wQ rfl (zk 2 rfl (au.gY rfl rfl (OpR.mapUpdate rfl rfl rfl rfl (lU (f:=fun v (x:Int)=>.pu (v=.int .i64 x)) (x:=(i:Int)) (fun _ _=>bC.pu _) ((s.ae [4]).gh rfl) Cz bF)) ?_)))
        intro w h s
        dsimp only[bringA,getA,aK] at s
        refine zk 4 rfl (zc rfl (wT hT (s.ae [3]) (eZ _ _) (by omega)) ?_)
        intro u h s
        dsimp only[bringA,getA,aK] at s
        refine zk 3 rfl (WP.ret ⟨aa,_,rfl,?_⟩)
        have s:=fZ (i:=i) (f':=⟨n,yN.at n,1,true,false⟩) (s.ae [3,3,1]) rfl CS J
        dsimp only[bringA,getA,aK] at s
        have e6:(I.ag.set i ⟨n,yN.at n,1,true,false⟩).length=I.ag.length:=dD
        have e7:(iV (dz I i f) i n (yN.at n)).ag=I.ag.set i ⟨n,yN.at n,1,true,false⟩:=by simp[iV,dz]
        rw[←e6,←e7,←tE] at s
        have s:=(cT (π:=iV (dz I i f) i n (yN.at n))).2 ⟨cG,wh,di,s.ae [3,0,1,1]⟩
        dsimp only[bringA,getA,aK] at s
        have hR:=fI.load (ε:=(π,μ,δ)) bU i f hq jR g1 pW hf hh KB (by grind) (by grind)
        rw[Ft] at hR
        exact⟨_,_,_,hR,.inr ⟨rfl,u,rfl,(s.del 4).ae [1,0]⟩⟩
       ·skip
        refine zB rfl aA (by grind) ?_
        refine zk 8 rfl (WP.ret ⟨aa,_,rfl,?_⟩)
        have s:=s.drop
        have s:=fZ (i:=i) (f':=eR) (v':=.aV) (s.ur.ae [2,2,0]) rfl CS J
        dsimp only[bringA,getA,aK] at s
        have e6:(I.ag.set i eR).length=I.ag.length:=dD
        rw[←e6,←tE] at s
        have s:=(cT (π:=dz I i f)).2 ⟨cG,wh,di,s.ae [3,0,2,2]⟩
        dsimp only[bringA,getA,aK] at s
        have hR:=fI.bad (ε:=(π,μ,δ)) bU i f hq jR g1 pW hf hh KB (by grind) (by grind)
        rw[Ft] at hR
        exact⟨_,[],_,hR,.inl ⟨hc,rfl,(s.del 2).ae [0,1,0]⟩⟩
    ·skip
     refine zB rfl aA (by grind) ?_
     exact zk 8 rfl (WP.ret ⟨aa,_,rfl,_,[],_,.out bU i f hq jR g1 pW hf hh he,.inl ⟨he,rfl,cT.2 ⟨cG,wh,di,s⟩⟩⟩)
   ·obtain⟨i,f,rfl,hf⟩:=RA.at g1
    have hl:=(List.getElem?_eq_some_iff.1 hf).1
    obtain⟨pre,fv,post,J,hlen,s⟩:=iN (s.ae [1]) hf
    have qg:=Rz f (bJ hf)
    have Ka:=RA.len f (bJ hf)
    refine zo rfl (fY rfl rfl g2) (zk 15 rfl (zY s 3 ki oz rfl (zm rfl (zo rfl (cZ rfl rfl (lV (i:=i) hl)) (zk 6 rfl (zf rfl (Ea _ _) (zS rfl (s.stM (k:=0) (j:=3) rfl xJ J hlen (by simp[fR]) rfl rfl) ?_)))))))
    intro h s
    dsimp only[setA] at s
    refine zk 5 rfl (zf rfl (qG _ _) (zl rfl (s.ld (k:=0) rfl dV (iw J rfl)) (zb rfl (by exact aW (az (by omega) (by omega))) ?_)))
    refine zn rfl (zf rfl (qG _ _) (zS rfl (s.stM (k:=0) (j:=2) rfl j6 J (by grind) (by simp[fR]) rfl rfl) ?_))
    intro h s
    have e5:((fR f fv).set 3 (.bool true)).set 2 (.int .i64 (f.pins+1))=fR { f with fA:=true,pins:=f.pins+1 } fv:=rfl
    rw[e5] at s
    refine zk 5 rfl (zf rfl (AD _ _) (zl rfl (s.ld (k:=0) rfl b8 (iw J rfl)) (zc rfl (wT hT (s.ae [2]) (eZ _ _) (by omega)) ?_)))
    intro u h s
    refine zk 3 rfl (WP.ret ⟨aa,_,rfl,?_⟩)
    have s:=fZ (i:=i) (f':={ f with fA:=true,pins:=f.pins+1 }) (s.ae [2,2,1]) rfl hf J
    refine⟨0,f.b,_,.Bd i f hq jR g1 hf,.inr ⟨rfl,u,rfl,?_⟩⟩
    have e6:(π.ag.set i { f with fA:=true,pins:=f.pins+1 }).length=π.ag.length:=dD
    rw[←e6] at s
    exact((cT (π:={ π with ag:=π.ag.set i { f with fA:=true,pins:=f.pins+1 } })).2 ⟨cG,wh,di,s.ae [2,0,1,1]⟩).ae [1,0]
end
def CU : Fm:=⟨0,[],0,false,false⟩
def Pl.fresh (n:Nat): Pl:=⟨List.replicate n eR,[],[],0⟩
theorem U6 : ∃i,Tryz.prog.info? 230=some i∧i.size=5∧i.bytes=48 :=
 ⟨_,(show Tryz.prog.info? 230=some ((Tryz.prog.info? 230).getD default) by kernel_rfl),by kernel_rfl,by kernel_rfl⟩
theorem RC {a b:PM}: ∀n:Nat,(tP (repeatL [.int .i64 0,.aV,.int .i64 0,.bool false,.bool false] n) (List.replicate n CU)).p a b:=by
 intro n
 induction n with
 |zero=>trivial
 |succ n I=>exact⟨⟨⟨rfl,rfl,rfl,rfl⟩,⟨(by intro b J;cases J),.inl ⟨.inl rfl,rfl⟩⟩⟩,I⟩
section
variable {told:cC} {p:Nat} {v:V} {m:List Fm}
noncomputable def pnL : Code:=cm [1,1,1,0,1,0,0] ((Tryz.f64.body).getD .skip)
theorem ON (hn:n<4294967296): ∀(j i:Nat) (m:List Fm) (h:H) (E:List (Nat×V)) (Q:Ex→List (Nat×V)→H→Prop),i+j=n→m=List.replicate i eR++List.replicate j CU →
  Sat h (pt r (.cells 6 (pV p q cG n wh di 0) false)::eN cG m::S)→Has E [(8,.ptr r 0),(28,.int .i64 n),(29,.int .i64 i)] →
  (∀E' h',Has E' [(8,.ptr r 0)]→Sat h' (pt r (.cells 6 (pV p q cG n wh di 0) false)::eN cG (List.replicate n eR)::S)→Q (.exit 0) E' h')→WP ⟨Tryz.prog,told⟩ 41 (.loop pnL) E h Q:=by
 intro j
 induction j with
 |zero =>
  intro i m h E Q hi hm s J hx
  refine WP.loop (WP.has J (zg rfl (zC rfl aT (by simp<;>omega) ?_)))
  refine zk 3 rfl (WP.exit (hx _ _ ⟨rfl,aa⟩ ?_))
  rw[hm] at s
  have:i=n:=by omega
  subst this
  simpa using s
 |succ j ih =>
  intro i m h E Q hi hm s J hx
  have TT:m.length=n:=by rw[hm];simp;omega
  have hf:m[i]?=some CU:=by rw[hm,zQ (by simp)];simp[zV]
  obtain⟨pre,fv,post,I,hlen,s⟩:=iN (s.ae [1]) hf
  dsimp only[bringA,getA,aK] at s
  refine WP.loop (WP.has J (zg rfl (zB rfl aT (by simp<;>omega) ?_)))
  refine zk 5 rfl (WP.block (zK 8 rfl (zY s 3 ki oz rfl (zm rfl (zo rfl (cZ rfl rfl (lV (i:=i) (by omega))) ?_)))))
  refine zf rfl (o8 _ _) (zS rfl (s.stM (k:=0) (j:=0) rfl j6 I hlen (by simp[fR]) rfl rfl) ?_)
  intro h s
  dsimp only[setA] at s
  have e5:(fR CU fv).set 0 (.int .i64 (-1))=fR eR fv:=rfl
  rw[e5] at s
  refine zv (zr rfl (zb rfl (by exact aW (az (by omega) (by omega))) ?_))
  refine zm rfl (zv ?_)
  have s:=fZ (i:=i) (f':=eR) s rfl hf I
  refine ih (i+1) (m.set i eR) h _ Q (by omega) ?_ (s.ae [1,0]) ⟨rfl,rfl,rfl,aa⟩ hx
  rw[hm,List.set_append_right _ _ (by simp),fD,Ac,zV,List.set_cons_zero,List.replicate_succ',dB]
  rfl
theorem U7 (hT:W told){n:Int}(s:Sat h S): Call ⟨Tryz.prog,told⟩ 64 [.ptr p 0,.ptr q 0,.int .i64 n] h fun v h' =>
  (¬(1≤n∧n≤1024)∧v=.aO [.aZ,.int .i64 1]∧Sat h' S)∨(1≤n∧n≤1024∧∃r,v=.aO [.ptr r 0,.int .i64 0]∧Sat h' (cL r p q (Pl.fresh n.toNat)::S)):=by
 refine Call.of_wp (hT.free _ rfl) Tryz.func64 rfl rfl (zK 9 rfl ?_)
 refine zd rfl (aq rfl rfl aT) ?_ ?_
 ·intro J
  have J:n<1:=by simpa using J
  exact zk 11 rfl (WP.ret ⟨aa,_,rfl,.inl ⟨fun q=>by omega,rfl,s⟩⟩)
 ·intro J
  have J:1≤n:=by simp at J;omega
  refine zk 2 rfl ?_
  refine zd rfl (aq rfl rfl er) ?_ ?_
  ·intro I
   have I:1024<n:=by simpa using I
   exact zk 8 rfl (WP.ret ⟨aa,_,rfl,.inl ⟨fun q=>by omega,rfl,s⟩⟩)
  ·intro I
   have I:n≤1024:=by simp at I;omega
   obtain⟨n,rfl⟩:∃k:Nat,n=k:=⟨n.toNat,by omega⟩
   refine zk 9 rfl ?_
   obtain⟨i1,jX,jd,tK⟩:=U6
   obtain⟨id,h1,e1,s1⟩:=Fc (P:=Tryz.prog) s yH jX ZL jd (by omega) rfl (by decide) (n:=n) (by omega)
   refine au.any rfl rfl rfl (OpR.of (R:=fun v h'=>v=.sl id 0 n (.exact n)∧h'=h1) (uk rfl rfl e1) ⟨rfl,rfl⟩) ?_
   rintro v h ⟨rfl,rfl⟩
   have s:Sat h (eN id (List.replicate n CU)::S):=jF.2 ⟨_,by rw[fD];exact((s1.gh (φ:=True) aa).j5 fun a b _=>RC n).ae [1]⟩
   refine au.yC s rfl rfl rfl rfl (fun p20 h s => ?_)
   refine au.yC s rfl rfl rfl rfl (fun p21 h s => ?_)
   refine zo rfl (cx rfl (by rw[ZI];rfl)) ?_
   refine au.bP s rfl rfl rfl (dG rfl rfl) (fun p23 h s => ?_)
   refine zk 7 rfl (zY s 0 ki oz rfl (zo rfl (a_ rfl rfl rfl (qJ rfl yH)) (zk 2 rfl (WP.block ?_))))
   have s:=qM (f:=fun v (x:Nat×Bool)=>.pu (v=.agg [.int .u64 (x.1:Int),.bool x.2])) (s.ae [1])
   have s:=qM (f:=fun v (x:Int)=>.pu (v=.int .i64 x)) (s.ae [2])
   have s:=s.ae [2,2,0,0]
   refine ON (n:=n) (by omega) n 0 _ _ _ _ (by omega) rfl s ⟨rfl,rfl,rfl,aa⟩ (fun E' h' eS s' => ?_)
   refine WP.has eS (zK 6 rfl (WP.ret ⟨aa,_,rfl,?_⟩))
   refine .inr ⟨J,I,_,rfl,(cT (π:=Pl.fresh n)).2 ⟨id,.map p20,.map p21,?_⟩⟩
   have e6:(Pl.fresh n).ag.length=n:=by simp[Pl.fresh]
   rw[e6]
   exact s'
end
theorem OO {c:Nat}: ∀ {l:cn} {b:Nat},fO c b l→bornUp c b (l.map kU)=true:=by
 intro l
 induction l with
 |nil=>intro b _;rfl
 |cons e l I =>
  intro b h
  obtain⟨J,h2,h3⟩:=h
  simp only[dQ,kU,iS,bornUp]
  rw[show(Nat.ble b e.2.2&&Nat.blt e.2.2 c)=true by rw[bK,aG];exact⟨J,by rw[Nat.blt];exact aG.2 h2⟩,ah]
  exact I h3
theorem Mg : ∀ {l:cn},(∀e∈l,(Lit.int .i64 e.1).wf=true)→keyInts (l.map kU)=some (l.map (·.1)):=by
 intro l
 induction l with
 |nil=>intro _;rfl
 |cons e l I =>
  intro h
  simp only[dQ,kU,iS,keyInts]
  rw[h e c8,ah]
  have:=I (fun e he=>h e (cU _ he))
  rw[this]
theorem Jy {x:Int}: ∀ {l:List Int},l.Pairwise (· < ·)→x∉l→(insI x l).Pairwise (· < ·):=by
 intro l
 induction l with
 |nil=>intro _ _;simp[insI]
 |cons y l ih =>
  intro h hx
  simp only[sK,jI,not_or] at h hx
  simp only[insI]
  by_cases J:x≤y
  ·rw[e_ J,ah]
   have:x<y:=by omega
   simp only[sK,jI]
   refine⟨fun z I => ?_,h⟩
   rcases I with rfl|I
   ·exact this
   ·have:=h.1 z I;omega
  ·rw[fQ J,aL]
   simp only[sK]
   refine⟨fun z I => ?_,ih h.2 hx.2⟩
   have:=(yt x l).mem_iff.1 I
   rcases List.mem_cons.1 this with rfl|I
   ·omega
   ·exact h.1 z I
theorem Jz : ∀ {l:List Int},l.Nodup→(mB l).Pairwise (· < ·):=by
 intro l
 induction l with
 |nil=>intro _;exact List.Pairwise.nil
 |cons x l I =>
  intro h
  simp only[sN] at h
  exact Jy (I h.2) (fun J=>h.1 ((eP l).mem_iff.1 J))
theorem RD : ∀ {l:List Int},l.Pairwise (· < ·)→rE l=true:=by
 intro l
 induction l with
 |nil=>intro _;rfl
 |cons x l I =>
  intro h
  simp only[sK] at h
  simp only[rE,bK,vp,gD]
  exact⟨h.1,I h.2⟩
section
variable {f:V→α→aP} {told:cC} {mv:V} {m:List (Int×α)} {b:Nat}
theorem RE (I:W told)(s:Sat h S): Call ⟨Tryz.prog,told⟩ 115 [.map id] h fun v h'=>∃b,v=.fn (.func 187) [] [.ptr b 0]∧Sat h' (pt b (.cells 1 [.map id] false)::S):=by
 refine Call.of_wp (I.free _ rfl) Tryz.func115 rfl rfl (zg rfl ?_)
 refine au.bP s rfl rfl rfl (dG rfl rfl) (fun p1 h s => ?_)
 exact zk 4 rfl (zo rfl (sB rfl rfl) (zk 2 rfl (WP.ret ⟨aa,_,rfl,_,rfl,s⟩)))
theorem RF (I:W told)(s:Sat h S): Call ⟨Tryz.prog,told⟩ 181 [.map id] h fun v h'=>∃b,v=.fn (.func 218) [] [.ptr b 0]∧Sat h' (pt b (.cells 1 [.map id] false)::S):=by
 refine Call.of_wp (I.free _ rfl) Tryz.func181 rfl rfl (zg rfl ?_)
 refine au.bP s rfl rfl rfl (dG rfl rfl) (fun p1 h s => ?_)
 exact zk 4 rfl (zo rfl (sB rfl rfl) (zk 2 rfl (WP.ret ⟨aa,_,rfl,_,rfl,s⟩)))
def aX (m:List (Int×α)): List Int:=mB (m.map (·.1))
theorem iy {n:Int}: n∈aX m↔n∈m.map (·.1):=(eP _).mem_iff
theorem RG (l:List Int): (dy l).all storable=true:=by simp[dy,storable]
theorem rL (hT:W told)(s:Sat h (pt b (.cells 1 [mv] false)::qL f mv m::S))(hg:wq AG g=true)(hm:m.length≤1048576)(hk:∀n∈m.map (·.1),(Lit.int .i64 n).wf=true):
  Call ⟨Tryz.prog,told⟩ 106 [.fn (.func g) [] [.ptr b 0]] h fun v h'=>Sat h' (.arr 1 v (dy (aX m))::pt b (.cells 1 [mv] false)::qL f mv m::S):=by
 obtain⟨id,l,c,rfl,hb,hn,s1⟩:=iT.1 (s.ae [1])
 have s1:Sat h (qK id l c::eW f l m::pt b (.cells 1 [.map id] false)::S):=s1
 obtain⟨q1,q2,q3,q4,q5⟩:=s1.at (k:=1) rfl
 have I:=nE q5
 have hlen:l.length=m.length:=by have:=iZ List.length I;simpa using this
 have qw:=s1.row (k:=0) rfl
 have aaX:=s1.row (k:=2) rfl
 have nW:∀e∈l,(Lit.int .i64 e.1).wf=true:=fun e he=>hk e.1 (by rw[←I];exact vk he)
 have hri:rE (mB (l.map (·.1)))=true:=RD (Jz (by rw[I];exact hn))
 have J:∃v h',toldSorted AG [.fn (.func g) [] [.ptr b 0]] h=some (v,h')∧Sat h' (.arr 1 v (dy (aX m))::pt b (.cells 1 [.map id] false)::qL f (.map id) m::S):=by
  simp only[toldSorted,aaX,qw,eL,hg,OO hb,Mg nW,hri]
  rw[show(Nat.beq 1 1&&true&&true&&Nat.ble l.length 1048576)=true by rw[aG.2 (by omega)];rfl,ah]
  simp only[ah]
  cases hl:l.map (·.1) with
  |nil =>
   refine⟨_,_,rfl,?_⟩
   have:aX m=[]:=by rw[aX,←I,hl];rfl
   rw[this]
   exact s.mU
  |cons x xs =>
   refine⟨_,_,rfl,?_⟩
   have e1:aX m=mB (x::xs):=by rw[aX,←I,hl]
   have e2:(mB (x::xs)).length=(x::xs).length:=(eP _).length_eq
   have e3:(x::xs).length=l.length:=by rw[←hl,eL]
   rw[e1,←e3]
   refine(s.new (.cells (dy (mB (x::xs))).length (dy (mB (x::xs))) false)).j5 fun a r EV=>⟨RG _,.inr ⟨h.next,(x::xs).length,.rest 1 0,(dy (mB (x::xs))).length,[],rfl,?_,?_,by simp,rfl,rfl,rfl,rfl,by simp⟩⟩
   ·rw[iW];exact EV
   ·simp only[dy,eL,e2,ig]
 obtain⟨v,h',e1,e2⟩:=J
 exact⟨v,h',fL.told hT.sorted Tryz.func106 rfl e1,e2⟩
end
structure oF (ε:bq): Prop where
 pl:ε.1.Ok
 lg:ε.2.1.Ok
 dk:ε.2.2.Ok
theorem RH (h:ε.1.Ok): (outF ε i).2.1.Ok:=by
 unfold outF
 split
 ·exact h
 ·rename_i f J
  have hm:=bJ J
  split
  ·exact h
  ·split
   ·exact h
   ·split
    ·exact h
    ·split
     ·exact h
     ·refine⟨by simp only[dD];exact h.hand,by simp only[dD];exact h.many,fun e he=>by simp only[dD];exact h.aF e he,fun g I => ?_,fun g I => ?_⟩
      ·rcases oL I with I|rfl
       ·exact h.len g I
       ·exact h.len f hm
      ·rcases oL I with I|rfl
       ·exact h.pins g I
       ·exact h.pins f hm
theorem qQ (h:oF ε): oF (outF ε i).2:=⟨RH h.pl,RB h.lg,BA h.dk⟩
theorem Be {n:Int}: (δ.dx n b).2.waiting.length≤δ.waiting.length+1:=by
 unfold Dk.dx
 split
 ·exact mo _
 ·split
  ·exact mo _
  ·split
   ·exact mo _
   ·exact Nat.le_of_eq (by simp[Dk.wr])
theorem OP : (outF ε i).2.2.2.waiting.length≤ε.2.2.waiting.length+1:=by
 unfold outF
 split
 ·exact mo _
 ·rename_i f J
  split
  ·exact mo _
  ·split
   ·exact mo _
   ·split
    ·exact Nat.le_succ_of_le (Nat.le_of_eq (by rw[mZ]))
    ·have I:=Be (δ:=(bG ε.2 (dg f.b 4 8)).2.2) (n:=f.bj) (b:=f.b)
     rw[mZ] at I
     split<;>exact I
theorem JA {n:Int}(h:oF ε): oF (eX ε n).2:=by
 unfold eX
 split
 ·exact h
 ·exact qQ h
theorem HH {n:Int}: (eX ε n).2.2.2.waiting.length≤ε.2.2.waiting.length+1:=by
 unfold eX
 split
 ·exact mo _
 ·exact OP
def writeAllF : List Int→bq→Int×bq
 |[],ε=>(0,ε)
 |n::l,ε=>if (eX ε n).1≠0 then eX ε n else writeAllF l (eX ε n).2
section
variable {told:cC} {p:Nat} {v:V} {m:List Fm}
noncomputable def waL : Code:=cm [1,0,1,0,0] ((Tryz.f56.body).getD .skip)
theorem F1 (hT:W told)(Fu:ks.length≤1048576): ∀(j i:Nat) (ε:bq) (h:H) (E:List (Nat×V)) (Q:Ex→List (Nat×V)→H→Prop),i+j=ks.length→oF ε→ε.2.2.waiting.length+j≤268435456 →
  Sat h (cL r p q ε.1::bx q p ε.2.1::aJ p ε.2.2::.arr 1 kv (dy ks)::S)→Has E [(0,.ptr r 0),(11,kv),(12,.int .i64 ks.length),(13,.int .i64 i)] →
  ((writeAllF (ks.drop i) ε).1≠0→∀E' h',look E' 2=some (.int .i64 (writeAllF (ks.drop i) ε).1)→Sat h' (cL r p q (writeAllF (ks.drop i) ε).2.1::bx q p (writeAllF (ks.drop i) ε).2.2.1::aJ p (writeAllF (ks.drop i) ε).2.2.2::S)→Q .ret E' h') →
  ((writeAllF (ks.drop i) ε).1=0→∀E' h',Sat h' (cL r p q (writeAllF (ks.drop i) ε).2.1::bx q p (writeAllF (ks.drop i) ε).2.2.1::aJ p (writeAllF (ks.drop i) ε).2.2.2::S)→Q (.exit 0) E' h') →
  WP ⟨Tryz.prog,told⟩ 24 (.loop waL) E h Q:=by
 intro j
 induction j with
 |zero =>
  intro i ε h E Q hi I hw s hE J hx
  refine WP.loop (WP.has hE (zg rfl (zC rfl aT (by simp<;>omega) ?_)))
  refine zk 3 rfl (WP.exit ?_)
  rw[jH (by omega)] at hx
  exact hx rfl _ _ (s.del 3)
 |succ j ih =>
  intro i ε h E Q hi I hw s hE J hx
  have hn:ks[i]?=some (ks[i]'(by omega)):=bw _
  generalize (ks[i]'(by omega))=n at hn
  have hc:(dy ks)[i]?=some (.int .i64 n):=by simp[dy,hn]
  have mI:ks.drop i=n::ks.drop (i+1):=by
   obtain⟨h1,rfl⟩:=List.getElem?_eq_some_iff.1 hn
   exact oK h1
  rw[mI] at J hx
  obtain⟨id,off,e1,e2⟩:=iH (P:=Tryz.prog) s (k:=3) rfl hc dW j6
  have aaY:=JA (n:=n) I
  have TU:=HH (ε:=ε) (n:=n)
  refine WP.loop (WP.has hE (zg rfl (zB rfl aT (by simp<;>omega) ?_)))
  refine zk 5 rfl (WP.block (zg rfl (zo rfl (cZ (r:=.ptr id off) rfl rfl e1) (zl rfl (e2 _ dV) (zk 6 rfl (zc rfl (OL (n:=n) hT s I.pl I.lg I.dk (by omega)) ?_))))))
  rintro v h ⟨rfl,s⟩
  simp only[writeAllF] at J hx
  refine zk 5 rfl ?_
  by_cases he:(eX ε n).1=0
  ·skip
   refine zC rfl aA (by simp;exact he) ?_
   refine zv (zj rfl (WP.skip (zr rfl (zb rfl (by exact aW (az (by omega) (by omega))) ?_))))
   refine zm rfl (zv ?_)
   rw[aj (by simpa using he)] at J hx
   exact ih (i+1) (eX ε n).2 h _ Q (by omega) aaY (by omega) s ⟨rfl,rfl,rfl,rfl,aa⟩ J hx
  ·skip
   refine zB rfl aA (by simp;exact he) ?_
   refine zk 7 rfl (WP.ret ?_)
   rw[aC he] at J
   exact J he _ _ rfl (s.del 3)
theorem JB (I:W told)(s:Sat h (cL r p q π::bx q p μ::aJ p δ::S))(J:oF (π,μ,δ))(hw:δ.waiting.length+π.aF.length≤268435456)(hm:π.aF.length≤1048576)(hk:∀n∈π.aF.map (·.1),(Lit.int .i64 n).wf=true):
  Call ⟨Tryz.prog,told⟩ 56 [.ptr r 0] h fun v h'=>v=.int .i64 (writeAllF (aX π.aF) (π,μ,δ)).1 ∧
   Sat h' (cL r p q (writeAllF (aX π.aF) (π,μ,δ)).2.1::bx q p (writeAllF (aX π.aF) (π,μ,δ)).2.2.1::aJ p (writeAllF (aX π.aF) (π,μ,δ)).2.2.2::S):=by
 obtain⟨cG,wh,di,s⟩:=cT.1 s
 obtain⟨wid,rfl⟩:=yF s (j:=2) rfl
 have hl:(aX π.aF).length=π.aF.length:=by rw[aX,(eP _).length_eq,eL]
 refine Call.of_wp (I.free _ rfl) Tryz.func56 rfl rfl (zK 9 rfl (zY s 0 qF wQ rfl (zc rfl (RE I s) ?_)))
 rintro v h ⟨b,rfl,s⟩
 refine zc rfl (rL I (s.ae [0,2]) (by decide) hm hk) ?_
 intro kv h s
 refine zo rfl (a_ rfl rfl rfl (s.fN (n:=(aX π.aF).length) (j:=0) rfl (by simp[dy]) (by decide) dW)) ?_
 refine zk 2 rfl (WP.block ?_)
 have s:=cT.2 ⟨cG,.map wid,di,s.ae [3,3,2,2]⟩
 have s:=(s.del 2).ae [0,1,1,0]
 refine F1 I (ks:=aX π.aF) (by omega) (aX π.aF).length 0 (π,μ,δ) _ _ _ (by omega) J (by simp only;omega) s ⟨rfl,rfl,rfl,rfl,aa⟩ (fun he E' h' h2 s' => ?_) (fun he E' h' s' => ?_)
 ·rw[gE] at h2 s'
  exact⟨aa,_,lR h2,rfl,s'⟩
 ·rw[gE] at he s'
  rw[he]
  exact WP.has (F:=[]) aa (zK 4 rfl (WP.ret ⟨aa,_,rfl,rfl,s'⟩))
end
def dirtC (π:Pl): List Int→List V
 |[]=>[]
 |n::l=>.int .i64 n::.int .u64 (gx π n 0:Nat)::dirtC π l
theorem yO (π:Pl): ∀l:List Int,(dirtC π l).length=l.length*2:=by
 intro l
 induction l with
 |nil=>rfl
 |cons n l I=>simp only[dirtC,bn,I];omega
theorem OQ (π:Pl): ∀l m:List Int,dirtC π (l++m)=dirtC π l++dirtC π m:=by
 intro l m
 induction l with
 |nil=>rfl
 |cons n l I=>simp only[ie,dirtC,I]
theorem Fv : ∃i,Tryz.prog.info? 210=some i∧i.size=2∧i.bytes=16 :=
 ⟨_,(show Tryz.prog.info? 210=some ((Tryz.prog.info? 210).getD default) by kernel_rfl),by kernel_rfl,by kernel_rfl⟩
section
variable {told:cC} {p:Nat} {v:V} {m:List Fm}
noncomputable def diL : Code:=cm [1,1,0,1,0,0] ((Tryz.f111.body).getD .skip)
theorem Mh (hT:W told)(Fu:ks.length≤1048576): ∀(j i:Nat) (av:V) (h:H) (E:List (Nat×V)) (Q:Ex→List (Nat×V)→H→Prop),i+j=ks.length →
  Sat h (.arr 2 av (dirtC π (ks.take i))::cL r p q π::.arr 1 kv (dy ks)::S)→Has E [(0,.ptr r 0),(3,av),(17,kv),(18,.int .i64 ks.length),(19,.int .i64 i)] →
  (∀I E' h',look E' 3=some I→Sat h' (.arr 2 I (dirtC π ks)::cL r p q π::S)→Q (.exit 0) E' h') →
  WP ⟨Tryz.prog,told⟩ 37 (.loop diL) E h Q:=by
 intro j
 induction j with
 |zero =>
  intro i av h E Q hi s hE hx
  refine WP.loop (WP.has hE (zg rfl (zC rfl aT (by simp<;>omega) ?_)))
  refine zk 3 rfl (WP.exit ?_)
  rw[gC (by omega)] at s
  exact hx _ _ _ rfl (s.del 2)
 |succ j ih =>
  intro i av h E Q hi s hE hx
  have hn:ks[i]?=some (ks[i]'(by omega)):=bw _
  generalize (ks[i]'(by omega))=n at hn
  have hc:(dy ks)[i]?=some (.int .i64 n):=by simp[dy,hn]
  have J:ks.take (i+1)=ks.take i++[n]:=by rw[vm,hn];rfl
  obtain⟨id,off,e1,e2⟩:=iH (P:=Tryz.prog) s (k:=2) rfl hc dW j6
  refine WP.loop (WP.has hE (zg rfl (zB rfl aT (by simp<;>omega) ?_)))
  refine zk 5 rfl (WP.block (zg rfl (zo rfl (cZ (r:=.ptr id off) rfl rfl e1) (zl rfl (e2 _ dV) ?_))))
  obtain⟨cG,wh,di,s⟩:=cT.1 (s.ae [1])
  dsimp only[bringA,getA,aK] at s
  refine zk 7 rfl (zY s 0 mz qY rfl (zm rfl ?_))
  have Fw:dZ Tryz.prog h 215 di (.int .i64 n) false=some (.agg [.int .u64 (gx π n 0:Nat),.bool (match lookL n π.bu with|some x=>x.2|none=>false)]):=by
   rcases Ej (n:=n) (s.ae [3]) with⟨g1,_,g2⟩|⟨x,g1,_,g2⟩
   ·rw[g2];simp only[gx,g1];rfl
   ·rw[g2];simp only[gx,g1]
  refine zo rfl (fY rfl rfl Fw) (zo rfl (Tz rfl (TA (Kq _) rfl)) (zo rfl (cx rfl (by rw[ZG];rfl)) ?_))
  obtain⟨rv,h1,tQ,s1⟩:=kj (P:=Tryz.prog) (x:=.agg [.int .i64 n,.int .u64 (gx π n 0:Nat)]) s yI Gh LU rfl (by decide) (by decide) rfl rfl
  dsimp only[V.cells] at s1
  refine au.any rfl rfl rfl (OpR.of (R:=fun v h'=>v=rv∧h'=h1) (mC rfl tQ) ⟨rfl,rfl⟩) ?_
  rintro v h' ⟨rfl,rfl⟩
  obtain⟨i1,jX,jd,tK⟩:=Fv
  have eH:(ks.take i).length≤1048576:=by simp;omega
  obtain⟨I,h2,om,s2⟩:=g_ (s1.ae [5,0]) yI jX Gh jd (by omega) rfl (by decide) (by simp only[yO,bn,cr];omega)
  dsimp only[bringA,getA,aK] at s2
  refine au.any rfl rfl rfl (OpR.of (R:=fun v h'=>v=I∧h'=h2) (ox rfl rfl om) ⟨rfl,rfl⟩) ?_
  rintro v h' ⟨rfl,rfl⟩
  refine za rfl (zv (zr rfl (zb rfl (by exact aW (az (by omega) (by omega))) ?_)))
  refine zm rfl (zv ?_)
  have s3:=cT.2 ⟨cG,wh,di,s2.ae [2,2,2,2]⟩
  have s4:=(s3.del 2).ae [1,0,0]
  refine ih (i+1) _ _ _ _ (by omega) ?_ ⟨rfl,rfl,rfl,rfl,rfl,aa⟩ hx
  rw[J,OQ]
  exact s4
theorem RJ (I:W told)(s:Sat h (cL r p q π::S))(hm:π.bu.length≤1048576)(hk:∀n∈π.bu.map (·.1),(Lit.int .i64 n).wf=true):
  Call ⟨Tryz.prog,told⟩ 111 [.ptr r 0] h fun v h'=>Sat h' (.arr 2 v (dirtC π (aX π.bu))::cL r p q π::S):=by
 obtain⟨cG,wh,di,s⟩:=cT.1 s
 obtain⟨J,rfl⟩:=yF s (j:=3) rfl
 have hl:(aX π.bu).length=π.bu.length:=by rw[aX,(eP _).length_eq,eL]
 refine Call.of_wp (I.free _ rfl) Tryz.func111 rfl rfl (zK 8 rfl (zY s 0 mz qY rfl (zo rfl (a_ rfl rfl rfl (Bu (s.ae [3]) rJ)) ?_)))
 obtain⟨i1,jX,jd,tK⟩:=Fv
 obtain⟨av,h1,e1,s1⟩:=uq (P:=Tryz.prog) s yI jX Gh jd (by omega) rfl (by decide) (by decide) (n:=0) (c:=π.bu.length) (by omega) (by omega)
 dsimp only[repeatL] at s1
 refine au.any rfl rfl rfl (OpR.of (R:=fun v h'=>v=av∧h'=h1) (uk rfl rfl e1) ⟨rfl,rfl⟩) ?_
 rintro v h' ⟨rfl,rfl⟩
 have s:=s1
 refine zk 7 rfl (zY s 1 mz qY rfl (zc rfl (RF I s) ?_))
 rintro v h ⟨b,rfl,s⟩
 refine zc rfl (rL I (s.ae [0,4]) (by decide) hm hk) ?_
 intro kv h s
 refine zo rfl (a_ rfl rfl rfl (s.fN (n:=(aX π.bu).length) (j:=0) rfl (by simp[dy]) (by decide) dW)) ?_
 refine zk 2 rfl (WP.block ?_)
 have s:=cT.2 ⟨cG,wh,.map J,s.ae [4,4,4,2]⟩
 have s:=(s.del 2).ae [2,0,0]
 refine Mh I (π:=π) (ks:=aX π.bu) (by omega) (aX π.bu).length 0 _ _ _ _ (by omega) s ⟨rfl,rfl,rfl,rfl,rfl,aa⟩ (fun nR E' h' h2 s' => ?_)
 exact WP.has (F:=[(3,nR)]) ⟨h2,aa⟩ (zK 5 rfl (WP.ret ⟨aa,_,rfl,s'⟩))
end
def HI (ak:Nat)(Q:Ex→List (Nat×V)→H→Prop)(c:Ctx)(a:Act)(w:World)(e:Exit)(J:Act)(w':World): Prop :=
 ∃ex I h' E',e=exOf ex∧iz I E'∧Q ex E' h'∧J.defers=a.defers∧∃c',Rel c' h' w'∧cX c' I ak J∧bZ c w c' w'
def WPO (C:eO)(ak:Nat)(code:Code)(E:List (Nat×V))(h:H)(Q:Ex→List (Nat×V)→H→Prop): Prop :=
 ∀(c:Ctx) (a:Act) (w:World) (env:Env),iz env E→Rel c h w→cX c env ak a→code.wpIn (Fr none) 0 C.P (HI ak Q c a w) a w
section
variable {C:eO} {ak:Nat} {Q':Ex→List (Nat×V)→H→Prop} {a b:Code}
theorem HI.trans {c₁:Ctx}{A I a':Act}{w J w':World}{e:Exit}(hd:I.defers=A.defers)(hs:bZ c w c₁ J)(ho:HI ak Q c₁ I J e a' w'): HI ak Q c A w e a' w':=by
 obtain⟨ex,Mi,h',E',h1,h2,h3,h4,c',h5,h6,h7⟩:=ho
 exact⟨ex,Mi,h',E',h1,h2,h3,h4.trans hd,c',h5,h6,hs.trans h7⟩
theorem WPO.of (hm:C.P.follows .mixedOrders=true)(J:ep C)(hw:WP C ak a E h Q): WPO C ak a E h Q:=by
 intro c A w env hE hr he
 obtain⟨N,ex,I,h',E',h1,h2,h3⟩:=hw env hE
 refine wpIn_mono ((ym hm J N).1 _ _ _ _ h1 none c A w hr he) ?_
 rintro e a' w' ⟨rfl,h4,c',h5,h6,h7⟩
 exact⟨ex,I,h',E',rfl,h2,h3,h4,c',h5,h6,h7⟩
theorem WPO.mono (hw:WPO C ak a E h Q)(J:∀ex E' h',Q ex E' h'→Q' ex E' h'): WPO C ak a E h Q':=by
 intro c A w env hE hr he
 refine wpIn_mono (hw c A w env hE hr he) ?_
 rintro e a' w' ⟨ex,I,h',E',h1,h2,h3,h4⟩
 exact⟨ex,I,h',E',h1,h2,J _ _ _ h3,h4⟩
theorem WPO.seq (hw:WPO C ak a E h fun ex E' h'=>match ex with
  |.normal=>WPO C ak b E' h' Q
  |ex=>Q ex E' h'): WPO C ak (.seq a b) E h Q:=by
 intro c A w env hE hr he
 refine wpIn_seq (wpIn_mono (hw c A w env hE hr he) ?_)
 rintro e J rC ⟨ex,I,h',E',rfl,h2,h3,h4,c₁,h5,h6,h7⟩
 cases ex with
 |normal=>exact wpIn_mono (h3 c₁ J rC I h2 h5 h6) fun e a' w' ho=>ho.trans h4 h7
 |exit i=>exact⟨_,I,h',E',rfl,h2,h3,h4,c₁,h5,h6,h7⟩
 |ret=>exact⟨_,I,h',E',rfl,h2,h3,h4,c₁,h5,h6,h7⟩
theorem WPO.cond {x:Operand}{t:Bool}(J:bf E x=some (.bool t))(hw:WPO C ak (_root_.cond t a b) E h Q): WPO C ak (.cond x a b) E h Q:=by
 intro c A w env I hr he
 obtain⟨e1,_⟩:=vG he (bN I J)
 refine wpIn_cond (t:=t) (by rw[e1];rfl) ?_
 have:=hw c A w env I hr he
 cases t<;>simpa using this
theorem WPO.block (hw:WPO C ak b E h fun ex E' h'=>match ex with
  |.exit j=>_root_.cond (Nat.beq j i) (Q .normal E' h') (Q (.exit j) E' h')
  |ex=>Q ex E' h'): WPO C ak (.block i b) E h Q:=by
 intro c A w env hE hr he
 refine wpIn_block (wpIn_mono (hw c A w env hE hr he) ?_)
 rintro e AS rC ⟨ex,I,h',E',rfl,h2,J,h4,c₁,h5,h6,h7⟩
 cases ex with
 |normal=>simp only[exOf,Exit.inBlock];exact⟨.normal,I,h',E',rfl,h2,J,h4,c₁,h5,h6,h7⟩
 |exit j =>
  by_cases hj:j=i
  ·simp only[rV hj,ah] at J
   simp only[exOf,Exit.inBlock,hj,cA]
   exact⟨.normal,I,h',E',rfl,h2,J,h4,c₁,h5,h6,h7⟩
  ·simp only[eD hj,aL] at J
   simp only[exOf,Exit.inBlock,hj,fb]
   exact⟨.exit j,I,h',E',rfl,h2,J,h4,c₁,h5,h6,h7⟩
 |ret=>simp only[exOf,Exit.inBlock];exact⟨.ret,I,h',E',rfl,h2,J,h4,c₁,h5,h6,h7⟩
theorem WPO.loop (J:Nat→List (Nat×V)→H→Prop)(hJ:∀j E h,J j E h→WPO C ak b E h fun ex E' h'=>match ex with
  |.normal=>∃i,i<j∧J i E' h'
  |ex=>Q ex E' h')(h0:J j E h): WPO C ak (.loop b) E h Q:=by
 have key:∀m j E h,j<m→J j E h→∀(c:Ctx) (A:Act) (w:World) (env:Env) (R:Exit→Act→World→Prop),iz env E→Rel c h w→cX c env ak A →
   (∀e a' w',HI ak Q c A w e a' w'→R e a' w')→Code.roundsIn (Fr none) 0 C.P b R m A w:=by
  intro m
  induction m with
  |zero=>intro j E h hj;omega
  |succ m ih =>
   intro j E h hj hJj c A w env R hE hr he hR
   rw[roundsIn_succ]
   refine wpIn_mono (hJ j E h hJj c A w env hE hr he) ?_
   rintro e AS rC ⟨ex,I,h',E',rfl,h2,h3,h4,c₁,h5,h6,h7⟩
   cases ex with
   |normal =>
    obtain⟨i,hi,h3⟩:=h3
    exact ih i E' h' (by omega) h3 c₁ AS rC I R h2 h5 h6 fun e a' w' ho=>hR _ _ _ (ho.trans h4 h7)
   |exit i=>exact hR _ _ _ ⟨_,I,h',E',rfl,h2,h3,h4,c₁,h5,h6,h7⟩
   |ret=>exact hR _ _ _ ⟨_,I,h',E',rfl,h2,h3,h4,c₁,h5,h6,h7⟩
 intro c A w env hE hr he
 exact wpIn_loop_rounds (j+1) (key (j+1) j E h (by omega) h0 c A w env _ hE hr he fun _ _ _ ho=>ho)
theorem OR {β:Type}{f:α→Option (List β)}{p:β→Prop}: ∀ {L:List α},(∀q∈L,∃s,f q=some [s]∧p s)→∃R,flatM f L=some R∧∀s∈R,p s:=by
 intro L
 induction L with
 |nil=>intro _;exact⟨[],rfl,fun s hs=>by cases hs⟩
 |cons q L ih =>
  intro J
  obtain⟨R,h1,h2⟩:=ih fun q I=>J q (cU _ I)
  obtain⟨s,e1,e2⟩:=J q c8
  refine⟨s::R,?_,fun s' hs => ?_⟩
  ·simp only[flatM,e1,h1,ie,dY]
  ·rcases List.mem_cons.1 hs with rfl|hs
   ·exact e2
   ·exact h2 s' hs
theorem WPO.next {I J:Oper}{x:Operand}{mQ DZ:Nat}{L:List (V×H)}(hm:C.P.follows .mixedOrders=true)(hT:ep C)(aaZ:I.guard=none)(aa0:J.guard=none)(aa1:I.op=.next x false)(acr:I.dst=some mQ)
 (XT:J.op=.extract y 0)(hy:y=.tmp mQ)(acs:J.dst=some DZ)(Y8:Nat.blt mQ ak=true)(V5:Nat.blt DZ ak=true)(hx:bf E x=some (.ptr r 0))(hL:nextAll h r=some L)
 (hq:∀q∈L,∃t l,q.1=.aO (t::l)∧Q .normal ((DZ,t)::(mQ,q.1)::E) q.2): WPO C ak (.region id #[I,J] false) E h Q:=by
 intro c A w env hE hr he
 subst hy
 have hS:=(ym (C:=C) hm hT 0).1
 refine wpIn_region ?_
 rw[Dt,←zU]
 have nY:∃R,opsAll C (ev C 0) (#[I,J]:Array Oper).toList (#[I,J]:Array Oper).toList ⟨env,ak,h⟩=some R∧∀s∈R,∃E',iz s.env E'∧s.ak=ak∧Q .normal E' s.h:=by
  have e1:∀tw:Env,wantedV [I,J] tw I=true:=fun tw=>by simp only[wantedV,aaZ]
  have e2:∀tw:Env,wantedV [I,J] tw J=true:=fun tw=>by simp only[wantedV,aa0]
  have nO:=bN hE hx
  simp only[opsAll,e1,e2,ah,opAll,aa1,nO,eV,hL]
  refine OR fun q AV => ?_
  obtain⟨t,l,k1,k2⟩:=hq q AV
  refine⟨⟨(env.set mQ (some q.1)).set DZ (some t),ak,q.2⟩,?_,_,(hE.set mQ q.1).set DZ t,rfl,k2⟩
  have hg:evO (T.set env mQ (some (V.aO (t::l)))) (.tmp mQ)=some (.aO (t::l)):=by simp only[evO,Env.v,aR,cA]
  simp only[St.put,acr,Y8,ah,XT,evOp,k1,hg,nth,eV,bD,acs,V5,flatM,iW]
 obtain⟨R,nY,h2⟩:=nY
 refine N5 hS hT _ 0 ⟨env,ak,h⟩ R c A w (fun j=>by rw[gd,kY]) nY hr he ?_
 intro s' E9 c' a' w' r1 r2 r3 r4
 obtain⟨E',e1,e2,e3⟩:=h2 s' E9
 exact⟨.normal,s'.env,s'.h,E',rfl,e1,e3,r4,c',r1,by rw[e2] at r2;exact r2,r3⟩
theorem eo.yP {f:FuncId}{fn:Func}{code:Code}{args:List V}{v:V}{cV:H}(hf:C.P.funcs[f]?=some fn)(hb:fn.body=some code)(hn:args.length≤fn.ntmps)
 (hw:WPO C fn.ntmps code (argE args 0) h fun ex E' h'=>(match ex with|.exit _=>False|_=>True)∧resLE C.P E' h' fn.results.toList=some v∧cV.next=h'.next∧∀id o,T.get cV.tr id=some o→T.get h'.tr id=some o){w:World}(hr:Rel c h w)(ha:∀x∈args,wf c x): eo C.P f args c w v cV:=by
 have tv:=iR (c:=c) hn ha
 have Nq:=hw c _ w _ (sW args) hr tv
 unfold eo
 refine calls_of_wp hf hb (wpIn_wide.1 (wpIn_mono Nq ?_))
 rintro e a' w' ⟨ex,Mi,h',E',rfl,eS,⟨hx,I,nQ,hle⟩,hd,c',r1,r2,r3⟩
 have fin:a'.defers=[]∧∃x,(results fn a'.tmps).run C.P w'=.ok x w'∧∃r8,Ending.returned x=.returned (conc r8 v)∧wf r8 v∧Rel r8 cV w'∧bZ c w r8 w':=by
  refine⟨hd,?_⟩
  unfold resLE at I
  cases B7:mapO (resE C.P E' h') fn.results.toList with
  |none=>simp[B7] at I
  |some vs =>
   rw[B7] at I
   have EV:=vN (P:=C.P) (s:=⟨Mi,fn.ntmps,h'⟩) eS B7
   obtain⟨t1,t2⟩:=nm (s:=⟨Mi,fn.ntmps,h'⟩) r1 r2 EV
   refine⟨_,t1,c',?_⟩
   have J:=r1.Zl nQ hle
   match vs,I with
   |[],I =>
    simp at I
    subst I
    refine⟨?_,by simp[wf,fJ],J,r3⟩
    simp[conc,concL]
   |[x],I =>
    simp at I
    subst I
    exact⟨by simp,t2 _ (by simp),J,r3⟩
   |x::y::l,I =>
    simp at I
    subst I
    refine⟨?_,by simp only[wf,gT];exact t2,J,r3⟩
    rw[dif_neg (by simp)]
    simp[conc,fq,concL]
 cases ex with
 |normal=>simpa[bodyPost,exOf] using fin
 |exit i=>exact hx.elim
 |ret=>simpa[bodyPost,exOf] using fin
end
end Go.Proofs.YtiojppeahfoiaaaGreat.Am
